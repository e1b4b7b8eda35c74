/- The walk of script's Parse. Condition: the error variables lie as the program lays them. -/
import Derived.Test.YtinobikikineiabGreatDoorSOut
import Derived.Test.YtinobikikineiabGreatDoorSCode
namespace Go.Proofs.YtinobikikineiabGreatDoor
open Go.RowKit Go.Shelf

/-- The errors that a script's reader knows. -/
abbrev three : List Nat := [2, 4, 19]
theorem Laid.two_of3 {E : Errs} {w : World} (h : Laid E three w) : Laid E two w := h.sub (by decide)
theorem Laid.three_of {E : Errs} {w : World} (h : Laid E nineteen w) : Laid E three w := h.sub (by decide)
/-- "script" -/
def scriptB : ByteArray := ⟨#[115, 99, 114, 105, 112, 116]⟩
/-- How 'Parse' ends. -/
def ParseEnds (l : List UInt8) (E : Errs) (w : World) (e : Ending) (w' : World) : Prop :=
  Below w.heap.size w w' ∧
  ((∃ cs v, Sc.parse l = .ok cs ∧ e = .returned (.tuple #[v, .nilIface]) ∧ OwnC w' w.heap.size v cs ∧ cs.length ≤ 1000) ∨
   (∃ c line col v, Sc.parse l = .error (c, line, col) ∧ (c = 2 ∨ c = 19) ∧ e = .returned (.tuple #[.slice none 0 0, v]) ∧ IsFault w.heap.size w' v scriptB line col (E.val c)))

theorem infoCmd : (Tryz.prog.info? 52).map (fun i => (i.zero, i.size, i.bytes)) = some (some (.agg #[.string ⟨#[]⟩, .string ⟨#[]⟩, .slice none 0 0]), 3, 56) := by kernel_rfl
/-- How a text's last byte stands. -/
theorem last_ways (s : ByteArray) : (s.size = 0 ∧ Sc.size s.data.toList = 0) ∨ (∃ h : 0 < s.size, s[s.size - 1] = 10 ∧ Sc.size s.data.toList = s.size) ∨ (∃ h : 0 < s.size, s[s.size - 1] ≠ 10 ∧ Sc.size s.data.toList = s.size + 1) := by
  by_cases h0 : s.size = 0
  · have : s.data.toList = [] := List.eq_nil_of_length_eq_zero (by rw [bytes_size]; exact h0)
    exact .inl ⟨h0, by rw [this]; rfl⟩
  · have hpos : 0 < s.size := by omega
    have hne : s.data.toList ≠ [] := by
      intro e
      have h2 : s.data.toList.length = 0 := by rw [e]; rfl
      rw [bytes_size] at h2
      omega
    have hlast : s.data.toList.getLast? = some s[s.size - 1] := by
      rw [List.getLast?_eq_getElem?, bytes_size]
      exact bytes_get s (s.size - 1) (by omega)
    have he : s.data.toList.isEmpty = false := by simpa using hne
    by_cases h10 : s[s.size - 1] = 10
    · refine .inr (.inl ⟨hpos, h10, ?_⟩)
      unfold Sc.size
      rw [hlast, h10, he, bytes_size]
      simp
    · refine .inr (.inr ⟨hpos, h10, ?_⟩)
      unfold Sc.size
      rw [hlast, he, bytes_size]
      simp [h10]

set_option maxRecDepth 100000 in
set_option maxHeartbeats 1000000 in
theorem parse_long (s : ByteArray) (E : Errs) (w : World) (hE : Laid E three w) (hs : 65536 < Sc.size s.data.toList) (hsm : s.size ≤ 281474976710656) :
    Calls Tryz.prog 6 #[.string s] w (ParseEnds s.data.toList E w) := by
  have hL := ((hE.two_of3.alloc (.cells #[.slice none 0 0] 38)).alloc (.cells #[.nilIface] 40)).long
  have HS : Hid (Sc.parse s.data.toList = .error (2, 0, 0)) := by show _ = _; unfold Sc.parse; rw [if_pos hs]
  rcases last_ways s with ⟨h0, hz⟩ | ⟨h0, h1, hz⟩ | ⟨h0, h1, hz⟩
  · omega
  all_goals
    rw [hz] at hs
    clear hz
    first
      | (have h2 : ((s[s.size - 1].toNat : Int) != 10) = false := by rw [h1]; rfl)
      | (have hlt : s.size - 1 < s.size := by omega
         have hs3 : (65536 : Int) < (s.size : Int) + 1 := by omega
         clear hs
         have h2 : ((s[s.size - 1].toNat : Int) != 10) = true := by (simp only [bne_iff_ne]; exact fun e => h1 (UInt8.toNat_inj.1 (by show s[s.size - 1].toNat = 10; omega)))
         clear h1)
    go_enter Tryz.func6, Tryz.ntmps6
    go_wp2_with (first | (go_at_call 17; refine (new_any _ _ _ _).mono ?_; rintro e w1 ⟨rfl, rfl⟩))
    refine bodyPost_ret (v := .tuple #[.slice none 0 0, .iface 72 (.pointer (some ⟨w.heap.size + 1 + 1, 0, none⟩))]) (by simp [results, Tryz.results6, go_sem]) rfl ?_
    refine ⟨(((Below.refl _ w).alloc (Nat.le_refl _) _).alloc (by simp) _).alloc (by simp; omega) _, .inr ⟨2, 0, 0, _, HS.out, .inl rfl, rfl, w.heap.size + 1 + 1, by omega, rfl, ?_⟩⟩
    have := heap_alloc_new ((w.alloc (.cells #[.slice none 0 0] 38)).alloc (.cells #[.iface 72 (.pointer (some ⟨w.heap.size + 1 + 1, 0, none⟩))] 40)) (.cells #[.string scriptB, .int .i64 0, .int .i64 0, E.val 2] 75)
    rw [World.size_alloc, World.size_alloc] at this
    exact this

attribute [local go_sem] Oper.semAt_some
/-- What the loop over the lines holds. -/
structure ParseAt (N : Nat) (w : World) (xs pre : List (Nat × List UInt8)) (cs : List Sc.Cmd) (A : Option Addr) (cap : Nat) (W : World) : Prop where
  r0 : W.heap[N]? = some (.cells #[.slice none 0 0] 38 (0, 0))
  r1 : W.heap[N + 1]? = some (.cells #[.nilIface] 40 (0, 0))
  out : W.heap[N + 2]? = some (.cells #[.slice A cs.length cap] 38 (0, 0))
  own : OwnC W (N + 13) (.slice A cs.length cap) cs
  below : Below N w W
  size : N + 4 ≤ W.heap.size
  len : cs.length ≤ 1000
  rel : mores cs (runs cs.length (xs.drop pre.length)) = runs 0 xs
def ParseI (N : Nat) (w : World) (xs pre : List (Nat × List UInt8)) (W : World) : Prop := ∃ cs A cap, ParseAt N w xs pre cs A cap W
/-- What holds where a round has left the loop: the results. -/
def ParseX (N : Nat) (w : World) (E : Errs) (xs : List (Nat × List UInt8)) (c : Code) (_pre : List (Nat × List UInt8)) (W : World) : Prop :=
  c = .ret ∧ ∃ code line col b, runs 0 xs = .error (code, line, col) ∧ (code = 2 ∨ code = 19) ∧ W.heap[N]? = some (.cells #[.slice none 0 0] 38 (0, 0)) ∧
    W.heap[N + 1]? = some (.cells #[.iface 72 (.pointer (some ⟨b, 0, none⟩))] 40 (0, 0)) ∧ N + 13 ≤ b ∧
    W.heap[b]? = some (.cells #[.string scriptB, .int .i64 (line : Int), .int .i64 (col : Int), E.val code] 75 (0, 0)) ∧ Below N w W
theorem aside_far {N : Nat} {A A' : World} {row : Option Nat} (hg : A.grownBy A' row) (hr : ∀ r, row = some r → Seven (N + 6) r ∨ r = N + 4 ∨ r = N + 4 + 1) {k : Nat} {o : Obj} (hk : k < N + 4 ∨ N + 13 ≤ k) (h : A.heap[k]? = some o) : A'.heap[k]? = some o :=
  (hg.block k (lt_of_cells h) (fun e => by rcases hr k e.symm with h1 | h1 | h1 <;> (try unfold Seven at h1) <;> omega)).trans h
theorem aside_below {N : Nat} {w A A' : World} {row : Option Nat} (hg : A.grownBy A' row) (hr : ∀ r, row = some r → Seven (N + 6) r ∨ r = N + 4 ∨ r = N + 4 + 1) (hs : N ≤ A.heap.size) (h : Below N w A) : Below N w A' :=
  h.grown hg hs (fun k e => by rcases hr k e with h1 | h1 | h1 <;> (try unfold Seven at h1) <;> omega)
theorem parseI_aside {N : Nat} {w : World} {xs : List (Nat × List UInt8)} : AsideS (Seven (N + 6)) (N + 4) (ParseI N w xs) := by
  rintro pre A A' row ⟨cs, Ad, cap, h⟩ hg hr
  exact ⟨cs, Ad, cap, aside_far hg hr (.inl (by omega)) h.r0, aside_far hg hr (.inl (by omega)) h.r1, aside_far hg hr (.inl (by omega)) h.out, h.own.keep fun b _ _ hb hh => aside_far hg hr (.inr hb) hh,
    aside_below hg hr (by have := h.size; omega) h.below, Nat.le_trans h.size hg.size, h.len, h.rel⟩
theorem parseX_aside {N : Nat} {w : World} {E : Errs} {xs : List (Nat × List UInt8)} (c : Code) : AsideS (Seven (N + 6)) (N + 4) (ParseX N w E xs c) := by
  rintro pre A A' row ⟨hc, code, line, col, b, h1, h2, h3, h4, h5, h6, h7⟩ hg hr
  exact ⟨hc, code, line, col, b, h1, h2, aside_far hg hr (.inl (by omega)) h3, aside_far hg hr (.inl (by omega)) h4, h5, aside_far hg hr (.inr h5) h6, aside_below hg hr (by have := lt_of_cells h6; omega) h7⟩
theorem block_fari {W : World} {k j i : Nat} {o : Obj} (h : W.heap[k]? = some o) (hj : k ≠ j) (u : Value) : (W.setCell ⟨j, i, none⟩ u).heap[k]? = some o := (Below.heap_setCell W ⟨j, i, none⟩ u k hj).trans h
theorem far_app {base : Nat} {w1 w2 : World} {e : TypeId} {size n : Nat} {v : Value} {xs : List Value} (hown : w1.ownsRow base e size v n xs) (hg : w1.grownBy w2 v.ownBlock) :
    ∀ k o, w1.heap[k]? = some o → (k < base ∨ o.isCells = false) → w2.heap[k]? = some o := fun k o hk hne => by
  refine (hg.block k (lt_of_cells hk) (fun e => ?_)).trans hk
  obtain ⟨_, ⟨rfl, rfl⟩ | ⟨g, cap, cur, rfl, hbase, hh, _⟩⟩ := hown
  · simp [Value.ownBlock] at e
  · simp [Value.ownBlock] at e
    subst e
    rcases hne with h | h
    · omega
    · rw [hk] at hh; injection hh with hh; subst hh; cases h
theorem cmd_oneCell (c : Sc.Cmd) (B : Option Addr) (m k : Nat) : ∀ u ∈ cmdCells c (.slice B m k), u.oneCell' = true := by
  intro u hu
  simp only [cmdCells, List.mem_cons, List.not_mem_nil, or_false] at hu
  rcases hu with rfl | rfl | rfl <;> rfl
theorem keeps_of {W W' : World} {p : Nat → Prop} (h : ∀ k o, W.heap[k]? = some o → p k → W'.heap[k]? = some o) {k : Nat} (hk : k < W.heap.size) (hp : p k) : W'.heap[k]? = W.heap[k]? := by
  obtain ⟨o, ho⟩ : ∃ o, W.heap[k]? = some o := ⟨_, Array.getElem?_eq_getElem hk⟩
  exact (h k o ho hp).trans ho.symm
set_option maxRecDepth 100000 in
set_option maxHeartbeats 4000000 in
theorem parse_loop (s : ByteArray) (E : Errs) (w : World) (hE : Laid E three w) (hs : ¬ 65536 < Sc.size s.data.toList) :
    Calls Tryz.prog 6 #[.string s] w (ParseEnds s.data.toList E w) := by
  obtain ⟨i0, hi, hz0, hz1, hz2'⟩ := info_parts infoCmd
  have HP : Hid (Sc.parse s.data.toList = runs 0 (said 1 (Lx.cuts s.data.toList))) := by show _ = _; unfold Sc.parse; rw [if_neg hs, from_runs]
  refine (callsIn_wide (n := 6)).1 ?_
  rcases last_ways s with ⟨h0, hz⟩ | ⟨h0, h1, hz⟩ | ⟨h0, h1, hz⟩
  · have hsz : s.size ≤ 65536 := by omega
    clear hz hs
    refine callsIn_of_wp_marks Tryz.func6 rfl trivial ?_ rfl
    simp only [Tryz.ntmps6, List.size_toArray, List.length_cons, List.length_nil, Nat.reduceAdd, Nat.reduceSub, Array.replicate_succ, Array.replicate_zero, List.push_toArray, List.append_toArray, List.nil_append, List.cons_append]
    gi_wp2_with (first | (refine ⟨trivial, ?_⟩; gi_at_call 18; refine (callsIn_wide.2 (lines_any _ _)).mono ?_; rintro e w' ⟨rfl, rfl⟩))
    have hW0 : ((((w.alloc (.cells #[.slice none 0 0] 38)).alloc (.cells #[.nilIface] 40)).alloc (.cells #[.slice none 0 0] 38)).alloc (.cells #[.string s] 9)).heap.size = w.heap.size + 4 := by simp
    refine wpIn_rangeFunc_set (by omega) (gf := 75) (lb := #[.pointer (some ⟨w.heap.size + 3, 0, none⟩)]) ?hg trivial (enters_of Tryz.func75 (by kernel_rfl) rfl)
      (enc := fun x : Nat × List UInt8 => #[.int .i64 (x.1 : Int), .string ⟨x.2.toArray⟩]) (S := Seven (w.heap.size + 6)) (Z := w.heap.size + 13) (xs := said 1 (Lx.cuts s.data.toList)) rfl ?hseq (fun _ => rfl) (by rw [hW0]; unfold Seven; omega) (by rw [hW0]; unfold Seven; omega)
      (ParseI w.heap.size w (said 1 (Lx.cuts s.data.toList))) (ParseX w.heap.size w E (said 1 (Lx.cuts s.data.toList))) (by rw [hW0]; exact parseI_aside) (fun c => by rw [hW0]; exact parseX_aside c) ?h0 (fun x => { tmps := #[.string s, undef, .pointer (some ⟨w.heap.size, 0, none⟩), .pointer (some ⟨w.heap.size + 1, 0, none⟩), .int .i64 0, .pointer (some ⟨w.heap.size + 1 + 1, 0, none⟩), .int .i64 (x.1 : Int), .string ⟨x.2.toArray⟩, undef, undef, .string s, .int .i64 0, .int .i64 0, .bool false, .bool false, undef, undef, undef, undef, undef, .bool false, undef, undef, .int .i64 0, .bool false, undef, undef, .string s, .func (.func 75) #[] #[.pointer (some ⟨w.heap.size + 1 + 1 + 1, 0, none⟩)], .int .i64 (x.1 : Int), .string ⟨x.2.toArray⟩, undef, undef, undef, undef, undef, undef, undef, undef, undef, undef, undef, undef, undef, undef, undef, undef, undef, undef, undef, undef, undef, undef, undef], defers := [] }) ?assign ?body ?done ?stop
    case hg => rfl
    case hseq =>
      have := lines_seq (6 - 1) (w.heap.size + 3) s ((((w.alloc (.cells #[.slice none 0 0] 38)).alloc (.cells #[.nilIface] 40)).alloc (.cells #[.slice none 0 0] 38)).alloc (.cells #[.string s] 9)) (alloc_at _ _ _ (by simp)) hsz
      rw [hW0] at this
      exact this
    case h0 =>
      exact ⟨[], none, 0, alloc_old (alloc_old (alloc_old (alloc_at _ _ _ rfl) _) _) _, alloc_old (alloc_old (alloc_at _ _ _ (by simp)) _) _, alloc_old (alloc_at _ _ _ (by simp)) _, OwnC.nil _ _, (((((Below.refl _ w).alloc (Nat.le_refl _) _).alloc (by simp) _).alloc (by simp; omega) _).alloc (by simp; omega) _), by rw [hW0]; exact Nat.le_refl _, Nat.zero_le _, rfl⟩
    case assign =>
      intro l x W K hK
      gi_wp2
      exact hK
    case body =>
      rintro l pre ⟨no, t⟩ W _ hZ ⟨cs, A, cap, h⟩ hpre
      have htl := said_part hpre
      simp only [] at htl
      have hE1 : Laid E three W := hE.below h.below
      have HR := Lib.hid h.rel
      have HPre := Lib.hid hpre
      have hlen := h.len
      have hts : (⟨t.toArray⟩ : ByteArray).size ≤ 65536 := by simp [ByteArray.size]; omega
      clear hpre
      rw [hW0]
      cases hc : Sc.command t with
      | none =>
        have HX := Lib.hid (runs_none HR.out HPre.out hc)
        have HC := Lib.hid hc
        clear hc
        gi_wp2_with (first
          | (refine ⟨trivial, ?_⟩; gi_at_call 19; refine (CallsIn.inRound l (callsIn_wide.2 (command_no ⟨t.toArray⟩ E W hE1.two_of3 hts HC.out))).mono ?_; rintro e w1 ⟨v0, v1, B, m, kc, rfl, hb1⟩;
              have hE2 := hE1.below hb1; have hg19 : w1.cell? ⟨1, 0, none⟩ = some (E.val 19) := hE2.cell 19 (by simp); have hlt19 := cell_lt hg19;
              have hf1 : ∀ k o, W.heap[k]? = some o → w1.heap[k]? = some o := (fun k o hk => (hb1.block k (lt_of_cells hk)).trans hk);
              have k0 := block_cell (hf1 _ _ h.r0); have k1 := block_cell (hf1 _ _ h.r1); have g0 := block_frozen (hf1 _ _ h.r0) 0; have g1 := block_frozen (hf1 _ _ h.r1) 0; have l0 := lt_of_cells (hf1 _ _ h.r0); have l1 := lt_of_cells (hf1 _ _ h.r1))
          | (refine ⟨trivial, ?_⟩; gi_at_call 20; refine (CallsIn.inRound l (callsIn_wide.2 (at_any _ _ _ _ _ _))).mono ?_; rintro e w2 ⟨rfl, rfl⟩))
        have F : ∀ k o, W.heap[k]? = some o → (k ≠ w.heap.size ∧ k ≠ w.heap.size + 1) → _ := fun k o hk hne => alloc_old (alloc_old (block_far (block_far (hf1 k o hk) hne.1 (.slice none 0 0)) hne.2 (.iface 72 (.pointer (some ⟨w1.heap.size + 1, 0, none⟩)))) (.cells #[.string v0, .string v1, .slice B m kc] 52)) (.cells #[.string scriptB, .int .i64 (no : Int), .int .i64 0, E.val 19] 75)
        have hB1 : Below w.heap.size w w1 := h.below.trans (hb1.mono h.below.size)
        have hs1 := hb1.size
        refine ⟨⟨keeps_of (p := fun k => k ≠ w.heap.size ∧ k ≠ w.heap.size + 1) F (by omega) (by constructor <;> omega), keeps_of (p := fun k => k ≠ w.heap.size ∧ k ≠ w.heap.size + 1) F (by omega) (by constructor <;> omega)⟩, fun b hb => keeps_of (p := fun k => k ≠ w.heap.size ∧ k ≠ w.heap.size + 1) F (by have := hb.2; omega) (by have := hb.1; constructor <;> omega), rfl, 19, no, 0, w1.heap.size + 1, HX.out, .inr rfl,
          alloc_old (alloc_old (block_far (block_set (hf1 _ _ h.r0) _) (by omega) _) _) _, alloc_old (alloc_old (block_set (block_far (hf1 _ _ h.r1) (by omega) _) _) _) _, by omega, alloc_at _ _ _ (by simp [World.setCell]), ?_⟩
        exact ((((hB1.setCell (p := ⟨w.heap.size, 0, none⟩) (Nat.le_refl _) _).setCell (p := ⟨w.heap.size + 1, 0, none⟩) (by simp) _).alloc (by simp [World.setCell]; omega) _).alloc (by simp [World.setCell]; omega) _)
      | some c =>
        have HC := Lib.hid hc
        by_cases hl : cs.length = 1000
        · have HX := Lib.hid (runs_long HR.out HPre.out hc (by omega))
          have hl2 : ((cs.length : Int) == 1000) = true := by simp [hl]
          clear hc
          gi_wp2_with (first
            | (refine ⟨trivial, ?_⟩; gi_at_call 19; refine (CallsIn.inRound l (callsIn_wide.2 (command_ok ⟨t.toArray⟩ E W hE1.two_of3 hts c HC.out))).mono ?_; rintro e w1 ⟨B, m, kc, rfl, hb1, hrow1⟩;
                have hE2 := hE1.below hb1; have hg2 : w1.cell? ⟨0, 0, none⟩ = some (E.val 2) := hE2.cell 2 (by simp); have hlt2 := cell_lt hg2;
                have hf1 : ∀ k o, W.heap[k]? = some o → w1.heap[k]? = some o := (fun k o hk => (hb1.block k (lt_of_cells hk)).trans hk);
                have k0 := block_cell (hf1 _ _ h.r0); have k1 := block_cell (hf1 _ _ h.r1); have k2 := block_cell (hf1 _ _ h.out); have g0 := block_frozen (hf1 _ _ h.r0) 0; have g1 := block_frozen (hf1 _ _ h.r1) 0; have l0 := lt_of_cells (hf1 _ _ h.r0); have l1 := lt_of_cells (hf1 _ _ h.r1); have l2 := lt_of_cells (hf1 _ _ h.out))
            | (refine ⟨trivial, ?_⟩; gi_at_call 20; refine (CallsIn.inRound l (callsIn_wide.2 (at_any _ _ _ _ _ _))).mono ?_; rintro e w2 ⟨rfl, rfl⟩))
          have F : ∀ k o, W.heap[k]? = some o → (k ≠ w.heap.size ∧ k ≠ w.heap.size + 1) → _ := fun k o hk hne => alloc_old (alloc_old (block_far (block_far (hf1 k o hk) hne.1 (.slice none 0 0)) hne.2 (.iface 72 (.pointer (some ⟨w1.heap.size + 1, 0, none⟩)))) (.cells #[.string ⟨c.word.toArray⟩, .string ⟨c.text.toArray⟩, .slice B m kc] 52)) (.cells #[.string scriptB, .int .i64 (no : Int), .int .i64 0, E.val 2] 75)
          have hB1 : Below w.heap.size w w1 := h.below.trans (hb1.mono h.below.size)
          have hs1 := hb1.size
          refine ⟨⟨keeps_of (p := fun k => k ≠ w.heap.size ∧ k ≠ w.heap.size + 1) F (by omega) (by constructor <;> omega), keeps_of (p := fun k => k ≠ w.heap.size ∧ k ≠ w.heap.size + 1) F (by omega) (by constructor <;> omega)⟩, fun b hb => keeps_of (p := fun k => k ≠ w.heap.size ∧ k ≠ w.heap.size + 1) F (by have := hb.2; omega) (by have := hb.1; constructor <;> omega), rfl, 2, no, 0, w1.heap.size + 1, HX.out, .inl rfl,
            alloc_old (alloc_old (block_far (block_set (hf1 _ _ h.r0) _) (by omega) _) _) _, alloc_old (alloc_old (block_set (block_far (hf1 _ _ h.r1) (by omega) _) _) _) _, by omega, alloc_at _ _ _ (by simp [World.setCell]), ?_⟩
          exact ((((hB1.setCell (p := ⟨w.heap.size, 0, none⟩) (Nat.le_refl _) _).setCell (p := ⟨w.heap.size + 1, 0, none⟩) (by simp) _).alloc (by simp [World.setCell]; omega) _).alloc (by simp [World.setCell]; omega) _)
        · have hl3 : cs.length < 1000 := by omega
          have HN := Lib.hid (runs_step HR.out HPre.out hc hl3)
          have hl2 : ((cs.length : Int) == 1000) = false := by rw [beq_eq_false_iff_ne]; omega
          clear hc hl hlen
          obtain ⟨us, hu0, hus1, hus2⟩ := h.own
          have HUS := Lib.hid hus2
          clear hus2
          gi_wp2_with (first
            | (refine ⟨trivial, ?_⟩; gi_at_call 19; refine (CallsIn.inRound l (callsIn_wide.2 (command_ok ⟨t.toArray⟩ E W hE1.two_of3 hts c HC.out))).mono ?_; rintro e w1 ⟨B, m, kc, rfl, hb1, hrow1⟩;
                have HRow := Lib.hid hrow1; clear hrow1;
                have hf1 : ∀ k o, W.heap[k]? = some o → w1.heap[k]? = some o := (fun k o hk => (hb1.block k (lt_of_cells hk)).trans hk);
                have hown1 := own_keep hus1 (fun k cs t _ hh => hf1 k _ hh); have hs1 := hb1.size;
                have k2 := block_cell (hf1 _ _ h.out); have g2 := block_frozen (hf1 _ _ h.out) 0; have l2 := lt_of_cells (hf1 _ _ h.out))
            | (gi_at_builtin; refine wpListIn_append_own _ rfl _ _ 38 rfl (w.heap.size + 13) 52 i0 _ 3 56 Tryz.underlying38 hi hz0 hz1 hz2' rfl (by decide) _ _ _ rfl ((hown1.alloc _).alloc _) ⟨w1.heap.size + 1, 0, none⟩ 1 1 (cmdCells c (.slice B m kc)) rfl rfl (new_cells2 w1 _ (cmdCells c (.slice B m kc)) _) (cmd_oneCell c B m kc) (by unfold maxLen; omega) (by omega) (by simp; omega) ?_; intro v2 w2 hown2 hg2 _; obtain ⟨A2, cap2, rfl⟩ := own_slice hown2;
                have HA := Lib.hid (far_app ((hown1.alloc _).alloc _) hg2); have m2 := block_cell (HA.out _ _ (alloc_old (alloc_old (hf1 _ _ h.out) _) _) (.inl (by omega))); have n2 := block_frozen (HA.out _ _ (alloc_old (alloc_old (hf1 _ _ h.out) _) _) (.inl (by omega))) 0))
          have hs2 := hg2.size
          simp only [World.size_alloc] at hs2
          have F : ∀ k o, W.heap[k]? = some o → (k < w.heap.size + 13 ∧ k ≠ w.heap.size + 1 + 1) → (w2.setCell ⟨w.heap.size + 1 + 1, 0, none⟩ (.slice A2 (cs.length + 1) cap2)).heap[k]? = some o := fun k o hk hne => block_far (HA.out k o (alloc_old (alloc_old (hf1 k o hk) _) _) (.inl hne.1)) hne.2 _
          have hB1 : Below w.heap.size w w1 := h.below.trans (hb1.mono h.below.size)
          have hB2 := below_append ((hB1.alloc hB1.size _).alloc (by simp; have := hB1.size; omega) _) ((hown1.alloc _).alloc _) (by omega) (by simp; have := hB1.size; omega) hg2
          have hOut := OwnC.append (W := (w1.alloc _).alloc _) (cs := cs) (c := c) hu0 ((hown1.alloc _).alloc _) (fun j c' hj => by obtain ⟨u, h3, h4⟩ := HUS.out j c' hj; exact ⟨u, h3, h4.keep fun b _ _ hh => alloc_old (alloc_old (hf1 b _ hh) _) _⟩) (((HRow.out.row).low (by omega)).keep fun b _ _ hh => alloc_old (alloc_old hh _) _) hown2 hg2
          refine ⟨⟨keeps_of (p := fun k => k < w.heap.size + 13 ∧ k ≠ w.heap.size + 1 + 1) F (by omega) (by constructor <;> omega), keeps_of (p := fun k => k < w.heap.size + 13 ∧ k ≠ w.heap.size + 1 + 1) F (by omega) (by constructor <;> omega)⟩, fun b hb => keeps_of (p := fun k => k < w.heap.size + 13 ∧ k ≠ w.heap.size + 1 + 1) F (by have := hb.2; omega) (by have := hb.1; have := hb.2; constructor <;> omega), cs ++ [c], A2, cap2,
            F _ _ h.r0 (by omega), F _ _ h.r1 (by omega), ?_, ?_, hB2.setCell (p := ⟨w.heap.size + 1 + 1, 0, none⟩) (by simp; omega) _, by simp [World.setCell]; omega, by simp; omega, HN.out⟩
          · rw [List.length_append]; exact block_set (HA.out _ _ (alloc_old (alloc_old (hf1 _ _ h.out) _) _) (.inl (by omega))) _
          · rw [List.length_append]; exact hOut.keep fun b _ _ hb hh => block_far hh (by omega) _
    case done =>
      rintro D W hD ⟨cs, A, cap, h⟩ hK
      rw [hW0] at hD
      subst hD
      have c2 := block_cell h.out
      have c0 := block_cell h.r0
      have c1 := block_cell h.r1
      have f0 := block_frozen h.r0 0
      have f1 := block_frozen h.r1 0
      gi_wp2
      have e0 := block_far (block_set h.r0 (.slice A cs.length cap)) (show w.heap.size ≠ w.heap.size + 1 by omega) .nilIface
      have e1 := block_set (block_far h.r1 (show w.heap.size + 1 ≠ w.heap.size by omega) (.slice A cs.length cap)) .nilIface
      have hK' := block_far (block_far hK (show w.heap.size + 4 ≠ w.heap.size by omega) (.slice A cs.length cap)) (show w.heap.size + 4 ≠ w.heap.size + 1 by omega) .nilIface
      refine ⟨by simp, .inl ⟨_, _, rfl, run_takeDeferred hK', ?_⟩⟩
      have q0 := block_cell (put_far (D := w.heap.size + 4) (o' := .deferred none) e0 (by omega))
      have q1 := block_cell (put_far (D := w.heap.size + 4) (o' := .deferred none) e1 (by omega))
      refine ⟨.tuple #[.slice A cs.length cap, .nilIface], (by simp [results, Tryz.results6, go_sem, q0, q1]), ?_⟩
      have hNW : w.heap.size ≤ W.heap.size := Nat.le_of_lt (lt_of_cells h.r0)
      refine ⟨below_put ((h.below.setCell (p := ⟨w.heap.size, 0, none⟩) (Nat.le_refl _) _).setCell (p := ⟨w.heap.size + 1, 0, none⟩) (by simp) _) (by simpa [World.setCell] using hNW) (by omega) _, .inl ⟨cs, _, ?_, rfl, ?_, h.len⟩⟩
      · have ht := h.rel
        rw [List.drop_length] at ht
        rw [HP.out, ← ht]
        simp only [runs, mores_ok, List.append_nil]
      · refine (h.own.keep fun b _ _ hb hh => put_far (block_far (block_far hh (by omega) _) (by omega) _) (by omega)).low (by omega)
    case stop =>
      rintro D c pre W hD hpre ⟨rfl, code, line, col, b, hs1, hc2, h0, h1, hb, hh, hbw⟩ hK
      rw [hW0] at hD
      subst hD
      gi_wp2
      refine ⟨by simp, .inl ⟨_, _, rfl, run_takeDeferred hK, ?_⟩⟩
      have q0 := block_cell (put_far (D := w.heap.size + 4) (o' := .deferred none) h0 (by omega))
      have q1 := block_cell (put_far (D := w.heap.size + 4) (o' := .deferred none) h1 (by omega))
      refine ⟨.tuple #[.slice none 0 0, .iface 72 (.pointer (some ⟨b, 0, none⟩))], (by simp [results, Tryz.results6, go_sem, q0, q1]), ?_⟩
      have hNW : w.heap.size ≤ W.heap.size := Nat.le_of_lt (lt_of_cells h0)
      refine ⟨below_put hbw hNW (by omega) _, .inr ⟨code, line, col, _, ?_, hc2, rfl, b, by omega, rfl, put_far hh (by omega)⟩⟩
      rw [HP.out, hs1]
  · rw [hz] at hs
    have hsz : s.size ≤ 65536 := by omega
    have hlt : s.size - 1 < s.size := by omega
    clear hz
    have h2 : ((s[s.size - 1].toNat : Int) != 10) = false := by rw [h1]; rfl
    refine callsIn_of_wp_marks Tryz.func6 rfl trivial ?_ rfl
    simp only [Tryz.ntmps6, List.size_toArray, List.length_cons, List.length_nil, Nat.reduceAdd, Nat.reduceSub, Array.replicate_succ, Array.replicate_zero, List.push_toArray, List.append_toArray, List.nil_append, List.cons_append]
    gi_wp2_with (first | (refine ⟨trivial, ?_⟩; gi_at_call 18; refine (callsIn_wide.2 (lines_any _ _)).mono ?_; rintro e w' ⟨rfl, rfl⟩))
    have hW0 : ((((w.alloc (.cells #[.slice none 0 0] 38)).alloc (.cells #[.nilIface] 40)).alloc (.cells #[.slice none 0 0] 38)).alloc (.cells #[.string s] 9)).heap.size = w.heap.size + 4 := by simp
    refine wpIn_rangeFunc_set (by omega) (gf := 75) (lb := #[.pointer (some ⟨w.heap.size + 3, 0, none⟩)]) ?hg trivial (enters_of Tryz.func75 (by kernel_rfl) rfl)
      (enc := fun x : Nat × List UInt8 => #[.int .i64 (x.1 : Int), .string ⟨x.2.toArray⟩]) (S := Seven (w.heap.size + 6)) (Z := w.heap.size + 13) (xs := said 1 (Lx.cuts s.data.toList)) rfl ?hseq (fun _ => rfl) (by rw [hW0]; unfold Seven; omega) (by rw [hW0]; unfold Seven; omega)
      (ParseI w.heap.size w (said 1 (Lx.cuts s.data.toList))) (ParseX w.heap.size w E (said 1 (Lx.cuts s.data.toList))) (by rw [hW0]; exact parseI_aside) (fun c => by rw [hW0]; exact parseX_aside c) ?h0 (fun x => { tmps := #[.string s, undef, .pointer (some ⟨w.heap.size, 0, none⟩), .pointer (some ⟨w.heap.size + 1, 0, none⟩), .int .i64 (s.size : Int), .pointer (some ⟨w.heap.size + 1 + 1, 0, none⟩), .int .i64 (x.1 : Int), .string ⟨x.2.toArray⟩, undef, undef, .string s, .int .i64 (s.size : Int), .int .i64 (s.size : Int), .bool true, .bool true, .string s, .int .i64 (s.size : Int), .int .i64 ((s.size : Int) - 1), .int .u8 10, .bool false, .bool false, undef, undef, .int .i64 (s.size : Int), .bool (decide ((65536 : Int) < (s.size : Int))), undef, undef, .string s, .func (.func 75) #[] #[.pointer (some ⟨w.heap.size + 1 + 1 + 1, 0, none⟩)], .int .i64 (x.1 : Int), .string ⟨x.2.toArray⟩, undef, undef, undef, undef, undef, undef, undef, undef, undef, undef, undef, undef, undef, undef, undef, undef, undef, undef, undef, undef, undef, undef, undef], defers := [] }) ?assign ?body ?done ?stop
    case hg => rfl
    case hseq =>
      have := lines_seq (6 - 1) (w.heap.size + 3) s ((((w.alloc (.cells #[.slice none 0 0] 38)).alloc (.cells #[.nilIface] 40)).alloc (.cells #[.slice none 0 0] 38)).alloc (.cells #[.string s] 9)) (alloc_at _ _ _ (by simp)) hsz
      rw [hW0] at this
      exact this
    case h0 =>
      exact ⟨[], none, 0, alloc_old (alloc_old (alloc_old (alloc_at _ _ _ rfl) _) _) _, alloc_old (alloc_old (alloc_at _ _ _ (by simp)) _) _, alloc_old (alloc_at _ _ _ (by simp)) _, OwnC.nil _ _, (((((Below.refl _ w).alloc (Nat.le_refl _) _).alloc (by simp) _).alloc (by simp; omega) _).alloc (by simp; omega) _), by rw [hW0]; exact Nat.le_refl _, Nat.zero_le _, rfl⟩
    case assign =>
      intro l x W K hK
      gi_wp2
      exact hK
    case body =>
      rintro l pre ⟨no, t⟩ W _ hZ ⟨cs, A, cap, h⟩ hpre
      have htl := said_part hpre
      simp only [] at htl
      have hE1 : Laid E three W := hE.below h.below
      have HR := Lib.hid h.rel
      have HPre := Lib.hid hpre
      have hlen := h.len
      have hts : (⟨t.toArray⟩ : ByteArray).size ≤ 65536 := by simp [ByteArray.size]; omega
      clear hpre
      rw [hW0]
      cases hc : Sc.command t with
      | none =>
        have HX := Lib.hid (runs_none HR.out HPre.out hc)
        have HC := Lib.hid hc
        clear hc
        gi_wp2_with (first
          | (refine ⟨trivial, ?_⟩; gi_at_call 19; refine (CallsIn.inRound l (callsIn_wide.2 (command_no ⟨t.toArray⟩ E W hE1.two_of3 hts HC.out))).mono ?_; rintro e w1 ⟨v0, v1, B, m, kc, rfl, hb1⟩;
              have hE2 := hE1.below hb1; have hg19 : w1.cell? ⟨1, 0, none⟩ = some (E.val 19) := hE2.cell 19 (by simp); have hlt19 := cell_lt hg19;
              have hf1 : ∀ k o, W.heap[k]? = some o → w1.heap[k]? = some o := (fun k o hk => (hb1.block k (lt_of_cells hk)).trans hk);
              have k0 := block_cell (hf1 _ _ h.r0); have k1 := block_cell (hf1 _ _ h.r1); have g0 := block_frozen (hf1 _ _ h.r0) 0; have g1 := block_frozen (hf1 _ _ h.r1) 0; have l0 := lt_of_cells (hf1 _ _ h.r0); have l1 := lt_of_cells (hf1 _ _ h.r1))
          | (refine ⟨trivial, ?_⟩; gi_at_call 20; refine (CallsIn.inRound l (callsIn_wide.2 (at_any _ _ _ _ _ _))).mono ?_; rintro e w2 ⟨rfl, rfl⟩))
        have F : ∀ k o, W.heap[k]? = some o → (k ≠ w.heap.size ∧ k ≠ w.heap.size + 1) → _ := fun k o hk hne => alloc_old (alloc_old (block_far (block_far (hf1 k o hk) hne.1 (.slice none 0 0)) hne.2 (.iface 72 (.pointer (some ⟨w1.heap.size + 1, 0, none⟩)))) (.cells #[.string v0, .string v1, .slice B m kc] 52)) (.cells #[.string scriptB, .int .i64 (no : Int), .int .i64 0, E.val 19] 75)
        have hB1 : Below w.heap.size w w1 := h.below.trans (hb1.mono h.below.size)
        have hs1 := hb1.size
        refine ⟨⟨keeps_of (p := fun k => k ≠ w.heap.size ∧ k ≠ w.heap.size + 1) F (by omega) (by constructor <;> omega), keeps_of (p := fun k => k ≠ w.heap.size ∧ k ≠ w.heap.size + 1) F (by omega) (by constructor <;> omega)⟩, fun b hb => keeps_of (p := fun k => k ≠ w.heap.size ∧ k ≠ w.heap.size + 1) F (by have := hb.2; omega) (by have := hb.1; constructor <;> omega), rfl, 19, no, 0, w1.heap.size + 1, HX.out, .inr rfl,
          alloc_old (alloc_old (block_far (block_set (hf1 _ _ h.r0) _) (by omega) _) _) _, alloc_old (alloc_old (block_set (block_far (hf1 _ _ h.r1) (by omega) _) _) _) _, by omega, alloc_at _ _ _ (by simp [World.setCell]), ?_⟩
        exact ((((hB1.setCell (p := ⟨w.heap.size, 0, none⟩) (Nat.le_refl _) _).setCell (p := ⟨w.heap.size + 1, 0, none⟩) (by simp) _).alloc (by simp [World.setCell]; omega) _).alloc (by simp [World.setCell]; omega) _)
      | some c =>
        have HC := Lib.hid hc
        by_cases hl : cs.length = 1000
        · have HX := Lib.hid (runs_long HR.out HPre.out hc (by omega))
          have hl2 : ((cs.length : Int) == 1000) = true := by simp [hl]
          clear hc
          gi_wp2_with (first
            | (refine ⟨trivial, ?_⟩; gi_at_call 19; refine (CallsIn.inRound l (callsIn_wide.2 (command_ok ⟨t.toArray⟩ E W hE1.two_of3 hts c HC.out))).mono ?_; rintro e w1 ⟨B, m, kc, rfl, hb1, hrow1⟩;
                have hE2 := hE1.below hb1; have hg2 : w1.cell? ⟨0, 0, none⟩ = some (E.val 2) := hE2.cell 2 (by simp); have hlt2 := cell_lt hg2;
                have hf1 : ∀ k o, W.heap[k]? = some o → w1.heap[k]? = some o := (fun k o hk => (hb1.block k (lt_of_cells hk)).trans hk);
                have k0 := block_cell (hf1 _ _ h.r0); have k1 := block_cell (hf1 _ _ h.r1); have k2 := block_cell (hf1 _ _ h.out); have g0 := block_frozen (hf1 _ _ h.r0) 0; have g1 := block_frozen (hf1 _ _ h.r1) 0; have l0 := lt_of_cells (hf1 _ _ h.r0); have l1 := lt_of_cells (hf1 _ _ h.r1); have l2 := lt_of_cells (hf1 _ _ h.out))
            | (refine ⟨trivial, ?_⟩; gi_at_call 20; refine (CallsIn.inRound l (callsIn_wide.2 (at_any _ _ _ _ _ _))).mono ?_; rintro e w2 ⟨rfl, rfl⟩))
          have F : ∀ k o, W.heap[k]? = some o → (k ≠ w.heap.size ∧ k ≠ w.heap.size + 1) → _ := fun k o hk hne => alloc_old (alloc_old (block_far (block_far (hf1 k o hk) hne.1 (.slice none 0 0)) hne.2 (.iface 72 (.pointer (some ⟨w1.heap.size + 1, 0, none⟩)))) (.cells #[.string ⟨c.word.toArray⟩, .string ⟨c.text.toArray⟩, .slice B m kc] 52)) (.cells #[.string scriptB, .int .i64 (no : Int), .int .i64 0, E.val 2] 75)
          have hB1 : Below w.heap.size w w1 := h.below.trans (hb1.mono h.below.size)
          have hs1 := hb1.size
          refine ⟨⟨keeps_of (p := fun k => k ≠ w.heap.size ∧ k ≠ w.heap.size + 1) F (by omega) (by constructor <;> omega), keeps_of (p := fun k => k ≠ w.heap.size ∧ k ≠ w.heap.size + 1) F (by omega) (by constructor <;> omega)⟩, fun b hb => keeps_of (p := fun k => k ≠ w.heap.size ∧ k ≠ w.heap.size + 1) F (by have := hb.2; omega) (by have := hb.1; constructor <;> omega), rfl, 2, no, 0, w1.heap.size + 1, HX.out, .inl rfl,
            alloc_old (alloc_old (block_far (block_set (hf1 _ _ h.r0) _) (by omega) _) _) _, alloc_old (alloc_old (block_set (block_far (hf1 _ _ h.r1) (by omega) _) _) _) _, by omega, alloc_at _ _ _ (by simp [World.setCell]), ?_⟩
          exact ((((hB1.setCell (p := ⟨w.heap.size, 0, none⟩) (Nat.le_refl _) _).setCell (p := ⟨w.heap.size + 1, 0, none⟩) (by simp) _).alloc (by simp [World.setCell]; omega) _).alloc (by simp [World.setCell]; omega) _)
        · have hl3 : cs.length < 1000 := by omega
          have HN := Lib.hid (runs_step HR.out HPre.out hc hl3)
          have hl2 : ((cs.length : Int) == 1000) = false := by rw [beq_eq_false_iff_ne]; omega
          clear hc hl hlen
          obtain ⟨us, hu0, hus1, hus2⟩ := h.own
          have HUS := Lib.hid hus2
          clear hus2
          gi_wp2_with (first
            | (refine ⟨trivial, ?_⟩; gi_at_call 19; refine (CallsIn.inRound l (callsIn_wide.2 (command_ok ⟨t.toArray⟩ E W hE1.two_of3 hts c HC.out))).mono ?_; rintro e w1 ⟨B, m, kc, rfl, hb1, hrow1⟩;
                have HRow := Lib.hid hrow1; clear hrow1;
                have hf1 : ∀ k o, W.heap[k]? = some o → w1.heap[k]? = some o := (fun k o hk => (hb1.block k (lt_of_cells hk)).trans hk);
                have hown1 := own_keep hus1 (fun k cs t _ hh => hf1 k _ hh); have hs1 := hb1.size;
                have k2 := block_cell (hf1 _ _ h.out); have g2 := block_frozen (hf1 _ _ h.out) 0; have l2 := lt_of_cells (hf1 _ _ h.out))
            | (gi_at_builtin; refine wpListIn_append_own _ rfl _ _ 38 rfl (w.heap.size + 13) 52 i0 _ 3 56 Tryz.underlying38 hi hz0 hz1 hz2' rfl (by decide) _ _ _ rfl ((hown1.alloc _).alloc _) ⟨w1.heap.size + 1, 0, none⟩ 1 1 (cmdCells c (.slice B m kc)) rfl rfl (new_cells2 w1 _ (cmdCells c (.slice B m kc)) _) (cmd_oneCell c B m kc) (by unfold maxLen; omega) (by omega) (by simp; omega) ?_; intro v2 w2 hown2 hg2 _; obtain ⟨A2, cap2, rfl⟩ := own_slice hown2;
                have HA := Lib.hid (far_app ((hown1.alloc _).alloc _) hg2); have m2 := block_cell (HA.out _ _ (alloc_old (alloc_old (hf1 _ _ h.out) _) _) (.inl (by omega))); have n2 := block_frozen (HA.out _ _ (alloc_old (alloc_old (hf1 _ _ h.out) _) _) (.inl (by omega))) 0))
          have hs2 := hg2.size
          simp only [World.size_alloc] at hs2
          have F : ∀ k o, W.heap[k]? = some o → (k < w.heap.size + 13 ∧ k ≠ w.heap.size + 1 + 1) → (w2.setCell ⟨w.heap.size + 1 + 1, 0, none⟩ (.slice A2 (cs.length + 1) cap2)).heap[k]? = some o := fun k o hk hne => block_far (HA.out k o (alloc_old (alloc_old (hf1 k o hk) _) _) (.inl hne.1)) hne.2 _
          have hB1 : Below w.heap.size w w1 := h.below.trans (hb1.mono h.below.size)
          have hB2 := below_append ((hB1.alloc hB1.size _).alloc (by simp; have := hB1.size; omega) _) ((hown1.alloc _).alloc _) (by omega) (by simp; have := hB1.size; omega) hg2
          have hOut := OwnC.append (W := (w1.alloc _).alloc _) (cs := cs) (c := c) hu0 ((hown1.alloc _).alloc _) (fun j c' hj => by obtain ⟨u, h3, h4⟩ := HUS.out j c' hj; exact ⟨u, h3, h4.keep fun b _ _ hh => alloc_old (alloc_old (hf1 b _ hh) _) _⟩) (((HRow.out.row).low (by omega)).keep fun b _ _ hh => alloc_old (alloc_old hh _) _) hown2 hg2
          refine ⟨⟨keeps_of (p := fun k => k < w.heap.size + 13 ∧ k ≠ w.heap.size + 1 + 1) F (by omega) (by constructor <;> omega), keeps_of (p := fun k => k < w.heap.size + 13 ∧ k ≠ w.heap.size + 1 + 1) F (by omega) (by constructor <;> omega)⟩, fun b hb => keeps_of (p := fun k => k < w.heap.size + 13 ∧ k ≠ w.heap.size + 1 + 1) F (by have := hb.2; omega) (by have := hb.1; have := hb.2; constructor <;> omega), cs ++ [c], A2, cap2,
            F _ _ h.r0 (by omega), F _ _ h.r1 (by omega), ?_, ?_, hB2.setCell (p := ⟨w.heap.size + 1 + 1, 0, none⟩) (by simp; omega) _, by simp [World.setCell]; omega, by simp; omega, HN.out⟩
          · rw [List.length_append]; exact block_set (HA.out _ _ (alloc_old (alloc_old (hf1 _ _ h.out) _) _) (.inl (by omega))) _
          · rw [List.length_append]; exact hOut.keep fun b _ _ hb hh => block_far hh (by omega) _
    case done =>
      rintro D W hD ⟨cs, A, cap, h⟩ hK
      rw [hW0] at hD
      subst hD
      have c2 := block_cell h.out
      have c0 := block_cell h.r0
      have c1 := block_cell h.r1
      have f0 := block_frozen h.r0 0
      have f1 := block_frozen h.r1 0
      gi_wp2
      have e0 := block_far (block_set h.r0 (.slice A cs.length cap)) (show w.heap.size ≠ w.heap.size + 1 by omega) .nilIface
      have e1 := block_set (block_far h.r1 (show w.heap.size + 1 ≠ w.heap.size by omega) (.slice A cs.length cap)) .nilIface
      have hK' := block_far (block_far hK (show w.heap.size + 4 ≠ w.heap.size by omega) (.slice A cs.length cap)) (show w.heap.size + 4 ≠ w.heap.size + 1 by omega) .nilIface
      refine ⟨by simp, .inl ⟨_, _, rfl, run_takeDeferred hK', ?_⟩⟩
      have q0 := block_cell (put_far (D := w.heap.size + 4) (o' := .deferred none) e0 (by omega))
      have q1 := block_cell (put_far (D := w.heap.size + 4) (o' := .deferred none) e1 (by omega))
      refine ⟨.tuple #[.slice A cs.length cap, .nilIface], (by simp [results, Tryz.results6, go_sem, q0, q1]), ?_⟩
      have hNW : w.heap.size ≤ W.heap.size := Nat.le_of_lt (lt_of_cells h.r0)
      refine ⟨below_put ((h.below.setCell (p := ⟨w.heap.size, 0, none⟩) (Nat.le_refl _) _).setCell (p := ⟨w.heap.size + 1, 0, none⟩) (by simp) _) (by simpa [World.setCell] using hNW) (by omega) _, .inl ⟨cs, _, ?_, rfl, ?_, h.len⟩⟩
      · have ht := h.rel
        rw [List.drop_length] at ht
        rw [HP.out, ← ht]
        simp only [runs, mores_ok, List.append_nil]
      · refine (h.own.keep fun b _ _ hb hh => put_far (block_far (block_far hh (by omega) _) (by omega) _) (by omega)).low (by omega)
    case stop =>
      rintro D c pre W hD hpre ⟨rfl, code, line, col, b, hs1, hc2, h0, h1, hb, hh, hbw⟩ hK
      rw [hW0] at hD
      subst hD
      gi_wp2
      refine ⟨by simp, .inl ⟨_, _, rfl, run_takeDeferred hK, ?_⟩⟩
      have q0 := block_cell (put_far (D := w.heap.size + 4) (o' := .deferred none) h0 (by omega))
      have q1 := block_cell (put_far (D := w.heap.size + 4) (o' := .deferred none) h1 (by omega))
      refine ⟨.tuple #[.slice none 0 0, .iface 72 (.pointer (some ⟨b, 0, none⟩))], (by simp [results, Tryz.results6, go_sem, q0, q1]), ?_⟩
      have hNW : w.heap.size ≤ W.heap.size := Nat.le_of_lt (lt_of_cells h0)
      refine ⟨below_put hbw hNW (by omega) _, .inr ⟨code, line, col, _, ?_, hc2, rfl, b, by omega, rfl, put_far hh (by omega)⟩⟩
      rw [HP.out, hs1]
  · rw [hz] at hs
    have hsz : s.size ≤ 65536 := by omega
    have hlt : s.size - 1 < s.size := by omega
    have hs3 : (s.size : Int) ≤ 70000 := by omega
    have hs4 : decide ((65536 : Int) < (s.size : Int) + 1) = false := by rw [decide_eq_false_iff_not]; omega
    clear hs hz
    have h2 : ((s[s.size - 1].toNat : Int) != 10) = true := by (simp only [bne_iff_ne]; exact fun e => h1 (UInt8.toNat_inj.1 (by show s[s.size - 1].toNat = 10; omega)))
    clear h1
    refine callsIn_of_wp_marks Tryz.func6 rfl trivial ?_ rfl
    simp only [Tryz.ntmps6, List.size_toArray, List.length_cons, List.length_nil, Nat.reduceAdd, Nat.reduceSub, Array.replicate_succ, Array.replicate_zero, List.push_toArray, List.append_toArray, List.nil_append, List.cons_append]
    gi_wp2_with (first | (refine ⟨trivial, ?_⟩; gi_at_call 18; refine (callsIn_wide.2 (lines_any _ _)).mono ?_; rintro e w' ⟨rfl, rfl⟩))
    have hW0 : ((((w.alloc (.cells #[.slice none 0 0] 38)).alloc (.cells #[.nilIface] 40)).alloc (.cells #[.slice none 0 0] 38)).alloc (.cells #[.string s] 9)).heap.size = w.heap.size + 4 := by simp
    refine wpIn_rangeFunc_set (by omega) (gf := 75) (lb := #[.pointer (some ⟨w.heap.size + 3, 0, none⟩)]) ?hg trivial (enters_of Tryz.func75 (by kernel_rfl) rfl)
      (enc := fun x : Nat × List UInt8 => #[.int .i64 (x.1 : Int), .string ⟨x.2.toArray⟩]) (S := Seven (w.heap.size + 6)) (Z := w.heap.size + 13) (xs := said 1 (Lx.cuts s.data.toList)) rfl ?hseq (fun _ => rfl) (by rw [hW0]; unfold Seven; omega) (by rw [hW0]; unfold Seven; omega)
      (ParseI w.heap.size w (said 1 (Lx.cuts s.data.toList))) (ParseX w.heap.size w E (said 1 (Lx.cuts s.data.toList))) (by rw [hW0]; exact parseI_aside) (fun c => by rw [hW0]; exact parseX_aside c) ?h0 (fun x => { tmps := #[.string s, undef, .pointer (some ⟨w.heap.size, 0, none⟩), .pointer (some ⟨w.heap.size + 1, 0, none⟩), .int .i64 ((s.size : Int) + 1), .pointer (some ⟨w.heap.size + 1 + 1, 0, none⟩), .int .i64 (x.1 : Int), .string ⟨x.2.toArray⟩, undef, undef, .string s, .int .i64 (s.size : Int), .int .i64 (s.size : Int), .bool true, .bool true, .string s, .int .i64 (s.size : Int), .int .i64 ((s.size : Int) - 1), .int .u8 (s[s.size - 1].toNat : Int), .bool true, .bool true, .int .i64 (s.size : Int), .int .i64 ((s.size : Int) + 1), .int .i64 ((s.size : Int) + 1), .bool false, undef, undef, .string s, .func (.func 75) #[] #[.pointer (some ⟨w.heap.size + 1 + 1 + 1, 0, none⟩)], .int .i64 (x.1 : Int), .string ⟨x.2.toArray⟩, undef, undef, undef, undef, undef, undef, undef, undef, undef, undef, undef, undef, undef, undef, undef, undef, undef, undef, undef, undef, undef, undef, undef], defers := [] }) ?assign ?body ?done ?stop
    case hg => rfl
    case hseq =>
      have := lines_seq (6 - 1) (w.heap.size + 3) s ((((w.alloc (.cells #[.slice none 0 0] 38)).alloc (.cells #[.nilIface] 40)).alloc (.cells #[.slice none 0 0] 38)).alloc (.cells #[.string s] 9)) (alloc_at _ _ _ (by simp)) hsz
      rw [hW0] at this
      exact this
    case h0 =>
      exact ⟨[], none, 0, alloc_old (alloc_old (alloc_old (alloc_at _ _ _ rfl) _) _) _, alloc_old (alloc_old (alloc_at _ _ _ (by simp)) _) _, alloc_old (alloc_at _ _ _ (by simp)) _, OwnC.nil _ _, (((((Below.refl _ w).alloc (Nat.le_refl _) _).alloc (by simp) _).alloc (by simp; omega) _).alloc (by simp; omega) _), by rw [hW0]; exact Nat.le_refl _, Nat.zero_le _, rfl⟩
    case assign =>
      intro l x W K hK
      gi_wp2
      exact hK
    case body =>
      rintro l pre ⟨no, t⟩ W _ hZ ⟨cs, A, cap, h⟩ hpre
      have htl := said_part hpre
      simp only [] at htl
      have hE1 : Laid E three W := hE.below h.below
      have HR := Lib.hid h.rel
      have HPre := Lib.hid hpre
      have hlen := h.len
      have hts : (⟨t.toArray⟩ : ByteArray).size ≤ 65536 := by simp [ByteArray.size]; omega
      clear hpre
      rw [hW0]
      cases hc : Sc.command t with
      | none =>
        have HX := Lib.hid (runs_none HR.out HPre.out hc)
        have HC := Lib.hid hc
        clear hc
        gi_wp2_with (first
          | (refine ⟨trivial, ?_⟩; gi_at_call 19; refine (CallsIn.inRound l (callsIn_wide.2 (command_no ⟨t.toArray⟩ E W hE1.two_of3 hts HC.out))).mono ?_; rintro e w1 ⟨v0, v1, B, m, kc, rfl, hb1⟩;
              have hE2 := hE1.below hb1; have hg19 : w1.cell? ⟨1, 0, none⟩ = some (E.val 19) := hE2.cell 19 (by simp); have hlt19 := cell_lt hg19;
              have hf1 : ∀ k o, W.heap[k]? = some o → w1.heap[k]? = some o := (fun k o hk => (hb1.block k (lt_of_cells hk)).trans hk);
              have k0 := block_cell (hf1 _ _ h.r0); have k1 := block_cell (hf1 _ _ h.r1); have g0 := block_frozen (hf1 _ _ h.r0) 0; have g1 := block_frozen (hf1 _ _ h.r1) 0; have l0 := lt_of_cells (hf1 _ _ h.r0); have l1 := lt_of_cells (hf1 _ _ h.r1))
          | (refine ⟨trivial, ?_⟩; gi_at_call 20; refine (CallsIn.inRound l (callsIn_wide.2 (at_any _ _ _ _ _ _))).mono ?_; rintro e w2 ⟨rfl, rfl⟩))
        have F : ∀ k o, W.heap[k]? = some o → (k ≠ w.heap.size ∧ k ≠ w.heap.size + 1) → _ := fun k o hk hne => alloc_old (alloc_old (block_far (block_far (hf1 k o hk) hne.1 (.slice none 0 0)) hne.2 (.iface 72 (.pointer (some ⟨w1.heap.size + 1, 0, none⟩)))) (.cells #[.string v0, .string v1, .slice B m kc] 52)) (.cells #[.string scriptB, .int .i64 (no : Int), .int .i64 0, E.val 19] 75)
        have hB1 : Below w.heap.size w w1 := h.below.trans (hb1.mono h.below.size)
        have hs1 := hb1.size
        refine ⟨⟨keeps_of (p := fun k => k ≠ w.heap.size ∧ k ≠ w.heap.size + 1) F (by omega) (by constructor <;> omega), keeps_of (p := fun k => k ≠ w.heap.size ∧ k ≠ w.heap.size + 1) F (by omega) (by constructor <;> omega)⟩, fun b hb => keeps_of (p := fun k => k ≠ w.heap.size ∧ k ≠ w.heap.size + 1) F (by have := hb.2; omega) (by have := hb.1; constructor <;> omega), rfl, 19, no, 0, w1.heap.size + 1, HX.out, .inr rfl,
          alloc_old (alloc_old (block_far (block_set (hf1 _ _ h.r0) _) (by omega) _) _) _, alloc_old (alloc_old (block_set (block_far (hf1 _ _ h.r1) (by omega) _) _) _) _, by omega, alloc_at _ _ _ (by simp [World.setCell]), ?_⟩
        exact ((((hB1.setCell (p := ⟨w.heap.size, 0, none⟩) (Nat.le_refl _) _).setCell (p := ⟨w.heap.size + 1, 0, none⟩) (by simp) _).alloc (by simp [World.setCell]; omega) _).alloc (by simp [World.setCell]; omega) _)
      | some c =>
        have HC := Lib.hid hc
        by_cases hl : cs.length = 1000
        · have HX := Lib.hid (runs_long HR.out HPre.out hc (by omega))
          have hl2 : ((cs.length : Int) == 1000) = true := by simp [hl]
          clear hc
          gi_wp2_with (first
            | (refine ⟨trivial, ?_⟩; gi_at_call 19; refine (CallsIn.inRound l (callsIn_wide.2 (command_ok ⟨t.toArray⟩ E W hE1.two_of3 hts c HC.out))).mono ?_; rintro e w1 ⟨B, m, kc, rfl, hb1, hrow1⟩;
                have hE2 := hE1.below hb1; have hg2 : w1.cell? ⟨0, 0, none⟩ = some (E.val 2) := hE2.cell 2 (by simp); have hlt2 := cell_lt hg2;
                have hf1 : ∀ k o, W.heap[k]? = some o → w1.heap[k]? = some o := (fun k o hk => (hb1.block k (lt_of_cells hk)).trans hk);
                have k0 := block_cell (hf1 _ _ h.r0); have k1 := block_cell (hf1 _ _ h.r1); have k2 := block_cell (hf1 _ _ h.out); have g0 := block_frozen (hf1 _ _ h.r0) 0; have g1 := block_frozen (hf1 _ _ h.r1) 0; have l0 := lt_of_cells (hf1 _ _ h.r0); have l1 := lt_of_cells (hf1 _ _ h.r1); have l2 := lt_of_cells (hf1 _ _ h.out))
            | (refine ⟨trivial, ?_⟩; gi_at_call 20; refine (CallsIn.inRound l (callsIn_wide.2 (at_any _ _ _ _ _ _))).mono ?_; rintro e w2 ⟨rfl, rfl⟩))
          have F : ∀ k o, W.heap[k]? = some o → (k ≠ w.heap.size ∧ k ≠ w.heap.size + 1) → _ := fun k o hk hne => alloc_old (alloc_old (block_far (block_far (hf1 k o hk) hne.1 (.slice none 0 0)) hne.2 (.iface 72 (.pointer (some ⟨w1.heap.size + 1, 0, none⟩)))) (.cells #[.string ⟨c.word.toArray⟩, .string ⟨c.text.toArray⟩, .slice B m kc] 52)) (.cells #[.string scriptB, .int .i64 (no : Int), .int .i64 0, E.val 2] 75)
          have hB1 : Below w.heap.size w w1 := h.below.trans (hb1.mono h.below.size)
          have hs1 := hb1.size
          refine ⟨⟨keeps_of (p := fun k => k ≠ w.heap.size ∧ k ≠ w.heap.size + 1) F (by omega) (by constructor <;> omega), keeps_of (p := fun k => k ≠ w.heap.size ∧ k ≠ w.heap.size + 1) F (by omega) (by constructor <;> omega)⟩, fun b hb => keeps_of (p := fun k => k ≠ w.heap.size ∧ k ≠ w.heap.size + 1) F (by have := hb.2; omega) (by have := hb.1; constructor <;> omega), rfl, 2, no, 0, w1.heap.size + 1, HX.out, .inl rfl,
            alloc_old (alloc_old (block_far (block_set (hf1 _ _ h.r0) _) (by omega) _) _) _, alloc_old (alloc_old (block_set (block_far (hf1 _ _ h.r1) (by omega) _) _) _) _, by omega, alloc_at _ _ _ (by simp [World.setCell]), ?_⟩
          exact ((((hB1.setCell (p := ⟨w.heap.size, 0, none⟩) (Nat.le_refl _) _).setCell (p := ⟨w.heap.size + 1, 0, none⟩) (by simp) _).alloc (by simp [World.setCell]; omega) _).alloc (by simp [World.setCell]; omega) _)
        · have hl3 : cs.length < 1000 := by omega
          have HN := Lib.hid (runs_step HR.out HPre.out hc hl3)
          have hl2 : ((cs.length : Int) == 1000) = false := by rw [beq_eq_false_iff_ne]; omega
          clear hc hl hlen
          obtain ⟨us, hu0, hus1, hus2⟩ := h.own
          have HUS := Lib.hid hus2
          clear hus2
          gi_wp2_with (first
            | (refine ⟨trivial, ?_⟩; gi_at_call 19; refine (CallsIn.inRound l (callsIn_wide.2 (command_ok ⟨t.toArray⟩ E W hE1.two_of3 hts c HC.out))).mono ?_; rintro e w1 ⟨B, m, kc, rfl, hb1, hrow1⟩;
                have HRow := Lib.hid hrow1; clear hrow1;
                have hf1 : ∀ k o, W.heap[k]? = some o → w1.heap[k]? = some o := (fun k o hk => (hb1.block k (lt_of_cells hk)).trans hk);
                have hown1 := own_keep hus1 (fun k cs t _ hh => hf1 k _ hh); have hs1 := hb1.size;
                have k2 := block_cell (hf1 _ _ h.out); have g2 := block_frozen (hf1 _ _ h.out) 0; have l2 := lt_of_cells (hf1 _ _ h.out))
            | (gi_at_builtin; refine wpListIn_append_own _ rfl _ _ 38 rfl (w.heap.size + 13) 52 i0 _ 3 56 Tryz.underlying38 hi hz0 hz1 hz2' rfl (by decide) _ _ _ rfl ((hown1.alloc _).alloc _) ⟨w1.heap.size + 1, 0, none⟩ 1 1 (cmdCells c (.slice B m kc)) rfl rfl (new_cells2 w1 _ (cmdCells c (.slice B m kc)) _) (cmd_oneCell c B m kc) (by unfold maxLen; omega) (by omega) (by simp; omega) ?_; intro v2 w2 hown2 hg2 _; obtain ⟨A2, cap2, rfl⟩ := own_slice hown2;
                have HA := Lib.hid (far_app ((hown1.alloc _).alloc _) hg2); have m2 := block_cell (HA.out _ _ (alloc_old (alloc_old (hf1 _ _ h.out) _) _) (.inl (by omega))); have n2 := block_frozen (HA.out _ _ (alloc_old (alloc_old (hf1 _ _ h.out) _) _) (.inl (by omega))) 0))
          have hs2 := hg2.size
          simp only [World.size_alloc] at hs2
          have F : ∀ k o, W.heap[k]? = some o → (k < w.heap.size + 13 ∧ k ≠ w.heap.size + 1 + 1) → (w2.setCell ⟨w.heap.size + 1 + 1, 0, none⟩ (.slice A2 (cs.length + 1) cap2)).heap[k]? = some o := fun k o hk hne => block_far (HA.out k o (alloc_old (alloc_old (hf1 k o hk) _) _) (.inl hne.1)) hne.2 _
          have hB1 : Below w.heap.size w w1 := h.below.trans (hb1.mono h.below.size)
          have hB2 := below_append ((hB1.alloc hB1.size _).alloc (by simp; have := hB1.size; omega) _) ((hown1.alloc _).alloc _) (by omega) (by simp; have := hB1.size; omega) hg2
          have hOut := OwnC.append (W := (w1.alloc _).alloc _) (cs := cs) (c := c) hu0 ((hown1.alloc _).alloc _) (fun j c' hj => by obtain ⟨u, h3, h4⟩ := HUS.out j c' hj; exact ⟨u, h3, h4.keep fun b _ _ hh => alloc_old (alloc_old (hf1 b _ hh) _) _⟩) (((HRow.out.row).low (by omega)).keep fun b _ _ hh => alloc_old (alloc_old hh _) _) hown2 hg2
          refine ⟨⟨keeps_of (p := fun k => k < w.heap.size + 13 ∧ k ≠ w.heap.size + 1 + 1) F (by omega) (by constructor <;> omega), keeps_of (p := fun k => k < w.heap.size + 13 ∧ k ≠ w.heap.size + 1 + 1) F (by omega) (by constructor <;> omega)⟩, fun b hb => keeps_of (p := fun k => k < w.heap.size + 13 ∧ k ≠ w.heap.size + 1 + 1) F (by have := hb.2; omega) (by have := hb.1; have := hb.2; constructor <;> omega), cs ++ [c], A2, cap2,
            F _ _ h.r0 (by omega), F _ _ h.r1 (by omega), ?_, ?_, hB2.setCell (p := ⟨w.heap.size + 1 + 1, 0, none⟩) (by simp; omega) _, by simp [World.setCell]; omega, by simp; omega, HN.out⟩
          · rw [List.length_append]; exact block_set (HA.out _ _ (alloc_old (alloc_old (hf1 _ _ h.out) _) _) (.inl (by omega))) _
          · rw [List.length_append]; exact hOut.keep fun b _ _ hb hh => block_far hh (by omega) _
    case done =>
      rintro D W hD ⟨cs, A, cap, h⟩ hK
      rw [hW0] at hD
      subst hD
      have c2 := block_cell h.out
      have c0 := block_cell h.r0
      have c1 := block_cell h.r1
      have f0 := block_frozen h.r0 0
      have f1 := block_frozen h.r1 0
      gi_wp2
      have e0 := block_far (block_set h.r0 (.slice A cs.length cap)) (show w.heap.size ≠ w.heap.size + 1 by omega) .nilIface
      have e1 := block_set (block_far h.r1 (show w.heap.size + 1 ≠ w.heap.size by omega) (.slice A cs.length cap)) .nilIface
      have hK' := block_far (block_far hK (show w.heap.size + 4 ≠ w.heap.size by omega) (.slice A cs.length cap)) (show w.heap.size + 4 ≠ w.heap.size + 1 by omega) .nilIface
      refine ⟨by simp, .inl ⟨_, _, rfl, run_takeDeferred hK', ?_⟩⟩
      have q0 := block_cell (put_far (D := w.heap.size + 4) (o' := .deferred none) e0 (by omega))
      have q1 := block_cell (put_far (D := w.heap.size + 4) (o' := .deferred none) e1 (by omega))
      refine ⟨.tuple #[.slice A cs.length cap, .nilIface], (by simp [results, Tryz.results6, go_sem, q0, q1]), ?_⟩
      have hNW : w.heap.size ≤ W.heap.size := Nat.le_of_lt (lt_of_cells h.r0)
      refine ⟨below_put ((h.below.setCell (p := ⟨w.heap.size, 0, none⟩) (Nat.le_refl _) _).setCell (p := ⟨w.heap.size + 1, 0, none⟩) (by simp) _) (by simpa [World.setCell] using hNW) (by omega) _, .inl ⟨cs, _, ?_, rfl, ?_, h.len⟩⟩
      · have ht := h.rel
        rw [List.drop_length] at ht
        rw [HP.out, ← ht]
        simp only [runs, mores_ok, List.append_nil]
      · refine (h.own.keep fun b _ _ hb hh => put_far (block_far (block_far hh (by omega) _) (by omega) _) (by omega)).low (by omega)
    case stop =>
      rintro D c pre W hD hpre ⟨rfl, code, line, col, b, hs1, hc2, h0, h1, hb, hh, hbw⟩ hK
      rw [hW0] at hD
      subst hD
      gi_wp2
      refine ⟨by simp, .inl ⟨_, _, rfl, run_takeDeferred hK, ?_⟩⟩
      have q0 := block_cell (put_far (D := w.heap.size + 4) (o' := .deferred none) h0 (by omega))
      have q1 := block_cell (put_far (D := w.heap.size + 4) (o' := .deferred none) h1 (by omega))
      refine ⟨.tuple #[.slice none 0 0, .iface 72 (.pointer (some ⟨b, 0, none⟩))], (by simp [results, Tryz.results6, go_sem, q0, q1]), ?_⟩
      have hNW : w.heap.size ≤ W.heap.size := Nat.le_of_lt (lt_of_cells h0)
      refine ⟨below_put hbw hNW (by omega) _, .inr ⟨code, line, col, _, ?_, hc2, rfl, b, by omega, rfl, put_far hh (by omega)⟩⟩
      rw [HP.out, hs1]

theorem parse_any (s : ByteArray) (E : Errs) (w : World) (hE : Laid E three w) (hsm : s.size ≤ 281474976710656) :
    Calls Tryz.prog 6 #[.string s] w (ParseEnds s.data.toList E w) := by
  by_cases h : 65536 < Sc.size s.data.toList
  · exact parse_long s E w hE h hsm
  · exact parse_loop s E w hE h
end Go.Proofs.YtinobikikineiabGreatDoor
