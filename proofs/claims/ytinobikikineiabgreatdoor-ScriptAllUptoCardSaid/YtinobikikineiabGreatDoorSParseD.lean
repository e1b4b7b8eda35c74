/- The walk of script's Parse once more: the numbers of each command lie in a block of their own. Condition: the error variables lie as the program lays them. -/
import Derived.Test.YtinobikikineiabGreatDoorSBook
namespace Go.Proofs.YtinobikikineiabGreatDoor
open Go.RowKit Go.Shelf

/-- How 'Parse' ends. -/
def ParseEndsD (l : List UInt8) (E : Errs) (w : World) (e : Ending) (w' : World) : Prop :=
  Below w.heap.size w w' ∧
  ((∃ cs v, Sc.parse l = .ok cs ∧ e = .returned (.tuple #[v, .nilIface]) ∧ (∃ us, OwnD w' w.heap.size v cs us) ∧ cs.length ≤ 1000) ∨
   (∃ c line col v, Sc.parse l = .error (c, line, col) ∧ (c = 2 ∨ c = 19) ∧ e = .returned (.tuple #[.slice none 0 0, v]) ∧ IsFault w.heap.size w' v scriptB line col (E.val c)))

set_option maxRecDepth 100000 in
set_option maxHeartbeats 1000000 in
theorem parse_longD (s : ByteArray) (E : Errs) (w : World) (hE : Laid E three w) (hs : 65536 < Sc.size s.data.toList) (hsm : s.size ≤ 281474976710656) :
    Calls Tryz.prog 6 #[.string s] w (ParseEndsD s.data.toList E w) := by
  have hL := ((hE.two_of3.alloc (.cells #[.slice none 0 0] 38)).alloc (.cells #[.nilIface] 40)).long
  have HS : Hid (Sc.parse s.data.toList = .error (2, 0, 0)) := by show _ = _; unfold Sc.parse; rw [if_pos hs]
  rcases last_ways s with ⟨h0, hz⟩ | ⟨h0, h1, hz⟩ | ⟨h0, h1, hz⟩
  · omega
  all_goals
    rw [hz] at hs
    clear hz
    first
      | (have h2 : ((s[s.size - 1].toNat : Int) != 10) = false := by rw [h1]; rfl)
      | (have hlt : s.size - 1 < s.size := by omega
         have hs3 : (65536 : Int) < (s.size : Int) + 1 := by omega
         clear hs
         have h2 : ((s[s.size - 1].toNat : Int) != 10) = true := by (simp only [bne_iff_ne]; exact fun e => h1 (UInt8.toNat_inj.1 (by show s[s.size - 1].toNat = 10; omega)))
         clear h1)
    go_enter Tryz.func6, Tryz.ntmps6
    go_wp2_with (first | (go_at_call 17; refine (new_any _ _ _ _).mono ?_; rintro e w1 ⟨rfl, rfl⟩))
    refine bodyPost_ret (v := .tuple #[.slice none 0 0, .iface 72 (.pointer (some ⟨w.heap.size + 1 + 1, 0, none⟩))]) (by simp [results, Tryz.results6, go_sem]) rfl ?_
    refine ⟨(((Below.refl _ w).alloc (Nat.le_refl _) _).alloc (by simp) _).alloc (by simp; omega) _, .inr ⟨2, 0, 0, _, HS.out, .inl rfl, rfl, w.heap.size + 1 + 1, by omega, rfl, ?_⟩⟩
    have := heap_alloc_new ((w.alloc (.cells #[.slice none 0 0] 38)).alloc (.cells #[.iface 72 (.pointer (some ⟨w.heap.size + 1 + 1, 0, none⟩))] 40)) (.cells #[.string scriptB, .int .i64 0, .int .i64 0, E.val 2] 75)
    rw [World.size_alloc, World.size_alloc] at this
    exact this

attribute [local go_sem] Oper.semAt_some
/-- What the loop over the lines holds. -/
structure ParseAtD (N : Nat) (w : World) (xs pre : List (Nat × List UInt8)) (cs : List Sc.Cmd) (A : Option Addr) (cap : Nat) (W : World) : Prop where
  r0 : W.heap[N]? = some (.cells #[.slice none 0 0] 38 (0, 0))
  r1 : W.heap[N + 1]? = some (.cells #[.nilIface] 40 (0, 0))
  out : W.heap[N + 2]? = some (.cells #[.slice A cs.length cap] 38 (0, 0))
  own : ∃ us, OwnD W (N + 13) (.slice A cs.length cap) cs us
  below : Below N w W
  size : N + 4 ≤ W.heap.size
  len : cs.length ≤ 1000
  rel : mores cs (runs cs.length (xs.drop pre.length)) = runs 0 xs
def ParseID (N : Nat) (w : World) (xs pre : List (Nat × List UInt8)) (W : World) : Prop := ∃ cs A cap, ParseAtD N w xs pre cs A cap W
/-- What holds where a round has left the loop: the results. -/
def ParseXD (N : Nat) (w : World) (E : Errs) (xs : List (Nat × List UInt8)) (c : Code) (_pre : List (Nat × List UInt8)) (W : World) : Prop :=
  c = .ret ∧ ∃ code line col b, runs 0 xs = .error (code, line, col) ∧ (code = 2 ∨ code = 19) ∧ W.heap[N]? = some (.cells #[.slice none 0 0] 38 (0, 0)) ∧
    W.heap[N + 1]? = some (.cells #[.iface 72 (.pointer (some ⟨b, 0, none⟩))] 40 (0, 0)) ∧ N + 13 ≤ b ∧
    W.heap[b]? = some (.cells #[.string scriptB, .int .i64 (line : Int), .int .i64 (col : Int), E.val code] 75 (0, 0)) ∧ Below N w W
theorem parseI_asideD {N : Nat} {w : World} {xs : List (Nat × List UInt8)} : AsideS (Seven (N + 6)) (N + 4) (ParseID N w xs) := by
  rintro pre A A' row ⟨cs, Ad, cap, h⟩ hg hr
  exact ⟨cs, Ad, cap, aside_far hg hr (.inl (by omega)) h.r0, aside_far hg hr (.inl (by omega)) h.r1, aside_far hg hr (.inl (by omega)) h.out, h.own.imp fun us h => h.keep fun b _ _ hb _ hh => aside_far hg hr (.inr hb) hh,
    aside_below hg hr (by have := h.size; omega) h.below, Nat.le_trans h.size hg.size, h.len, h.rel⟩
theorem parseX_asideD {N : Nat} {w : World} {E : Errs} {xs : List (Nat × List UInt8)} (c : Code) : AsideS (Seven (N + 6)) (N + 4) (ParseXD N w E xs c) := by
  rintro pre A A' row ⟨hc, code, line, col, b, h1, h2, h3, h4, h5, h6, h7⟩ hg hr
  exact ⟨hc, code, line, col, b, h1, h2, aside_far hg hr (.inl (by omega)) h3, aside_far hg hr (.inl (by omega)) h4, h5, aside_far hg hr (.inr h5) h6, aside_below hg hr (by have := lt_of_cells h6; omega) h7⟩
set_option maxRecDepth 100000 in
set_option maxHeartbeats 4000000 in
theorem parse_loopD (s : ByteArray) (E : Errs) (w : World) (hE : Laid E three w) (hs : ¬ 65536 < Sc.size s.data.toList) :
    Calls Tryz.prog 6 #[.string s] w (ParseEndsD s.data.toList E w) := by
  obtain ⟨i0, hi, hz0, hz1, hz2'⟩ := info_parts infoCmd
  have HP : Hid (Sc.parse s.data.toList = runs 0 (said 1 (Lx.cuts s.data.toList))) := by show _ = _; unfold Sc.parse; rw [if_neg hs, from_runs]
  refine (callsIn_wide (n := 6)).1 ?_
  rcases last_ways s with ⟨h0, hz⟩ | ⟨h0, h1, hz⟩ | ⟨h0, h1, hz⟩
  · have hsz : s.size ≤ 65536 := by omega
    clear hz hs
    refine callsIn_of_wp_marks Tryz.func6 rfl trivial ?_ rfl
    simp only [Tryz.ntmps6, List.size_toArray, List.length_cons, List.length_nil, Nat.reduceAdd, Nat.reduceSub, Array.replicate_succ, Array.replicate_zero, List.push_toArray, List.append_toArray, List.nil_append, List.cons_append]
    gi_wp2_with (first | (refine ⟨trivial, ?_⟩; gi_at_call 18; refine (callsIn_wide.2 (lines_any _ _)).mono ?_; rintro e w' ⟨rfl, rfl⟩))
    have hW0 : ((((w.alloc (.cells #[.slice none 0 0] 38)).alloc (.cells #[.nilIface] 40)).alloc (.cells #[.slice none 0 0] 38)).alloc (.cells #[.string s] 9)).heap.size = w.heap.size + 4 := by simp
    refine wpIn_rangeFunc_set (by omega) (gf := 75) (lb := #[.pointer (some ⟨w.heap.size + 3, 0, none⟩)]) ?hg trivial (enters_of Tryz.func75 (by kernel_rfl) rfl)
      (enc := fun x : Nat × List UInt8 => #[.int .i64 (x.1 : Int), .string ⟨x.2.toArray⟩]) (S := Seven (w.heap.size + 6)) (Z := w.heap.size + 13) (xs := said 1 (Lx.cuts s.data.toList)) rfl ?hseq (fun _ => rfl) (by rw [hW0]; unfold Seven; omega) (by rw [hW0]; unfold Seven; omega)
      (ParseID w.heap.size w (said 1 (Lx.cuts s.data.toList))) (ParseXD w.heap.size w E (said 1 (Lx.cuts s.data.toList))) (by rw [hW0]; exact parseI_asideD) (fun c => by rw [hW0]; exact parseX_asideD c) ?h0 (fun x => { tmps := #[.string s, undef, .pointer (some ⟨w.heap.size, 0, none⟩), .pointer (some ⟨w.heap.size + 1, 0, none⟩), .int .i64 0, .pointer (some ⟨w.heap.size + 1 + 1, 0, none⟩), .int .i64 (x.1 : Int), .string ⟨x.2.toArray⟩, undef, undef, .string s, .int .i64 0, .int .i64 0, .bool false, .bool false, undef, undef, undef, undef, undef, .bool false, undef, undef, .int .i64 0, .bool false, undef, undef, .string s, .func (.func 75) #[] #[.pointer (some ⟨w.heap.size + 1 + 1 + 1, 0, none⟩)], .int .i64 (x.1 : Int), .string ⟨x.2.toArray⟩, undef, undef, undef, undef, undef, undef, undef, undef, undef, undef, undef, undef, undef, undef, undef, undef, undef, undef, undef, undef, undef, undef, undef], defers := [] }) ?assign ?body ?done ?stop
    case hg => rfl
    case hseq =>
      have := lines_seq (6 - 1) (w.heap.size + 3) s ((((w.alloc (.cells #[.slice none 0 0] 38)).alloc (.cells #[.nilIface] 40)).alloc (.cells #[.slice none 0 0] 38)).alloc (.cells #[.string s] 9)) (alloc_at _ _ _ (by simp)) hsz
      rw [hW0] at this
      exact this
    case h0 =>
      exact ⟨[], none, 0, alloc_old (alloc_old (alloc_old (alloc_at _ _ _ rfl) _) _) _, alloc_old (alloc_old (alloc_at _ _ _ (by simp)) _) _, alloc_old (alloc_at _ _ _ (by simp)) _, ⟨[], OwnD.nil _ _⟩, (((((Below.refl _ w).alloc (Nat.le_refl _) _).alloc (by simp) _).alloc (by simp; omega) _).alloc (by simp; omega) _), by rw [hW0]; exact Nat.le_refl _, Nat.zero_le _, rfl⟩
    case assign =>
      intro l x W K hK
      gi_wp2
      exact hK
    case body =>
      rintro l pre ⟨no, t⟩ W _ hZ ⟨cs, A, cap, h⟩ hpre
      have htl := said_part hpre
      simp only [] at htl
      have hE1 : Laid E three W := hE.below h.below
      have HR := Lib.hid h.rel
      have HPre := Lib.hid hpre
      have hlen := h.len
      have hts : (⟨t.toArray⟩ : ByteArray).size ≤ 65536 := by simp [ByteArray.size]; omega
      clear hpre
      rw [hW0]
      cases hc : Sc.command t with
      | none =>
        have HX := Lib.hid (runs_none HR.out HPre.out hc)
        have HC := Lib.hid hc
        clear hc
        gi_wp2_with (first
          | (refine ⟨trivial, ?_⟩; gi_at_call 19; refine (CallsIn.inRound l (callsIn_wide.2 (command_no ⟨t.toArray⟩ E W hE1.two_of3 hts HC.out))).mono ?_; rintro e w1 ⟨v0, v1, B, m, kc, rfl, hb1⟩;
              have hE2 := hE1.below hb1; have hg19 : w1.cell? ⟨1, 0, none⟩ = some (E.val 19) := hE2.cell 19 (by simp); have hlt19 := cell_lt hg19;
              have hf1 : ∀ k o, W.heap[k]? = some o → w1.heap[k]? = some o := (fun k o hk => (hb1.block k (lt_of_cells hk)).trans hk);
              have k0 := block_cell (hf1 _ _ h.r0); have k1 := block_cell (hf1 _ _ h.r1); have g0 := block_frozen (hf1 _ _ h.r0) 0; have g1 := block_frozen (hf1 _ _ h.r1) 0; have l0 := lt_of_cells (hf1 _ _ h.r0); have l1 := lt_of_cells (hf1 _ _ h.r1))
          | (refine ⟨trivial, ?_⟩; gi_at_call 20; refine (CallsIn.inRound l (callsIn_wide.2 (at_any _ _ _ _ _ _))).mono ?_; rintro e w2 ⟨rfl, rfl⟩))
        have F : ∀ k o, W.heap[k]? = some o → (k ≠ w.heap.size ∧ k ≠ w.heap.size + 1) → _ := fun k o hk hne => alloc_old (alloc_old (block_far (block_far (hf1 k o hk) hne.1 (.slice none 0 0)) hne.2 (.iface 72 (.pointer (some ⟨w1.heap.size + 1, 0, none⟩)))) (.cells #[.string v0, .string v1, .slice B m kc] 52)) (.cells #[.string scriptB, .int .i64 (no : Int), .int .i64 0, E.val 19] 75)
        have hB1 : Below w.heap.size w w1 := h.below.trans (hb1.mono h.below.size)
        have hs1 := hb1.size
        refine ⟨⟨keeps_of (p := fun k => k ≠ w.heap.size ∧ k ≠ w.heap.size + 1) F (by omega) (by constructor <;> omega), keeps_of (p := fun k => k ≠ w.heap.size ∧ k ≠ w.heap.size + 1) F (by omega) (by constructor <;> omega)⟩, fun b hb => keeps_of (p := fun k => k ≠ w.heap.size ∧ k ≠ w.heap.size + 1) F (by have := hb.2; omega) (by have := hb.1; constructor <;> omega), rfl, 19, no, 0, w1.heap.size + 1, HX.out, .inr rfl,
          alloc_old (alloc_old (block_far (block_set (hf1 _ _ h.r0) _) (by omega) _) _) _, alloc_old (alloc_old (block_set (block_far (hf1 _ _ h.r1) (by omega) _) _) _) _, by omega, alloc_at _ _ _ (by simp [World.setCell]), ?_⟩
        exact ((((hB1.setCell (p := ⟨w.heap.size, 0, none⟩) (Nat.le_refl _) _).setCell (p := ⟨w.heap.size + 1, 0, none⟩) (by simp) _).alloc (by simp [World.setCell]; omega) _).alloc (by simp [World.setCell]; omega) _)
      | some c =>
        have HC := Lib.hid hc
        by_cases hl : cs.length = 1000
        · have HX := Lib.hid (runs_long HR.out HPre.out hc (by omega))
          have hl2 : ((cs.length : Int) == 1000) = true := by simp [hl]
          clear hc
          gi_wp2_with (first
            | (refine ⟨trivial, ?_⟩; gi_at_call 19; refine (CallsIn.inRound l (callsIn_wide.2 (command_ok ⟨t.toArray⟩ E W hE1.two_of3 hts c HC.out))).mono ?_; rintro e w1 ⟨B, m, kc, rfl, hb1, hrow1⟩;
                have hE2 := hE1.below hb1; have hg2 : w1.cell? ⟨0, 0, none⟩ = some (E.val 2) := hE2.cell 2 (by simp); have hlt2 := cell_lt hg2;
                have hf1 : ∀ k o, W.heap[k]? = some o → w1.heap[k]? = some o := (fun k o hk => (hb1.block k (lt_of_cells hk)).trans hk);
                have k0 := block_cell (hf1 _ _ h.r0); have k1 := block_cell (hf1 _ _ h.r1); have k2 := block_cell (hf1 _ _ h.out); have g0 := block_frozen (hf1 _ _ h.r0) 0; have g1 := block_frozen (hf1 _ _ h.r1) 0; have l0 := lt_of_cells (hf1 _ _ h.r0); have l1 := lt_of_cells (hf1 _ _ h.r1); have l2 := lt_of_cells (hf1 _ _ h.out))
            | (refine ⟨trivial, ?_⟩; gi_at_call 20; refine (CallsIn.inRound l (callsIn_wide.2 (at_any _ _ _ _ _ _))).mono ?_; rintro e w2 ⟨rfl, rfl⟩))
          have F : ∀ k o, W.heap[k]? = some o → (k ≠ w.heap.size ∧ k ≠ w.heap.size + 1) → _ := fun k o hk hne => alloc_old (alloc_old (block_far (block_far (hf1 k o hk) hne.1 (.slice none 0 0)) hne.2 (.iface 72 (.pointer (some ⟨w1.heap.size + 1, 0, none⟩)))) (.cells #[.string ⟨c.word.toArray⟩, .string ⟨c.text.toArray⟩, .slice B m kc] 52)) (.cells #[.string scriptB, .int .i64 (no : Int), .int .i64 0, E.val 2] 75)
          have hB1 : Below w.heap.size w w1 := h.below.trans (hb1.mono h.below.size)
          have hs1 := hb1.size
          refine ⟨⟨keeps_of (p := fun k => k ≠ w.heap.size ∧ k ≠ w.heap.size + 1) F (by omega) (by constructor <;> omega), keeps_of (p := fun k => k ≠ w.heap.size ∧ k ≠ w.heap.size + 1) F (by omega) (by constructor <;> omega)⟩, fun b hb => keeps_of (p := fun k => k ≠ w.heap.size ∧ k ≠ w.heap.size + 1) F (by have := hb.2; omega) (by have := hb.1; constructor <;> omega), rfl, 2, no, 0, w1.heap.size + 1, HX.out, .inl rfl,
            alloc_old (alloc_old (block_far (block_set (hf1 _ _ h.r0) _) (by omega) _) _) _, alloc_old (alloc_old (block_set (block_far (hf1 _ _ h.r1) (by omega) _) _) _) _, by omega, alloc_at _ _ _ (by simp [World.setCell]), ?_⟩
          exact ((((hB1.setCell (p := ⟨w.heap.size, 0, none⟩) (Nat.le_refl _) _).setCell (p := ⟨w.heap.size + 1, 0, none⟩) (by simp) _).alloc (by simp [World.setCell]; omega) _).alloc (by simp [World.setCell]; omega) _)
        · have hl3 : cs.length < 1000 := by omega
          have HN := Lib.hid (runs_step HR.out HPre.out hc hl3)
          have hl2 : ((cs.length : Int) == 1000) = false := by rw [beq_eq_false_iff_ne]; omega
          clear hc hl hlen
          obtain ⟨us, hD⟩ := h.own
          have HD := Lib.hid hD
          have hus1 := hD.2.1
          clear hD
          gi_wp2_with (first
            | (refine ⟨trivial, ?_⟩; gi_at_call 19; refine (CallsIn.inRound l (callsIn_wide.2 (command_ok ⟨t.toArray⟩ E W hE1.two_of3 hts c HC.out))).mono ?_; rintro e w1 ⟨B, m, kc, rfl, hb1, hrow1⟩;
                have HRow := Lib.hid hrow1; clear hrow1;
                have hf1 : ∀ k o, W.heap[k]? = some o → w1.heap[k]? = some o := (fun k o hk => (hb1.block k (lt_of_cells hk)).trans hk);
                have hown1 := own_keep hus1 (fun k cs t _ hh => hf1 k _ hh); have hs1 := hb1.size;
                have k2 := block_cell (hf1 _ _ h.out); have g2 := block_frozen (hf1 _ _ h.out) 0; have l2 := lt_of_cells (hf1 _ _ h.out))
            | (gi_at_builtin; refine wpListIn_append_own _ rfl _ _ 38 rfl (w.heap.size + 13) 52 i0 _ 3 56 Tryz.underlying38 hi hz0 hz1 hz2' rfl (by decide) _ _ _ rfl ((hown1.alloc _).alloc _) ⟨w1.heap.size + 1, 0, none⟩ 1 1 (cmdCells c (.slice B m kc)) rfl rfl (new_cells2 w1 _ (cmdCells c (.slice B m kc)) _) (cmd_oneCell c B m kc) (by unfold maxLen; omega) (by omega) (by simp; omega) ?_; intro v2 w2 hown2 hg2 _; obtain ⟨A2, cap2, rfl⟩ := own_slice hown2;
                have HA := Lib.hid (far_app ((hown1.alloc _).alloc _) hg2); have m2 := block_cell (HA.out _ _ (alloc_old (alloc_old (hf1 _ _ h.out) _) _) (.inl (by omega))); have n2 := block_frozen (HA.out _ _ (alloc_old (alloc_old (hf1 _ _ h.out) _) _) (.inl (by omega))) 0))
          have hs2 := hg2.size
          simp only [World.size_alloc] at hs2
          have F : ∀ k o, W.heap[k]? = some o → (k < w.heap.size + 13 ∧ k ≠ w.heap.size + 1 + 1) → (w2.setCell ⟨w.heap.size + 1 + 1, 0, none⟩ (.slice A2 (cs.length + 1) cap2)).heap[k]? = some o := fun k o hk hne => block_far (HA.out k o (alloc_old (alloc_old (hf1 k o hk) _) _) (.inl hne.1)) hne.2 _
          have hB1 : Below w.heap.size w w1 := h.below.trans (hb1.mono h.below.size)
          have hB2 := below_append ((hB1.alloc hB1.size _).alloc (by simp; have := hB1.size; omega) _) ((hown1.alloc _).alloc _) (by omega) (by simp; have := hB1.size; omega) hg2
          have hOut := (HD.out.keep (W' := (w1.alloc _).alloc _) fun b _ _ _ _ hh => alloc_old (alloc_old (hf1 b _ hh) _) _).append (S := W.heap.size) (HRow.out.keep fun b _ _ _ hh => alloc_old (alloc_old hh _) _) (by omega) (fun x hx g hgx => by
            obtain ⟨q, hq⟩ := List.getElem?_of_mem hx
            obtain ⟨y, hy1, hy2⟩ := HD.out.2.2.1 q _ (List.getElem?_eq_getElem (by rw [← HD.out.1]; exact (List.getElem?_eq_some_iff.1 hq).1))
            rw [hq] at hy1
            obtain rfl := Option.some.inj hy1
            exact (hy2.lt g hgx).2) hown2 hg2
          refine ⟨⟨keeps_of (p := fun k => k < w.heap.size + 13 ∧ k ≠ w.heap.size + 1 + 1) F (by omega) (by constructor <;> omega), keeps_of (p := fun k => k < w.heap.size + 13 ∧ k ≠ w.heap.size + 1 + 1) F (by omega) (by constructor <;> omega)⟩, fun b hb => keeps_of (p := fun k => k < w.heap.size + 13 ∧ k ≠ w.heap.size + 1 + 1) F (by have := hb.2; omega) (by have := hb.1; have := hb.2; constructor <;> omega), cs ++ [c], A2, cap2,
            F _ _ h.r0 (by omega), F _ _ h.r1 (by omega), ?_, ?_, hB2.setCell (p := ⟨w.heap.size + 1 + 1, 0, none⟩) (by simp; omega) _, by simp [World.setCell]; omega, by simp; omega, HN.out⟩
          · rw [List.length_append]; exact block_set (HA.out _ _ (alloc_old (alloc_old (hf1 _ _ h.out) _) _) (.inl (by omega))) _
          · rw [List.length_append]; exact ⟨_, hOut.keep fun b _ _ hb _ hh => block_far hh (by omega) _⟩
    case done =>
      rintro D W hD ⟨cs, A, cap, h⟩ hK
      rw [hW0] at hD
      subst hD
      have c2 := block_cell h.out
      have c0 := block_cell h.r0
      have c1 := block_cell h.r1
      have f0 := block_frozen h.r0 0
      have f1 := block_frozen h.r1 0
      gi_wp2
      have e0 := block_far (block_set h.r0 (.slice A cs.length cap)) (show w.heap.size ≠ w.heap.size + 1 by omega) .nilIface
      have e1 := block_set (block_far h.r1 (show w.heap.size + 1 ≠ w.heap.size by omega) (.slice A cs.length cap)) .nilIface
      have hK' := block_far (block_far hK (show w.heap.size + 4 ≠ w.heap.size by omega) (.slice A cs.length cap)) (show w.heap.size + 4 ≠ w.heap.size + 1 by omega) .nilIface
      refine ⟨by simp, .inl ⟨_, _, rfl, run_takeDeferred hK', ?_⟩⟩
      have q0 := block_cell (put_far (D := w.heap.size + 4) (o' := .deferred none) e0 (by omega))
      have q1 := block_cell (put_far (D := w.heap.size + 4) (o' := .deferred none) e1 (by omega))
      refine ⟨.tuple #[.slice A cs.length cap, .nilIface], (by simp [results, Tryz.results6, go_sem, q0, q1]), ?_⟩
      have hNW : w.heap.size ≤ W.heap.size := Nat.le_of_lt (lt_of_cells h.r0)
      refine ⟨below_put ((h.below.setCell (p := ⟨w.heap.size, 0, none⟩) (Nat.le_refl _) _).setCell (p := ⟨w.heap.size + 1, 0, none⟩) (by simp) _) (by simpa [World.setCell] using hNW) (by omega) _, .inl ⟨cs, _, ?_, rfl, ?_, h.len⟩⟩
      · have ht := h.rel
        rw [List.drop_length] at ht
        rw [HP.out, ← ht]
        simp only [runs, mores_ok, List.append_nil]
      · obtain ⟨us, hD⟩ := h.own
        exact ⟨us, (hD.keep fun b _ _ hb _ hh => put_far (block_far (block_far hh (by omega) _) (by omega) _) (by omega)).low (by omega)⟩
    case stop =>
      rintro D c pre W hD hpre ⟨rfl, code, line, col, b, hs1, hc2, h0, h1, hb, hh, hbw⟩ hK
      rw [hW0] at hD
      subst hD
      gi_wp2
      refine ⟨by simp, .inl ⟨_, _, rfl, run_takeDeferred hK, ?_⟩⟩
      have q0 := block_cell (put_far (D := w.heap.size + 4) (o' := .deferred none) h0 (by omega))
      have q1 := block_cell (put_far (D := w.heap.size + 4) (o' := .deferred none) h1 (by omega))
      refine ⟨.tuple #[.slice none 0 0, .iface 72 (.pointer (some ⟨b, 0, none⟩))], (by simp [results, Tryz.results6, go_sem, q0, q1]), ?_⟩
      have hNW : w.heap.size ≤ W.heap.size := Nat.le_of_lt (lt_of_cells h0)
      refine ⟨below_put hbw hNW (by omega) _, .inr ⟨code, line, col, _, ?_, hc2, rfl, b, by omega, rfl, put_far hh (by omega)⟩⟩
      rw [HP.out, hs1]
  · rw [hz] at hs
    have hsz : s.size ≤ 65536 := by omega
    have hlt : s.size - 1 < s.size := by omega
    clear hz
    have h2 : ((s[s.size - 1].toNat : Int) != 10) = false := by rw [h1]; rfl
    refine callsIn_of_wp_marks Tryz.func6 rfl trivial ?_ rfl
    simp only [Tryz.ntmps6, List.size_toArray, List.length_cons, List.length_nil, Nat.reduceAdd, Nat.reduceSub, Array.replicate_succ, Array.replicate_zero, List.push_toArray, List.append_toArray, List.nil_append, List.cons_append]
    gi_wp2_with (first | (refine ⟨trivial, ?_⟩; gi_at_call 18; refine (callsIn_wide.2 (lines_any _ _)).mono ?_; rintro e w' ⟨rfl, rfl⟩))
    have hW0 : ((((w.alloc (.cells #[.slice none 0 0] 38)).alloc (.cells #[.nilIface] 40)).alloc (.cells #[.slice none 0 0] 38)).alloc (.cells #[.string s] 9)).heap.size = w.heap.size + 4 := by simp
    refine wpIn_rangeFunc_set (by omega) (gf := 75) (lb := #[.pointer (some ⟨w.heap.size + 3, 0, none⟩)]) ?hg trivial (enters_of Tryz.func75 (by kernel_rfl) rfl)
      (enc := fun x : Nat × List UInt8 => #[.int .i64 (x.1 : Int), .string ⟨x.2.toArray⟩]) (S := Seven (w.heap.size + 6)) (Z := w.heap.size + 13) (xs := said 1 (Lx.cuts s.data.toList)) rfl ?hseq (fun _ => rfl) (by rw [hW0]; unfold Seven; omega) (by rw [hW0]; unfold Seven; omega)
      (ParseID w.heap.size w (said 1 (Lx.cuts s.data.toList))) (ParseXD w.heap.size w E (said 1 (Lx.cuts s.data.toList))) (by rw [hW0]; exact parseI_asideD) (fun c => by rw [hW0]; exact parseX_asideD c) ?h0 (fun x => { tmps := #[.string s, undef, .pointer (some ⟨w.heap.size, 0, none⟩), .pointer (some ⟨w.heap.size + 1, 0, none⟩), .int .i64 (s.size : Int), .pointer (some ⟨w.heap.size + 1 + 1, 0, none⟩), .int .i64 (x.1 : Int), .string ⟨x.2.toArray⟩, undef, undef, .string s, .int .i64 (s.size : Int), .int .i64 (s.size : Int), .bool true, .bool true, .string s, .int .i64 (s.size : Int), .int .i64 ((s.size : Int) - 1), .int .u8 10, .bool false, .bool false, undef, undef, .int .i64 (s.size : Int), .bool (decide ((65536 : Int) < (s.size : Int))), undef, undef, .string s, .func (.func 75) #[] #[.pointer (some ⟨w.heap.size + 1 + 1 + 1, 0, none⟩)], .int .i64 (x.1 : Int), .string ⟨x.2.toArray⟩, undef, undef, undef, undef, undef, undef, undef, undef, undef, undef, undef, undef, undef, undef, undef, undef, undef, undef, undef, undef, undef, undef, undef], defers := [] }) ?assign ?body ?done ?stop
    case hg => rfl
    case hseq =>
      have := lines_seq (6 - 1) (w.heap.size + 3) s ((((w.alloc (.cells #[.slice none 0 0] 38)).alloc (.cells #[.nilIface] 40)).alloc (.cells #[.slice none 0 0] 38)).alloc (.cells #[.string s] 9)) (alloc_at _ _ _ (by simp)) hsz
      rw [hW0] at this
      exact this
    case h0 =>
      exact ⟨[], none, 0, alloc_old (alloc_old (alloc_old (alloc_at _ _ _ rfl) _) _) _, alloc_old (alloc_old (alloc_at _ _ _ (by simp)) _) _, alloc_old (alloc_at _ _ _ (by simp)) _, ⟨[], OwnD.nil _ _⟩, (((((Below.refl _ w).alloc (Nat.le_refl _) _).alloc (by simp) _).alloc (by simp; omega) _).alloc (by simp; omega) _), by rw [hW0]; exact Nat.le_refl _, Nat.zero_le _, rfl⟩
    case assign =>
      intro l x W K hK
      gi_wp2
      exact hK
    case body =>
      rintro l pre ⟨no, t⟩ W _ hZ ⟨cs, A, cap, h⟩ hpre
      have htl := said_part hpre
      simp only [] at htl
      have hE1 : Laid E three W := hE.below h.below
      have HR := Lib.hid h.rel
      have HPre := Lib.hid hpre
      have hlen := h.len
      have hts : (⟨t.toArray⟩ : ByteArray).size ≤ 65536 := by simp [ByteArray.size]; omega
      clear hpre
      rw [hW0]
      cases hc : Sc.command t with
      | none =>
        have HX := Lib.hid (runs_none HR.out HPre.out hc)
        have HC := Lib.hid hc
        clear hc
        gi_wp2_with (first
          | (refine ⟨trivial, ?_⟩; gi_at_call 19; refine (CallsIn.inRound l (callsIn_wide.2 (command_no ⟨t.toArray⟩ E W hE1.two_of3 hts HC.out))).mono ?_; rintro e w1 ⟨v0, v1, B, m, kc, rfl, hb1⟩;
              have hE2 := hE1.below hb1; have hg19 : w1.cell? ⟨1, 0, none⟩ = some (E.val 19) := hE2.cell 19 (by simp); have hlt19 := cell_lt hg19;
              have hf1 : ∀ k o, W.heap[k]? = some o → w1.heap[k]? = some o := (fun k o hk => (hb1.block k (lt_of_cells hk)).trans hk);
              have k0 := block_cell (hf1 _ _ h.r0); have k1 := block_cell (hf1 _ _ h.r1); have g0 := block_frozen (hf1 _ _ h.r0) 0; have g1 := block_frozen (hf1 _ _ h.r1) 0; have l0 := lt_of_cells (hf1 _ _ h.r0); have l1 := lt_of_cells (hf1 _ _ h.r1))
          | (refine ⟨trivial, ?_⟩; gi_at_call 20; refine (CallsIn.inRound l (callsIn_wide.2 (at_any _ _ _ _ _ _))).mono ?_; rintro e w2 ⟨rfl, rfl⟩))
        have F : ∀ k o, W.heap[k]? = some o → (k ≠ w.heap.size ∧ k ≠ w.heap.size + 1) → _ := fun k o hk hne => alloc_old (alloc_old (block_far (block_far (hf1 k o hk) hne.1 (.slice none 0 0)) hne.2 (.iface 72 (.pointer (some ⟨w1.heap.size + 1, 0, none⟩)))) (.cells #[.string v0, .string v1, .slice B m kc] 52)) (.cells #[.string scriptB, .int .i64 (no : Int), .int .i64 0, E.val 19] 75)
        have hB1 : Below w.heap.size w w1 := h.below.trans (hb1.mono h.below.size)
        have hs1 := hb1.size
        refine ⟨⟨keeps_of (p := fun k => k ≠ w.heap.size ∧ k ≠ w.heap.size + 1) F (by omega) (by constructor <;> omega), keeps_of (p := fun k => k ≠ w.heap.size ∧ k ≠ w.heap.size + 1) F (by omega) (by constructor <;> omega)⟩, fun b hb => keeps_of (p := fun k => k ≠ w.heap.size ∧ k ≠ w.heap.size + 1) F (by have := hb.2; omega) (by have := hb.1; constructor <;> omega), rfl, 19, no, 0, w1.heap.size + 1, HX.out, .inr rfl,
          alloc_old (alloc_old (block_far (block_set (hf1 _ _ h.r0) _) (by omega) _) _) _, alloc_old (alloc_old (block_set (block_far (hf1 _ _ h.r1) (by omega) _) _) _) _, by omega, alloc_at _ _ _ (by simp [World.setCell]), ?_⟩
        exact ((((hB1.setCell (p := ⟨w.heap.size, 0, none⟩) (Nat.le_refl _) _).setCell (p := ⟨w.heap.size + 1, 0, none⟩) (by simp) _).alloc (by simp [World.setCell]; omega) _).alloc (by simp [World.setCell]; omega) _)
      | some c =>
        have HC := Lib.hid hc
        by_cases hl : cs.length = 1000
        · have HX := Lib.hid (runs_long HR.out HPre.out hc (by omega))
          have hl2 : ((cs.length : Int) == 1000) = true := by simp [hl]
          clear hc
          gi_wp2_with (first
            | (refine ⟨trivial, ?_⟩; gi_at_call 19; refine (CallsIn.inRound l (callsIn_wide.2 (command_ok ⟨t.toArray⟩ E W hE1.two_of3 hts c HC.out))).mono ?_; rintro e w1 ⟨B, m, kc, rfl, hb1, hrow1⟩;
                have hE2 := hE1.below hb1; have hg2 : w1.cell? ⟨0, 0, none⟩ = some (E.val 2) := hE2.cell 2 (by simp); have hlt2 := cell_lt hg2;
                have hf1 : ∀ k o, W.heap[k]? = some o → w1.heap[k]? = some o := (fun k o hk => (hb1.block k (lt_of_cells hk)).trans hk);
                have k0 := block_cell (hf1 _ _ h.r0); have k1 := block_cell (hf1 _ _ h.r1); have k2 := block_cell (hf1 _ _ h.out); have g0 := block_frozen (hf1 _ _ h.r0) 0; have g1 := block_frozen (hf1 _ _ h.r1) 0; have l0 := lt_of_cells (hf1 _ _ h.r0); have l1 := lt_of_cells (hf1 _ _ h.r1); have l2 := lt_of_cells (hf1 _ _ h.out))
            | (refine ⟨trivial, ?_⟩; gi_at_call 20; refine (CallsIn.inRound l (callsIn_wide.2 (at_any _ _ _ _ _ _))).mono ?_; rintro e w2 ⟨rfl, rfl⟩))
          have F : ∀ k o, W.heap[k]? = some o → (k ≠ w.heap.size ∧ k ≠ w.heap.size + 1) → _ := fun k o hk hne => alloc_old (alloc_old (block_far (block_far (hf1 k o hk) hne.1 (.slice none 0 0)) hne.2 (.iface 72 (.pointer (some ⟨w1.heap.size + 1, 0, none⟩)))) (.cells #[.string ⟨c.word.toArray⟩, .string ⟨c.text.toArray⟩, .slice B m kc] 52)) (.cells #[.string scriptB, .int .i64 (no : Int), .int .i64 0, E.val 2] 75)
          have hB1 : Below w.heap.size w w1 := h.below.trans (hb1.mono h.below.size)
          have hs1 := hb1.size
          refine ⟨⟨keeps_of (p := fun k => k ≠ w.heap.size ∧ k ≠ w.heap.size + 1) F (by omega) (by constructor <;> omega), keeps_of (p := fun k => k ≠ w.heap.size ∧ k ≠ w.heap.size + 1) F (by omega) (by constructor <;> omega)⟩, fun b hb => keeps_of (p := fun k => k ≠ w.heap.size ∧ k ≠ w.heap.size + 1) F (by have := hb.2; omega) (by have := hb.1; constructor <;> omega), rfl, 2, no, 0, w1.heap.size + 1, HX.out, .inl rfl,
            alloc_old (alloc_old (block_far (block_set (hf1 _ _ h.r0) _) (by omega) _) _) _, alloc_old (alloc_old (block_set (block_far (hf1 _ _ h.r1) (by omega) _) _) _) _, by omega, alloc_at _ _ _ (by simp [World.setCell]), ?_⟩
          exact ((((hB1.setCell (p := ⟨w.heap.size, 0, none⟩) (Nat.le_refl _) _).setCell (p := ⟨w.heap.size + 1, 0, none⟩) (by simp) _).alloc (by simp [World.setCell]; omega) _).alloc (by simp [World.setCell]; omega) _)
        · have hl3 : cs.length < 1000 := by omega
          have HN := Lib.hid (runs_step HR.out HPre.out hc hl3)
          have hl2 : ((cs.length : Int) == 1000) = false := by rw [beq_eq_false_iff_ne]; omega
          clear hc hl hlen
          obtain ⟨us, hD⟩ := h.own
          have HD := Lib.hid hD
          have hus1 := hD.2.1
          clear hD
          gi_wp2_with (first
            | (refine ⟨trivial, ?_⟩; gi_at_call 19; refine (CallsIn.inRound l (callsIn_wide.2 (command_ok ⟨t.toArray⟩ E W hE1.two_of3 hts c HC.out))).mono ?_; rintro e w1 ⟨B, m, kc, rfl, hb1, hrow1⟩;
                have HRow := Lib.hid hrow1; clear hrow1;
                have hf1 : ∀ k o, W.heap[k]? = some o → w1.heap[k]? = some o := (fun k o hk => (hb1.block k (lt_of_cells hk)).trans hk);
                have hown1 := own_keep hus1 (fun k cs t _ hh => hf1 k _ hh); have hs1 := hb1.size;
                have k2 := block_cell (hf1 _ _ h.out); have g2 := block_frozen (hf1 _ _ h.out) 0; have l2 := lt_of_cells (hf1 _ _ h.out))
            | (gi_at_builtin; refine wpListIn_append_own _ rfl _ _ 38 rfl (w.heap.size + 13) 52 i0 _ 3 56 Tryz.underlying38 hi hz0 hz1 hz2' rfl (by decide) _ _ _ rfl ((hown1.alloc _).alloc _) ⟨w1.heap.size + 1, 0, none⟩ 1 1 (cmdCells c (.slice B m kc)) rfl rfl (new_cells2 w1 _ (cmdCells c (.slice B m kc)) _) (cmd_oneCell c B m kc) (by unfold maxLen; omega) (by omega) (by simp; omega) ?_; intro v2 w2 hown2 hg2 _; obtain ⟨A2, cap2, rfl⟩ := own_slice hown2;
                have HA := Lib.hid (far_app ((hown1.alloc _).alloc _) hg2); have m2 := block_cell (HA.out _ _ (alloc_old (alloc_old (hf1 _ _ h.out) _) _) (.inl (by omega))); have n2 := block_frozen (HA.out _ _ (alloc_old (alloc_old (hf1 _ _ h.out) _) _) (.inl (by omega))) 0))
          have hs2 := hg2.size
          simp only [World.size_alloc] at hs2
          have F : ∀ k o, W.heap[k]? = some o → (k < w.heap.size + 13 ∧ k ≠ w.heap.size + 1 + 1) → (w2.setCell ⟨w.heap.size + 1 + 1, 0, none⟩ (.slice A2 (cs.length + 1) cap2)).heap[k]? = some o := fun k o hk hne => block_far (HA.out k o (alloc_old (alloc_old (hf1 k o hk) _) _) (.inl hne.1)) hne.2 _
          have hB1 : Below w.heap.size w w1 := h.below.trans (hb1.mono h.below.size)
          have hB2 := below_append ((hB1.alloc hB1.size _).alloc (by simp; have := hB1.size; omega) _) ((hown1.alloc _).alloc _) (by omega) (by simp; have := hB1.size; omega) hg2
          have hOut := (HD.out.keep (W' := (w1.alloc _).alloc _) fun b _ _ _ _ hh => alloc_old (alloc_old (hf1 b _ hh) _) _).append (S := W.heap.size) (HRow.out.keep fun b _ _ _ hh => alloc_old (alloc_old hh _) _) (by omega) (fun x hx g hgx => by
            obtain ⟨q, hq⟩ := List.getElem?_of_mem hx
            obtain ⟨y, hy1, hy2⟩ := HD.out.2.2.1 q _ (List.getElem?_eq_getElem (by rw [← HD.out.1]; exact (List.getElem?_eq_some_iff.1 hq).1))
            rw [hq] at hy1
            obtain rfl := Option.some.inj hy1
            exact (hy2.lt g hgx).2) hown2 hg2
          refine ⟨⟨keeps_of (p := fun k => k < w.heap.size + 13 ∧ k ≠ w.heap.size + 1 + 1) F (by omega) (by constructor <;> omega), keeps_of (p := fun k => k < w.heap.size + 13 ∧ k ≠ w.heap.size + 1 + 1) F (by omega) (by constructor <;> omega)⟩, fun b hb => keeps_of (p := fun k => k < w.heap.size + 13 ∧ k ≠ w.heap.size + 1 + 1) F (by have := hb.2; omega) (by have := hb.1; have := hb.2; constructor <;> omega), cs ++ [c], A2, cap2,
            F _ _ h.r0 (by omega), F _ _ h.r1 (by omega), ?_, ?_, hB2.setCell (p := ⟨w.heap.size + 1 + 1, 0, none⟩) (by simp; omega) _, by simp [World.setCell]; omega, by simp; omega, HN.out⟩
          · rw [List.length_append]; exact block_set (HA.out _ _ (alloc_old (alloc_old (hf1 _ _ h.out) _) _) (.inl (by omega))) _
          · rw [List.length_append]; exact ⟨_, hOut.keep fun b _ _ hb _ hh => block_far hh (by omega) _⟩
    case done =>
      rintro D W hD ⟨cs, A, cap, h⟩ hK
      rw [hW0] at hD
      subst hD
      have c2 := block_cell h.out
      have c0 := block_cell h.r0
      have c1 := block_cell h.r1
      have f0 := block_frozen h.r0 0
      have f1 := block_frozen h.r1 0
      gi_wp2
      have e0 := block_far (block_set h.r0 (.slice A cs.length cap)) (show w.heap.size ≠ w.heap.size + 1 by omega) .nilIface
      have e1 := block_set (block_far h.r1 (show w.heap.size + 1 ≠ w.heap.size by omega) (.slice A cs.length cap)) .nilIface
      have hK' := block_far (block_far hK (show w.heap.size + 4 ≠ w.heap.size by omega) (.slice A cs.length cap)) (show w.heap.size + 4 ≠ w.heap.size + 1 by omega) .nilIface
      refine ⟨by simp, .inl ⟨_, _, rfl, run_takeDeferred hK', ?_⟩⟩
      have q0 := block_cell (put_far (D := w.heap.size + 4) (o' := .deferred none) e0 (by omega))
      have q1 := block_cell (put_far (D := w.heap.size + 4) (o' := .deferred none) e1 (by omega))
      refine ⟨.tuple #[.slice A cs.length cap, .nilIface], (by simp [results, Tryz.results6, go_sem, q0, q1]), ?_⟩
      have hNW : w.heap.size ≤ W.heap.size := Nat.le_of_lt (lt_of_cells h.r0)
      refine ⟨below_put ((h.below.setCell (p := ⟨w.heap.size, 0, none⟩) (Nat.le_refl _) _).setCell (p := ⟨w.heap.size + 1, 0, none⟩) (by simp) _) (by simpa [World.setCell] using hNW) (by omega) _, .inl ⟨cs, _, ?_, rfl, ?_, h.len⟩⟩
      · have ht := h.rel
        rw [List.drop_length] at ht
        rw [HP.out, ← ht]
        simp only [runs, mores_ok, List.append_nil]
      · obtain ⟨us, hD⟩ := h.own
        exact ⟨us, (hD.keep fun b _ _ hb _ hh => put_far (block_far (block_far hh (by omega) _) (by omega) _) (by omega)).low (by omega)⟩
    case stop =>
      rintro D c pre W hD hpre ⟨rfl, code, line, col, b, hs1, hc2, h0, h1, hb, hh, hbw⟩ hK
      rw [hW0] at hD
      subst hD
      gi_wp2
      refine ⟨by simp, .inl ⟨_, _, rfl, run_takeDeferred hK, ?_⟩⟩
      have q0 := block_cell (put_far (D := w.heap.size + 4) (o' := .deferred none) h0 (by omega))
      have q1 := block_cell (put_far (D := w.heap.size + 4) (o' := .deferred none) h1 (by omega))
      refine ⟨.tuple #[.slice none 0 0, .iface 72 (.pointer (some ⟨b, 0, none⟩))], (by simp [results, Tryz.results6, go_sem, q0, q1]), ?_⟩
      have hNW : w.heap.size ≤ W.heap.size := Nat.le_of_lt (lt_of_cells h0)
      refine ⟨below_put hbw hNW (by omega) _, .inr ⟨code, line, col, _, ?_, hc2, rfl, b, by omega, rfl, put_far hh (by omega)⟩⟩
      rw [HP.out, hs1]
  · rw [hz] at hs
    have hsz : s.size ≤ 65536 := by omega
    have hlt : s.size - 1 < s.size := by omega
    have hs3 : (s.size : Int) ≤ 70000 := by omega
    have hs4 : decide ((65536 : Int) < (s.size : Int) + 1) = false := by rw [decide_eq_false_iff_not]; omega
    clear hs hz
    have h2 : ((s[s.size - 1].toNat : Int) != 10) = true := by (simp only [bne_iff_ne]; exact fun e => h1 (UInt8.toNat_inj.1 (by show s[s.size - 1].toNat = 10; omega)))
    clear h1
    refine callsIn_of_wp_marks Tryz.func6 rfl trivial ?_ rfl
    simp only [Tryz.ntmps6, List.size_toArray, List.length_cons, List.length_nil, Nat.reduceAdd, Nat.reduceSub, Array.replicate_succ, Array.replicate_zero, List.push_toArray, List.append_toArray, List.nil_append, List.cons_append]
    gi_wp2_with (first | (refine ⟨trivial, ?_⟩; gi_at_call 18; refine (callsIn_wide.2 (lines_any _ _)).mono ?_; rintro e w' ⟨rfl, rfl⟩))
    have hW0 : ((((w.alloc (.cells #[.slice none 0 0] 38)).alloc (.cells #[.nilIface] 40)).alloc (.cells #[.slice none 0 0] 38)).alloc (.cells #[.string s] 9)).heap.size = w.heap.size + 4 := by simp
    refine wpIn_rangeFunc_set (by omega) (gf := 75) (lb := #[.pointer (some ⟨w.heap.size + 3, 0, none⟩)]) ?hg trivial (enters_of Tryz.func75 (by kernel_rfl) rfl)
      (enc := fun x : Nat × List UInt8 => #[.int .i64 (x.1 : Int), .string ⟨x.2.toArray⟩]) (S := Seven (w.heap.size + 6)) (Z := w.heap.size + 13) (xs := said 1 (Lx.cuts s.data.toList)) rfl ?hseq (fun _ => rfl) (by rw [hW0]; unfold Seven; omega) (by rw [hW0]; unfold Seven; omega)
      (ParseID w.heap.size w (said 1 (Lx.cuts s.data.toList))) (ParseXD w.heap.size w E (said 1 (Lx.cuts s.data.toList))) (by rw [hW0]; exact parseI_asideD) (fun c => by rw [hW0]; exact parseX_asideD c) ?h0 (fun x => { tmps := #[.string s, undef, .pointer (some ⟨w.heap.size, 0, none⟩), .pointer (some ⟨w.heap.size + 1, 0, none⟩), .int .i64 ((s.size : Int) + 1), .pointer (some ⟨w.heap.size + 1 + 1, 0, none⟩), .int .i64 (x.1 : Int), .string ⟨x.2.toArray⟩, undef, undef, .string s, .int .i64 (s.size : Int), .int .i64 (s.size : Int), .bool true, .bool true, .string s, .int .i64 (s.size : Int), .int .i64 ((s.size : Int) - 1), .int .u8 (s[s.size - 1].toNat : Int), .bool true, .bool true, .int .i64 (s.size : Int), .int .i64 ((s.size : Int) + 1), .int .i64 ((s.size : Int) + 1), .bool false, undef, undef, .string s, .func (.func 75) #[] #[.pointer (some ⟨w.heap.size + 1 + 1 + 1, 0, none⟩)], .int .i64 (x.1 : Int), .string ⟨x.2.toArray⟩, undef, undef, undef, undef, undef, undef, undef, undef, undef, undef, undef, undef, undef, undef, undef, undef, undef, undef, undef, undef, undef, undef, undef], defers := [] }) ?assign ?body ?done ?stop
    case hg => rfl
    case hseq =>
      have := lines_seq (6 - 1) (w.heap.size + 3) s ((((w.alloc (.cells #[.slice none 0 0] 38)).alloc (.cells #[.nilIface] 40)).alloc (.cells #[.slice none 0 0] 38)).alloc (.cells #[.string s] 9)) (alloc_at _ _ _ (by simp)) hsz
      rw [hW0] at this
      exact this
    case h0 =>
      exact ⟨[], none, 0, alloc_old (alloc_old (alloc_old (alloc_at _ _ _ rfl) _) _) _, alloc_old (alloc_old (alloc_at _ _ _ (by simp)) _) _, alloc_old (alloc_at _ _ _ (by simp)) _, ⟨[], OwnD.nil _ _⟩, (((((Below.refl _ w).alloc (Nat.le_refl _) _).alloc (by simp) _).alloc (by simp; omega) _).alloc (by simp; omega) _), by rw [hW0]; exact Nat.le_refl _, Nat.zero_le _, rfl⟩
    case assign =>
      intro l x W K hK
      gi_wp2
      exact hK
    case body =>
      rintro l pre ⟨no, t⟩ W _ hZ ⟨cs, A, cap, h⟩ hpre
      have htl := said_part hpre
      simp only [] at htl
      have hE1 : Laid E three W := hE.below h.below
      have HR := Lib.hid h.rel
      have HPre := Lib.hid hpre
      have hlen := h.len
      have hts : (⟨t.toArray⟩ : ByteArray).size ≤ 65536 := by simp [ByteArray.size]; omega
      clear hpre
      rw [hW0]
      cases hc : Sc.command t with
      | none =>
        have HX := Lib.hid (runs_none HR.out HPre.out hc)
        have HC := Lib.hid hc
        clear hc
        gi_wp2_with (first
          | (refine ⟨trivial, ?_⟩; gi_at_call 19; refine (CallsIn.inRound l (callsIn_wide.2 (command_no ⟨t.toArray⟩ E W hE1.two_of3 hts HC.out))).mono ?_; rintro e w1 ⟨v0, v1, B, m, kc, rfl, hb1⟩;
              have hE2 := hE1.below hb1; have hg19 : w1.cell? ⟨1, 0, none⟩ = some (E.val 19) := hE2.cell 19 (by simp); have hlt19 := cell_lt hg19;
              have hf1 : ∀ k o, W.heap[k]? = some o → w1.heap[k]? = some o := (fun k o hk => (hb1.block k (lt_of_cells hk)).trans hk);
              have k0 := block_cell (hf1 _ _ h.r0); have k1 := block_cell (hf1 _ _ h.r1); have g0 := block_frozen (hf1 _ _ h.r0) 0; have g1 := block_frozen (hf1 _ _ h.r1) 0; have l0 := lt_of_cells (hf1 _ _ h.r0); have l1 := lt_of_cells (hf1 _ _ h.r1))
          | (refine ⟨trivial, ?_⟩; gi_at_call 20; refine (CallsIn.inRound l (callsIn_wide.2 (at_any _ _ _ _ _ _))).mono ?_; rintro e w2 ⟨rfl, rfl⟩))
        have F : ∀ k o, W.heap[k]? = some o → (k ≠ w.heap.size ∧ k ≠ w.heap.size + 1) → _ := fun k o hk hne => alloc_old (alloc_old (block_far (block_far (hf1 k o hk) hne.1 (.slice none 0 0)) hne.2 (.iface 72 (.pointer (some ⟨w1.heap.size + 1, 0, none⟩)))) (.cells #[.string v0, .string v1, .slice B m kc] 52)) (.cells #[.string scriptB, .int .i64 (no : Int), .int .i64 0, E.val 19] 75)
        have hB1 : Below w.heap.size w w1 := h.below.trans (hb1.mono h.below.size)
        have hs1 := hb1.size
        refine ⟨⟨keeps_of (p := fun k => k ≠ w.heap.size ∧ k ≠ w.heap.size + 1) F (by omega) (by constructor <;> omega), keeps_of (p := fun k => k ≠ w.heap.size ∧ k ≠ w.heap.size + 1) F (by omega) (by constructor <;> omega)⟩, fun b hb => keeps_of (p := fun k => k ≠ w.heap.size ∧ k ≠ w.heap.size + 1) F (by have := hb.2; omega) (by have := hb.1; constructor <;> omega), rfl, 19, no, 0, w1.heap.size + 1, HX.out, .inr rfl,
          alloc_old (alloc_old (block_far (block_set (hf1 _ _ h.r0) _) (by omega) _) _) _, alloc_old (alloc_old (block_set (block_far (hf1 _ _ h.r1) (by omega) _) _) _) _, by omega, alloc_at _ _ _ (by simp [World.setCell]), ?_⟩
        exact ((((hB1.setCell (p := ⟨w.heap.size, 0, none⟩) (Nat.le_refl _) _).setCell (p := ⟨w.heap.size + 1, 0, none⟩) (by simp) _).alloc (by simp [World.setCell]; omega) _).alloc (by simp [World.setCell]; omega) _)
      | some c =>
        have HC := Lib.hid hc
        by_cases hl : cs.length = 1000
        · have HX := Lib.hid (runs_long HR.out HPre.out hc (by omega))
          have hl2 : ((cs.length : Int) == 1000) = true := by simp [hl]
          clear hc
          gi_wp2_with (first
            | (refine ⟨trivial, ?_⟩; gi_at_call 19; refine (CallsIn.inRound l (callsIn_wide.2 (command_ok ⟨t.toArray⟩ E W hE1.two_of3 hts c HC.out))).mono ?_; rintro e w1 ⟨B, m, kc, rfl, hb1, hrow1⟩;
                have hE2 := hE1.below hb1; have hg2 : w1.cell? ⟨0, 0, none⟩ = some (E.val 2) := hE2.cell 2 (by simp); have hlt2 := cell_lt hg2;
                have hf1 : ∀ k o, W.heap[k]? = some o → w1.heap[k]? = some o := (fun k o hk => (hb1.block k (lt_of_cells hk)).trans hk);
                have k0 := block_cell (hf1 _ _ h.r0); have k1 := block_cell (hf1 _ _ h.r1); have k2 := block_cell (hf1 _ _ h.out); have g0 := block_frozen (hf1 _ _ h.r0) 0; have g1 := block_frozen (hf1 _ _ h.r1) 0; have l0 := lt_of_cells (hf1 _ _ h.r0); have l1 := lt_of_cells (hf1 _ _ h.r1); have l2 := lt_of_cells (hf1 _ _ h.out))
            | (refine ⟨trivial, ?_⟩; gi_at_call 20; refine (CallsIn.inRound l (callsIn_wide.2 (at_any _ _ _ _ _ _))).mono ?_; rintro e w2 ⟨rfl, rfl⟩))
          have F : ∀ k o, W.heap[k]? = some o → (k ≠ w.heap.size ∧ k ≠ w.heap.size + 1) → _ := fun k o hk hne => alloc_old (alloc_old (block_far (block_far (hf1 k o hk) hne.1 (.slice none 0 0)) hne.2 (.iface 72 (.pointer (some ⟨w1.heap.size + 1, 0, none⟩)))) (.cells #[.string ⟨c.word.toArray⟩, .string ⟨c.text.toArray⟩, .slice B m kc] 52)) (.cells #[.string scriptB, .int .i64 (no : Int), .int .i64 0, E.val 2] 75)
          have hB1 : Below w.heap.size w w1 := h.below.trans (hb1.mono h.below.size)
          have hs1 := hb1.size
          refine ⟨⟨keeps_of (p := fun k => k ≠ w.heap.size ∧ k ≠ w.heap.size + 1) F (by omega) (by constructor <;> omega), keeps_of (p := fun k => k ≠ w.heap.size ∧ k ≠ w.heap.size + 1) F (by omega) (by constructor <;> omega)⟩, fun b hb => keeps_of (p := fun k => k ≠ w.heap.size ∧ k ≠ w.heap.size + 1) F (by have := hb.2; omega) (by have := hb.1; constructor <;> omega), rfl, 2, no, 0, w1.heap.size + 1, HX.out, .inl rfl,
            alloc_old (alloc_old (block_far (block_set (hf1 _ _ h.r0) _) (by omega) _) _) _, alloc_old (alloc_old (block_set (block_far (hf1 _ _ h.r1) (by omega) _) _) _) _, by omega, alloc_at _ _ _ (by simp [World.setCell]), ?_⟩
          exact ((((hB1.setCell (p := ⟨w.heap.size, 0, none⟩) (Nat.le_refl _) _).setCell (p := ⟨w.heap.size + 1, 0, none⟩) (by simp) _).alloc (by simp [World.setCell]; omega) _).alloc (by simp [World.setCell]; omega) _)
        · have hl3 : cs.length < 1000 := by omega
          have HN := Lib.hid (runs_step HR.out HPre.out hc hl3)
          have hl2 : ((cs.length : Int) == 1000) = false := by rw [beq_eq_false_iff_ne]; omega
          clear hc hl hlen
          obtain ⟨us, hD⟩ := h.own
          have HD := Lib.hid hD
          have hus1 := hD.2.1
          clear hD
          gi_wp2_with (first
            | (refine ⟨trivial, ?_⟩; gi_at_call 19; refine (CallsIn.inRound l (callsIn_wide.2 (command_ok ⟨t.toArray⟩ E W hE1.two_of3 hts c HC.out))).mono ?_; rintro e w1 ⟨B, m, kc, rfl, hb1, hrow1⟩;
                have HRow := Lib.hid hrow1; clear hrow1;
                have hf1 : ∀ k o, W.heap[k]? = some o → w1.heap[k]? = some o := (fun k o hk => (hb1.block k (lt_of_cells hk)).trans hk);
                have hown1 := own_keep hus1 (fun k cs t _ hh => hf1 k _ hh); have hs1 := hb1.size;
                have k2 := block_cell (hf1 _ _ h.out); have g2 := block_frozen (hf1 _ _ h.out) 0; have l2 := lt_of_cells (hf1 _ _ h.out))
            | (gi_at_builtin; refine wpListIn_append_own _ rfl _ _ 38 rfl (w.heap.size + 13) 52 i0 _ 3 56 Tryz.underlying38 hi hz0 hz1 hz2' rfl (by decide) _ _ _ rfl ((hown1.alloc _).alloc _) ⟨w1.heap.size + 1, 0, none⟩ 1 1 (cmdCells c (.slice B m kc)) rfl rfl (new_cells2 w1 _ (cmdCells c (.slice B m kc)) _) (cmd_oneCell c B m kc) (by unfold maxLen; omega) (by omega) (by simp; omega) ?_; intro v2 w2 hown2 hg2 _; obtain ⟨A2, cap2, rfl⟩ := own_slice hown2;
                have HA := Lib.hid (far_app ((hown1.alloc _).alloc _) hg2); have m2 := block_cell (HA.out _ _ (alloc_old (alloc_old (hf1 _ _ h.out) _) _) (.inl (by omega))); have n2 := block_frozen (HA.out _ _ (alloc_old (alloc_old (hf1 _ _ h.out) _) _) (.inl (by omega))) 0))
          have hs2 := hg2.size
          simp only [World.size_alloc] at hs2
          have F : ∀ k o, W.heap[k]? = some o → (k < w.heap.size + 13 ∧ k ≠ w.heap.size + 1 + 1) → (w2.setCell ⟨w.heap.size + 1 + 1, 0, none⟩ (.slice A2 (cs.length + 1) cap2)).heap[k]? = some o := fun k o hk hne => block_far (HA.out k o (alloc_old (alloc_old (hf1 k o hk) _) _) (.inl hne.1)) hne.2 _
          have hB1 : Below w.heap.size w w1 := h.below.trans (hb1.mono h.below.size)
          have hB2 := below_append ((hB1.alloc hB1.size _).alloc (by simp; have := hB1.size; omega) _) ((hown1.alloc _).alloc _) (by omega) (by simp; have := hB1.size; omega) hg2
          have hOut := (HD.out.keep (W' := (w1.alloc _).alloc _) fun b _ _ _ _ hh => alloc_old (alloc_old (hf1 b _ hh) _) _).append (S := W.heap.size) (HRow.out.keep fun b _ _ _ hh => alloc_old (alloc_old hh _) _) (by omega) (fun x hx g hgx => by
            obtain ⟨q, hq⟩ := List.getElem?_of_mem hx
            obtain ⟨y, hy1, hy2⟩ := HD.out.2.2.1 q _ (List.getElem?_eq_getElem (by rw [← HD.out.1]; exact (List.getElem?_eq_some_iff.1 hq).1))
            rw [hq] at hy1
            obtain rfl := Option.some.inj hy1
            exact (hy2.lt g hgx).2) hown2 hg2
          refine ⟨⟨keeps_of (p := fun k => k < w.heap.size + 13 ∧ k ≠ w.heap.size + 1 + 1) F (by omega) (by constructor <;> omega), keeps_of (p := fun k => k < w.heap.size + 13 ∧ k ≠ w.heap.size + 1 + 1) F (by omega) (by constructor <;> omega)⟩, fun b hb => keeps_of (p := fun k => k < w.heap.size + 13 ∧ k ≠ w.heap.size + 1 + 1) F (by have := hb.2; omega) (by have := hb.1; have := hb.2; constructor <;> omega), cs ++ [c], A2, cap2,
            F _ _ h.r0 (by omega), F _ _ h.r1 (by omega), ?_, ?_, hB2.setCell (p := ⟨w.heap.size + 1 + 1, 0, none⟩) (by simp; omega) _, by simp [World.setCell]; omega, by simp; omega, HN.out⟩
          · rw [List.length_append]; exact block_set (HA.out _ _ (alloc_old (alloc_old (hf1 _ _ h.out) _) _) (.inl (by omega))) _
          · rw [List.length_append]; exact ⟨_, hOut.keep fun b _ _ hb _ hh => block_far hh (by omega) _⟩
    case done =>
      rintro D W hD ⟨cs, A, cap, h⟩ hK
      rw [hW0] at hD
      subst hD
      have c2 := block_cell h.out
      have c0 := block_cell h.r0
      have c1 := block_cell h.r1
      have f0 := block_frozen h.r0 0
      have f1 := block_frozen h.r1 0
      gi_wp2
      have e0 := block_far (block_set h.r0 (.slice A cs.length cap)) (show w.heap.size ≠ w.heap.size + 1 by omega) .nilIface
      have e1 := block_set (block_far h.r1 (show w.heap.size + 1 ≠ w.heap.size by omega) (.slice A cs.length cap)) .nilIface
      have hK' := block_far (block_far hK (show w.heap.size + 4 ≠ w.heap.size by omega) (.slice A cs.length cap)) (show w.heap.size + 4 ≠ w.heap.size + 1 by omega) .nilIface
      refine ⟨by simp, .inl ⟨_, _, rfl, run_takeDeferred hK', ?_⟩⟩
      have q0 := block_cell (put_far (D := w.heap.size + 4) (o' := .deferred none) e0 (by omega))
      have q1 := block_cell (put_far (D := w.heap.size + 4) (o' := .deferred none) e1 (by omega))
      refine ⟨.tuple #[.slice A cs.length cap, .nilIface], (by simp [results, Tryz.results6, go_sem, q0, q1]), ?_⟩
      have hNW : w.heap.size ≤ W.heap.size := Nat.le_of_lt (lt_of_cells h.r0)
      refine ⟨below_put ((h.below.setCell (p := ⟨w.heap.size, 0, none⟩) (Nat.le_refl _) _).setCell (p := ⟨w.heap.size + 1, 0, none⟩) (by simp) _) (by simpa [World.setCell] using hNW) (by omega) _, .inl ⟨cs, _, ?_, rfl, ?_, h.len⟩⟩
      · have ht := h.rel
        rw [List.drop_length] at ht
        rw [HP.out, ← ht]
        simp only [runs, mores_ok, List.append_nil]
      · obtain ⟨us, hD⟩ := h.own
        exact ⟨us, (hD.keep fun b _ _ hb _ hh => put_far (block_far (block_far hh (by omega) _) (by omega) _) (by omega)).low (by omega)⟩
    case stop =>
      rintro D c pre W hD hpre ⟨rfl, code, line, col, b, hs1, hc2, h0, h1, hb, hh, hbw⟩ hK
      rw [hW0] at hD
      subst hD
      gi_wp2
      refine ⟨by simp, .inl ⟨_, _, rfl, run_takeDeferred hK, ?_⟩⟩
      have q0 := block_cell (put_far (D := w.heap.size + 4) (o' := .deferred none) h0 (by omega))
      have q1 := block_cell (put_far (D := w.heap.size + 4) (o' := .deferred none) h1 (by omega))
      refine ⟨.tuple #[.slice none 0 0, .iface 72 (.pointer (some ⟨b, 0, none⟩))], (by simp [results, Tryz.results6, go_sem, q0, q1]), ?_⟩
      have hNW : w.heap.size ≤ W.heap.size := Nat.le_of_lt (lt_of_cells h0)
      refine ⟨below_put hbw hNW (by omega) _, .inr ⟨code, line, col, _, ?_, hc2, rfl, b, by omega, rfl, put_far hh (by omega)⟩⟩
      rw [HP.out, hs1]

theorem parse_anyD (s : ByteArray) (E : Errs) (w : World) (hE : Laid E three w) (hsm : s.size ≤ 281474976710656) :
    Calls Tryz.prog 6 #[.string s] w (ParseEndsD s.data.toList E w) := by
  by_cases h : 65536 < Sc.size s.data.toList
  · exact parse_longD s E w hE h hsm
  · exact parse_loopD s E w hE h
theorem parseD_good (s : ByteArray) (E : Errs) (w : World) (hE : Laid E nineteen w) (hs : s.size ≤ 281474976710656) (cs : List Sc.Cmd) (h : Sc.parse s.data.toList = .ok cs) :
    Calls Tryz.prog 6 #[.string s] w fun e w' => ∃ A c us, e = .returned (.tuple #[.slice A cs.length c, .nilIface]) ∧ Below w.heap.size w w' ∧ OwnD w' w.heap.size (.slice A cs.length c) cs us ∧ cs.length ≤ 1000 :=
  (parse_anyD s E w hE.three_of hs).mono fun e w' hv => by
    rcases hv with ⟨hb, ⟨cs', v, h1, h2, ⟨us, h3⟩, h4⟩ | ⟨c, line, col, v, h1, _⟩⟩
    · rw [h] at h1; injection h1 with h1; subst h1
      obtain ⟨A, c, rfl⟩ := h3.owns.slice
      exact ⟨A, c, us, h2, hb, h3, h4⟩
    · rw [h] at h1; cases h1
end Go.Proofs.YtinobikikineiabGreatDoor
