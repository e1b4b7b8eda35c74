/- The walk of lexis's 'Scan': the words of a text, or the first error's fault. -/
import Derived.Test.YtinobikikineiaaDoorSplit
import Derived.Test.YtinobikikineiaaDoorPlainScan
namespace Go.Proofs.YtinobikikineiaaDoor
open Go.RowKit Go.Shelf

set_option maxHeartbeats 400000 in
theorem splitSeq_any (s : ByteArray) (w : World) :
    Calls Tryd.prog 31 #[.string s, .string ⟨#[10]⟩] w fun e w' =>
      e = .returned (.func (.func 57) #[] #[.pointer (some ⟨w.heap.size + 1, 0, none⟩), .pointer (some ⟨w.heap.size, 0, none⟩), .pointer (some ⟨w.heap.size + 2, 0, none⟩)]) ∧
      w' = ((w.alloc (.cells #[.string s] 9)).alloc (.cells #[.string ⟨#[10]⟩] 9)).alloc (.cells #[.int .i64 0] 3) := by
  go_enter Tryd.func31, Tryd.ntmps31
  go_wp2
  go_ret
  exact ⟨rfl, rfl⟩

set_option maxHeartbeats 400000 in
theorem new_any (layer : ByteArray) (T : TypeId) (a : Addr) (w : World) :
    Calls Tryd.prog 30 #[.string layer, .iface T (.pointer (some a))] w fun e w' =>
      e = .returned (.iface 41 (.pointer (some ⟨w.heap.size, 0, none⟩))) ∧ w' = w.alloc (.cells #[.string layer, .int .i64 0, .int .i64 0, .iface T (.pointer (some a))] 44) := by
  go_enter Tryd.func30, Tryd.ntmps30
  go_wp2
  go_ret
  exact ⟨rfl, rfl⟩

theorem alloc_old {w : World} {k : Nat} {c : Obj} (h : w.heap[k]? = some c) (o : Obj) : (w.alloc o).heap[k]? = some c := (Below.heap_alloc w o k (Array.getElem?_eq_some_iff.1 h).1).trans h
theorem alloc_at (w : World) (o : Obj) (k : Nat) (hk : k = w.heap.size) : (w.alloc o).heap[k]? = some o := by subst hk; exact heap_alloc_new w o
theorem block_frozen {W : World} {k : Nat} {cs : Array Value} {t : TypeId} (h : W.heap[k]? = some (.cells cs t (0, 0))) (i : Nat) : W.frozen? ⟨k, i, none⟩ = false := by
  simp [World.frozen?, h]
theorem block_cell {W : World} {k : Nat} {v : Value} {t : TypeId} (h : W.heap[k]? = some (.cells #[v] t (0, 0))) : W.cell? ⟨k, 0, none⟩ = some v := by
  rw [cell_of_row W k 0 _ t _ h]; rfl
theorem block_set {W : World} {k : Nat} {v : Value} {t : TypeId} (h : W.heap[k]? = some (.cells #[v] t (0, 0))) (u : Value) : (W.setCell ⟨k, 0, none⟩ u).heap[k]? = some (.cells #[u] t (0, 0)) := by
  simp [World.setCell, Array.getElem?_modify, h]
theorem block_far {W : World} {k j : Nat} {o : Obj} (h : W.heap[k]? = some o) (hj : k ≠ j) (u : Value) : (W.setCell ⟨j, 0, none⟩ u).heap[k]? = some o := (Below.heap_setCell W ⟨j, 0, none⟩ u k hj).trans h
theorem own_keep {A A' : World} {base : Nat} {e : TypeId} {size n : Nat} {v : Value} {xs : List Value} (h : A.ownsRow base e size v n xs) (hk : ∀ k cs t, base ≤ k → A.heap[k]? = some (.cells cs t (0, 0)) → A'.heap[k]? = some (.cells cs t (0, 0))) : A'.ownsRow base e size v n xs := by
  obtain ⟨hl, h0 | ⟨g, cap, cur, rfl, hbase, hh, h⟩⟩ := h
  · exact ⟨hl, .inl h0⟩
  · exact ⟨hl, .inr ⟨g, cap, cur, rfl, hbase, hk _ _ _ hbase hh, h⟩⟩
theorem put_far {W : World} {k D : Nat} {o o' : Obj} (h : W.heap[k]? = some o) (hD : k ≠ D) : (W.putObj D o').heap[k]? = some o := (World.putObj_heap_other hD).trans h
theorem below_put {N D : Nat} {w W : World} (h : Below N w W) (hs : N ≤ W.heap.size) (hD : N ≤ D) (o' : Obj) : Below N w (W.putObj D o') := h.grown (grownBy_putObj' W D o') hs (fun k e => by cases e; exact hD)
/-- In a fence: append to a row of the call's own where the source is nil. -/
theorem wpListIn_append_nil {F : Fence} {n : Nat} {P : Program} (w : World) {ops : Array Oper} {rest : List Oper} {o : Oper} {a : Act} {Q : Exit → Act → World → Prop}
    (hg : o.guard = none) (s x : Operand) (t : TypeId) (hop : o.op = Op.call { callee := Callee.builtin Builtin.append, args := #[s, x], argTypes := #[t, t] })
    (base : Nat) (e : TypeId) (i : TypeInfo) (size : Nat) (ht : P.underlying t = some (.slice e)) (hi : P.info? e = some i)
    (v : Value) (k : Nat) (xs : List Value) (hs : a.eval s = v) (hown : w.ownsRow base e size v k xs) (hx : a.eval x = .slice none 0 0)
    (hK : wpListIn F n P ops Q rest (a.put o.dst v) w) : wpListIn F n P ops Q (o :: rest) a w := by
  refine wpListIn_plain hg fun K hK' => ?_
  have hrun := run_append_owned_none (P := P) (w := w) base t o.type e i size ht hi v k xs hown
  unfold Oper.wpIn
  refine ⟨?_, ?_⟩
  · simp [Oper.about, hop, resolve, Target.leads, Sem.run_pure]
  · rw [Oper.semAt_plain F _ _ (by rw [hop]; intro c hc'; cases hc')]
    simp [execOp, hop, resolve, invoke, builtin, hs, hx, hrun, Result.andThen]
    exact hK' _ _ hK
/-- How 'Scan' ends. -/
def ScanEnds (l : List UInt8) (E : Errs) (w : World) (e : Ending) (w' : World) : Prop :=
  Below w.heap.size w w' ∧
  ((∃ ts v, Lx.scan l = .ok ts ∧ e = .returned (.tuple #[v, .nilIface]) ∧ Reads4 w' v (ts.map Lx.Tok.v)) ∨
   (∃ c line col v, Lx.scan l = .error (c, line, col) ∧ (c = 2 ∨ c = 4) ∧ e = .returned (.tuple #[.slice none 0 0, v]) ∧ IsFault w.heap.size w' v lexisB line col (E.val c)))

set_option maxHeartbeats 1000000 in
theorem scan_long (s : ByteArray) (E : Errs) (w : World) (hE : Laid E two w) (hs : 65536 < s.size) :
    Calls Tryd.prog 11 #[.string s] w (ScanEnds s.data.toList E w) := by
  have hL := ((hE.alloc (.cells #[.slice none 0 0] 22)).alloc (.cells #[.nilIface] 24)).long
  have HS : Hid (Lx.scan s.data.toList = .error (2, 0, 0)) := by show _ = _; unfold Lx.scan; rw [if_pos (by rw [bytes_size]; exact hs)]
  go_enter Tryd.func11, Tryd.ntmps11
  go_wp2_with (first | (go_at_call 30; refine (new_any _ _ _ _).mono ?_; rintro e w1 ⟨rfl, rfl⟩))
  refine bodyPost_ret (v := .tuple #[.slice none 0 0, .iface 41 (.pointer (some ⟨w.heap.size + 1 + 1, 0, none⟩))]) (by simp [results, Tryd.results11, go_sem]) rfl ?_
  refine ⟨(((Below.refl _ w).alloc (Nat.le_refl _) _).alloc (by simp) _).alloc (by simp; omega) _, .inr ⟨2, 0, 0, _, HS.out, .inl rfl, rfl, w.heap.size + 1 + 1, by omega, rfl, ?_⟩⟩
  have := heap_alloc_new ((w.alloc (.cells #[.slice none 0 0] 22)).alloc (.cells #[.iface 41 (.pointer (some ⟨w.heap.size + 1 + 1, 0, none⟩))] 24)) (.cells #[.string lexisB, .int .i64 0, .int .i64 0, E.val 2] 44)
  rw [World.size_alloc, World.size_alloc] at this
  exact this

/-- What the loop over the lines holds between two rounds, 'pre' being the lines that have come. -/
structure ScanAt (N : Nat) (w : World) (xs pre : List (List UInt8)) (ts : List Lx.Tok) (A : Option Addr) (cap : Nat) (W : World) : Prop where
  r0 : W.heap[N]? = some (.cells #[.slice none 0 0] 22 (0, 0))
  r1 : W.heap[N + 1]? = some (.cells #[.nilIface] 24 (0, 0))
  out : W.heap[N + 2]? = some (.cells #[.slice A ts.length cap] 22 (0, 0))
  no : W.heap[N + 3]? = some (.cells #[.int .i64 (pre.length : Int)] 3 (0, 0))
  own : W.ownsRow (N + 7) 29 4 (.slice A ts.length cap) ts.length (flat (ts.map Lx.Tok.v))
  below : Below N w W
  size : N + 7 ≤ W.heap.size
  len : ts.length ≤ 65537 * pre.length
  toks : Lx.prep ts (Lx.scanLines (pre.length + 1) (xs.drop pre.length)) = Lx.scanLines 1 xs
def ScanI (N : Nat) (w : World) (xs pre : List (List UInt8)) (W : World) : Prop := ∃ ts A cap, ScanAt N w xs pre ts A cap W
/-- What holds where a round has left the loop: the results. -/
def ScanX (N : Nat) (w : World) (E : Errs) (xs : List (List UInt8)) (c : Code) (_pre : List (List UInt8)) (W : World) : Prop :=
  c = .ret ∧ ∃ code line col b, Lx.scanLines 1 xs = .error (code, line, col) ∧ (code = 2 ∨ code = 4) ∧ W.heap[N]? = some (.cells #[.slice none 0 0] 22 (0, 0)) ∧
    W.heap[N + 1]? = some (.cells #[.iface 41 (.pointer (some ⟨b, 0, none⟩))] 24 (0, 0)) ∧ N + 7 ≤ b ∧
    W.heap[b]? = some (.cells #[.string lexisB, .int .i64 (line : Int), .int .i64 (col : Int), E.val code] 44 (0, 0)) ∧ Below N w W
theorem aside_block {bs B : Nat} {A A' : World} {row : Option Nat} (hg : A.grownBy A' row) (hr : ∀ r, row = some r → r = bs ∨ (B ≤ r ∧ ∃ o : Obj, A.heap[r]? = some o ∧ o.isCells = false)) {k : Nat} {cs : Array Value} {t : TypeId} (hk : k ≠ bs) (h : A.heap[k]? = some (.cells cs t (0, 0))) : A'.heap[k]? = some (.cells cs t (0, 0)) :=
  (hg.block k (Array.getElem?_eq_some_iff.1 h).1 (fun e => by
    rcases hr k e.symm with h1 | ⟨_, o, ho, hc⟩
    · exact hk h1
    · rw [h] at ho; injection ho with ho; subst ho; cases hc)).trans h
theorem aside_below {bs B N : Nat} {w A A' : World} {row : Option Nat} (hg : A.grownBy A' row) (hr : ∀ r, row = some r → r = bs ∨ (B ≤ r ∧ ∃ o : Obj, A.heap[r]? = some o ∧ o.isCells = false)) (hN : N ≤ bs) (hB : N ≤ B) (hs : N ≤ A.heap.size) (h : Below N w A) : Below N w A' :=
  h.grown hg hs (fun k e => by rcases hr k e with h1 | ⟨h1, _⟩ <;> omega)
theorem own_aside {bs B base : Nat} {A A' : World} {row : Option Nat} {e : TypeId} {size n : Nat} {v : Value} {xs : List Value} (hg : A.grownBy A' row) (hr : ∀ r, row = some r → r = bs ∨ (B ≤ r ∧ ∃ o : Obj, A.heap[r]? = some o ∧ o.isCells = false)) (hb : bs < base) (h : A.ownsRow base e size v n xs) : A'.ownsRow base e size v n xs := by
  obtain ⟨hl, h0 | ⟨g, cap, cur, rfl, hbase, hh, h⟩⟩ := h
  · exact ⟨hl, .inl h0⟩
  · exact ⟨hl, .inr ⟨g, cap, cur, rfl, hbase, aside_block hg hr (by omega) hh, h⟩⟩
theorem lt_of_cells {W : World} {k : Nat} {o : Obj} (h : W.heap[k]? = some o) : k < W.heap.size := (Array.getElem?_eq_some_iff.1 h).1
theorem scanI_aside {N B : Nat} {w : World} {xs : List (List UInt8)} (hB : N ≤ B) : Aside (N + 4) B (ScanI N w xs) := by
  rintro pre A A' row ⟨ts, Ad, cap, h⟩ hg hr
  exact ⟨ts, Ad, cap, aside_block hg hr (by omega) h.r0, aside_block hg hr (by omega) h.r1, aside_block hg hr (by omega) h.out, aside_block hg hr (by omega) h.no, own_aside hg hr (by omega) h.own,
    aside_below hg hr (by omega) hB (Nat.le_of_lt (lt_of_cells h.r0)) h.below, Nat.le_trans h.size hg.size, h.len, h.toks⟩
theorem scanX_aside {N B : Nat} {w : World} {E : Errs} {xs : List (List UInt8)} (hB : N ≤ B) (c : Code) : Aside (N + 4) B (ScanX N w E xs c) := by
  rintro pre A A' row ⟨hc, code, line, col, b, h1, h2, h3, h4, h5, h6, h7⟩ hg hr
  exact ⟨hc, code, line, col, b, h1, h2, aside_block hg hr (by omega) h3, aside_block hg hr (by omega) h4, h5, aside_block hg hr (by omega) h6,
    aside_below hg hr (by omega) hB (Nat.le_of_lt (lt_of_cells h3)) h7⟩

theorem far_app {base : Nat} {w1 w2 : World} {e : TypeId} {size n : Nat} {v : Value} {xs : List Value} (hown : w1.ownsRow base e size v n xs) (hg : w1.grownBy w2 v.ownBlock) :
    ∀ k o, w1.heap[k]? = some o → (k < base ∨ o.isCells = false) → w2.heap[k]? = some o := fun k o hk hne => by
  refine (hg.block k (lt_of_cells hk) (fun e => ?_)).trans hk
  obtain ⟨_, ⟨rfl, rfl⟩ | ⟨g, cap, cur, rfl, hbase, hh, _⟩⟩ := hown
  · simp [Value.ownBlock] at e
  · simp [Value.ownBlock] at e
    subst e
    rcases hne with h | h
    · omega
    · rw [hk] at hh; injection hh with hh; subst hh; cases h
theorem add_of (b off j : Nat) : ((⟨b, off, none⟩ : Addr).add j) = ⟨b, off + j, none⟩ := by
  unfold Addr.add
  split
  · rename_i h; subst h; rfl
  · rfl
theorem far_call {N : Nat} {W W2 w1 : World} (hb : Below W2.heap.size W2 w1) (hz : W2.heap.size = W.heap.size) (hf : ∀ k o, W.heap[k]? = some o → k ≠ N + 3 → W2.heap[k]? = some o) :
    ∀ k o, W.heap[k]? = some o → k ≠ N + 3 → w1.heap[k]? = some o := fun k o hk hne => (hb.block k (by rw [hz]; exact lt_of_cells hk)).trans (hf k o hk hne)
attribute [local go_sem] Oper.semAt_some
set_option maxRecDepth 100000 in
set_option maxHeartbeats 2000000 in
theorem scan_loop (s : ByteArray) (E : Errs) (w : World) (hE : Laid E two w) (hs : s.size ≤ 65536) :
    Calls Tryd.prog 11 #[.string s] w (ScanEnds s.data.toList E w) := by
  obtain ⟨i0, hi, hz0, hz1, hz2'⟩ := info_parts infoTok
  refine (callsIn_wide (n := 4)).1 ?_
  refine callsIn_of_wp_marks Tryd.func11 rfl trivial ?_ rfl
  simp only [Tryd.ntmps11, List.size_toArray, List.length_cons, List.length_nil, Nat.reduceAdd, Nat.reduceSub, Array.replicate_succ, Array.replicate_zero, List.push_toArray, List.append_toArray, List.nil_append, List.cons_append]
  gi_wp2_with (first | (refine ⟨trivial, ?_⟩; gi_at_call 31; refine (callsIn_wide.2 (splitSeq_any _ _)).mono ?_; rintro e w' ⟨rfl, rfl⟩))
  refine wpIn_rangeFunc_box rfl (by omega) (gf := 57) (lb := #[.pointer (some ⟨w.heap.size + 5, 0, none⟩), .pointer (some ⟨w.heap.size + 4, 0, none⟩), .pointer (some ⟨w.heap.size + 6, 0, none⟩)]) ?hg trivial (enters_of Tryd.func57 (by kernel_rfl) rfl)
    (enc := fun x : List UInt8 => .string ⟨x.toArray⟩) (bs := w.heap.size + 4) (Kp := KeepsBoxes (w.heap.size + 4)) (xs := Lx.cuts s.data.toList) ?hseq (by simp) ?hKa ?hKr ?hKt ?hKb rfl
    (ScanI w.heap.size w (Lx.cuts s.data.toList)) (ScanX w.heap.size w E (Lx.cuts s.data.toList)) (scanI_aside (by simp; omega)) (fun c => scanX_aside (by simp; omega) c) ?h0 (fun x => { tmps := #[.string s, undef, .pointer (some ⟨w.heap.size, 0, none⟩), .pointer (some ⟨w.heap.size + 1, 0, none⟩), .pointer (some ⟨w.heap.size + 1 + 1, 0, none⟩), .pointer (some ⟨w.heap.size + 1 + 1 + 1, 0, none⟩), .string ⟨x.toArray⟩, undef, undef, .string s, .int .i64 (s.size : Int), .bool (decide (65536 < (s.size : Int))), undef, undef, .string s, .func (.func 57) #[] #[.pointer (some ⟨w.heap.size + 1 + 1 + 1 + 1 + 1, 0, none⟩), .pointer (some ⟨w.heap.size + 1 + 1 + 1 + 1, 0, none⟩), .pointer (some ⟨w.heap.size + 1 + 1 + 1 + 1 + 2, 0, none⟩)], .string ⟨x.toArray⟩, undef, undef, undef, undef, undef, undef, undef, undef, undef, undef, undef, undef, undef, undef, undef], defers := [] }) ?assign ?body ?done ?stop
  case hg => rfl
  case hKr => exact fun i _ => rfl
  case hKt => exact fun h k i hi => (k i hi).trans (h i hi)
  case hKa =>
    intro W o hk i hi
    refine (Below.heap_alloc W o _ ?_).trans (hk i hi)
    have h : ∃ c, W.heap[w.heap.size + 4 + i]? = some c := by
      rw [hk i hi]
      exact ⟨_, Array.getElem?_eq_getElem (by simp; omega)⟩
    obtain ⟨c, h⟩ := h
    exact (Array.getElem?_eq_some_iff.1 h).1
  case hKb =>
    intro W l o' hl i hi
    exact World.putObj_heap_other (by simp at hl; omega)
  case hseq =>
    intro l J Jx W hK hJ hJx hY h0
    exact split_iter l (w.heap.size + 4) _ J Jx hJ hJx hY W s (Boxes.keep ⟨alloc_old (alloc_old (alloc_at _ _ _ (by simp)) _) _, alloc_old (alloc_at _ _ _ (by simp)) _, alloc_at _ _ _ (by simp)⟩ hK) hs rfl h0
  case h0 =>
    refine ⟨[], none, 0, alloc_old (alloc_old (alloc_old (alloc_old (alloc_old (alloc_old (alloc_at _ _ _ rfl) _) _) _) _) _) _, alloc_old (alloc_old (alloc_old (alloc_old (alloc_old (alloc_at _ _ _ (by simp)) _) _) _) _) _,
      alloc_old (alloc_old (alloc_old (alloc_old (alloc_at _ _ _ (by simp)) _) _) _) _, alloc_old (alloc_old (alloc_old (alloc_at _ _ _ (by simp)) _) _) _, World.ownsRow_nil _ _ _ _, ?_, by simp, Nat.zero_le _, by simp⟩
    exact (((((((Below.refl _ w).alloc (Nat.le_refl _) _).alloc (by simp) _).alloc (by simp; omega) _).alloc (by simp; omega) _).alloc (by simp; omega) _).alloc (by simp; omega) _).alloc (by simp; omega) _
  case assign =>
    intro l x W K hK
    gi_wp2
    exact hK
  case body =>
    rintro l pre x W ⟨ts, A, cap, h⟩ hpre
    obtain ⟨hxl, hpl, hdx⟩ := Lx.round_facts rfl hpre
    rw [bytes_size] at hxl hpl
    have HD := Lib.hid hdx
    have HT := Lib.hid h.toks
    clear hdx hpre
    have hlen := h.len
    have hown := h.own
    have hbw := h.below
    have c0 := block_cell h.r0
    have c1 := block_cell h.r1
    have c2 := block_cell h.out
    have c3 := block_cell h.no
    have f0 := block_frozen h.r0 0
    have f1 := block_frozen h.r1 0
    have f2 := block_frozen h.out 0
    have f3 := block_frozen h.no 0
    have l3 := lt_of_cells h.no
    obtain ⟨W2, hW2⟩ : ∃ W2, W.setCell ⟨w.heap.size + 1 + 1 + 1, 0, none⟩ (.int .i64 ((pre.length : Int) + 1)) = W2 := ⟨_, rfl⟩
    have hb2 : Below w.heap.size w W2 := by rw [← hW2]; exact hbw.setCell (p := ⟨w.heap.size + 1 + 1 + 1, 0, none⟩) (by simp; omega) _
    have hE2 : Laid E two W2 := hE.below hb2
    have hz2 : W2.heap.size = W.heap.size := by rw [← hW2]; simp [World.setCell]
    have hsx : (⟨x.toArray⟩ : ByteArray).size = x.length := by simp [ByteArray.size]
    have hfar2 : ∀ k o, W.heap[k]? = some o → k ≠ w.heap.size + 3 → W2.heap[k]? = some o := fun k o hk hne => by rw [← hW2]; exact block_far hk hne _
    have h23 : W2.heap[w.heap.size + 3]? = some (.cells #[.int .i64 ((pre.length : Int) + 1)] 3 (0, 0)) := by rw [← hW2]; exact block_set h.no _
    have HW2 := Lib.hid hW2
    clear hW2
    cases hl : Lx.lineToks (pre.length + 1) x with
    | error b =>
      obtain ⟨code, line, col⟩ := b
      have HX : Hid (Lx.scanLines 1 (Lx.cuts s.data.toList) = .error (code, line, col)) := Lx.round_bad HD.out HT.out hl
      have HL := Lib.hid hl
      clear hl
      gi_wp2_with (first
        | (refine ⟨trivial, ?_⟩; gi_at_call 32; rw [HW2.out]; refine (CallsIn.inRound l (callsIn_wide.2 (line_err ⟨x.toArray⟩ (pre.length + 1) E W2 hE2 ?_ ?_ code line col HL.out))).mono ?_; (rw [hsx]; omega); omega; rintro e w1 ⟨b, rfl, hb1, hbb, hbh, hc2⟩;
            have HF := Lib.hid (far_call (N := w.heap.size) hb1 hz2 hfar2); have k0 := block_cell (HF.out _ _ h.r0 (by omega)); have k1 := block_cell (HF.out _ _ h.r1 (by omega)); have g0 := block_frozen (HF.out _ _ h.r0 (by omega)) 0; have g1 := block_frozen (HF.out _ _ h.r1 (by omega)) 0))
      have hr0 := HF.out _ _ h.r0 (by omega)
      have hr1 := HF.out _ _ h.r1 (by omega)
      have hsz := h.size
      have hs1 := hb1.size
      have hB2 : Below w.heap.size w w1 := hb2.trans (hb1.mono hb2.size)
      refine ⟨⟨by simp [World.setCell]; omega, fun k o hB hk _ => ?_⟩, rfl, code, line, col, b, HX.out, hc2, block_far (block_set hr0 _) (by omega) _, block_set (block_far hr1 (by omega) _) _, by omega, block_far (block_far hbh (by omega) _) (by omega) _, ?_⟩
      · simp at hB
        exact block_far (block_far (HF.out k o hk (by omega)) (by omega) _) (by omega) _
      · exact (hB2.setCell (p := ⟨w.heap.size, 0, none⟩) (Nat.le_refl _) _).setCell (p := ⟨w.heap.size + 1, 0, none⟩) (by simp) _
    | ok r =>
      have HX := Lib.hid (Lx.round_ok HD.out HT.out hl)
      have hrl := Lx.lineToks_len _ _ _ hl
      have HL := Lib.hid hl
      clear hl
      by_cases hr : r = []
      · subst hr
        gi_wp2_with (first
          | (refine ⟨trivial, ?_⟩; gi_at_call 32; rw [HW2.out]; refine (CallsIn.inRound l (callsIn_wide.2 (line_nil ⟨x.toArray⟩ (pre.length + 1) E W2 hE2 ?_ ?_ HL.out))).mono ?_; (rw [hsx]; omega); omega; rintro e w1 ⟨rfl, hb1⟩;
              have HF := Lib.hid (far_call (N := w.heap.size) hb1 hz2 hfar2); have k2 := block_cell (HF.out _ _ h.out (by omega)); have g2 := block_frozen (HF.out _ _ h.out (by omega)) 0;
              have hown1 := own_keep hown fun k cs t hk hh => HF.out _ _ hh (by omega))
          | (gi_at_builtin; refine wpListIn_append_nil _ rfl _ _ 22 rfl (w.heap.size + 7) 29 i0 4 Tryd.underlying22 hi _ _ _ rfl hown1 rfl ?_))
        have hsz := h.size
        have hs1 := hb1.size
        have hB2 : Below w.heap.size w w1 := hb2.trans (hb1.mono hb2.size)
        have h13 := (hb1.block _ (lt_of_cells h23)).trans h23
        refine ⟨⟨by simp [World.setCell]; omega, fun k o hB hk _ => ?_⟩, fun i hi3 => ?_, ts, A, cap, ?_, ?_, ?_, ?_, ?_, ?_, ?_, ?_, ?_⟩
        · simp at hB
          exact block_far (HF.out k o hk (by omega)) (by omega) _
        · obtain ⟨o, ho⟩ : ∃ o, W.heap[w.heap.size + 4 + i]? = some o := ⟨_, Array.getElem?_eq_getElem (by omega)⟩
          rw [ho]
          exact block_far (HF.out _ o ho (by omega)) (by omega) _
        · exact block_far (HF.out _ _ h.r0 (by omega)) (by omega) _
        · exact block_far (HF.out _ _ h.r1 (by omega)) (by omega) _
        · exact block_set (HF.out _ _ h.out (by omega)) _
        · rw [List.length_append]; exact block_far h13 (by omega) _
        · exact own_keep hown1 fun k cs t hk hh => block_far hh (by omega) _
        · exact hB2.setCell (p := ⟨w.heap.size + 2, 0, none⟩) (by simp) _
        · simp [World.setCell]; omega
        · rw [List.length_append]; simp; omega
        · have := HX.out
          rw [List.append_nil] at this
          rw [List.length_append]
          exact this
      · have hpos : 0 < r.length := List.length_pos_iff.2 hr
        have HR := Lib.hid hr
        clear hr
        gi_wp2_with (first
          | (refine ⟨trivial, ?_⟩; gi_at_call 32; rw [HW2.out]; refine (CallsIn.inRound l (callsIn_wide.2 (line_ok ⟨x.toArray⟩ (pre.length + 1) E W2 hE2 ?_ ?_ r HR.out HL.out))).mono ?_; (rw [hsx]; omega); omega; rintro e w1 ⟨b, off, c, rfl, hb1, hcells⟩;
              have HF := Lib.hid (far_call (N := w.heap.size) hb1 hz2 hfar2); have k2 := block_cell (HF.out _ _ h.out (by omega)); have g2 := block_frozen (HF.out _ _ h.out (by omega)) 0;
              have hown1 := own_keep hown fun k cs t hk hh => HF.out _ _ hh (by omega); have HC := Lib.hid hcells; clear hcells; have hs1 := hb1.size)
          | (gi_at_builtin; refine wpListIn_append_own _ rfl _ _ 22 rfl (w.heap.size + 7) 29 i0 _ 4 40 Tryd.underlying22 hi hz0 hz1 hz2' rfl (by decide) _ _ _ rfl hown1 ⟨b, off, none⟩ r.length c (flat (r.map Lx.Tok.v)) rfl (by rw [flat_length, List.length_map]) (fun j u hu => by rw [add_of]; exact HC.out j u hu) (flat_oneCell _) (by unfold maxLen; omega) (by omega) (by have := h.size; omega) ?_; intro v2 w2 hown2 hg2 _; obtain ⟨A2, cap2, rfl⟩ := own_slice hown2;
              have HA := Lib.hid (far_app hown1 hg2); have m2 := block_cell (HA.out _ _ (HF.out _ _ h.out (by omega)) (.inl (by omega))); have n2 := block_frozen (HA.out _ _ (HF.out _ _ h.out (by omega)) (.inl (by omega))) 0))
        have hsz := h.size
        have hs2 := hg2.size
        have hB1 : Below w.heap.size w w1 := hb2.trans (hb1.mono hb2.size)
        have hB2 := below_append hB1 hown1 (by omega) hB1.size hg2
        have h13 := (hb1.block _ (lt_of_cells h23)).trans h23
        refine ⟨⟨by simp [World.setCell]; omega, fun k o hB hk ho => ?_⟩, fun i hi3 => ?_, ts ++ r, A2, cap2, ?_, ?_, ?_, ?_, ?_, ?_, ?_, ?_, ?_⟩
        · simp at hB
          exact block_far (HA.out _ _ (HF.out k o hk (by omega)) (.inr ho)) (by omega) _
        · obtain ⟨o, ho⟩ : ∃ o, W.heap[w.heap.size + 4 + i]? = some o := ⟨_, Array.getElem?_eq_getElem (by omega)⟩
          rw [ho]
          exact block_far (HA.out _ _ (HF.out _ o ho (by omega)) (.inl (by omega))) (by omega) _
        · exact block_far (HA.out _ _ (HF.out _ _ h.r0 (by omega)) (.inl (by omega))) (by omega) _
        · exact block_far (HA.out _ _ (HF.out _ _ h.r1 (by omega)) (.inl (by omega))) (by omega) _
        · rw [List.length_append]; exact block_set (HA.out _ _ (HF.out _ _ h.out (by omega)) (.inl (by omega))) _
        · rw [List.length_append]; exact block_far (HA.out _ _ h13 (.inl (by omega))) (by omega) _
        · rw [List.length_append, List.map_append, flat_append]
          exact own_keep hown2 fun k cs t hk hh => block_far hh (by omega) _
        · exact hB2.setCell (p := ⟨w.heap.size + 2, 0, none⟩) (by simp) _
        · simp [World.setCell]; omega
        · rw [List.length_append, List.length_append]; simp; omega
        · rw [List.length_append]
          exact HX.out
  case done =>
    rintro D W hD ⟨ts, A, cap, h⟩ hK
    have c2 := block_cell h.out
    have c0 := block_cell h.r0
    have c1 := block_cell h.r1
    have f0 := block_frozen h.r0 0
    have f1 := block_frozen h.r1 0
    gi_wp2
    have e0 := block_far (block_set h.r0 (.slice A ts.length cap)) (show w.heap.size ≠ w.heap.size + 1 by omega) .nilIface
    have e1 := block_set (block_far h.r1 (show w.heap.size + 1 ≠ w.heap.size by omega) (.slice A ts.length cap)) .nilIface
    have hK' := block_far (block_far hK (show D ≠ w.heap.size by simp at hD; omega) (.slice A ts.length cap)) (show D ≠ w.heap.size + 1 by simp at hD; omega) .nilIface
    refine ⟨by simp, .inl ⟨_, _, rfl, run_takeDeferred hK', ?_⟩⟩
    have hDN : w.heap.size + 7 ≤ D := by simp at hD; omega
    have q0 := block_cell (put_far (D := D) (o' := .deferred none) e0 (by omega))
    have q1 := block_cell (put_far (D := D) (o' := .deferred none) e1 (by omega))
    refine ⟨.tuple #[.slice A ts.length cap, .nilIface], (by simp [results, Tryd.results11, go_sem, q0, q1]), ?_⟩
    have hNW : w.heap.size ≤ W.heap.size := Nat.le_of_lt (lt_of_cells h.r0)
    refine ⟨below_put ((h.below.setCell (p := ⟨w.heap.size, 0, none⟩) (Nat.le_refl _) _).setCell (p := ⟨w.heap.size + 1, 0, none⟩) (by simp) _) (by simpa [World.setCell] using hNW) (by omega) _, .inl ⟨ts, _, ?_, rfl, Reads4.of_own (base := w.heap.size + 7) (e := 29) ?_⟩⟩
    · have ht := h.toks
      rw [List.drop_length] at ht
      unfold Lx.scan
      rw [if_neg (by rw [bytes_size]; omega), ← ht]
      simp [Lx.scanLines, Lx.prep]
    · rw [List.length_map]
      refine own_keep h.own fun k cs t hk hh => put_far (block_far (block_far hh (by omega) _) (by omega) _) ?_
      intro e
      subst e
      rw [hh] at hK
      cases hK
  case stop =>
    rintro D c pre W hD hpre ⟨rfl, code, line, col, b, hs1, hc2, h0, h1, hb, hh, hbw⟩ hK
    gi_wp2
    refine ⟨by simp, .inl ⟨_, _, rfl, run_takeDeferred hK, ?_⟩⟩
    have hDN : w.heap.size + 7 ≤ D := by simp at hD; omega
    have q0 := block_cell (put_far (D := D) (o' := .deferred none) h0 (by omega))
    have q1 := block_cell (put_far (D := D) (o' := .deferred none) h1 (by omega))
    refine ⟨.tuple #[.slice none 0 0, .iface 41 (.pointer (some ⟨b, 0, none⟩))], (by simp [results, Tryd.results11, go_sem, q0, q1]), ?_⟩
    have hNW : w.heap.size ≤ W.heap.size := Nat.le_of_lt (lt_of_cells h0)
    refine ⟨below_put hbw hNW (by omega) _, .inr ⟨code, line, col, _, ?_, hc2, rfl, b, by omega, rfl, put_far hh ?_⟩⟩
    · unfold Lx.scan
      rw [if_neg (by rw [bytes_size]; omega), hs1]
    · intro e
      subst e
      rw [hh] at hK
      cases hK

theorem scan_any (s : ByteArray) (E : Errs) (w : World) (hE : Laid E two w) :
    Calls Tryd.prog 11 #[.string s] w (ScanEnds s.data.toList E w) := by
  by_cases h : s.size ≤ 65536
  · exact scan_loop s E w hE h
  · exact scan_long s E w hE (by omega)
end Go.Proofs.YtinobikikineiaaDoor
