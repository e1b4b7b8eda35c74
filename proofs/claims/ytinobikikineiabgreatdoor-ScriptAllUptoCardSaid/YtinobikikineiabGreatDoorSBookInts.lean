/- The walk of the Book's Ints: one more list of numbers, and a copy of it. Conditions: the list is short and lies apart from the lists that were kept. -/
import Derived.Test.YtinobikikineiabGreatDoorSBook
import Derived.Deep.RegionLaw
namespace Go.Proofs.YtinobikikineiabGreatDoor
open Go.RowKit Go.Shelf

/-- An append of nothing. -/
theorem run_append_void {P : Program} (w : World) (base : Nat) (t ty e : TypeId) (i : TypeInfo) (size c : Nat) (ht : P.underlying t = some (.slice e)) (hi : P.info? e = some i)
    (v : Value) (n : Nat) (xs : List Value) (hown : w.ownsRow base e size v n xs) : (Builtin.append_ #[t, t] ty #[v, .slice none 0 c]).run P w = .ok v w := by
  rcases hown.2 with ⟨rfl, rfl⟩ | ⟨g, cap, cur, rfl, _, _, hnc, _⟩
  · simp [Builtin.append_, run_underlying ht, sizeOf, typeInfo, hi, Builtin.lenOf, Builtin.firstCells]
  · simp [Builtin.append_, run_underlying ht, sizeOf, typeInfo, hi, Builtin.lenOf, Builtin.firstCells, hnc, storeCells]
theorem infoList : (Tryz.prog.info? 50).map (fun i => (i.zero, i.size, i.bytes)) = some (some (.slice none 0 0), 1, 24) := by kernel_rfl
/-- The Book's cells: only its lists of numbers are there. -/
def bookCells (I X : Value) : Array Value := #[I, X, .slice none 0 0, .slice none 0 0, .slice none 0 0, .slice none 0 0, .slice none 0 0, .slice none 0 0, .slice none 0 0, .slice none 0 0, .slice none 0 0, .slice none 0 0, .slice none 0 0, .slice none 0 0, .slice none 0 0, .slice none 0 0, .slice none 0 0, .slice none 0 0, .slice none 0 0, .slice none 0 0, .slice none 0 0, .slice none 0 0]
/-- The Book: the lists that were kept, each in a block of its own, and their copies. -/
structure BookAt (W : World) (base B : Nat) (I X : Value) (us vs : List Value) (ls : List (List Int)) : Prop where
  blk : W.heap[B]? = some (.cells (bookCells I X) 37 (0, 0))
  lu : us.length = ls.length
  lv : vs.length = ls.length
  oi : W.ownsRow base 50 1 I ls.length us
  ox : W.ownsRow base 50 1 X ls.length vs
  sep : ∀ g, I.ownBlock = some g → X.ownBlock ≠ some g
  ru : ∀ (j : Nat) (l : List Int), ls[j]? = some l → ∃ u, us[j]? = some u ∧ OwnI W base u l
  rv : ∀ (j : Nat) (l : List Int), ls[j]? = some l → ∃ u, vs[j]? = some u ∧ OwnI W base u l
  apart : Apart us
  low : B < base
/-- What touches neither lists of lists nor the Book. -/
def KeepT (W W' : World) : Prop := W.heap.size ≤ W'.heap.size ∧ ∀ (k : Nat) (cs : Array Value) (t : TypeId), t ≠ 50 → t ≠ 37 → W.heap[k]? = some (.cells cs t (0, 0)) → W'.heap[k]? = some (.cells cs t (0, 0))
theorem KeepT.refl (W : World) : KeepT W W := ⟨Nat.le_refl _, fun _ _ _ _ _ h => h⟩
theorem KeepT.trans {A B C : World} (h : KeepT A B) (h' : KeepT B C) : KeepT A C := ⟨Nat.le_trans h.1 h'.1, fun k cs t h1 h2 h3 => h'.2 k cs t h1 h2 (h.2 k cs t h1 h2 h3)⟩
theorem KeepT.alloc {A B : World} (h : KeepT A B) (o : Obj) : KeepT A (B.alloc o) := ⟨by have := h.1; simp; omega, fun k cs t h1 h2 h3 => alloc_old (h.2 k cs t h1 h2 h3) o⟩
theorem KeepT.app {A B C : World} (h : KeepT A B) {base n : Nat} {v : Value} {xs : List Value} (hown : B.ownsRow base 50 1 v n xs) (hg : B.grownBy C v.ownBlock) : KeepT A C :=
  ⟨Nat.le_trans h.1 hg.size, fun k cs t h1 h2 h3 => by
    have h4 := h.2 k cs t h1 h2 h3
    refine (hg.block k (lt_of_cells h4) (fun e => ?_)).trans h4
    obtain ⟨_, ⟨rfl, _⟩ | ⟨g, cap, cur, rfl, _, hh2, _⟩⟩ := hown
    · cases e
    · simp only [Value.ownBlock, Option.some.injEq] at e
      subst e
      rw [h4] at hh2
      injection hh2 with hh2
      injection hh2 with _ ht _
      exact h1 ht⟩
theorem KeepT.new {A B C : World} (h : KeepT A B) (hg : B.grownBy C none) : KeepT A C :=
  ⟨Nat.le_trans h.1 hg.size, fun k cs t h1 h2 h3 => (hg.block k (lt_of_cells (h.2 k cs t h1 h2 h3)) (fun e => by cases e)).trans (h.2 k cs t h1 h2 h3)⟩
theorem KeepT.set {A B : World} (h : KeepT A B) {k i : Nat} {cs : Array Value} (hk : B.heap[k]? = some (.cells cs 37 (0, 0))) (v : Value) : KeepT A (B.setCell ⟨k, i, none⟩ v) :=
  ⟨by simpa [World.setCell] using h.1, fun q cs' t h1 h2 h3 => by
    have h4 := h.2 q cs' t h1 h2 h3
    refine set_far h4 (fun e => ?_)
    subst e
    rw [h4] at hk
    injection hk with hk
    injection hk with _ ht _
    exact h2 ht⟩
theorem KeepT.below {A B : World} (h : Below A.heap.size A B) : KeepT A B := ⟨h.size, fun k _ _ _ _ h3 => (h.block k (lt_of_cells h3)).trans h3⟩
theorem OwnI.keepT {W W' : World} {base : Nat} {u : Value} {l : List Int} (h : OwnI W base u l) (hk : KeepT W W') : OwnI W' base u l := h.keep fun b cs _ _ hh => hk.2 b cs _ (by decide) (by decide) hh
theorem OwnD.keepT {W W' : World} {base : Nat} {v : Value} {cs : List Sc.Cmd} {us : List Value} (h : OwnD W base v cs us) (hk : KeepT W W') : OwnD W' base v cs us :=
  h.keep fun b cs t _ ht hh => hk.2 b cs t (by rcases ht with rfl | rfl <;> decide) (by rcases ht with rfl | rfl <;> decide) hh
theorem own_set {W : World} {base k i : Nat} {e : TypeId} {size n : Nat} {v u : Value} {xs : List Value} (h : W.ownsRow base e size v n xs) (hk : k < base) : (W.setCell ⟨k, i, none⟩ u).ownsRow base e size v n xs := by
  obtain ⟨hl, h0 | ⟨g, cap, cur, rfl, hbase, hh, h⟩⟩ := h
  · exact ⟨hl, .inl h0⟩
  · exact ⟨hl, .inr ⟨g, cap, cur, rfl, hbase, set_far hh (by omega), h⟩⟩
theorem own_far {W W' : World} {base : Nat} {r : Option Nat} {e : TypeId} {size n : Nat} {v : Value} {xs : List Value} (h : W.ownsRow base e size v n xs) (hg : W.grownBy W' r) (hne : ∀ g, v.ownBlock = some g → r ≠ some g) : W'.ownsRow base e size v n xs := by
  obtain ⟨hl, h0 | ⟨g, cap, cur, rfl, hbase, hh, h⟩⟩ := h
  · exact ⟨hl, .inl h0⟩
  · exact ⟨hl, .inr ⟨g, cap, cur, rfl, hbase, (hg.block g (lt_of_cells hh) (fun e => hne g rfl e.symm)).trans hh, h⟩⟩
theorem BookAt.cells {W : World} {base B : Nat} {I X : Value} {us vs : List Value} {ls : List (List Int)} (h : BookAt W base B I X us vs ls) (j : Nat) : W.cell? ⟨B, j, none⟩ = (bookCells I X)[j]? := cell_of_row W B j _ _ _ h.blk

set_option maxRecDepth 100000 in
set_option maxHeartbeats 4000000 in
theorem ints_full (base B : Nat) (I X : Value) (us vs : List Value) (ls : List (List Int)) (u : Value) (W : World) (h : BookAt W base B I X us vs ls) (hl : ls.length = 400) :
    Calls Tryz.prog 10 #[.pointer (some ⟨B, 0, none⟩), u] W fun e w' => e = .returned (.tuple #[]) ∧ W = w' := by
  obtain ⟨A0, c0, rfl⟩ := own_slice h.oi
  have p0 : W.cell? ⟨B, 0, none⟩ = some (.slice A0 400 c0) := by rw [h.cells, hl]; rfl
  clear h hl
  go_enter Tryz.func10, Tryz.ntmps10
  go_wp2_with fail
  go_end0
  exact ⟨rfl, rfl⟩

/-- A copy of a list of numbers, as one step of a region that draws its order. -/
theorem step_copy {P : Program} {w : World} {ops : Array Oper} {o : Oper} {a : Act} {K : Act → World → Prop} {Q : Exit → Act → World → Prop} {E : Prop} (hgd : o.guard = none) (s x : Operand) (t : TypeId)
    (ho : o.op = .call { callee := .builtin .append, args := #[s, x], argTypes := #[t, t] })
    (e : TypeId) (i : TypeInfo) (ht : P.underlying t = some (.slice e)) (hi : P.info? e = some i) (hz : i.zero = some (.int .i64 0)) (hsize : i.size = 1) (hby : i.bytes = 8)
    (hs : a.eval s = .slice none 0 0) (A : Option Addr) (m c : Nat) (l : List Int) (hx : a.eval x = .slice A m c) (hr : ReadsI w (.slice A m c) l) (hm : m ≤ 1000)
    (h : ∀ v' w', w'.ownsRow w.heap.size e 1 v' m (l.map (Value.int .i64)) → w.grownBy w' none → K (a.put o.dst v') w') :
    if Region.wanted o (yielded ops a.tmps) = true then Oper.wp P o a w K Q else E := by
  have hw : Region.wanted o (yielded ops a.tmps) = true := by simp [Region.wanted, hgd]
  rw [if_pos hw]
  have hlen := hr.len
  have key : ∃ v' w', (Builtin.append_ #[t, t] o.type #[.slice none 0 0, .slice A m c]).run P w = .ok v' w' ∧ w'.ownsRow w.heap.size e 1 v' m (l.map (Value.int .i64)) ∧ w.grownBy w' none := by
    cases A with
    | none =>
      obtain ⟨A', c', hv, _, hne⟩ := hr
      injection hv with h1 h2 h3
      have hl : l = [] := by
        cases l with
        | nil => rfl
        | cons z l => obtain ⟨b, off, hA, _⟩ := hne (by simp); rw [← h1] at hA; cases hA
      subst hl
      have hm : m = 0 := hlen.symm
      subst hm
      exact ⟨_, w, run_append_void w 0 t o.type e i 1 c ht hi (.slice none 0 0) 0 [] (World.ownsRow_nil _ _ _ _), World.ownsRow_nil _ _ _ _, rfl, rfl, rfl, Nat.le_refl _, fun _ _ _ => rfl⟩
    | some ad =>
      obtain ⟨v', w', h1, h2, h3, _⟩ := run_append_own w w.heap.size t o.type e i _ 1 8 ht hi hz hsize hby rfl (by decide) (.slice none 0 0) 0 [] (World.ownsRow_nil _ _ _ _) ad m c (l.map (Value.int .i64)) (by simp [hlen]) (fun j u hj => by
        rw [List.getElem?_map] at hj
        cases hz' : l[j]? with
        | none => rw [hz'] at hj; cases hj
        | some z =>
          rw [hz'] at hj
          have hu : u = .int .i64 z := (Option.some.inj hj).symm
          obtain ⟨A', c', hv, _, hne⟩ := hr
          injection hv with h1 h2 h3
          obtain ⟨b, off, hA, hc⟩ := hne (by intro e; subst e; simp at hz')
          rw [← h1] at hA
          obtain rfl : ad = ⟨b, off, none⟩ := Option.some.inj hA
          rw [hu, ← hc j z hz']
          congr 1
          unfold Addr.add
          split
          · rename_i h; subst h; rfl
          · simp) (fun u hu => by obtain ⟨z, _, rfl⟩ := List.mem_map.1 hu; rfl) (by unfold maxLen; omega) (by omega) (Nat.le_refl _)
      rw [Nat.zero_add, List.nil_append] at h2
      exact ⟨v', w', h1, h2, h3⟩
  obtain ⟨v', w', hrun, h2, h3⟩ := key
  unfold Oper.wp execOp
  simp only [ho, resolve, invoke, builtin, Sem.run_bind, Sem.run_pure, Result.andThen_ok, List.map_toArray, List.map_cons, List.map_nil, hs, hx, hrun]
  exact h v' w' h2 h3

/-- What is known between the two appends (kept shut). -/
structure IntsMid (W : World) (base B : Nat) (I X : Value) (us vs : List Value) (u : Value) (l : List Int) (x : World) : Prop where
  blk : x.heap[B]? = some (.cells (bookCells I X) 37 (0, 0))
  oi : x.ownsRow base 50 1 I (us.length + 1) (us ++ [u])
  ox : x.ownsRow base 50 1 X vs.length vs
  row : OwnI x base u l
  keep : KeepT W x
  below : Below B W x
  size : W.heap.size ≤ x.heap.size
theorem IntsMid.drew {W : World} {base B : Nat} {I X : Value} {us vs : List Value} {u : Value} {l : List Int} {x : World} (h : IntsMid W base B I X us vs u l x) : IntsMid W base B I X us vs u l x.drew :=
  ⟨h.blk, h.oi, h.ox, h.row, h.keep, below_drewN' h.below 1, h.size⟩
theorem IntsMid.new {W : World} {base B : Nat} {I X : Value} {us vs : List Value} {u : Value} {l : List Int} {x y : World} (h : IntsMid W base B I X us vs u l x) (hg : x.grownBy y none) (hB : B ≤ x.heap.size) : IntsMid W base B I X us vs u l y :=
  ⟨(hg.block B (lt_of_cells h.blk) (fun e => by cases e)).trans h.blk, own_far h.oi hg (fun g _ hi => by cases hi), own_far h.ox hg (fun g _ hi => by cases hi), h.row.keepT ((KeepT.refl x).new hg), h.keep.new hg, h.below.grown hg hB (fun k e => by cases e), Nat.le_trans h.size hg.size⟩
theorem IntsMid.alloc {W : World} {base B : Nat} {I X : Value} {us vs : List Value} {u : Value} {l : List Int} {x : World} (h : IntsMid W base B I X us vs u l x) (hB : B ≤ x.heap.size) (o : Obj) : IntsMid W base B I X us vs u l (x.alloc o) :=
  h.new (World.grownBy_alloc x o none) hB
theorem IntsMid.cell {W : World} {base B : Nat} {I X : Value} {us vs : List Value} {u : Value} {l : List Int} {x : World} (h : IntsMid W base B I X us vs u l x) : x.cell? ⟨B, 1, none⟩ = some X := by rw [cell_of_row x B 1 _ _ _ h.blk]; rfl

theorem rows_snoc {W W' : World} {base : Nat} {us : List Value} {ls : List (List Int)} {u : Value} {l : List Int} (hlen : us.length = ls.length) (h : ∀ (j : Nat) (l : List Int), ls[j]? = some l → ∃ u, us[j]? = some u ∧ OwnI W base u l) (hu : OwnI W' base u l) (hk : KeepT W W') :
    ∀ (j : Nat) (m : List Int), (ls ++ [l])[j]? = some m → ∃ x, (us ++ [u])[j]? = some x ∧ OwnI W' base x m := by
  intro j m hj
  rw [List.getElem?_append] at hj
  split at hj
  · obtain ⟨x, h1, h2⟩ := h j m hj
    exact ⟨x, by rw [List.getElem?_append_left (by rw [hlen]; assumption)]; exact h1, h2.keepT hk⟩
  · have hjj : j - ls.length = 0 := by have := (List.getElem?_eq_some_iff.1 hj).1; simp at this; omega
    rw [hjj] at hj
    obtain rfl : l = m := Option.some.inj hj
    exact ⟨u, by rw [List.getElem?_append_right (by omega), hlen, hjj]; rfl, hu⟩
theorem ints_close {W x0 w2 w4 : World} {base B N n : Nat} {I X I' X' u v : Value} {us vs : List Value} {ls : List (List Int)} {l : List Int} {o : Obj} (h : BookAt W base B I X us vs ls) (hN : ls.length = N) (hu : us.length = N) (hv : vs.length = N) (hl : l.length = n) (hbw : base ≤ W.heap.size)
    (hap : ∀ x ∈ us, ∀ g, x.ownBlock = some g → u.ownBlock ≠ some g) (hI : ∀ g, I'.ownBlock = some g → base ≤ g ∧ g < x0.heap.size) (hbk : I'.ownBlock = I.ownBlock ∨ ∃ g, I'.ownBlock = some g ∧ W.heap.size < g + 1) (hz : x0.heap.size ≤ w2.heap.size) (hx0 : W.heap.size ≤ x0.heap.size)
    (hM : IntsMid W base B I' X us vs u l w2) (hc : w2.ownsRow x0.drew.heap.size 3 1 v n (l.map (Value.int .i64))) (hown : w4.ownsRow base 50 1 X' (N + 1) (vs ++ [v])) (hg : (w2.alloc o).grownBy w4 X.ownBlock)
    (hbk4 : X'.ownBlock = X.ownBlock ∨ ∃ g, X'.ownBlock = some g ∧ (w2.alloc o).heap.size ≤ g) (hB4 : w4.heap[B]? = some (.cells (bookCells I' X) 37 (0, 0))) :
    BookAt (w4.setCell ⟨B, 1, none⟩ X') base B I' X' (us ++ [u]) (vs ++ [v]) (ls ++ [l]) ∧ KeepT W (w4.setCell ⟨B, 1, none⟩ X') ∧ Below B W (w4.setCell ⟨B, 1, none⟩ X') := by
  have hBl := h.low
  have hB2 := lt_of_cells hM.blk
  have hM3 := hM.alloc (by omega) o
  have k34 : KeepT w2 (w4.setCell ⟨B, 1, none⟩ X') := (((KeepT.refl w2).alloc o).app hM3.ox (by have := hg; exact this)).set hB4 _
  have kW : KeepT W (w4.setCell ⟨B, 1, none⟩ X') := hM.keep.trans k34
  have hsep : ∀ g, I'.ownBlock = some g → X.ownBlock ≠ some g := by
    intro g hg1 hg2
    rcases hbk with e | ⟨g', e, hlt⟩
    · rw [e] at hg1; exact h.sep g hg1 hg2
    · rw [hg1] at e
      injection e with e
      have := (own_lt h.ox g hg2).2
      omega
  have hcv : OwnI w2 base v l := by
    unfold OwnI
    rw [hl]
    exact own_base hc (by show base ≤ x0.heap.size; omega)
  refine ⟨⟨set_block hB4 _, by rw [List.length_append, List.length_append, hu, hN]; rfl, by rw [List.length_append, List.length_append, hv, hN]; rfl, ?_, ?_, ?_, rows_snoc (by rw [hu, hN]) h.ru (hM.row.keepT k34) kW, rows_snoc (by rw [hv, hN]) h.rv (hcv.keepT k34) kW, h.apart.snoc hap, h.low⟩, kW, ?_⟩
  · rw [List.length_append, hN]
    have := hM3.oi
    rw [hu] at this
    exact own_set (own_far this hg (fun g h1 h2 => hsep g h1 h2)) hBl
  · rw [List.length_append, hN]
    exact own_set hown hBl
  · intro g hg1 hg2
    rcases hbk4 with e | ⟨g', e, hlt⟩
    · rw [e] at hg2; exact hsep g hg1 hg2
    · rw [hg2] at e
      injection e with e
      have := (hI g hg1).2
      simp at hlt
      omega
  · exact (below_append hM3.below hM3.ox (by omega) (by simp; omega) hg).setCell (Nat.le_refl _) _

set_option maxRecDepth 100000 in
set_option maxHeartbeats 4000000 in
theorem ints_more (base B : Nat) (I X : Value) (us vs : List Value) (ls : List (List Int)) (A : Option Addr) (n c : Nat) (l : List Int) (W : World) (h : BookAt W base B I X us vs ls) (hl : ls.length < 400) (hu : OwnI W base (.slice A n c) l) (hn : l.length = n) (hn3 : n ≤ 1000)
    (hap : ∀ x ∈ us, ∀ g, x.ownBlock = some g → (Value.slice A n c).ownBlock ≠ some g) (hbw : base ≤ W.heap.size) :
    Calls Tryz.prog 10 #[.pointer (some ⟨B, 0, none⟩), .slice A n c] W fun e w' => e = .returned (.tuple #[]) ∧ ∃ I' X' v', BookAt w' base B I' X' (us ++ [.slice A n c]) (vs ++ [v']) (ls ++ [l]) ∧ KeepT W w' ∧ Below B W w' := by
  obtain ⟨i0, ii, iz0, iz1, iz2⟩ := info_parts infoInt
  obtain ⟨j0, ji, jz0, jz1, jz2⟩ := info_parts infoList
  obtain ⟨N, hN⟩ : ∃ N, ls.length = N := ⟨_, rfl⟩
  have hI := h.oi
  have hX := h.ox
  rw [hN] at hI hX hl
  obtain ⟨A0, c0, rfl⟩ := own_slice hI
  obtain ⟨A1, c1, rfl⟩ := own_slice hX
  have p0 : W.cell? ⟨B, 0, none⟩ = some (.slice A0 N c0) := by rw [h.cells]; rfl
  have H := Lib.hid h
  have HN := Lib.hid hN
  have HLU : Hid (us.length = N) := by show _ = _; rw [H.out.lu, hN]
  have HLV : Hid (vs.length = N) := by show _ = _; rw [H.out.lv, hN]
  have HU := Lib.hid hu
  have HLN := Lib.hid hn
  have hlow := h.low
  have hBs := lt_of_cells h.blk
  have tok1 : True := trivial
  have tok2 : True := trivial
  clear h hN hu hn
  go_enter Tryz.func10, Tryz.ntmps10
  go_wp2_with (first
    | (at_builtin; have _t := tok1; refine wpList_append_far _ rfl _ _ 25 rfl base 50 j0 _ 24 Tryz.underlying25 ji jz0 jz1 jz2 rfl (.slice A0 N c0) N us rfl (hI.alloc _) ⟨W.heap.size, 0, none⟩ 1 1 [.slice A n c] rfl rfl (new_cells W [.slice A n c] 50) (fun u hu => by rw [List.mem_singleton] at hu; subst hu; rfl) (by decide) (by unfold maxLen; omega) (by omega) (by simp; omega) ?_;
        intro v1 w1 hown1 hg1 hbk1 _; obtain ⟨A2, c2, rfl⟩ := own_slice hown1;
        have hB1 : w1.heap[B]? = some (.cells (bookCells (.slice A0 N c0) (.slice A1 N c1)) 37 (0, 0)) := (hg1.block B (by simp; omega) (fun e => by have := (own_lt (hI.alloc (.cells #[.slice A n c] 50)) _ e.symm).1; omega)).trans (alloc_old H.out.blk _);
        have c1' : w1.cell? ⟨B, 0, none⟩ = some (.slice A0 N c0) := (by rw [cell_of_row w1 _ 0 _ _ _ hB1]; rfl); have f1' := block_frozen hB1 0;
        have hB2 : (w1.setCell ⟨B, 0, none⟩ (.slice A2 (N + 1) c2)).heap[B]? = some (.cells (bookCells (.slice A2 (N + 1) c2) (.slice A1 N c1)) 37 (0, 0)) := set_block hB1 _;
        have s1 : (w1.setCell ⟨B, 0, none⟩ (.slice A2 (N + 1) c2)).cell? ⟨B, 1, none⟩ = some (.slice A1 N c1) := (by rw [cell_of_row _ _ 1 _ _ _ hB2]; rfl);
        have k1 : KeepT W (w1.setCell ⟨B, 0, none⟩ (.slice A2 (N + 1) c2)) := (((KeepT.refl W).alloc (.cells #[.slice A n c] 50)).app (hI.alloc _) hg1).set hB1 _;
        have hR1 := (HU.out.keepT k1).row.reads;
        have hX1 := own_set (i := 0) (u := .slice A2 (N + 1) c2) (own_far (hX.alloc (.cells #[.slice A n c] 50)) hg1 (fun g hg hi => H.out.sep g hi hg)) hlow;
        have hI1 := own_set (i := 0) (u := .slice A2 (N + 1) c2) hown1 hlow;
        have hz1 : (w1.setCell ⟨B, 0, none⟩ (.slice A2 (N + 1) c2)).heap.size = w1.heap.size := (by simp [World.setCell]);
        have hz1' : W.heap.size < w1.heap.size := (by have := hg1.size; simp at this; omega);
        have hz1' : W.heap.size < w1.heap.size := (by have := hg1.size; simp at this; omega);
        have hM : IntsMid W base B (.slice A2 (N + 1) c2) (.slice A1 N c1) us vs (.slice A n c) l (w1.setCell ⟨B, 0, none⟩ (.slice A2 (N + 1) c2)) := ⟨hB2, by rw [HLU.out]; exact hI1, by rw [HLV.out]; exact hX1, HU.out.keepT k1, k1, (below_append ((Below.refl B W).alloc (by omega) (.cells #[.slice A n c] 50)) (hI.alloc _) (by omega) (by simp; omega) hg1).setCell (Nat.le_refl _) _, by simp [World.setCell]; omega⟩;
        have hIlt := fun g => (own_lt hI1 g);
        have hbk1' : (Value.slice A2 (N + 1) c2).ownBlock = (Value.slice A0 N c0).ownBlock ∨ ∃ g, (Value.slice A2 (N + 1) c2).ownBlock = some g ∧ W.heap.size < g + 1 := (hbk1.imp id fun ⟨g, h1, h2⟩ => ⟨g, h1, by simp at h2; omega⟩);
        clear _t tok1 hg1 hown1 hbk1 hB1 hB2 s1 k1 hR1 hX1 hI1 hz1))
  clear c1' f1'
  generalize (w1.setCell ⟨B, 0, none⟩ (.slice A2 (N + 1) c2)) = x0 at hM hIlt ⊢
  have HM := Lib.hid hM
  have hBx := lt_of_cells hM.blk
  have q1 := hM.cell
  clear hM
  go_region_law (first
    | (refine step_copy rfl _ _ 50 rfl 3 i0 Tryz.underlying50 ii iz0 iz1 iz2 (by simp [Act.eval]) A n c l (by simp [Act.eval, Act.put]) HM.out.drew.row.row.reads hn3 ?_; intro v2 w2 hown2 hg2; obtain ⟨A3, c3, rfl⟩ := own_slice hown2;
        have hz2 : x0.heap.size ≤ w2.heap.size := hg2.size;
        have hM2 := Lib.hid (HM.out.drew.new hg2 (Nat.le_of_lt hBx)); have q2 := hM2.out.cell;
        have q3 : (w2.alloc (.cells #[.slice A3 n c3] 50)).cell? ⟨B, 1, none⟩ = some (.slice A1 N c1) := (hM2.out.alloc (by omega) _).cell;
        have HOwn2 := Lib.hid hown2; clear hown2 hg2)
    | (refine step_far rfl _ _ 25 rfl base 50 j0 _ 24 Tryz.underlying25 ji jz0 jz1 jz2 rfl (.slice A1 N c1) N vs (by simp [Act.eval]) (by have := (hM2.out.alloc (by omega) (.cells #[.slice A3 n c3] 50)).ox; rw [HLV.out] at this; exact this) ⟨w2.heap.size, 0, none⟩ 1 1 [.slice A3 n c3] (by simp [Act.eval]) rfl (new_cells w2 [.slice A3 n c3] 50) (fun u hu => by rw [List.mem_singleton] at hu; subst hu; rfl) (by decide) (by unfold maxLen; omega) (by omega) (by have := HM.out.size; simp; omega) ?_; intro v4 w4 hown4 hg4 hbk4; obtain ⟨A4, c4, rfl⟩ := own_slice hown4;
        have hB4 := Lib.hid ((hg4.block B (by simp; omega) (fun e => by have := (own_lt (hM2.out.alloc (by omega) (.cells #[.slice A3 n c3] 50)).ox _ e.symm).1; omega)).trans (hM2.out.alloc (by omega) (.cells #[.slice A3 n c3] 50)).blk);
        have c4' : w4.cell? ⟨B, 1, none⟩ = some (.slice A1 N c1) := (by rw [cell_of_row w4 _ 1 _ _ _ hB4.out]; rfl); have f4' := block_frozen hB4.out 1))
  all_goals
    go_end0
    obtain ⟨k1, k2, k3⟩ := ints_close H.out HN.out HLU.out HLV.out HLN.out hbw hap hIlt hbk1' hz2 HM.out.size hM2.out HOwn2.out hown4 hg4 hbk4 hB4.out
    exact ⟨rfl, _, _, _, k1, k2, k3⟩
end Go.Proofs.YtinobikikineiabGreatDoor
