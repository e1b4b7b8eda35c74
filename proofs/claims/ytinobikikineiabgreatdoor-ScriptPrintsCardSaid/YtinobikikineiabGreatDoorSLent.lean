/- The walks of LentInts, of StaysInts at a list that stayed, and of the document's decimal digits. Conditions: the lists' sizes. -/
import Derived.Test.YtinobikikineiabGreatDoorSAppend
import Derived.Test.YtinobikikineiabGreatDoorSLine
namespace Go.Proofs.YtinobikikineiabGreatDoor
open Go.RowKit Go.Shelf

theorem run_append_empty {P : Program} (w : World) (base : Nat) (t ty e : TypeId) (i : TypeInfo) (size c : Nat) (ht : P.underlying t = some (.slice e)) (hi : P.info? e = some i)
    (v : Value) (n : Nat) (xs : List Value) (hown : w.ownsRow base e size v n xs) : (Builtin.append_ #[t, t] ty #[v, .slice none 0 c]).run P w = .ok v w := by
  rcases hown.2 with ⟨rfl, rfl⟩ | ⟨g, cap, cur, rfl, _, _, hnc, _⟩
  · simp [Builtin.append_, run_underlying ht, sizeOf, typeInfo, hi, Builtin.lenOf, Builtin.firstCells]
  · simp [Builtin.append_, run_underlying ht, sizeOf, typeInfo, hi, Builtin.lenOf, Builtin.firstCells, hnc, storeCells]
/-- An append of a list of numbers that is read in memory to a row of the call's own. -/
theorem wpList_append_ints {P : Program} (w : World) {ops : Array Oper} {rest : List Oper} {o : Oper} {a : Act} {Q : Exit → Act → World → Prop} (hgd : o.guard = none) (s x : Operand) (t : TypeId)
    (ho : o.op = .call { callee := .builtin .append, args := #[s, x], argTypes := #[t, t] })
    (base : Nat) (e : TypeId) (i : TypeInfo) (ht : P.underlying t = some (.slice e)) (hi : P.info? e = some i) (hz : i.zero = some (.int .i64 0))
    (hsize : i.size = 1) (hby : i.bytes = 8)
    (v : Value) (n : Nat) (xs : List Value) (hs : a.eval s = v) (hown : w.ownsRow base e 1 v n xs)
    (A : Option Addr) (m c : Nat) (l : List Int) (hx : a.eval x = .slice A m c) (hr : ReadsI w (.slice A m c) l)
    (h63 : n + m ≤ maxLen) (hbytes : (n + m) * 8 ≤ 140737488355328) (hbase : base ≤ w.heap.size)
    (h : ∀ v' w', w'.ownsRow base e 1 v' (n + m) (xs ++ l.map (Value.int .i64)) → w.grownBy w' v.ownBlock → wpList P ops Q rest (a.put o.dst v') w') : wpList P ops Q (o :: rest) a w := by
  have hlen := hr.len
  refine wpList_plain hgd fun K hK => ?_
  cases A with
  | none =>
    obtain ⟨A', c', hv, _, hne⟩ := hr
    injection hv with h1 h2 h3
    have hl : l = [] := by
      cases l with
      | nil => rfl
      | cons z l => obtain ⟨b, off, hA, _⟩ := hne (by simp); rw [← h1] at hA; cases hA
    subst hl
    have hm : m = 0 := hlen.symm
    subst hm
    have hrun := run_append_empty (P := P) w base t o.type e i 1 c ht hi v n xs hown
    unfold Oper.wp
    simp [execOp, ho, resolve, invoke, builtin, hs, hx, hrun, Result.andThen]
    exact hK _ _ (h v w (by simpa using hown) ⟨rfl, rfl, rfl, Nat.le_refl _, fun _ _ _ => rfl⟩)
  | some ad =>
    refine wp_append_own w s x t ho base e i _ 1 8 ht hi hz hsize hby rfl (by decide) v n xs hs hown ad m c (l.map (Value.int .i64)) hx (by simp [hlen]) (fun j u hj => ?_) (fun u hu => by obtain ⟨z, _, rfl⟩ := List.mem_map.1 hu; rfl) h63 hbytes hbase (fun v' w' h2 h3 _ => hK _ _ (h v' w' h2 h3))
    rw [List.getElem?_map] at hj
    cases hz' : l[j]? with
    | none => rw [hz'] at hj; cases hj
    | some z =>
      rw [hz'] at hj
      have hu : u = .int .i64 z := (Option.some.inj hj).symm
      obtain ⟨A', c', hv, _, hne⟩ := hr
      injection hv with h1 h2 h3
      obtain ⟨b, off, hA, hc⟩ := hne (by intro e; subst e; simp at hz')
      rw [← h1] at hA
      have hA' : ad = ⟨b, off, none⟩ := Option.some.inj hA
      subst hA'
      rw [hu, ← hc j z hz']
      congr 1
      unfold Addr.add
      split
      · rename_i h; subst h; rfl
      · simp

/-- A list of numbers that was lent: room and two marks stand behind it. -/
def LentI (W : World) (base : Nat) (u : Value) (l : List Int) : Prop :=
  ∃ (g cap : Nat) (cur : Array Value), u = .slice (some ⟨g, 0, none⟩) l.length cap ∧ l.length + 2 ≤ cap ∧ base ≤ g ∧ W.heap[g]? = some (.cells cur 3 (0, 0)) ∧ (∀ (j : Nat) (z : Int), l[j]? = some z → cur[j]? = some (.int .i64 z)) ∧
    cur[l.length]? = some (.int .i64 (-77)) ∧ cur[l.length + 1]? = some (.int .i64 (-78))
theorem LentI.keep {W W' : World} {base : Nat} {u : Value} {l : List Int} (h : LentI W base u l) (hk : ∀ (b : Nat) (cs : Array Value), base ≤ b → W.heap[b]? = some (.cells cs 3 (0, 0)) → W'.heap[b]? = some (.cells cs 3 (0, 0))) : LentI W' base u l := by
  obtain ⟨g, cap, cur, h1, h2, h3, h4, h5⟩ := h
  exact ⟨g, cap, cur, h1, h2, h3, hk g cur h3 h4, h5⟩
theorem LentI.row {W : World} {base : Nat} {u : Value} {l : List Int} (h : LentI W base u l) : RowI W base u l := by
  obtain ⟨g, cap, cur, h1, h2, h3, h4, h5, _⟩ := h
  exact ⟨_, cap, h1, by omega, fun _ => ⟨g, 0, cur, rfl, h3, h4, fun j x hx => by rw [Nat.zero_add]; exact h5 j x hx⟩⟩
theorem lent_of_own {W : World} {base : Nat} {A : Option Addr} {n cap : Nat} {l : List Int} (h : W.ownsRow base 3 1 (.slice A (n + 2) cap) (n + 2) (l.map (Value.int .i64) ++ [.int .i64 (-77), .int .i64 (-78)])) (hl : l.length = n) :
    LentI W base (.slice A n cap) l ∧ n ≤ cap := by
  obtain ⟨_, ⟨hv, h0⟩ | ⟨g, cap', cur, hv, hg, hh, hc, _, hcs, htk⟩⟩ := h
  · omega
  · injection hv with h1 h2 h3
    subst h1; subst h3
    have at' : ∀ j u, (l.map (Value.int .i64) ++ [.int .i64 (-77), .int .i64 (-78)])[j]? = some u → cur[j]? = some u := fun j u hj => by
      have hjl := (List.getElem?_eq_some_iff.1 hj).1
      simp only [List.length_append, List.length_map, List.length_cons, List.length_nil] at hjl
      rw [← hj, ← htk, List.getElem?_take_of_lt (by omega), Array.getElem?_toList]
    refine ⟨⟨g, cap, cur, by rw [hl], by omega, hg, hh, fun j z hz => at' j _ ?_, at' _ _ ?_, at' _ _ ?_⟩, by omega⟩
    · rw [List.getElem?_append_left (by rw [List.length_map]; exact (List.getElem?_eq_some_iff.1 hz).1), List.getElem?_map, hz]; rfl
    · rw [List.getElem?_append_right (by rw [List.length_map]; exact Nat.le_refl _), List.length_map, Nat.sub_self]; rfl
    · rw [List.getElem?_append_right (by rw [List.length_map]; omega), List.length_map, show l.length + 1 - l.length = 1 by omega]; rfl

set_option maxRecDepth 100000 in
set_option maxHeartbeats 2000000 in
theorem lent_any (A : Option Addr) (n c : Nat) (l : List Int) (w : World) (hr : ReadsI w (.slice A n c) l) (hn : n * 8 ≤ 140737488351232) :
    Calls Tryz.prog 12 #[.slice A n c] w fun e w' => ∃ A' cap, e = .returned (.slice A' n cap) ∧ Below w.heap.size w w' ∧ LentI w' w.heap.size (.slice A' n cap) l := by
  obtain ⟨i0, ii, iz0, iz1, iz2⟩ := info_parts infoInt
  have hlen := Lib.hid hr.len
  go_enter Tryz.func12, Tryz.ntmps12
  have tok : True := trivial
  go_wp2_with (first
    | (at_builtin; have _t := tok; refine wpList_append_ints _ rfl _ _ 50 rfl w.heap.size 3 i0 Tryz.underlying50 ii iz0 iz1 iz2 _ 0 [] rfl (World.ownsRow_nil _ _ _ _) A n c l rfl hr (by unfold maxLen; omega) (by omega) (Nat.le_refl _) ?_; intro v1 w1 hown1 hg1; rw [Nat.zero_add, List.nil_append] at hown1; have hb1 := below_append (Below.refl w.heap.size w) (World.ownsRow_nil w w.heap.size 3 1) (Nat.le_refl _) (Nat.le_refl _) hg1; obtain ⟨A1, cap1, rfl⟩ := own_slice hown1; clear _t tok)
    | (at_builtin; refine wpList_append_own _ rfl _ _ 50 rfl w.heap.size 3 i0 _ 1 8 Tryz.underlying50 ii iz0 iz1 iz2 rfl (by decide) _ _ _ rfl (hown1.alloc _) ⟨w1.heap.size, 0, none⟩ 2 2 [.int .i64 (-77), .int .i64 (-78)] rfl rfl (new_cells w1 [.int .i64 (-77), .int .i64 (-78)] 3) (fun u hu => by simp only [List.mem_cons, List.not_mem_nil, or_false] at hu; rcases hu with rfl | rfl <;> rfl) (by unfold maxLen; omega) (by omega) (by have := hb1.size; simp; omega) ?_; intro v2 w2 hown2 hg2 _; obtain ⟨A2, cap2, rfl⟩ := own_slice hown2; obtain ⟨hlent, hcap⟩ := lent_of_own hown2 hlen.out))
  go_ret
  exact ⟨A2, cap2, rfl, below_append (hb1.alloc hb1.size _) (hown1.alloc _) (Nat.le_refl _) (by have := hb1.size; simp; omega) hg2, hlent⟩

set_option maxRecDepth 100000 in
set_option maxHeartbeats 2000000 in
theorem stays_any (B : Option Addr) (n c d base : Nat) (A : Option Addr) (l : List Int) (w : World) (ha : LentI w base (.slice A n c) l) (hb : ReadsI w (.slice B n d) l) (hn : n ≤ 140737488355328) :
    Calls Tryz.prog 16 #[.slice A n c, .slice B n d] w fun e w' => e = .returned (.bool true) ∧ ∃ m, w' = w.drewN m := by
  have hR := ha.row.reads
  have hlen := hb.len
  obtain ⟨g, cap, cur, hv, h2, h3, h4, h5, h6, h7⟩ := ha
  injection hv with e1 e2 e3
  subst e1; subst e3
  rw [hlen] at h2 h6 h7
  have hnm : n ≤ maxLen := by unfold maxLen; omega
  have c1 : w.cell? ⟨g, n, none⟩ = some (.int .i64 (-77)) := by rw [cell_of_row w g n cur _ _ h4]; exact h6
  have c2 : w.cell? ⟨g, n + 1, none⟩ = some (.int .i64 (-78)) := by rw [cell_of_row w g (n + 1) cur _ _ h4]; exact h7
  have HR := Lib.hid hR
  have HB := Lib.hid hb
  clear hR hb h3 h4 h5 h6 h7 e2 hlen
  go_enter Tryz.func16, Tryz.ntmps16
  go_wp2_with (first
    | (go_at_call 25; refine (sameInts_true _ _ _ _ _ l _ HR.out HB.out hnm).mono ?_; rintro e w1 ⟨rfl, m, hw1⟩; have d1 : w1.cell? ⟨g, n, none⟩ = some (.int .i64 (-77)) := (by rw [hw1]; exact c1); have d2 : w1.cell? ⟨g, n + 1, none⟩ = some (.int .i64 (-78)) := (by rw [hw1]; exact c2); have HW := Lib.hid hw1; clear hw1))
  go_ret
  exact ⟨rfl, m, HW.out⟩
end Go.Proofs.YtinobikikineiabGreatDoor
