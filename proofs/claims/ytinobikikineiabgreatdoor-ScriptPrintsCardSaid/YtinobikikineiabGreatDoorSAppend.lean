/- An append of a row of the call's own to another one, nil or not; two lists of commands behind one another. No conditions. -/
import Derived.Test.YtinobikikineiabGreatDoorSAlive
import Derived.Laws.AppendOwnNone
namespace Go.Proofs.YtinobikikineiabGreatDoor
open Go.RowKit Go.Shelf

theorem wpList_append_src {P : Program} (w : World) {ops : Array Oper} {rest : List Oper} {o : Oper} {a : Act} {Q : Exit → Act → World → Prop} (hgd : Region.wanted o (yielded ops a.tmps) = true) (s x : Operand) (t : TypeId)
    (ho : o.op = .call { callee := .builtin .append, args := #[s, x], argTypes := #[t, t] })
    (base : Nat) (e : TypeId) (i : TypeInfo) (z : Value) (size bytes : Nat) (ht : P.underlying t = some (.slice e)) (hi : P.info? e = some i) (hz : i.zero = some z)
    (hsize : i.size = size) (hby : i.bytes = bytes) (hzs : z.cells.size = size) (hsz : 0 < size)
    (v : Value) (n : Nat) (xs : List Value) (hs : a.eval s = v) (hown : w.ownsRow base e size v n xs)
    (base2 : Nat) (vs : Value) (m : Nat) (news : List Value) (hx : a.eval x = vs) (hsrc : w.ownsRow base2 e size vs m news) (h1 : ∀ u ∈ news, u.oneCell' = true)
    (h63 : n + m ≤ maxLen) (hbytes : (n + m) * bytes ≤ 140737488355328) (hbase : base ≤ w.heap.size)
    (h : ∀ v' w', w'.ownsRow base e size v' (n + m) (xs ++ news) → w.grownBy w' v.ownBlock → wpList P ops Q rest (a.put o.dst v') w') : wpList P ops Q (o :: rest) a w := by
  refine wpList_step fun K hK => ?_
  rw [if_pos hgd]
  obtain ⟨hl, ⟨rfl, rfl⟩ | ⟨g, cap, cur, rfl, hg, hh, hc, _, hcs, htk⟩⟩ := hsrc
  · have hnews : news = [] := List.eq_nil_of_length_eq_zero (by rw [hl, Nat.zero_mul])
    subst hnews
    have hrun := run_append_owned_none (P := P) (w := w) base t o.type e i size ht hi v n xs hown
    unfold Oper.wp
    simp [execOp, ho, resolve, invoke, builtin, hs, hx, hrun, Result.andThen]
    exact hK _ _ (h v w (by simpa using hown) ⟨rfl, rfl, rfl, Nat.le_refl _, fun _ _ _ => rfl⟩)
  · refine wp_append_own w s x t ho base e i z size bytes ht hi hz hsize hby hzs hsz v n xs hs hown ⟨g, 0, none⟩ m cap news hx hl (fun j u hj => ?_) h1 h63 hbytes hbase (fun v' w' h2 h3 _ => hK _ _ (h v' w' h2 h3))
    have hjl := (List.getElem?_eq_some_iff.1 hj).1
    have ha : ((⟨g, 0, none⟩ : Addr).add j) = ⟨g, j, none⟩ := by
      unfold Addr.add
      split
      · rename_i h; subst h; rfl
      · simp
    rw [ha, cell_of_row w g j cur _ _ hh, ← hj, ← htk, List.getElem?_take_of_lt (by rw [hl] at hjl; exact hjl), Array.getElem?_toList]

theorem flatC_append (cs : List Sc.Cmd) (us : List Value) (ds : List Sc.Cmd) (vs : List Value) (h : us.length = cs.length) : flatC (cs ++ ds) (us ++ vs) = flatC cs us ++ flatC ds vs := by
  unfold flatC
  rw [List.zip_append h.symm, List.flatMap_append]
theorem flatC_one (cs : List Sc.Cmd) : ∀ us : List Value, us.length = cs.length → (∀ (j : Nat) (c : Sc.Cmd), cs[j]? = some c → ∃ (u : Value), us[j]? = some u ∧ u.oneCell' = true) → ∀ u ∈ flatC cs us, u.oneCell' = true := by
  induction cs with
  | nil => intro us _ _ u hu; simp [flatC] at hu
  | cons c cs ih =>
    intro us hl h u hu
    cases us with
    | nil => simp at hl
    | cons x xs =>
      have e : flatC (c :: cs) (x :: xs) = cmdCells c x ++ flatC cs xs := rfl
      rw [e] at hu
      rcases List.mem_append.1 hu with hu | hu
      · obtain ⟨y, hy, hone⟩ := h 0 c rfl
        simp only [List.getElem?_cons_zero, Option.some.injEq] at hy
        subst hy
        simp only [cmdCells, List.mem_cons, List.not_mem_nil, or_false] at hu
        rcases hu with rfl | rfl | rfl
        · rfl
        · rfl
        · exact hone
      · exact ih xs (by simpa using hl) (fun j d hj => h (j + 1) d hj) u hu
theorem RowI.one {W : World} {base : Nat} {u : Value} {l : List Int} (h : RowI W base u l) : u.oneCell' = true := by
  obtain ⟨A, c, rfl, _⟩ := h
  rfl
/-- A list of commands by its rows. -/
structure CmdsAt (W : World) (base : Nat) (v : Value) (cs : List Sc.Cmd) (us : List Value) : Prop where
  len : us.length = cs.length
  own : W.ownsRow base 52 3 v cs.length (flatC cs us)
  rows : ∀ (j : Nat) (c : Sc.Cmd), cs[j]? = some c → ∃ u : Value, us[j]? = some u ∧ RowI W base u c.nums
theorem OwnC.at {W : World} {base : Nat} {v : Value} {cs : List Sc.Cmd} (h : OwnC W base v cs) : ∃ us, CmdsAt W base v cs us := by
  obtain ⟨us, h0, h1, h2⟩ := h
  exact ⟨us, h0, h1, h2⟩
theorem CmdsAt.one {W : World} {base : Nat} {v : Value} {cs : List Sc.Cmd} {us : List Value} (h : CmdsAt W base v cs us) : ∀ u ∈ flatC cs us, u.oneCell' = true :=
  flatC_one cs us h.len (fun j c hj => by obtain ⟨u, h1, h2⟩ := h.rows j c hj; exact ⟨u, h1, h2.one⟩)
theorem CmdsAt.keep {W W' : World} {base : Nat} {v : Value} {cs : List Sc.Cmd} {us : List Value} (h : CmdsAt W base v cs us) (hk : ∀ (b : Nat) (cs : Array Value) (t : TypeId), base ≤ b → W.heap[b]? = some (.cells cs t (0, 0)) → W'.heap[b]? = some (.cells cs t (0, 0))) : CmdsAt W' base v cs us :=
  ⟨h.len, own_keep h.own fun k cs t hb hc => hk k cs t hb hc, fun j r hj => by
    obtain ⟨u, h3, h4⟩ := h.rows j r hj
    exact ⟨u, h3, h4.keep fun b cs hb hc => hk b cs _ hb hc⟩⟩
theorem CmdsAt.low {W : World} {base base' : Nat} {v : Value} {cs : List Sc.Cmd} {us : List Value} (h : CmdsAt W base v cs us) (hb : base' ≤ base) : CmdsAt W base' v cs us :=
  ⟨h.len, own_base h.own hb, fun j r hj => by
    obtain ⟨u, h3, h4⟩ := h.rows j r hj
    exact ⟨u, h3, h4.low hb⟩⟩
theorem CmdsAt.below {W W' : World} {base : Nat} {v : Value} {cs : List Sc.Cmd} {us : List Value} (h : CmdsAt W base v cs us) (hb : Below W.heap.size W W') : CmdsAt W' base v cs us :=
  h.keep fun b _ _ _ hh => (hb.block b (lt_of_cells hh)).trans hh
theorem CmdsAt.grown {W W' : World} {base : Nat} {v : Value} {cs : List Sc.Cmd} {us : List Value} (h : CmdsAt W base v cs us) (hg : W.grownBy W' none) : CmdsAt W' base v cs us :=
  h.keep fun b _ _ _ hh => (hg.block b (lt_of_cells hh) (fun e => by cases e)).trans hh
theorem CmdsAt.owns {W : World} {base : Nat} {v : Value} {cs : List Sc.Cmd} {us : List Value} (h : CmdsAt W base v cs us) : OwnC W base v cs := ⟨us, h.len, h.own, h.rows⟩
/-- A copy of a list reads as the list does. -/
theorem CmdsAt.copy {W W2 : World} {base B : Nat} {v v2 : Value} {cs ds : List Sc.Cmd} {us vs : List Value} (h1 : CmdsAt W base v cs us) {v' : Value} (h2 : CmdsAt W base v' ds vs)
    (hown : W2.ownsRow B 52 3 v2 (cs.length + ds.length) (flatC cs us ++ flatC ds vs)) (hB : base ≤ B) (hk : ∀ (b : Nat) (cs : Array Value), W.heap[b]? = some (.cells cs 3 (0, 0)) → W2.heap[b]? = some (.cells cs 3 (0, 0))) : CmdsAt W2 base v2 (cs ++ ds) (us ++ vs) := by
  refine ⟨by rw [List.length_append, List.length_append, h1.len, h2.len], by rw [List.length_append, flatC_append _ _ _ _ h1.len]; exact own_base hown hB, fun j c hj => ?_⟩
  rw [List.getElem?_append] at hj
  split at hj
  · obtain ⟨x, hx1, hx2⟩ := h1.rows j c hj
    exact ⟨x, by rw [List.getElem?_append_left (by rw [h1.len]; assumption)]; exact hx1, hx2.keep fun b cs _ hh => hk b cs hh⟩
  · obtain ⟨x, hx1, hx2⟩ := h2.rows _ c hj
    exact ⟨x, by rw [List.getElem?_append_right (by rw [h1.len]; omega), h1.len]; exact hx1, hx2.keep fun b cs _ hh => hk b cs hh⟩
/-- A copy of a list reads as the list does: an append to nil. -/
theorem CmdsAt.first {W W2 : World} {base B : Nat} {v' v2 : Value} {ds : List Sc.Cmd} {vs : List Value} (h2 : CmdsAt W base v' ds vs) (hown : W2.ownsRow B 52 3 v2 ds.length (flatC ds vs)) (hB : base ≤ B) (hg : W.grownBy W2 none) : CmdsAt W2 base v2 ds vs :=
  ⟨h2.len, own_base hown hB, fun j c hj => by
    obtain ⟨x, hx1, hx2⟩ := h2.rows j c hj
    exact ⟨x, hx1, hx2.keep fun b cs _ hh => (hg.block b (lt_of_cells hh) (fun e => by cases e)).trans hh⟩⟩
/-- An append to a row of commands leaves the rows of numbers. -/
theorem ints_kept {W W2 : World} {base n : Nat} {v : Value} {xs : List Value} (hown : W.ownsRow base 52 3 v n xs) (hg : W.grownBy W2 v.ownBlock) : ∀ (b : Nat) (cs : Array Value), W.heap[b]? = some (.cells cs 3 (0, 0)) → W2.heap[b]? = some (.cells cs 3 (0, 0)) := by
  intro b cs hb
  refine (hg.block b (lt_of_cells hb) ?_).trans hb
  intro e
  obtain ⟨_, ⟨rfl, _⟩ | ⟨g, cap, cur, rfl, _, hh2, _⟩⟩ := hown
  · cases e
  · simp only [Value.ownBlock, Option.some.injEq] at e
    subst e
    rw [hb] at hh2
    injection hh2 with hh2
    injection hh2 with _ ht _
    exact absurd ht (by decide)
end Go.Proofs.YtinobikikineiabGreatDoor
