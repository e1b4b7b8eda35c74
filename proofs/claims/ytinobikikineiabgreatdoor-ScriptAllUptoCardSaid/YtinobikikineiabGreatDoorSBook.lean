/- Rows of numbers that lie apart, and an append that leaves the shorter rows of its block. No conditions. -/
import Derived.Test.YtinobikikineiabGreatDoorSAlive
namespace Go.Proofs.YtinobikikineiabGreatDoor
open Go.RowKit Go.Shelf

/-- An append of something to a row of the call's own: the new row lies in the old one's block or in a new one, and every row that is no longer than the old one stays. -/
theorem append_far {P : Program} {w : World} {base n m c bytes : Nat} {t ty e : TypeId} {i : TypeInfo} {z : Value} {v : Value} {xs news : List Value} {ad : Addr} (ht : P.underlying t = some (.slice e)) (hi : P.info? e = some i) (iz : i.zero = some z) (i1 : i.size = 1) (i2 : i.bytes = bytes) (hzs : z.cells.size = 1)
    (hown : w.ownsRow base e 1 v n xs) (hl : news.length = m) (hnews : ∀ j u, news[j]? = some u → w.cell? (ad.add j) = some u) (h1 : ∀ u ∈ news, u.oneCell' = true) (hm0 : 0 < m) (hmax : n + m ≤ maxLen) (hb48 : (n + m) * bytes ≤ 140737488355328) (hb : base ≤ w.heap.size) :
    ∃ v' w', (Builtin.append_ #[t, t] ty #[v, .slice (some ad) m c]).run P w = .ok v' w' ∧ w'.ownsRow base e 1 v' (n + m) (xs ++ news) ∧ w.grownBy w' v.ownBlock ∧ (v'.ownBlock = v.ownBlock ∨ ∃ g, v'.ownBlock = some g ∧ w.heap.size ≤ g) ∧
      (∀ base' u k ys, k ≤ n → w.ownsRow base' e 1 u k ys → w'.ownsRow base' e 1 u k ys) := by
  subst i2
  have hxl : xs.length = n := by simpa using hown.1
  have hsmall : n + m ≤ 9223372036854775807 := by unfold maxLen at hmax; omega
  have hlen : (xs ++ news).length = (n + m) * 1 := by rw [List.length_append, hxl, hl, Nat.mul_one]
  have new : ∀ old : Nat, (w.drew.alloc (.cells ((xs ++ news).toArray ++ Builtin.zeroCells z.cells (grownCap w (n + m) old e - (n + m))) e)).ownsRow base e 1
      (.slice (some ⟨w.heap.size, 0, none⟩) (n + m) (grownCap w (n + m) old e)) (n + m) (xs ++ news) := fun old => by
    have hge := grownCap_ge w (n + m) old e
    refine ⟨hlen, .inr ⟨w.heap.size, _, _, rfl, hb, heap_alloc_new w.drew _, hge, grownCap_le_maxLen w (n + m) old e hmax, ?_, ?_⟩⟩
    · rw [Array.size_append, List.size_toArray, size_zeroCells, hzs, hlen]
      omega
    · rw [Array.toList_append, ← hlen]
      exact List.take_left
  have keep : ∀ (r : Option Nat) (c : Array Value), w.grownBy (w.drew.alloc (.cells c e)) r := fun r c => ⟨rfl, rfl, rfl, by simp, fun k hk _ => _root_.Go.heap_alloc_old _ _ hk⟩
  have old : ∀ (c : Array Value) (base' : Nat) (u : Value) (k : Nat) (ys : List Value), w.ownsRow base' e 1 u k ys → (w.drew.alloc (.cells c e)).ownsRow base' e 1 u k ys := fun c base' u k ys h => h.kept (row := none) (keep none c) (by cases hu : u.ownBlock <;> simp)
  rcases hown.2 with ⟨rfl, rfl⟩ | ⟨g, cap, cur, rfl, hbg, hg, hnc, hcm, hcs, htk⟩
  · obtain rfl : xs = [] := List.eq_nil_of_length_eq_zero hxl
    have hr := run_append_nil (P := P) w t ty e i z ht hi iz ad m c news (by rw [i1, hl, Nat.mul_one]) hnews hm0 (by omega) (by have := hb48; rw [Nat.zero_add] at this; omega)
    have h2 := new 0
    rw [Nat.zero_add, List.nil_append] at h2
    rw [Nat.zero_add, List.nil_append]
    exact ⟨_, _, hr, h2, keep _ _, .inr ⟨_, rfl, Nat.le_refl _⟩, fun base' u k ys _ h => old _ _ _ _ _ h⟩
  · by_cases hroom : n + m ≤ cap
    · have hcs' : cur.size = cap := by simpa using hcs
      have ht' : cur.toList.take n = xs := by simpa using htk
      have hr := run_append_room (P := P) w t ty e i ht hi g n cap cur hg ad m c news (by rw [i1, hl, Nat.mul_one]) hnews h1 hroom (by rw [i1, hl]; omega)
      rw [i1, hl, Nat.mul_one] at hr
      have hnl : (cur.toList.take n ++ news ++ cur.toList.drop (n + m)).length = cur.size := by
        rw [List.length_append, List.length_append, List.length_take, List.length_drop, Array.length_toList, hl]
        omega
      refine ⟨_, _, hr, ⟨hlen, .inr ⟨g, cap, _, rfl, hbg, setRow_heap w g cur _ e _ hg, hroom, hcm, ?_, ?_⟩⟩, ⟨rfl, rfl, rfl, by simp, fun k _ hk => setRow_other w g k _ (fun e => hk (by rw [e]; rfl))⟩, .inl rfl, fun base' u k ys hk h => ?_⟩
      · rw [List.size_toArray, hnl, hcs]
      · rw [ht', ← hlen]
        exact List.take_left
      · obtain ⟨hl2, h0 | ⟨g2, cap2, cur2, rfl, hbg2, hg2, hnc2, hcm2, hcs2, htk2⟩⟩ := h
        · exact ⟨hl2, .inl h0⟩
        · by_cases hgg : g2 = g
          · subst hgg
            rw [hg] at hg2
            injection hg2 with hg2
            injection hg2 with hg2 _ _
            subst hg2
            refine ⟨hl2, .inr ⟨g2, cap2, _, rfl, hbg2, setRow_heap w g2 cur _ e _ hg, hnc2, hcm2, ?_, ?_⟩⟩
            · rw [List.size_toArray, hnl, hcs2]
            · rw [← htk2, List.append_assoc, List.take_append_of_le_length (by rw [List.length_take, Array.length_toList, hcs']; omega), List.take_take]
              congr 1
              omega
          · refine ⟨hl2, .inr ⟨g2, cap2, cur2, rfl, hbg2, ?_, hnc2, hcm2, hcs2, htk2⟩⟩
            rw [setRow_other w g g2 _ hgg]
            exact hg2
    · have hr := run_append_grow (P := P) w t ty e i z ht hi iz ⟨g, 0, none⟩ n cap xs (by rw [i1]; simpa using hxl) (hown.cells (g := g) rfl) ad m c news (by rw [i1, hl, Nat.mul_one]) hnews (by omega) (by omega) (growslice_fits (by omega) hb48)
      have h2 := new cap
      rw [← List.append_toArray] at h2
      exact ⟨_, _, hr, h2, by rw [List.append_toArray]; exact keep _ _, .inr ⟨_, rfl, Nat.le_refl _⟩, fun base' u k ys _ h => by rw [List.append_toArray]; exact old _ _ _ _ _ h⟩
theorem wpList_append_far {P : Program} (w : World) {ops : Array Oper} {rest : List Oper} {o : Oper} {a : Act} {Q : Exit → Act → World → Prop} (hgd : Region.wanted o (yielded ops a.tmps) = true) (s x : Operand) (t : TypeId)
    (ho : o.op = .call { callee := .builtin .append, args := #[s, x], argTypes := #[t, t] })
    (base : Nat) (e : TypeId) (i : TypeInfo) (z : Value) (bytes : Nat) (ht : P.underlying t = some (.slice e)) (hi : P.info? e = some i) (hz : i.zero = some z)
    (hsize : i.size = 1) (hby : i.bytes = bytes) (hzs : z.cells.size = 1)
    (v : Value) (n : Nat) (xs : List Value) (hs : a.eval s = v) (hown : w.ownsRow base e 1 v n xs)
    (ad : Addr) (m c : Nat) (news : List Value) (hx : a.eval x = .slice (some ad) m c) (hl : news.length = m) (hnews : ∀ j u, news[j]? = some u → w.cell? (ad.add j) = some u) (h1 : ∀ u ∈ news, u.oneCell' = true)
    (hm0 : 0 < m) (h63 : n + m ≤ maxLen) (hbytes : (n + m) * bytes ≤ 140737488355328) (hbase : base ≤ w.heap.size)
    (h : ∀ v' w', w'.ownsRow base e 1 v' (n + m) (xs ++ news) → w.grownBy w' v.ownBlock → (v'.ownBlock = v.ownBlock ∨ ∃ g, v'.ownBlock = some g ∧ w.heap.size ≤ g) → (∀ base' u k ys, k ≤ n → w.ownsRow base' e 1 u k ys → w'.ownsRow base' e 1 u k ys) →
      wpList P ops Q rest (a.put o.dst v') w') : wpList P ops Q (o :: rest) a w := by
  refine wpList_step fun K hK => ?_
  rw [if_pos hgd]
  obtain ⟨v', w', hr, h2, h3, h4, h5⟩ := append_far (ty := o.type) (c := c) ht hi hz hsize hby hzs hown hl hnews h1 hm0 h63 hbytes hbase
  unfold Oper.wp execOp
  simp only [ho, resolve, invoke, builtin, Sem.run_bind, Sem.run_pure, Result.andThen_ok, List.map_toArray, List.map_cons, List.map_nil, hs, hx, hr]
  exact hK _ _ (h v' w' h2 h3 h4 h5)

/-- The same as one step of a region that draws its order. -/
theorem step_far {P : Program} {ops : Array Oper} {o : Oper} {a : Act} {w : World} {K : Act → World → Prop} {Q : Exit → Act → World → Prop} {E : Prop} (hgd : o.guard = none) (s x : Operand) (t : TypeId)
    (ho : o.op = .call { callee := .builtin .append, args := #[s, x], argTypes := #[t, t] })
    (base : Nat) (e : TypeId) (i : TypeInfo) (z : Value) (bytes : Nat) (ht : P.underlying t = some (.slice e)) (hi : P.info? e = some i) (hz : i.zero = some z)
    (hsize : i.size = 1) (hby : i.bytes = bytes) (hzs : z.cells.size = 1)
    (v : Value) (n : Nat) (xs : List Value) (hs : a.eval s = v) (hown : w.ownsRow base e 1 v n xs)
    (ad : Addr) (m c : Nat) (news : List Value) (hx : a.eval x = .slice (some ad) m c) (hl : news.length = m) (hnews : ∀ j u, news[j]? = some u → w.cell? (ad.add j) = some u) (h1 : ∀ u ∈ news, u.oneCell' = true)
    (hm0 : 0 < m) (h63 : n + m ≤ maxLen) (hbytes : (n + m) * bytes ≤ 140737488355328) (hbase : base ≤ w.heap.size)
    (h : ∀ v' w', w'.ownsRow base e 1 v' (n + m) (xs ++ news) → w.grownBy w' v.ownBlock → (v'.ownBlock = v.ownBlock ∨ ∃ g, v'.ownBlock = some g ∧ w.heap.size ≤ g) → K (a.put o.dst v') w') :
    if Region.wanted o (yielded ops a.tmps) = true then Oper.wp P o a w K Q else E := by
  have hw : Region.wanted o (yielded ops a.tmps) = true := by simp [Region.wanted, hgd]
  rw [if_pos hw]
  obtain ⟨v', w', hr, h2, h3, h4, _⟩ := append_far (ty := o.type) (c := c) ht hi hz hsize hby hzs hown hl hnews h1 hm0 h63 hbytes hbase
  unfold Oper.wp execOp
  simp only [ho, resolve, invoke, builtin, Sem.run_bind, Sem.run_pure, Result.andThen_ok, List.map_toArray, List.map_cons, List.map_nil, hs, hx, hr]
  exact h v' w' h2 h3 h4

/-- Rows that lie apart. -/
def Apart (us : List Value) : Prop := ∀ (i j : Nat) (u v : Value), i < j → us[i]? = some u → us[j]? = some v → ∀ g, u.ownBlock = some g → v.ownBlock ≠ some g
theorem Apart.nil : Apart [] := fun i j u v _ h => by simp at h
theorem Apart.snoc {us : List Value} {u : Value} (h : Apart us) (hu : ∀ x ∈ us, ∀ g, x.ownBlock = some g → u.ownBlock ≠ some g) : Apart (us ++ [u]) := by
  intro i j x y hij hx hy
  have hjl := (List.getElem?_eq_some_iff.1 hy).1
  rw [List.length_append, List.length_singleton] at hjl
  rw [List.getElem?_append_left (by omega)] at hx
  by_cases hj : j < us.length
  · rw [List.getElem?_append_left hj] at hy
    exact h i j x y hij hx hy
  · rw [List.getElem?_append_right (by omega), show j - us.length = 0 by omega] at hy
    obtain rfl : u = y := Option.some.inj hy
    exact hu x (List.mem_of_getElem? hx)
theorem Apart.two {us : List Value} (h : Apart us) {i j : Nat} {u v : Value} (hij : i ≠ j) (hu : us[i]? = some u) (hv : us[j]? = some v) : ∀ g, u.ownBlock = some g → v.ownBlock ≠ some g := by
  rcases Nat.lt_or_ge i j with hl | hl
  · exact h i j u v hl hu hv
  · intro g hg hg2
    exact h j i v u (by omega) hv hu g hg2 hg
/-- Numbers of the call's own keep while nothing touches the blocks of numbers that they lie in. -/
theorem OwnI.keep {W W' : World} {base : Nat} {u : Value} {l : List Int} (h : OwnI W base u l) (hk : ∀ (b : Nat) (cs : Array Value), base ≤ b → u.ownBlock = some b → W.heap[b]? = some (.cells cs 3 (0, 0)) → W'.heap[b]? = some (.cells cs 3 (0, 0))) : OwnI W' base u l := by
  obtain ⟨hl, h0 | ⟨g, cap, cur, rfl, hbase, hh, h⟩⟩ := h
  · exact ⟨hl, .inl h0⟩
  · exact ⟨hl, .inr ⟨g, cap, cur, rfl, hbase, hk _ _ hbase rfl hh, h⟩⟩
theorem OwnI.low {W : World} {base base' : Nat} {u : Value} {l : List Int} (h : OwnI W base u l) (hb : base' ≤ base) : OwnI W base' u l := own_base h hb
theorem OwnI.lt {W : World} {base : Nat} {u : Value} {l : List Int} (h : OwnI W base u l) : ∀ g, u.ownBlock = some g → base ≤ g ∧ g < W.heap.size := fun g hg => own_lt h g hg
theorem OwnI.slice {W : World} {base : Nat} {u : Value} {l : List Int} (h : OwnI W base u l) : ∃ A c, u = .slice A l.length c := own_slice h

/-- An append to a row of commands leaves the rows of numbers. -/
theorem ints_kept' {W W2 : World} {base n : Nat} {v : Value} {xs : List Value} (hown : W.ownsRow base 52 3 v n xs) (hg : W.grownBy W2 v.ownBlock) : ∀ (b : Nat) (cs : Array Value), W.heap[b]? = some (.cells cs 3 (0, 0)) → W2.heap[b]? = some (.cells cs 3 (0, 0)) := by
  intro b cs hb
  refine (hg.block b (lt_of_cells hb) ?_).trans hb
  intro e
  obtain ⟨_, ⟨rfl, _⟩ | ⟨g, cap, cur, rfl, _, hh2, _⟩⟩ := hown
  · cases e
  · simp only [Value.ownBlock, Option.some.injEq] at e
    subst e
    rw [hb] at hh2
    injection hh2 with hh2
    injection hh2 with _ ht _
    exact absurd ht (by decide)

/-- A list of commands of the call's own, the numbers of each in a block of its own. -/
def OwnD (W : World) (base : Nat) (v : Value) (cs : List Sc.Cmd) (us : List Value) : Prop :=
  us.length = cs.length ∧ W.ownsRow base 52 3 v cs.length (flatC cs us) ∧ (∀ (j : Nat) (c : Sc.Cmd), cs[j]? = some c → ∃ u : Value, us[j]? = some u ∧ OwnI W base u c.nums) ∧ Apart us
theorem OwnD.nil (W : World) (base : Nat) : OwnD W base (.slice none 0 0) [] [] := ⟨rfl, World.ownsRow_nil _ _ _ _, fun j r h => by simp at h, Apart.nil⟩
theorem OwnD.keep {W W' : World} {base : Nat} {v : Value} {cs : List Sc.Cmd} {us : List Value} (h : OwnD W base v cs us) (hk : ∀ (b : Nat) (cs : Array Value) (t : TypeId), base ≤ b → (t = 3 ∨ t = 52) → W.heap[b]? = some (.cells cs t (0, 0)) → W'.heap[b]? = some (.cells cs t (0, 0))) : OwnD W' base v cs us := by
  obtain ⟨h0, h1, h2, h3⟩ := h
  refine ⟨h0, ?_, fun j r hj => ?_, h3⟩
  · obtain ⟨hl, h0 | ⟨g, cap, cur, rfl, hbase, hh, h⟩⟩ := h1
    · exact ⟨hl, .inl h0⟩
    · exact ⟨hl, .inr ⟨g, cap, cur, rfl, hbase, hk _ _ _ hbase (.inr rfl) hh, h⟩⟩
  · obtain ⟨u, h4, h5⟩ := h2 j r hj
    exact ⟨u, h4, h5.keep fun b cs hb _ hc => hk b cs _ hb (.inl rfl) hc⟩
theorem OwnD.low {W : World} {base base' : Nat} {v : Value} {cs : List Sc.Cmd} {us : List Value} (h : OwnD W base v cs us) (hb : base' ≤ base) : OwnD W base' v cs us := by
  obtain ⟨h0, h1, h2, h3⟩ := h
  refine ⟨h0, own_base h1 hb, fun j r hj => ?_, h3⟩
  obtain ⟨u, h4, h5⟩ := h2 j r hj
  exact ⟨u, h4, h5.low hb⟩
theorem OwnD.owns {W : World} {base : Nat} {v : Value} {cs : List Sc.Cmd} {us : List Value} (h : OwnD W base v cs us) : OwnC W base v cs :=
  ⟨us, h.1, h.2.1, fun j c hj => by obtain ⟨u, h4, h5⟩ := h.2.2.1 j c hj; exact ⟨u, h4, h5.row⟩⟩
theorem OwnD.append {W W2 : World} {base S : Nat} {v v2 u : Value} {cs : List Sc.Cmd} {c : Sc.Cmd} {us : List Value} (h : OwnD W base v cs us) (hr : OwnI W S u c.nums) (hS : base ≤ S) (hlow : ∀ x ∈ us, ∀ g, x.ownBlock = some g → g < S)
    (hown : W2.ownsRow base 52 3 v2 (cs.length + 1) (flatC cs us ++ cmdCells c u)) (hg : W.grownBy W2 v.ownBlock) : OwnD W2 base v2 (cs ++ [c]) (us ++ [u]) := by
  obtain ⟨h0, h1, h2, h3⟩ := h
  have hk := ints_kept' h1 hg
  refine ⟨by simp [h0], by rw [List.length_append, flatC_snoc _ _ _ _ h0]; exact hown, fun j d hj => ?_, h3.snoc fun x hx g hgx hgu => ?_⟩
  · rw [List.getElem?_append] at hj
    split at hj
    · obtain ⟨x, hx1, hx2⟩ := h2 j d hj
      exact ⟨x, by rw [List.getElem?_append_left (by omega)]; exact hx1, hx2.keep fun b cs _ _ hh => hk b cs hh⟩
    · rename_i hlt
      have hjj : j - cs.length = 0 := by have := (List.getElem?_eq_some_iff.1 hj).1; simp at this; omega
      rw [hjj] at hj
      obtain rfl : c = d := Option.some.inj hj
      exact ⟨u, by rw [List.getElem?_append_right (by omega), h0, hjj]; rfl, (hr.low hS).keep fun b cs _ _ hh => hk b cs hh⟩
  · have := hlow x hx g hgx
    have := (hr.lt g hgu).1
    omega
end Go.Proofs.YtinobikikineiabGreatDoor
