/- The walk of the Book's put: each list of numbers is written over by its marks. Conditions: the lists are short and lie apart. -/
import Derived.Test.YtinobikikineiabGreatDoorSBookMark
namespace Go.Proofs.YtinobikikineiabGreatDoor
open Go.RowKit Go.Shelf

/-- The Book's lists, without their copies. -/
structure BookU (W : World) (base B : Nat) (I : Value) (us : List Value) (ls : List (List Int)) : Prop where
  blk : ∃ X, W.heap[B]? = some (.cells (bookCells I X) 37 (0, 0))
  lu : us.length = ls.length
  oi : W.ownsRow base 50 1 I ls.length us
  ru : ∀ (j : Nat) (l : List Int), ls[j]? = some l → ∃ u, us[j]? = some u ∧ OwnI W base u l
  apart : Apart us
  low : B < base
theorem BookAt.lists {W : World} {base B : Nat} {I X : Value} {us vs : List Value} {ls : List (List Int)} (h : BookAt W base B I X us vs ls) : BookU W base B I us ls := ⟨⟨X, h.blk⟩, h.lu, h.oi, h.ru, h.apart, h.low⟩
theorem BookU.below {W W' : World} {base B : Nat} {I : Value} {us : List Value} {ls : List (List Int)} (h : BookU W base B I us ls) (hb : Below W.heap.size W W') : BookU W' base B I us ls := by
  obtain ⟨⟨X, h0⟩, h1, h2, h3, h4, h5⟩ := h
  exact ⟨⟨X, (hb.block B (lt_of_cells h0)).trans h0⟩, h1, own_below h2 hb, fun j l hj => by obtain ⟨u, a, b⟩ := h3 j l hj; exact ⟨u, a, own_below b hb⟩, h4, h5⟩
theorem BookU.cell {W : World} {base B : Nat} {I : Value} {us : List Value} {ls : List (List Int)} (h : BookU W base B I us ls) : W.cell? ⟨B, 0, none⟩ = some I := by
  obtain ⟨X, h0⟩ := h.blk
  rw [cell_of_row W B 0 _ _ _ h0]; rfl
theorem BookU.nils {W : World} {base B : Nat} {I : Value} {us : List Value} {ls : List (List Int)} (h : BookU W base B I us ls) (j : Nat) (hj : 2 ≤ j) (hj2 : j < 22) : W.cell? ⟨B, j, none⟩ = some (.slice none 0 0) := by
  obtain ⟨X, h0⟩ := h.blk
  rw [cell_of_row W B j _ _ _ h0]
  rcases (show j = 2 ∨ j = 3 ∨ j = 4 ∨ j = 5 ∨ j = 6 ∨ j = 7 ∨ j = 8 ∨ j = 9 ∨ j = 10 ∨ j = 11 ∨ j = 12 ∨ j = 13 ∨ j = 14 ∨ j = 15 ∨ j = 16 ∨ j = 17 ∨ j = 18 ∨ j = 19 ∨ j = 20 ∨ j = 21 by omega) with e | e | e | e | e | e | e | e | e | e | e | e | e | e | e | e | e | e | e | e <;> (subst e; rfl)

/-- The first lists are marked. -/
def upto (ls : List (List Int)) (j : Nat) : List (List Int) := ls.mapIdx fun i l => if i < j then marks i 0 l.length else l
theorem upto_get (ls : List (List Int)) (j i : Nat) : (upto ls j)[i]? = (ls[i]?).map fun l => if i < j then marks i 0 l.length else l := by simp [upto]
theorem upto_length (ls : List (List Int)) (j : Nat) : (upto ls j).length = ls.length := by simp [upto]
theorem upto_zero (ls : List (List Int)) : upto ls 0 = ls := by
  apply List.ext_getElem?
  intro i
  rw [upto_get]
  cases ls[i]? <;> simp
/-- And so much of the next one. -/
def half (ls : List (List Int)) (j : Nat) (l : List Int) (k : Nat) : List (List Int) := (upto ls j).set j ((marks j 0 l.length).take k ++ l.drop k)
theorem half_zero {ls : List (List Int)} {j : Nat} {l : List Int} (h : ls[j]? = some l) : half ls j l 0 = upto ls j := by
  apply List.ext_getElem?
  intro i
  unfold half
  rw [List.getElem?_set]
  split
  · rename_i e
    subst e
    have hl := (List.getElem?_eq_some_iff.1 h).1
    rw [upto_length, if_pos hl, upto_get, h]
    simp
  · rfl
theorem half_full {ls : List (List Int)} {j : Nat} {l : List Int} (h : ls[j]? = some l) : half ls j l l.length = upto ls (j + 1) := by
  apply List.ext_getElem?
  intro i
  unfold half
  rw [List.getElem?_set]
  have hl := (List.getElem?_eq_some_iff.1 h).1
  split
  · rename_i e
    subst e
    rw [upto_length, if_pos hl, upto_get, h]
    simp [List.take_of_length_le, marks_length]
  · rename_i e
    rw [upto_get, upto_get]
    congr 1
    funext m
    by_cases hi : i < j
    · rw [if_pos hi, if_pos (by omega)]
    · rw [if_neg hi, if_neg (by omega)]
theorem half_set {ls : List (List Int)} {j k : Nat} {l : List Int} (hk : k < l.length) : (half ls j l k).set j (((marks j 0 l.length).take k ++ l.drop k).set k (-1000000 * (j : Int) - ((0 : Nat) + (k : Int)) - 7)) = half ls j l (k + 1) := by
  unfold half
  rw [List.set_set]
  congr 1
  have hm := marks_get j 0 l.length k hk
  have hml := marks_length j 0 l.length
  rw [List.set_append_right _ _ (by rw [List.length_take, hml]; omega), List.length_take, hml, Nat.min_eq_left (by omega), Nat.sub_self, List.take_add_one, hm]
  rw [List.drop_eq_getElem_cons hk, List.set_cons_zero]
  simp
theorem half_get {ls : List (List Int)} {j : Nat} {l : List Int} (h : ls[j]? = some l) (k : Nat) : (half ls j l k)[j]? = some ((marks j 0 l.length).take k ++ l.drop k) := by
  unfold half
  rw [List.getElem?_set, if_pos rfl, if_pos (by rw [upto_length]; exact (List.getElem?_eq_some_iff.1 h).1)]
theorem half_length (ls : List (List Int)) (j : Nat) (l : List Int) (k : Nat) : (half ls j l k).length = ls.length := by simp [half, upto_length]

theorem OwnI.set {W : World} {base g n c k : Nat} {l : List Int} (h : OwnI W base (.slice (some ⟨g, 0, none⟩) n c) l) (_hk : k < l.length) (x : Int) : OwnI (W.setCell ⟨g, k, none⟩ (.int .i64 x)) base (.slice (some ⟨g, 0, none⟩) n c) (l.set k x) := by
  obtain ⟨hl, ⟨hv, h0⟩ | ⟨g', cap, cur, hv, hbase, hh, hc, hm, hs, ht⟩⟩ := h
  · cases hv
  · injection hv with h1 h2 h3
    injection h1 with h1
    injection h1 with h1 _ _
    subst h1; subst h3
    refine ⟨by simp, .inr ⟨g, c, cur.setIfInBounds k (.int .i64 x), by rw [h2, List.length_set], hbase, set_block hh _, by rw [List.length_set]; exact hc, hm, by rw [Array.size_setIfInBounds]; exact hs, ?_⟩⟩
    rw [List.length_set, Array.toList_setIfInBounds, List.take_set, ht, List.map_set]
/-- A store into a list's block. -/
theorem BookU.set {W : World} {base B g n c j k : Nat} {I : Value} {us : List Value} {ls : List (List Int)} {l : List Int} (h : BookU W base B I us ls) (hu : us[j]? = some (.slice (some ⟨g, 0, none⟩) n c)) (hl : ls[j]? = some l) (hk : k < l.length) (x : Int) :
    BookU (W.setCell ⟨g, k, none⟩ (.int .i64 x)) base B I us (ls.set j (l.set k x)) := by
  obtain ⟨⟨X, h0⟩, h1, h2, h3, h4, h5⟩ := h
  obtain ⟨u, hu', ho⟩ := h3 j l hl
  rw [hu] at hu'
  obtain rfl := Option.some.inj hu'
  have hg := ho.lt g rfl
  refine ⟨⟨X, set_far h0 (by omega)⟩, by rw [List.length_set]; exact h1, ?_, fun i m hi => ?_, h4, h5⟩
  · rw [List.length_set]
    obtain ⟨hl2, h6 | ⟨g2, cap, cur, rfl, hbase, hh, h⟩⟩ := h2
    · exact ⟨hl2, .inl h6⟩
    · refine ⟨hl2, .inr ⟨g2, cap, cur, rfl, hbase, set_far hh (fun e => ?_), h⟩⟩
      subst e
      obtain ⟨_, ⟨hv, _⟩ | ⟨g', cap', cur', hv, _, hh', _⟩⟩ := ho
      · cases hv
      · injection hv with e1 _ _
        injection e1 with e1
        injection e1 with e1 _ _
        subst e1
        rw [hh] at hh'
        injection hh' with hh'
        injection hh' with _ ht _
        exact absurd ht (by decide)
  · rw [List.getElem?_set] at hi
    split at hi
    · rename_i e
      subst e
      split at hi
      · obtain rfl := Option.some.inj hi
        exact ⟨_, hu, ho.set hk x⟩
      · cases hi
    · rename_i e
      obtain ⟨v, hv, hov⟩ := h3 i m hi
      exact ⟨v, hv, hov.keep fun b cs _ hb hh => set_far hh (fun e2 => h4.two e hu hv g rfl (by rw [hb, e2]))⟩

theorem OwnI.cell {W : World} {base n c : Nat} {A : Option Addr} {l : List Int} (h : OwnI W base (.slice A n c) l) (k : Nat) (x : Int) (hk : l[k]? = some x) : ∃ g, A = some ⟨g, 0, none⟩ ∧ base ≤ g ∧ W.cell? ⟨g, k, none⟩ = some (.int .i64 x) ∧ W.frozen? ⟨g, k, none⟩ = false := by
  have hkl := (List.getElem?_eq_some_iff.1 hk).1
  obtain ⟨hl, ⟨hv, h0⟩ | ⟨g, cap, cur, hv, hbase, hh, hc, hm, hs, ht⟩⟩ := h
  · omega
  · injection hv with h1 h2 h3
    refine ⟨g, h1, hbase, ?_, block_frozen hh k⟩
    have h4 : (l.map (Value.int .i64))[k]? = some (.int .i64 x) := by rw [List.getElem?_map, hk]; rfl
    rw [cell_of_row W g k cur _ _ hh, ← h4, ← ht, List.getElem?_take_of_lt (by omega), Array.getElem?_toList]

theorem BookU.drew {W : World} {base B : Nat} {I : Value} {us : List Value} {ls : List (List Int)} (h : BookU W base B I us ls) : BookU W.drew base B I us ls := ⟨h.blk, h.lu, h.oi, h.ru, h.apart, h.low⟩
/-- What the outer loop holds (kept shut). -/
def PutAt (w : World) (base B : Nat) (I : Value) (us : List Value) (ls : List (List Int)) (i : Value) (wr : World) : Prop :=
  ∃ j : Nat, j ≤ ls.length ∧ i = .int .i64 j ∧ BookU wr base B I us (upto ls j) ∧ Below B w wr
/-- The inner one. -/
def PutIn (w : World) (base B S : Nat) (I : Value) (us : List Value) (ls : List (List Int)) (j : Nat) (l : List Int) (m k : Value) (wr : World) : Prop :=
  ∃ q : Nat, q ≤ l.length ∧ k = .int .i64 q ∧ BookU wr base B I us (half ls j l q) ∧ OwnI wr S m (marks j 0 l.length) ∧ Below B w wr ∧ S ≤ wr.heap.size

set_option maxRecDepth 100000 in
set_option maxHeartbeats 4000000 in
theorem put_any (base B : Nat) (I : Value) (us : List Value) (ls : List (List Int)) (W : World) (h : BookU W base B I us ls) (hl : ls.length ≤ 400) (hn : ∀ l ∈ ls, l.length ≤ 1000) :
    Calls Tryz.prog 37 #[.pointer (some ⟨B, 0, none⟩)] W fun e w' => e = .returned (.tuple #[]) ∧ BookU w' base B I us (upto ls ls.length) ∧ Below B W w' := by
  obtain ⟨N, hN⟩ : ∃ N, ls.length = N := ⟨_, rfl⟩
  have hI := h.oi
  rw [hN] at hI hl
  obtain ⟨A0, c0, rfl⟩ := own_slice hI
  have H := Lib.hid h
  have HNN := Lib.hid hn
  have HN := Lib.hid hN
  have p0 := h.cell
  clear h hn hN hI
  go_enter Tryz.func37, Tryz.ntmps37
  go_wp2_with fail
  go_loopw [2] (fun i wr => PutAt W base B (.slice A0 N c0) us ls i wr) (fun i _ => N - (intOf i).toNat)
  case atStart => exact ⟨0, Nat.zero_le _, rfl, by rw [upto_zero]; exact H.out, Below.refl _ _⟩
  case round =>
    obtain ⟨j, hj, rfl, hu, hbw⟩ := hrel
    rw [HN.out] at hj
    have r0 := hu.cell
    have HU := Lib.hid hu
    have hBw := (by obtain ⟨X, h0⟩ := hu.blk; exact lt_of_cells h0 : B < wr.heap.size)
    have hlow := hu.low
    clear hu p0
    by_cases hlt : j < N
    · have hrow := HU.out.oi
      rw [upto_length, HN.out] at hrow
      obtain ⟨g, u, rfl, _, hu, z0⟩ := row_cell hrow j hlt
      obtain ⟨l, hlk⟩ : ∃ l, ls[j]? = some l := ⟨_, List.getElem?_eq_getElem (by rw [HN.out]; exact hlt)⟩
      have hll := HNN.out l (List.mem_of_getElem? hlk)
      obtain ⟨u', hu', ou⟩ := HU.out.ru j l (by rw [upto_get, hlk]; simp)
      obtain rfl : u = u' := by rw [hu] at hu'; exact Option.some.inj hu'
      obtain ⟨Au, cu, rfl⟩ := ou.slice
      have HLK := Lib.hid hlk
      have HUJ := Lib.hid hu
      clear hrow hu hu' hlk
      go_wp2_with (first
        | (go_at_call 102; refine (markInts_any j 0 l.length (by omega) (by omega) (by omega) _).mono ?_; rintro e w2 ⟨A2, c2, rfl, hb2, ho2⟩))
      have hs2 := hb2.size
      have HU2 := Lib.hid (HU.out.below hb2)
      have hbw2 : Below B W w2 := hbw.trans (hb2.mono (by omega))
      obtain ⟨S, hS⟩ : ∃ S, wr.heap.size = S := ⟨_, rfl⟩
      rw [hS] at ho2 hs2 hBw
      have hgS : ∀ x, (Value.slice Au l.length cu).ownBlock = some x → x < S := fun x hx => by rw [← hS]; exact (ou.lt x hx).2
      clear hb2 hbw r0 z0 ou hS
      go_loopw [4] (fun k wr => PutIn W base B S (.slice (some ⟨g, 0, none⟩) N c0) us ls j l (.slice A2 l.length c2) k wr) (fun k _ => l.length - (intOf k).toNat)
      case atStart => exact ⟨0, Nat.zero_le _, rfl, by rw [half_zero HLK.out]; exact HU2.out, ho2, hbw2, hs2⟩
      case round =>
        obtain ⟨q, hq, rfl, hu, hm, hbq, hsq⟩ := hrel
        have HU3 := Lib.hid hu
        have r0 := hu.cell
        have hrow := hu.oi
        rw [half_length, HN.out] at hrow
        obtain ⟨g', u, hge, _, hu, z0⟩ := row_cell hrow j hlt
        injection hge with hge
        injection hge with hge _ _
        subst hge
        obtain rfl : Value.slice Au l.length cu = u := by rw [HUJ.out] at hu; exact Option.some.inj hu
        clear hu hrow
        by_cases hlq : q < l.length
        · obtain ⟨bm, rfl, hbm, mc, _⟩ := hm.cell q _ (marks_get j 0 l.length q hlq)
          obtain ⟨zl, hzl⟩ : ∃ z, ((marks j 0 l.length).take q ++ l.drop q)[q]? = some z := ⟨_, List.getElem?_eq_getElem (by rw [List.length_append, List.length_take, List.length_drop, marks_length]; omega)⟩
          obtain ⟨gl, rfl, hgl, lc, lf⟩ := OwnI.cell (by obtain ⟨u', h1, h2⟩ := HU3.out.ru j _ (half_get HLK.out q); rw [HUJ.out] at h1; obtain rfl := Option.some.inj h1; exact h2) q zl hzl
          have hglS := hgS gl rfl
          have HM := Lib.hid hm
          have HS := Lib.hid (half_set (ls := ls) (j := j) hlq)
          clear hzl hm HU HU2 H hgS ho2
          have HX : Hid (-1000000 * (j : Int) - (((0 : Nat) : Int) + q) - 7 = -1000000 * (j : Int) - q - 7) := by show _ = _; omega
          go_wp2_with fail
          go_region
          go_wp2
          go_roundw
          case rel =>
            have h1 := HU3.out.set (k := q) HUJ.out (half_get HLK.out q) (by rw [List.length_append, List.length_take, List.length_drop, marks_length]; omega) (-1000000 * (j : Int) - (((0 : Nat) : Int) + q) - 7)
            rw [HS.out, HX.out] at h1
            exact ⟨q + 1, by omega, by go_num, h1.drew, HM.out.keep fun b cs hb _ hh => set_far (b := gl) (k := b) (i := q) hh (by omega), below_drewN' (hbq.setCell (p := ⟨gl, q, none⟩) (by show B ≤ gl; omega) _) 1, by simpa [World.setCell] using hsq⟩
          case measure => simp [intOf]; omega
        · obtain rfl : q = l.length := by omega
          go_wp2_with fail
          go_roundw
          case rel => exact ⟨j + 1, by rw [HN.out]; omega, by go_num, by rw [← half_full HLK.out]; exact HU3.out, hbq⟩
          case measure => simp [intOf]; omega
    · obtain rfl : j = N := by omega
      go_wp2_with fail
      go_end0
      exact ⟨rfl, by rw [HN.out]; exact HU.out, hbw⟩
end Go.Proofs.YtinobikikineiabGreatDoor
