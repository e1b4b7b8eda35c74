/- The walk of strings.SplitSeq at a line's end as separator: the iterator hands on the lines of a text. -/
import Derived.Test.YtinobikikineiabGreatDoorSIter
namespace Go.Proofs.YtinobikikineiabGreatDoor
open Go.RowKit Go.Shelf

/-- The iterator's three variables: what is left of the text, the separator, how much of it is kept. -/
structure Boxes (n0 : Nat) (t : ByteArray) (W : World) : Prop where
  s : W.heap[n0]? = some (.cells #[.string t] 9 (0, 0))
  sep : W.heap[n0 + 1]? = some (.cells #[.string ⟨#[10]⟩] 9 (0, 0))
  save : W.heap[n0 + 2]? = some (.cells #[.int .i64 0] 3 (0, 0))
/-- What a round must keep of them. -/
def KeepsBoxes (n0 : Nat) (W W' : World) : Prop := ∀ i, i < 3 → W'.heap[n0 + i]? = W.heap[n0 + i]?
theorem Boxes.keep {n0 : Nat} {t : ByteArray} {W W' : World} (h : Boxes n0 t W) (hk : KeepsBoxes n0 W W') : Boxes n0 t W' :=
  ⟨(hk 0 (by omega)).trans h.s, (hk 1 (by omega)).trans h.sep, (hk 2 (by omega)).trans h.save⟩
theorem Boxes.cs {n0 : Nat} {t : ByteArray} {W : World} (h : Boxes n0 t W) : W.cell? ⟨n0, 0, none⟩ = some (.string t) := by
  rw [cell_of_row W n0 0 _ _ _ h.s]; rfl
theorem Boxes.csep {n0 : Nat} {t : ByteArray} {W : World} (h : Boxes n0 t W) : W.cell? ⟨n0 + 1, 0, none⟩ = some (.string ⟨#[10]⟩) := by
  rw [cell_of_row W (n0 + 1) 0 _ _ _ h.sep]; rfl
theorem Boxes.csave {n0 : Nat} {t : ByteArray} {W : World} (h : Boxes n0 t W) : W.cell? ⟨n0 + 2, 0, none⟩ = some (.int .i64 0) := by
  rw [cell_of_row W (n0 + 2) 0 _ _ _ h.save]; rfl
theorem Boxes.fs {n0 : Nat} {t : ByteArray} {W : World} (h : Boxes n0 t W) : W.frozen? ⟨n0, 0, none⟩ = false := by
  have := h.s
  simp [World.frozen?, this]
theorem Boxes.set {n0 : Nat} {t : ByteArray} {W : World} (h : Boxes n0 t W) (u : ByteArray) : Boxes n0 u (W.setCell ⟨n0, 0, none⟩ (.string u)) := by
  refine ⟨?_, (Below.heap_setCell W ⟨n0, 0, none⟩ _ (n0 + 1) (by simp)).trans h.sep, (Below.heap_setCell W ⟨n0, 0, none⟩ _ (n0 + 2) (by simp)).trans h.save⟩
  have := h.s
  simp [World.setCell, Array.getElem?_modify, this]
theorem extract_back (s : ByteArray) (k : Nat) : (s.extract k s.size).data.toList = s.data.toList.drop k := by
  simp only [ByteArray.data_extract, Array.toList_extract, List.extract_eq_take_drop]
  exact List.take_of_length_le (by simp)
/-- How much is left of the text. -/
def leftOf (n0 : Nat) (W : World) : Nat := match W.cell? ⟨n0, 0, none⟩ with
  | some (.string t) => t.size
  | _ => 0
theorem Boxes.left {n0 : Nat} {t : ByteArray} {W : World} (h : Boxes n0 t W) : leftOf n0 W = t.size := by
  unfold leftOf; rw [h.cs]

theorem index_nl (s : ByteArray) (w : World) :
    Calls Tryz.prog 142 #[.string s, .string ⟨#[10]⟩] w fun e w' => e = .returned (.int .i64 (Lib.indexByte s.data.toList 10)) ∧ w = w' :=
  (Tryz.strings_Index_one s 10 w).mono fun _ _ ⟨h1, h2⟩ => ⟨h1, h2.symm⟩
theorem cuts_none (l : List UInt8) (h : Lib.indexByte l 10 = -1) : Lx.cuts l = [l] := by
  have hno := Lib.indexByte_none h
  have := Lx.cuts_append l [] [] [] (fun c hc => by
    obtain ⟨k, hk, rfl⟩ := List.mem_iff_getElem.1 hc
    intro e
    exact hno k (by rw [List.getElem?_eq_getElem hk, e])) rfl
  simpa using this
theorem cuts_some (l : List UInt8) (o : Nat) (h : Lib.indexByte l 10 = (o : Int)) : o < l.length ∧ Lx.cuts l = l.take o :: Lx.cuts (l.drop (o + 1)) := by
  obtain ⟨h1, h2⟩ := Lib.indexByte_some h
  have hlt : o < l.length := (List.getElem?_eq_some_iff.1 h1).1
  refine ⟨hlt, ?_⟩
  have hl : l = l.take o ++ 10 :: l.drop (o + 1) := by
    have he : l[o] = 10 := (List.getElem?_eq_some_iff.1 h1).2
    rw [← he, ← List.drop_eq_getElem_cons hlt, List.take_append_drop]
  have := Lx.cuts_append (l.take o) (10 :: l.drop (o + 1)) [] _ (fun c hc => by
    obtain ⟨k, hk, rfl⟩ := List.mem_iff_getElem.1 hc
    rw [List.length_take] at hk
    intro e
    rw [List.getElem_take] at e
    exact h2 k (by omega) (by rw [List.getElem?_eq_getElem (by omega), e])) (Lx.cuts_nl _)
  rw [← hl] at this
  simpa using this

set_option maxRecDepth 100000 in
set_option maxHeartbeats 1000000 in
theorem split_iter (l n0 : Nat) (xs : List (List UInt8)) (J Jx : List (List UInt8) → World → Prop)
    (hJ : ∀ s A A', J s A → A.grownBy A' (some n0) → J s A') (_hJx : ∀ s A A', Jx s A → A.grownBy A' (some n0) → Jx s A')
    (hY : ∀ pre x W1, J pre W1 → (pre ++ [x]) <+: xs → YieldAt Fence.wide 2 Tryz.prog l #[.string ⟨x.toArray⟩] W1 fun e W' =>
      (e = .returned (.bool true) ∧ J (pre ++ [x]) W' ∧ KeepsBoxes n0 W1 W') ∨ (e = .returned (.bool false) ∧ Jx (pre ++ [x]) W'))
    (W : World) (t0 : ByteArray) (hB : Boxes n0 t0 W) (hsz : t0.size ≤ 65536) (hx : Lx.cuts t0.data.toList = xs) (h0 : J [] W) :
    CallsIn Fence.wide 3 Tryz.prog 140 #[.func (.yield l) #[] #[], .pointer (some ⟨n0 + 1, 0, none⟩), .pointer (some ⟨n0, 0, none⟩), .pointer (some ⟨n0 + 2, 0, none⟩)] W fun e W' =>
      (∃ v, e = .returned v) ∧ (J xs W' ∨ ∃ pre, pre <+: xs ∧ Jx pre W') := by
  have hc0 := hB.cs
  have hc1 := hB.csep
  refine callsIn_of_wp Tryz.func140 rfl trivial ?_ rfl
  simp only [Tryz.ntmps140, List.size_toArray, List.length_cons, List.length_nil, Nat.reduceAdd, Nat.reduceSub, Array.replicate_succ, Array.replicate_zero, List.push_toArray, List.append_toArray, List.nil_append, List.cons_append]
  gi_wp2_with fail
  gi_loopw [7] (fun _ wr => ∃ (pre : List (List UInt8)) (t : ByteArray), Boxes n0 t wr ∧ t.size ≤ 65536 ∧ pre ++ Lx.cuts t.data.toList = xs ∧ J pre wr) (fun _ wr => leftOf n0 wr)
  case atStart => exact ⟨[], t0, hB, hsz, hx, h0⟩
  case round =>
    obtain ⟨pre, t, hb, hts, hp, hj⟩ := hrel
    have HP := Lib.hid hp
    clear hp hc0 hc1
    have hcs := hb.cs
    have hcsep := hb.csep
    have hcsave := hb.csave
    have hge := Lib.indexByte_ge t.data.toList 10
    by_cases hi : Lib.indexByte t.data.toList 10 = -1
    · have HN : Hid (pre ++ [t.data.toList] = xs) := by
        have := HP.out
        rw [cuts_none _ hi] at this; exact this
      have HI := Lib.hid hi
      obtain ⟨fn, tmps, assign, body, hy, hR⟩ := hY pre t.data.toList wr hj (by rw [HN.out]; exact List.prefix_refl _)
      rw [bytes_mk] at hy
      clear hi hge
      gi_wp2_with (first
        | (refine ⟨trivial, ?_⟩; gi_at_call 142; refine (callsIn_wide.2 (index_nl _ _)).mono ?_; rintro e w' ⟨rfl, rfl⟩; rw [HI.out]))
      refine hR.mono ?_
      rintro e W3 (⟨rfl, hJ3, hk3⟩ | ⟨rfl, hJx3⟩)
      · gi_wp2
        go_end0
        rw [HN.out] at hJ3
        exact ⟨⟨_, rfl⟩, .inl hJ3⟩
      · gi_wp2
        go_end0
        exact ⟨⟨_, rfl⟩, .inr ⟨_, by rw [HN.out]; exact List.prefix_refl _, hJx3⟩⟩
    · obtain ⟨o, ho⟩ : ∃ o : Nat, Lib.indexByte t.data.toList 10 = (o : Int) := ⟨(Lib.indexByte t.data.toList 10).toNat, by omega⟩
      obtain ⟨hlt, hc⟩ := cuts_some _ o ho
      rw [bytes_size] at hlt
      have HN : Hid ((pre ++ [t.data.toList.take o]) ++ Lx.cuts (t.data.toList.drop (o + 1)) = xs) := by
        have := HP.out
        rw [hc] at this; rw [List.append_assoc]; exact this
      have HPre : Hid ((pre ++ [t.data.toList.take o]) <+: xs) := ⟨_, HN.out⟩
      have HI := Lib.hid ho
      obtain ⟨fn, tmps, assign, body, hy, hR⟩ := hY pre (t.data.toList.take o) wr hj HPre.out
      rw [← extract_mk] at hy
      clear hi hge ho hc
      gi_wp2_with (first
        | (refine ⟨trivial, ?_⟩; gi_at_call 142; refine (callsIn_wide.2 (index_nl _ _)).mono ?_; rintro e w' ⟨rfl, rfl⟩; rw [HI.out]))
      refine hR.mono ?_
      rintro e W3 (⟨rfl, hJ3, hk3⟩ | ⟨rfl, hJx3⟩)
      · have hb3 := hb.keep hk3
        have c3 := hb3.cs
        have f3 := hb3.fs
        have c3sep := hb3.csep
        clear hcs hcsep hcsave
        gi_wp2
        go_roundw
        case rel =>
          refine ⟨pre ++ [t.data.toList.take o], t.extract (o + 1) t.size, hb3.set _, by simp; omega, ?_, hJ _ _ _ hJ3 (grownBy_setCell' _ _ _)⟩
          rw [extract_back]; exact HN.out
        case measure =>
          rw [(hb3.set _).left, hb.left]; simp; omega
      · gi_wp2
        refine bodyPost_ret (results_none rfl _ _ _) rfl ?_
        exact ⟨⟨_, rfl⟩, .inr ⟨_, HPre.out, hJx3⟩⟩

theorem splitSeq_any (s : ByteArray) (w : World) :
    Calls Tryz.prog 76 #[.string s, .string ⟨#[10]⟩] w fun e w' =>
      e = .returned (.func (.func 140) #[] #[.pointer (some ⟨w.heap.size + 1, 0, none⟩), .pointer (some ⟨w.heap.size, 0, none⟩), .pointer (some ⟨w.heap.size + 2, 0, none⟩)]) ∧
      w' = ((w.alloc (.cells #[.string s] 9)).alloc (.cells #[.string ⟨#[10]⟩] 9)).alloc (.cells #[.int .i64 0] 3) := by
  go_enter Tryz.func76, Tryz.ntmps76
  go_wp2
  go_ret
  exact ⟨rfl, rfl⟩

/-- The three variables' blocks. -/
def Three (n0 : Nat) (b : Nat) : Prop := n0 ≤ b ∧ b < n0 + 3
theorem split_seq (n n0 : Nat) (s : ByteArray) (w : World) (hB : Boxes n0 s w) (hw : n0 + 3 ≤ w.heap.size) (hsz : s.size ≤ 65536) :
    SeqS Fence.wide n Tryz.prog 140 #[.pointer (some ⟨n0 + 1, 0, none⟩), .pointer (some ⟨n0, 0, none⟩), .pointer (some ⟨n0 + 2, 0, none⟩)] (fun x : List UInt8 => #[.string ⟨x.toArray⟩]) (Three n0) (n0 + 3) (Lx.cuts s.data.toList) w := by
  intro l J Jx W hb _ hJ hJx hY h0
  refine callsIn_wide.2 ((callsIn_wide (n := 3)).1 ?_)
  have hone : ∀ r, some n0 = some r → Three n0 r := fun r e => by cases e; exact ⟨Nat.le_refl _, by omega⟩
  have hk : KeepsBoxes n0 w W := fun i hi => hb.block _ (by omega)
  refine (split_iter l n0 (Lx.cuts s.data.toList) (fun pre A => J pre A ∧ n0 + 3 ≤ A.heap.size) Jx (fun p A A' hs hg => ⟨hJ p A A' _ hs.1 hg hone, Nat.le_trans hs.2 hg.size⟩) (fun p A A' hs hg => hJx p A A' _ hs hg hone) ?_ W s (hB.keep hk) hsz rfl ⟨h0, Nat.le_trans hw hb.size⟩).mono ?_
  · rintro pre x W1 ⟨hj, hz⟩ hpre
    obtain ⟨fn, tmps, assign, body, hy, hR⟩ := hY pre x W1 hj hz hpre
    refine ⟨fn, tmps, assign, body, hy, (RoundIn.deep rfl hR).mono ?_⟩
    rintro e W' (⟨rfl, h1, h2⟩ | ⟨rfl, h1, _⟩)
    · refine .inl ⟨rfl, ⟨h1, ?_⟩, fun i hi => h2 _ ⟨by omega, by omega⟩⟩
      have h3 := h2 (n0 + 2) ⟨by omega, by omega⟩
      obtain ⟨o, ho⟩ : ∃ o, W1.heap[n0 + 2]? = some o := ⟨_, Array.getElem?_eq_getElem (by omega)⟩
      rw [ho] at h3
      have := (Array.getElem?_eq_some_iff.1 h3).1
      omega
    · exact .inr ⟨rfl, h1⟩
  · rintro e W' ⟨hv, h1 | h1⟩
    · exact ⟨hv, .inl h1.1⟩
    · exact ⟨hv, .inr h1⟩
end Go.Proofs.YtinobikikineiabGreatDoor
