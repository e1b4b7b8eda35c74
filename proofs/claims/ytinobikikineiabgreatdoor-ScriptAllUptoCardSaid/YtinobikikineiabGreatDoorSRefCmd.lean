/- The walk of the document's own command: a line as the plain function reads it. Conditions: the line's size; it holds no line's end. -/
import Derived.Test.YtinobikikineiabGreatDoorSRef
import Derived.Test.YtinobikikineiabGreatDoorSCmd
import Derived.Test.YtinobikikineiabGreatDoorSRefNumber
import Derived.Deep.RegionWith
namespace Go.Proofs.YtinobikikineiabGreatDoor
open Go.RowKit Go.Shelf

namespace Sc
theorem numVal_le (l : List UInt8) : Lx.numVal l ≤ 1073741824 := by
  unfold Lx.numVal
  split
  · rename_i h
    unfold Lx.numCode at h
    split at h
    · split at h
      · rename_i h2; exact h2
      · cases h
    · cases h
  · exact Nat.zero_le _
theorem numbers_range (xs : List (List UInt8)) : ∀ ns, numbers xs = some ns → ns.all (fun n => decide (0 ≤ n) && decide (n ≤ 1073741824)) = true := by
  induction xs with
  | nil => intro ns h; simp only [numbers, Option.some.injEq] at h; subst h; rfl
  | cons x xs ih =>
    intro ns h
    simp only [numbers] at h
    split at h
    · cases hn : numbers xs with
      | none => rw [hn] at h; cases h
      | some r =>
        rw [hn] at h
        simp only [Option.map_some, Option.some.injEq] at h
        subst h
        have hv := numVal_le x
        rw [List.all_cons, ih r hn, Bool.and_true, Bool.and_eq_true, decide_eq_true_eq, decide_eq_true_eq]
        omega
    · cases h
/-- A line whose word wants no numbers. -/
theorem command_plain (l : List UInt8) (hm : many (wants (headW l)) = 0) : command l = if isCommand ⟨headW l, trim (tailW l), []⟩ then some ⟨headW l, trim (tailW l), []⟩ else none := by
  simp only [command]
  rw [if_pos hm]
theorem command_num (l : List UInt8) (hm : many (wants (headW l)) ≠ 0) : command l = match numbers (fields (trim (tailW l))) with
    | none => none
    | some ns => if isCommand ⟨headW l, [], ns⟩ then some ⟨headW l, [], ns⟩ else none := by
  simp only [command]
  rw [if_neg hm]
  cases numbers (fields (trim (tailW l))) <;> rfl
theorem areNone (w : Nat) (h : many w = 0) : areNumbers w [] = true := by unfold areNumbers; rw [h]; rfl
theorem isCommand_plain (w t : List UInt8) (hm : many (wants w) = 0) : isCommand ⟨w, t, []⟩ = (decide (wants w ≠ 0) && isText (wants w) t) := by
  unfold isCommand
  simp only []
  rw [areNone _ hm, Bool.and_true]
/-- A line of numbers: the commands that there are. -/
theorem isCommand_num (w : List UInt8) (ns : List Int) (hw : wants w = 4 ∨ wants w = 5) (hr : ns.all (fun n => decide (0 ≤ n) && decide (n ≤ 1073741824)) = true) : isCommand ⟨w, [], ns⟩ = decide (ns.length = many (wants w)) := by
  unfold isCommand areNumbers
  simp only []
  rw [hr, Bool.and_true]
  rcases hw with h | h <;> rw [h] <;> simp [isText]
end Sc

/-- How the document's command ends. -/
def RefCmdEnds (l : List UInt8) (w : World) (e : Ending) (w' : World) : Prop :=
  Below w.heap.size w w' ∧ ((∃ c A n k, Sc.command l = some c ∧ e = .returned (.tuple #[.agg #[.string ⟨c.word.toArray⟩, .string ⟨c.text.toArray⟩, .slice A n k], .bool true]) ∧ OwnI w' w.heap.size (.slice A n k) c.nums) ∨
    (Sc.command l = none ∧ ∃ (v0 v1 : ByteArray) (A : Option Addr) (n k : Nat), e = .returned (.tuple #[.agg #[.string v0, .string v1, .slice A n k], .bool false])))
theorem refCmd_yes {l : List UInt8} {word rest : ByteArray} {w W' : World} (hw : word.data.toList = Sc.headW l) (hr : rest.data.toList = Sc.trim (Sc.tailW l)) (hm : Sc.many (Sc.wants (Sc.headW l)) = 0) (hc : Sc.isCommand ⟨Sc.headW l, Sc.trim (Sc.tailW l), []⟩ = true) (hb : Below w.heap.size w W') :
    RefCmdEnds l w (.returned (.tuple #[.agg #[.string word, .string rest, .slice none 0 0], .bool true])) W' := by
  refine ⟨hb, .inl ⟨⟨Sc.headW l, Sc.trim (Sc.tailW l), []⟩, none, 0, 0, ?_, ?_, World.ownsRow_nil _ _ _ _⟩⟩
  · rw [Sc.command_plain l hm, if_pos hc]
  · rw [← hw, ← hr, bytes_mk, bytes_mk]
theorem refCmd_no {l : List UInt8} {v0 v1 : ByteArray} {A : Option Addr} {n k : Nat} {w W' : World} (hc : Sc.command l = none) (hb : Below w.heap.size w W') :
    RefCmdEnds l w (.returned (.tuple #[.agg #[.string v0, .string v1, .slice A n k], .bool false])) W' := ⟨hb, .inr ⟨hc, v0, v1, A, n, k, rfl⟩⟩

set_option maxRecDepth 100000 in
set_option maxHeartbeats 8000000 in
theorem refCommand_text (s : ByteArray) (w : World) (hs : s.size ≤ 65536) (hno : ∀ d ∈ s.data.toList, d ≠ 10) (hm : Sc.many (Sc.wants (Sc.headW s.data.toList)) = 0) :
    Calls Tryz.prog 22 #[.string s] w (RefCmdEnds s.data.toList w) := by
  obtain ⟨word, hwd⟩ : ∃ word : ByteArray, ⟨(Sc.headW s.data.toList).toArray⟩ = word := ⟨_, rfl⟩
  obtain ⟨rest, hrs⟩ : ∃ rest : ByteArray, ⟨(Sc.trim (Sc.tailW s.data.toList)).toArray⟩ = rest := ⟨_, rfl⟩
  have hwl : word.data.toList = Sc.headW s.data.toList := by rw [← hwd]
  have hrl : rest.data.toList = Sc.trim (Sc.tailW s.data.toList) := by rw [← hrs]
  have HW := Lib.hid hwd
  have HR := Lib.hid hrs
  have HWL := Lib.hid hwl
  have HRL := Lib.hid hrl
  have HM := Lib.hid hm
  have hsm : s.size ≤ maxLen := by unfold maxLen; omega
  have HC := Lib.hid (Sc.isCommand_plain (Sc.headW s.data.toList) (Sc.trim (Sc.tailW s.data.toList)) hm)
  have HP := Lib.hid (Sc.command_plain s.data.toList hm)
  have hel := empty_list rest
  have hte : rest.data.toList = Sc.trim rest.data.toList := by rw [hrl, Sc.trim_trim]
  have hnl : rest.data.toList.contains 10 = false := by
    cases h : rest.data.toList.contains 10 with
    | false => rfl
    | true =>
      have := List.contains_iff_mem.1 h
      rw [hrl] at this
      exact absurd rfl (hno 10 (by
        have h2 := Sc.mem_trim this
        have h3 := Sc.head_tail s.data.toList
        rw [← h3]; exact List.mem_append_right _ h2))
  obtain ⟨k, hk⟩ : ∃ k, Sc.wants (Sc.headW s.data.toList) = k := ⟨_, rfl⟩
  have HK : Hid (Sc.wants word.data.toList = k) := by show _ = _; rw [hwl, hk]
  have hk3 : k ≤ 3 := by
    have h5 := Sc.wants_le (Sc.headW s.data.toList)
    rw [hk] at hm h5
    unfold Sc.many at hm
    split at hm
    · cases hm
    · split at hm
      · cases hm
      · omega
  have HKK := Lib.hid hk
  clear hwd hrs hwl hrl hm hno
  rcases (show k = 0 ∨ k = 1 ∨ k = 2 ∨ k = 3 by omega) with rfl | rfl | rfl | rfl
  · have HF : Hid (Sc.command s.data.toList = none) := by show _ = _; rw [HP.out, HC.out, HKK.out]; rfl
    have HRW : Hid (refW (Sc.wants word.data.toList) = ⟨#[]⟩) := by show _ = _; rw [HK.out]; rfl
    clear hk hk3 hel hte hnl
    go_enter Tryz.func22, Tryz.ntmps22
    go_wp2_with (first
      | (go_at_call 87; refine (refCut_any s _ hsm).mono ?_; rintro e w1 ⟨rfl, m, hw1⟩; rw [HW.out, HR.out]; have hN1 : w1.heap[w.heap.size]? = some (.cells #[.string ⟨#[]⟩, .string ⟨#[]⟩, .slice none 0 0] 52 (0, 0)) := (by rw [hw1]; exact heap_alloc_new w _); have hz1 : w1.heap.size = w.heap.size + 1 := (by rw [hw1]; simp); have hbw1 : Below w.heap.size w w1 := (by rw [hw1]; exact below_drewN' ((Below.refl _ w).alloc (Nat.le_refl _) _) m); clear hw1; have c0 := cell_of_row w1 w.heap.size 0 _ _ _ hN1; have c1 := cell_of_row w1 w.heap.size 1 _ _ _ hN1; have c2 := cell_of_row w1 w.heap.size 2 _ _ _ hN1; have g0 := block_frozen hN1 0; have g1 := block_frozen hN1 1; have g2 := block_frozen hN1 2)
      | (go_at_call 88; refine (refWants_any word _).mono ?_; rintro e w' ⟨rfl, rfl⟩; rw [HRW.out]))
    obtain ⟨q0, q1, q2⟩ := three_set w1 w.heap.size (.string word) (.string ⟨#[]⟩) (.slice none 0 0) (by rw [c0]; rfl) (by rw [c1]; rfl) (by rw [c2]; rfl)
    refine bodyPost_ret (v := .tuple #[.agg #[.string word, .string ⟨#[]⟩, .slice none 0 0], .bool false]) (by simp [results, Tryz.results22, go_sem, q0, q1, q2, hz1]) rfl ?_
    exact refCmd_no HF.out ((((hbw1.setCell (Nat.le_refl _) _).setCell (Nat.le_refl _) _).setCell (Nat.le_refl _) _).alloc (by simp [World.setCell]; omega) _)
  · have HT : Hid (Sc.isText 1 (Sc.trim (Sc.tailW s.data.toList)) = rest.data.toList.isEmpty) := by show _ = _; rw [HRL.out]; rfl
    have HRW : Hid (refW (Sc.wants word.data.toList) = ⟨#[45]⟩) := by show _ = _; rw [HK.out]; rfl
    cases he : rest.data.toList.isEmpty with
    | true =>
      have e1 : rest.toList = [] := by rw [hel]; simpa using he
      have e2 : rest.toList.isEmpty = true := by rw [e1]; rfl
      have HF : Hid (Sc.isCommand ⟨Sc.headW s.data.toList, Sc.trim (Sc.tailW s.data.toList), []⟩ = true) := by show _ = _; rw [HC.out, HKK.out, HT.out, he]; rfl
      have HZ : Hid ((⟨#[]⟩ : ByteArray).data.toList = Sc.trim (Sc.tailW s.data.toList)) := by show _ = _; rw [← HRL.out, List.isEmpty_iff.1 he]
      clear hk hk3 hel hte hnl he HT
      go_enter Tryz.func22, Tryz.ntmps22
      go_wp2_with (first
        | (go_at_call 87; refine (refCut_any s _ hsm).mono ?_; rintro e w1 ⟨rfl, m, hw1⟩; rw [HW.out, HR.out]; have hN1 : w1.heap[w.heap.size]? = some (.cells #[.string ⟨#[]⟩, .string ⟨#[]⟩, .slice none 0 0] 52 (0, 0)) := (by rw [hw1]; exact heap_alloc_new w _); have hz1 : w1.heap.size = w.heap.size + 1 := (by rw [hw1]; simp); have hbw1 : Below w.heap.size w w1 := (by rw [hw1]; exact below_drewN' ((Below.refl _ w).alloc (Nat.le_refl _) _) m); clear hw1; have c0 := cell_of_row w1 w.heap.size 0 _ _ _ hN1; have c1 := cell_of_row w1 w.heap.size 1 _ _ _ hN1; have c2 := cell_of_row w1 w.heap.size 2 _ _ _ hN1; have g0 := block_frozen hN1 0; have g1 := block_frozen hN1 1; have g2 := block_frozen hN1 2)
        | (go_at_call 88; refine (refWants_any word _).mono ?_; rintro e w' ⟨rfl, rfl⟩; rw [HRW.out]))
      obtain ⟨q0, q1, q2⟩ := three_set w1 w.heap.size (.string word) (.string ⟨#[]⟩) (.slice none 0 0) (by rw [c0]; rfl) (by rw [c1]; rfl) (by rw [c2]; rfl)
      refine bodyPost_ret (v := .tuple #[.agg #[.string word, .string ⟨#[]⟩, .slice none 0 0], .bool true]) (by simp [results, Tryz.results22, go_sem, q0, q1, q2, hz1]) rfl ?_
      exact refCmd_yes HWL.out HZ.out HM.out HF.out ((((hbw1.setCell (Nat.le_refl _) _).setCell (Nat.le_refl _) _).setCell (Nat.le_refl _) _).alloc (by simp [World.setCell]; omega) _)
    | false =>
      have e1 : rest.toList ≠ [] := by rw [hel]; simpa using he
      have e2 : rest.toList.isEmpty = false := by rw [hel]; exact he
      have HF : Hid (Sc.command s.data.toList = none) := by show _ = _; rw [HP.out, HC.out, HKK.out, HT.out, he]; rfl
      clear hk hk3 hel hte hnl he HT
      go_enter Tryz.func22, Tryz.ntmps22
      go_wp2_with (first
        | (go_at_call 87; refine (refCut_any s _ hsm).mono ?_; rintro e w1 ⟨rfl, m, hw1⟩; rw [HW.out, HR.out]; have hN1 : w1.heap[w.heap.size]? = some (.cells #[.string ⟨#[]⟩, .string ⟨#[]⟩, .slice none 0 0] 52 (0, 0)) := (by rw [hw1]; exact heap_alloc_new w _); have hz1 : w1.heap.size = w.heap.size + 1 := (by rw [hw1]; simp); have hbw1 : Below w.heap.size w w1 := (by rw [hw1]; exact below_drewN' ((Below.refl _ w).alloc (Nat.le_refl _) _) m); clear hw1; have c0 := cell_of_row w1 w.heap.size 0 _ _ _ hN1; have c1 := cell_of_row w1 w.heap.size 1 _ _ _ hN1; have c2 := cell_of_row w1 w.heap.size 2 _ _ _ hN1; have g0 := block_frozen hN1 0; have g1 := block_frozen hN1 1; have g2 := block_frozen hN1 2)
        | (go_at_call 88; refine (refWants_any word _).mono ?_; rintro e w' ⟨rfl, rfl⟩; rw [HRW.out]))
      obtain ⟨q0, q1, q2⟩ := three_set w1 w.heap.size (.string word) (.string ⟨#[]⟩) (.slice none 0 0) (by rw [c0]; rfl) (by rw [c1]; rfl) (by rw [c2]; rfl)
      refine bodyPost_ret (v := .tuple #[.agg #[.string word, .string ⟨#[]⟩, .slice none 0 0], .bool false]) (by simp [results, Tryz.results22, go_sem, q0, q1, q2, hz1]) rfl ?_
      exact refCmd_no HF.out ((((hbw1.setCell (Nat.le_refl _) _).setCell (Nat.le_refl _) _).setCell (Nat.le_refl _) _).alloc (by simp [World.setCell]; omega) _)
  · have HT : Hid (Sc.isText 2 (Sc.trim (Sc.tailW s.data.toList)) = !rest.data.toList.isEmpty) := by
      show _ = _
      rw [← HRL.out]
      unfold Sc.isText
      rw [if_pos rfl, hnl, ← hte]
      simp
    have HRW : Hid (refW (Sc.wants word.data.toList) = ⟨#[116]⟩) := by show _ = _; rw [HK.out]; rfl
    cases he : rest.data.toList.isEmpty with
    | false =>
      have e1 : rest.toList ≠ [] := by rw [hel]; simpa using he
      have e2 : rest.toList.isEmpty = false := by rw [hel]; exact he
      have HF : Hid (Sc.isCommand ⟨Sc.headW s.data.toList, Sc.trim (Sc.tailW s.data.toList), []⟩ = true) := by show _ = _; rw [HC.out, HKK.out, HT.out, he]; rfl
      clear hk hk3 hel hte hnl he HT
      go_enter Tryz.func22, Tryz.ntmps22
      go_wp2_with (first
        | (go_at_call 87; refine (refCut_any s _ hsm).mono ?_; rintro e w1 ⟨rfl, m, hw1⟩; rw [HW.out, HR.out]; have hN1 : w1.heap[w.heap.size]? = some (.cells #[.string ⟨#[]⟩, .string ⟨#[]⟩, .slice none 0 0] 52 (0, 0)) := (by rw [hw1]; exact heap_alloc_new w _); have hz1 : w1.heap.size = w.heap.size + 1 := (by rw [hw1]; simp); have hbw1 : Below w.heap.size w w1 := (by rw [hw1]; exact below_drewN' ((Below.refl _ w).alloc (Nat.le_refl _) _) m); clear hw1; have c0 := cell_of_row w1 w.heap.size 0 _ _ _ hN1; have c1 := cell_of_row w1 w.heap.size 1 _ _ _ hN1; have c2 := cell_of_row w1 w.heap.size 2 _ _ _ hN1; have g0 := block_frozen hN1 0; have g1 := block_frozen hN1 1; have g2 := block_frozen hN1 2)
        | (go_at_call 88; refine (refWants_any word _).mono ?_; rintro e w' ⟨rfl, rfl⟩; rw [HRW.out]))
      obtain ⟨q0, q1, q2⟩ := three_set w1 w.heap.size (.string word) (.string rest) (.slice none 0 0) (by rw [c0]; rfl) (by rw [c1]; rfl) (by rw [c2]; rfl)
      refine bodyPost_ret (v := .tuple #[.agg #[.string word, .string rest, .slice none 0 0], .bool true]) (by simp [results, Tryz.results22, go_sem, q0, q1, q2, hz1]) rfl ?_
      exact refCmd_yes HWL.out HRL.out HM.out HF.out ((((hbw1.setCell (Nat.le_refl _) _).setCell (Nat.le_refl _) _).setCell (Nat.le_refl _) _).alloc (by simp [World.setCell]; omega) _)
    | true =>
      have e1 : rest.toList = [] := by rw [hel]; simpa using he
      have e2 : rest.toList.isEmpty = true := by rw [e1]; rfl
      have HF : Hid (Sc.command s.data.toList = none) := by show _ = _; rw [HP.out, HC.out, HKK.out, HT.out, he]; rfl
      clear hk hk3 hel hte hnl he HT
      go_enter Tryz.func22, Tryz.ntmps22
      go_wp2_with (first
        | (go_at_call 87; refine (refCut_any s _ hsm).mono ?_; rintro e w1 ⟨rfl, m, hw1⟩; rw [HW.out, HR.out]; have hN1 : w1.heap[w.heap.size]? = some (.cells #[.string ⟨#[]⟩, .string ⟨#[]⟩, .slice none 0 0] 52 (0, 0)) := (by rw [hw1]; exact heap_alloc_new w _); have hz1 : w1.heap.size = w.heap.size + 1 := (by rw [hw1]; simp); have hbw1 : Below w.heap.size w w1 := (by rw [hw1]; exact below_drewN' ((Below.refl _ w).alloc (Nat.le_refl _) _) m); clear hw1; have c0 := cell_of_row w1 w.heap.size 0 _ _ _ hN1; have c1 := cell_of_row w1 w.heap.size 1 _ _ _ hN1; have c2 := cell_of_row w1 w.heap.size 2 _ _ _ hN1; have g0 := block_frozen hN1 0; have g1 := block_frozen hN1 1; have g2 := block_frozen hN1 2)
        | (go_at_call 88; refine (refWants_any word _).mono ?_; rintro e w' ⟨rfl, rfl⟩; rw [HRW.out]))
      obtain ⟨q0, q1, q2⟩ := three_set w1 w.heap.size (.string word) (.string rest) (.slice none 0 0) (by rw [c0]; rfl) (by rw [c1]; rfl) (by rw [c2]; rfl)
      refine bodyPost_ret (v := .tuple #[.agg #[.string word, .string rest, .slice none 0 0], .bool false]) (by simp [results, Tryz.results22, go_sem, q0, q1, q2, hz1]) rfl ?_
      exact refCmd_no HF.out ((((hbw1.setCell (Nat.le_refl _) _).setCell (Nat.le_refl _) _).setCell (Nat.le_refl _) _).alloc (by simp [World.setCell]; omega) _)
  · have HT : Hid (Sc.isText 3 (Sc.trim (Sc.tailW s.data.toList)) = (decide (rest.data.toList = Sc.strongL) || decide (rest.data.toList = Sc.branchingL))) := by show _ = _; rw [HRL.out]; rfl
    have HRW : Hid (refW (Sc.wants word.data.toList) = ⟨#[107]⟩) := by show _ = _; rw [HK.out]; rfl
    cases h1 : decide (rest.data.toList = Sc.strongL) with
    | true =>
      have t1 : (rest.toList == [115, 116, 114, 111, 110, 103]) = true := by rw [hel, beq_iff_eq]; exact of_decide_eq_true h1
      have HF : Hid (Sc.isCommand ⟨Sc.headW s.data.toList, Sc.trim (Sc.tailW s.data.toList), []⟩ = true) := by show _ = _; rw [HC.out, HKK.out, HT.out, h1]; rfl
      clear hk hk3 hel hte hnl h1 HT
      go_enter Tryz.func22, Tryz.ntmps22
      go_wp2_with (first
        | (go_at_call 87; refine (refCut_any s _ hsm).mono ?_; rintro e w1 ⟨rfl, m, hw1⟩; rw [HW.out, HR.out]; have hN1 : w1.heap[w.heap.size]? = some (.cells #[.string ⟨#[]⟩, .string ⟨#[]⟩, .slice none 0 0] 52 (0, 0)) := (by rw [hw1]; exact heap_alloc_new w _); have hz1 : w1.heap.size = w.heap.size + 1 := (by rw [hw1]; simp); have hbw1 : Below w.heap.size w w1 := (by rw [hw1]; exact below_drewN' ((Below.refl _ w).alloc (Nat.le_refl _) _) m); clear hw1; have c0 := cell_of_row w1 w.heap.size 0 _ _ _ hN1; have c1 := cell_of_row w1 w.heap.size 1 _ _ _ hN1; have c2 := cell_of_row w1 w.heap.size 2 _ _ _ hN1; have g0 := block_frozen hN1 0; have g1 := block_frozen hN1 1; have g2 := block_frozen hN1 2)
        | (go_at_call 88; refine (refWants_any word _).mono ?_; rintro e w' ⟨rfl, rfl⟩; rw [HRW.out]))
      obtain ⟨q0, q1, q2⟩ := three_set w1 w.heap.size (.string word) (.string rest) (.slice none 0 0) (by rw [c0]; rfl) (by rw [c1]; rfl) (by rw [c2]; rfl)
      refine bodyPost_ret (v := .tuple #[.agg #[.string word, .string rest, .slice none 0 0], .bool true]) (by simp [results, Tryz.results22, go_sem, q0, q1, q2, hz1]) rfl ?_
      exact refCmd_yes HWL.out HRL.out HM.out HF.out ((((hbw1.setCell (Nat.le_refl _) _).setCell (Nat.le_refl _) _).setCell (Nat.le_refl _) _).alloc (by simp [World.setCell]; omega) _)
    | false =>
      have t1 : (rest.toList == [115, 116, 114, 111, 110, 103]) = false := by rw [hel, beq_eq_false_iff_ne]; exact of_decide_eq_false h1
      have t2 : (rest.toList == [98, 114, 97, 110, 99, 104, 105, 110, 103]) = decide (rest.data.toList = Sc.branchingL) := by rw [hel, Bool.eq_iff_iff, beq_iff_eq, decide_eq_true_eq]; rfl
      cases h4 : decide (rest.data.toList = Sc.branchingL) with
      | true =>
        rw [h4] at t2
        have HF : Hid (Sc.isCommand ⟨Sc.headW s.data.toList, Sc.trim (Sc.tailW s.data.toList), []⟩ = true) := by show _ = _; rw [HC.out, HKK.out, HT.out, h1, h4]; rfl
        clear hk hk3 hel hte hnl h1 h4 HT
        go_enter Tryz.func22, Tryz.ntmps22
        go_wp2_with (first
          | (go_at_call 87; refine (refCut_any s _ hsm).mono ?_; rintro e w1 ⟨rfl, m, hw1⟩; rw [HW.out, HR.out]; have hN1 : w1.heap[w.heap.size]? = some (.cells #[.string ⟨#[]⟩, .string ⟨#[]⟩, .slice none 0 0] 52 (0, 0)) := (by rw [hw1]; exact heap_alloc_new w _); have hz1 : w1.heap.size = w.heap.size + 1 := (by rw [hw1]; simp); have hbw1 : Below w.heap.size w w1 := (by rw [hw1]; exact below_drewN' ((Below.refl _ w).alloc (Nat.le_refl _) _) m); clear hw1; have c0 := cell_of_row w1 w.heap.size 0 _ _ _ hN1; have c1 := cell_of_row w1 w.heap.size 1 _ _ _ hN1; have c2 := cell_of_row w1 w.heap.size 2 _ _ _ hN1; have g0 := block_frozen hN1 0; have g1 := block_frozen hN1 1; have g2 := block_frozen hN1 2)
          | (go_at_call 88; refine (refWants_any word _).mono ?_; rintro e w' ⟨rfl, rfl⟩; rw [HRW.out]))
        obtain ⟨q0, q1, q2⟩ := three_set w1 w.heap.size (.string word) (.string rest) (.slice none 0 0) (by rw [c0]; rfl) (by rw [c1]; rfl) (by rw [c2]; rfl)
        refine bodyPost_ret (v := .tuple #[.agg #[.string word, .string rest, .slice none 0 0], .bool true]) (by simp [results, Tryz.results22, go_sem, q0, q1, q2, hz1]) rfl ?_
        exact refCmd_yes HWL.out HRL.out HM.out HF.out ((((hbw1.setCell (Nat.le_refl _) _).setCell (Nat.le_refl _) _).setCell (Nat.le_refl _) _).alloc (by simp [World.setCell]; omega) _)
      | false =>
        rw [h4] at t2
        have HF : Hid (Sc.command s.data.toList = none) := by show _ = _; rw [HP.out, HC.out, HKK.out, HT.out, h1, h4]; rfl
        clear hk hk3 hel hte hnl h1 h4 HT
        go_enter Tryz.func22, Tryz.ntmps22
        go_wp2_with (first
          | (go_at_call 87; refine (refCut_any s _ hsm).mono ?_; rintro e w1 ⟨rfl, m, hw1⟩; rw [HW.out, HR.out]; have hN1 : w1.heap[w.heap.size]? = some (.cells #[.string ⟨#[]⟩, .string ⟨#[]⟩, .slice none 0 0] 52 (0, 0)) := (by rw [hw1]; exact heap_alloc_new w _); have hz1 : w1.heap.size = w.heap.size + 1 := (by rw [hw1]; simp); have hbw1 : Below w.heap.size w w1 := (by rw [hw1]; exact below_drewN' ((Below.refl _ w).alloc (Nat.le_refl _) _) m); clear hw1; have c0 := cell_of_row w1 w.heap.size 0 _ _ _ hN1; have c1 := cell_of_row w1 w.heap.size 1 _ _ _ hN1; have c2 := cell_of_row w1 w.heap.size 2 _ _ _ hN1; have g0 := block_frozen hN1 0; have g1 := block_frozen hN1 1; have g2 := block_frozen hN1 2)
          | (go_at_call 88; refine (refWants_any word _).mono ?_; rintro e w' ⟨rfl, rfl⟩; rw [HRW.out]))
        obtain ⟨q0, q1, q2⟩ := three_set w1 w.heap.size (.string word) (.string rest) (.slice none 0 0) (by rw [c0]; rfl) (by rw [c1]; rfl) (by rw [c2]; rfl)
        refine bodyPost_ret (v := .tuple #[.agg #[.string word, .string rest, .slice none 0 0], .bool false]) (by simp [results, Tryz.results22, go_sem, q0, q1, q2, hz1]) rfl ?_
        exact refCmd_no HF.out ((((hbw1.setCell (Nat.le_refl _) _).setCell (Nat.le_refl _) _).setCell (Nat.le_refl _) _).alloc (by simp [World.setCell]; omega) _)
end Go.Proofs.YtinobikikineiabGreatDoor
