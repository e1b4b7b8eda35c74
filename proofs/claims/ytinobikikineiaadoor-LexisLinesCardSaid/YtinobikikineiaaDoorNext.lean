/- The walk of lexis's 'next': the word that a text begins with, or the error. -/
import Derived.Test.YtinobikikineiaaDoorValue
import Derived.Test.YtinobikikineiaaDoorShelf
import Derived.BigRegion
import Derived.Lib.IndexAny
namespace Go.Proofs.YtinobikikineiaaDoor
open Go.RowKit

theorem extract_front (s : ByteArray) (n : Nat) (_h : n ≤ s.size) : (s.extract 0 n).data.toList = s.data.toList.take n := by
  simp
theorem bytes_mk (s : ByteArray) : (⟨s.data.toList.toArray⟩ : ByteArray) = s := by cases s; simp
theorem extract_mk (s : ByteArray) (n : Nat) : s.extract 0 n = ⟨(s.data.toList.take n).toArray⟩ := by
  rw [← bytes_mk (s.extract 0 n)]; simp

set_option maxHeartbeats 400000 in
theorem clone_any (s : ByteArray) (w : World) (_hs : s.size ≤ maxLen) (hlim : s.size ≤ 281474976710656) :
    Calls Tryd.prog 61 #[.string s] w fun e w' => e = .returned (.string s) ∧ Below w.heap.size w w' := by
  go_enter Tryd.func61, Tryd.ntmps61
  go_wp2_with (go_at_call 65; refine (Tryd.stringslite_Clone s _ hlim).mono ?_; rintro e w' ⟨rfl, hb⟩)
  go_ret
  exact ⟨rfl, hb⟩

/-- Four stores into a block of four cells: what the cells hold behind them. -/
theorem four_set (W : World) (b : Nat) (v0 v1 v2 v3 : Value) (h0 : (W.cell? ⟨b, 0, none⟩).isSome = true) (h1 : (W.cell? ⟨b, 1, none⟩).isSome = true) (h2 : (W.cell? ⟨b, 2, none⟩).isSome = true) (h3 : (W.cell? ⟨b, 3, none⟩).isSome = true) :
    let W' := (((W.setCell ⟨b, 0, none⟩ v0).setCell ⟨b, 1, none⟩ v1).setCell ⟨b, 2, none⟩ v2).setCell ⟨b, 3, none⟩ v3
    W'.cell? ⟨b, 0, none⟩ = some v0 ∧ W'.cell? ⟨b, 1, none⟩ = some v1 ∧ W'.cell? ⟨b, 2, none⟩ = some v2 ∧ W'.cell? ⟨b, 3, none⟩ = some v3 := by
  have n : ∀ (w : World) (v : Value) (i j : Nat), i ≠ j → (w.setCell ⟨b, i, none⟩ v).cell? ⟨b, j, none⟩ = w.cell? ⟨b, j, none⟩ := fun w v i j h => World.cell?_setCell_other w ⟨b, i, none⟩ ⟨b, j, none⟩ v (fun e => h (by injection e))
  intro W'
  refine ⟨?_, ?_, ?_, ?_⟩
  · show (World.setCell _ _ _).cell? _ = _
    rw [n _ _ 3 0 (by decide), n _ _ 2 0 (by decide), n _ _ 1 0 (by decide), World.cell?_setCell_same' _ _ _ h0]
  · show (World.setCell _ _ _).cell? _ = _
    rw [n _ _ 3 1 (by decide), n _ _ 2 1 (by decide), World.cell?_setCell_same' _ _ _ (by rw [n _ _ 0 1 (by decide)]; exact h1)]
  · show (World.setCell _ _ _).cell? _ = _
    rw [n _ _ 3 2 (by decide), World.cell?_setCell_same' _ _ _ (by rw [n _ _ 1 2 (by decide), n _ _ 0 2 (by decide)]; exact h2)]
  · exact World.cell?_setCell_same' _ _ _ (by rw [n _ _ 2 3 (by decide), n _ _ 1 3 (by decide), n _ _ 0 3 (by decide)]; exact h3)

theorem mark_index (c : UInt8) : decide (0 ≤ Lib.indexByte [61, 43, 124, 46, 92, 123, 125, 91, 93, 40, 41, 44, 47, 39, 60, 62, 126, 38, 45, 58, 59] c) = Lx.isMark c := by
  unfold Lx.isMark Lx.marks
  exact (Lib.contains_iff_indexByte _ _).symm

/-- How 'next' ends. -/
def NextEnds (l : List UInt8) (E : Errs) (w : World) (e : Ending) (w' : World) : Prop :=
  Below w.heap.size w w' ∧
  ((∃ k tx, Lx.word l = .ok (k, tx) ∧ e = .returned (.tuple #[.agg #[.int .i64 (k : Int), .string ⟨tx.toArray⟩, .int .i64 0, .int .i64 0], .nilIface])) ∨
   (∃ c, Lx.word l = .error c ∧ (c = 2 ∨ c = 4) ∧ e = .returned (.tuple #[.agg #[.int .i64 0, .string ⟨#[]⟩, .int .i64 0, .int .i64 0], E.val c])))


set_option maxHeartbeats 1000000 in
theorem next_digit_ok (s : ByteArray) (E : Errs) (w : World) (hE : Laid E two w) (hs : s.size ≤ 65536) (h0 : 0 < s.size) (hd : Lx.isDigit s[0] = true) (hn : Lx.numCode (Lx.run s.data.toList) = 0) :
    Calls Tryd.prog 51 #[.string s] w fun e w' => e = .returned (.tuple #[.agg #[.int .i64 3, .string (s.extract 0 (Lx.run s.data.toList).length), .int .i64 0, .int .i64 0], .nilIface]) ∧ Below w.heap.size w w' := by
  have hr : (Lx.run s.data.toList).length ≤ s.size := by rw [← bytes_size]; exact Lx.run_le _
  have HX : Hid ((s.extract 0 (Lx.run s.data.toList).length).data.toList = Lx.run s.data.toList) := (extract_front s _ hr).trans (Lx.run_take _)
  have HD := Lib.hid hd
  have HN := Lib.hid hn
  clear hd hn
  go_enter Tryd.func51, Tryd.ntmps51
  go_wp2_with (first
    | (go_at_call 43; refine (run_any s _ (by unfold maxLen; omega)).mono ?_; rintro e w' ⟨rfl, rfl⟩)
    | (go_at_call 53; refine (isDigit_any s[0] _).mono ?_; rintro e w' ⟨rfl, rfl⟩; rw [HD.out])
    | (go_at_call 41; refine (value_ok _ E _ (hE.alloc _) ?_ ?_).mono ?_; (simp [maxLen]; omega); (rw [HX.out]; exact HN.out); rintro e w' ⟨rfl, rfl⟩)
    | (go_at_call 61; refine (clone_any _ _ ?_ ?_).mono ?_; (simp [maxLen]; omega); (simp; omega); rintro e w1 ⟨rfl, hb⟩; obtain ⟨hc1, hf1⟩ := bcell hb; have hz1 : w.heap.size < w1.heap.size := (by have := hb.size; simp at this; omega)))
  have hb' : Below w.heap.size w w1 := ((Below.refl _ w).alloc (Nat.le_refl _) _).trans (hb.mono (by simp))
  obtain ⟨q0, q1, q2, q3⟩ := four_set w1 w.heap.size (.int .i64 3) (.string (s.extract 0 (Lx.run s.data.toList).length)) (.int .i64 0) (.int .i64 0) (by rw [hc1 _ _ (by simp)]; simp) (by rw [hc1 _ _ (by simp)]; simp) (by rw [hc1 _ _ (by simp)]; simp) (by rw [hc1 _ _ (by simp)]; simp)
  refine bodyPost_ret (v := .tuple #[.agg #[.int .i64 3, .string (s.extract 0 (Lx.run s.data.toList).length), .int .i64 0, .int .i64 0], .nilIface]) (by simp [results, Tryd.results51, go_sem, q0, q1, q2, q3]) rfl ⟨rfl, ?_⟩
  exact (((hb'.setCell (Nat.le_refl _) _).setCell (Nat.le_refl _) _).setCell (Nat.le_refl _) _).setCell (Nat.le_refl _) _

set_option maxHeartbeats 1000000 in
theorem next_digit_no (s : ByteArray) (E : Errs) (w : World) (hE : Laid E two w) (hs : s.size ≤ 65536) (h0 : 0 < s.size) (hd : Lx.isDigit s[0] = true) (hn : Lx.numCode (Lx.run s.data.toList) ≠ 0) :
    Calls Tryd.prog 51 #[.string s] w fun e w' => e = .returned (.tuple #[.agg #[.int .i64 0, .string ⟨#[]⟩, .int .i64 0, .int .i64 0], E.val (Lx.numCode (Lx.run s.data.toList))]) ∧ Below w.heap.size w w' := by
  have hr : (Lx.run s.data.toList).length ≤ s.size := by rw [← bytes_size]; exact Lx.run_le _
  have HX : Hid ((s.extract 0 (Lx.run s.data.toList).length).data.toList = Lx.run s.data.toList) := (extract_front s _ hr).trans (Lx.run_take _)
  have HD := Lib.hid hd
  have HN := Lib.hid hn
  clear hd hn
  go_enter Tryd.func51, Tryd.ntmps51
  go_wp2_with (first
    | (go_at_call 43; refine (run_any s _ (by unfold maxLen; omega)).mono ?_; rintro e w' ⟨rfl, rfl⟩)
    | (go_at_call 53; refine (isDigit_any s[0] _).mono ?_; rintro e w' ⟨rfl, rfl⟩; rw [HD.out])
    | (go_at_call 41; refine (value_no _ E _ (hE.alloc _) ?_ ?_).mono ?_; (simp [maxLen]; omega); (rw [HX.out]; exact HN.out); rintro e w1 ⟨rfl, hb⟩; rw [HX.out]; obtain ⟨hc1, hf1⟩ := bcell hb; have hz1 : w.heap.size < w1.heap.size := (by have := hb.size; simp at this; omega)))
  have hb' : Below w.heap.size w w1 := ((Below.refl _ w).alloc (Nat.le_refl _) _).trans (hb.mono (by simp))
  obtain ⟨q0, q1, q2, q3⟩ := four_set w1 w.heap.size (.int .i64 0) (.string ⟨#[]⟩) (.int .i64 0) (.int .i64 0) (by rw [hc1 _ _ (by simp)]; simp) (by rw [hc1 _ _ (by simp)]; simp) (by rw [hc1 _ _ (by simp)]; simp) (by rw [hc1 _ _ (by simp)]; simp)
  refine bodyPost_ret (v := .tuple #[.agg #[.int .i64 0, .string ⟨#[]⟩, .int .i64 0, .int .i64 0], E.val (Lx.numCode (Lx.run s.data.toList))]) (by simp [results, Tryd.results51, go_sem, q0, q1, q2, q3]) rfl ⟨rfl, ?_⟩
  exact (((hb'.setCell (Nat.le_refl _) _).setCell (Nat.le_refl _) _).setCell (Nat.le_refl _) _).setCell (Nat.le_refl _) _

set_option maxHeartbeats 1000000 in
theorem next_letter_ok (s : ByteArray) (E : Errs) (w : World) (_hE : Laid E two w) (hs : s.size ≤ 65536) (h0 : 0 < s.size) (hd : Lx.isDigit s[0] = false) (hl : (Lx.isSmall s[0] || Lx.isGreat s[0]) = true) (hn : (Lx.run s.data.toList).length ≤ 32) :
    Calls Tryd.prog 51 #[.string s] w fun e w' => e = .returned (.tuple #[.agg #[.int .i64 2, .string (s.extract 0 (Lx.run s.data.toList).length), .int .i64 0, .int .i64 0], .nilIface]) ∧ Below w.heap.size w w' := by
  have hr : (Lx.run s.data.toList).length ≤ s.size := by rw [← bytes_size]; exact Lx.run_le _
  have HD := Lib.hid hd
  clear hd
  cases hs1 : Lx.isSmall s[0] <;> cases hg1 : Lx.isGreat s[0] <;> simp [hs1, hg1] at hl
  all_goals
    have HS := Lib.hid hs1
    have HG := Lib.hid hg1
    clear hs1 hg1
    go_enter Tryd.func51, Tryd.ntmps51
    go_wp2_with (first
      | (go_at_call 43; refine (run_any s _ (by unfold maxLen; omega)).mono ?_; rintro e w' ⟨rfl, rfl⟩)
      | (go_at_call 53; refine (isDigit_any s[0] _).mono ?_; rintro e w' ⟨rfl, rfl⟩; rw [HD.out])
      | (go_at_call 42; refine (isSmall_any s[0] _).mono ?_; rintro e w' ⟨rfl, rfl⟩; rw [HS.out])
      | (go_at_call 45; refine (isGreat_any s[0] _).mono ?_; rintro e w' ⟨rfl, rfl⟩; rw [HG.out])
      | (go_at_call 61; refine (clone_any _ _ ?_ ?_).mono ?_; (simp [maxLen]; omega); (simp; omega); rintro e w1 ⟨rfl, hb⟩; obtain ⟨hc1, hf1⟩ := bcell hb; have hz1 : w.heap.size < w1.heap.size := (by have := hb.size; simp at this; omega)))
    have hb' : Below w.heap.size w w1 := ((Below.refl _ w).alloc (Nat.le_refl _) _).trans (hb.mono (by simp))
    obtain ⟨q0, q1, q2, q3⟩ := four_set w1 w.heap.size (.int .i64 2) (.string (s.extract 0 (Lx.run s.data.toList).length)) (.int .i64 0) (.int .i64 0) (by rw [hc1 _ _ (by simp)]; simp) (by rw [hc1 _ _ (by simp)]; simp) (by rw [hc1 _ _ (by simp)]; simp) (by rw [hc1 _ _ (by simp)]; simp)
    refine bodyPost_ret (v := .tuple #[.agg #[.int .i64 2, .string (s.extract 0 (Lx.run s.data.toList).length), .int .i64 0, .int .i64 0], .nilIface]) (by simp [results, Tryd.results51, go_sem, q0, q1, q2, q3]) rfl ⟨rfl, ?_⟩
    exact (((hb'.setCell (Nat.le_refl _) _).setCell (Nat.le_refl _) _).setCell (Nat.le_refl _) _).setCell (Nat.le_refl _) _

set_option maxHeartbeats 1000000 in
theorem next_letter_long (s : ByteArray) (E : Errs) (w : World) (hE : Laid E two w) (hs : s.size ≤ 65536) (h0 : 0 < s.size) (hd : Lx.isDigit s[0] = false) (hl : (Lx.isSmall s[0] || Lx.isGreat s[0]) = true) (hn : 32 < (Lx.run s.data.toList).length) :
    Calls Tryd.prog 51 #[.string s] w fun e w' => e = .returned (.tuple #[.agg #[.int .i64 0, .string ⟨#[]⟩, .int .i64 0, .int .i64 0], E.val 2]) ∧ Below w.heap.size w w' := by
  have hr : (Lx.run s.data.toList).length ≤ s.size := by rw [← bytes_size]; exact Lx.run_le _
  have hL := (hE.alloc (.cells #[.int .i64 0, .string ⟨#[]⟩, .int .i64 0, .int .i64 0] 29)).long
  have HD := Lib.hid hd
  clear hd
  cases hs1 : Lx.isSmall s[0] <;> cases hg1 : Lx.isGreat s[0] <;> simp [hs1, hg1] at hl
  all_goals
    have HS := Lib.hid hs1
    have HG := Lib.hid hg1
    clear hs1 hg1
    go_enter Tryd.func51, Tryd.ntmps51
    go_wp2_with (first
      | (go_at_call 43; refine (run_any s _ (by unfold maxLen; omega)).mono ?_; rintro e w' ⟨rfl, rfl⟩)
      | (go_at_call 53; refine (isDigit_any s[0] _).mono ?_; rintro e w' ⟨rfl, rfl⟩; rw [HD.out])
      | (go_at_call 42; refine (isSmall_any s[0] _).mono ?_; rintro e w' ⟨rfl, rfl⟩; rw [HS.out])
      | (go_at_call 45; refine (isGreat_any s[0] _).mono ?_; rintro e w' ⟨rfl, rfl⟩; rw [HG.out])
  )
    go_region
    go_wp2
    refine bodyPost_ret (v := .tuple #[.agg #[.int .i64 0, .string ⟨#[]⟩, .int .i64 0, .int .i64 0], E.val 2]) (by simp [results, Tryd.results51, go_sem]) rfl ⟨rfl, ?_⟩
    exact ((Below.refl _ w).alloc (Nat.le_refl _) _).drew

set_option maxHeartbeats 1000000 in
theorem next_mark (s : ByteArray) (E : Errs) (w : World) (_hE : Laid E two w) (hs : s.size ≤ 65536) (h0 : 0 < s.size) (hd : Lx.isDigit s[0] = false) (hl : (Lx.isSmall s[0] || Lx.isGreat s[0]) = false) (hm : Lx.isMark s[0] = true) :
    Calls Tryd.prog 51 #[.string s] w fun e w' => e = .returned (.tuple #[.agg #[.int .i64 4, .string (s.extract 0 1), .int .i64 0, .int .i64 0], .nilIface]) ∧ Below w.heap.size w w' := by
  have hr : (Lx.run s.data.toList).length ≤ s.size := by rw [← bytes_size]; exact Lx.run_le _
  have HD := Lib.hid hd
  rw [Bool.or_eq_false_iff] at hl
  have HS := Lib.hid hl.1
  have HG := Lib.hid hl.2
  clear hd hl
  have hge : 0 ≤ Lib.indexByte [61, 43, 124, 46, 92, 123, 125, 91, 93, 40, 41, 44, 47, 39, 60, 62, 126, 38, 45, 58, 59] s[0] := by
    have hi := mark_index s[0]
    rw [hm] at hi
    simpa using hi
  clear hm
  go_enter Tryd.func51, Tryd.ntmps51
  go_wp2_with (first
    | (go_at_call 43; refine (run_any s _ (by unfold maxLen; omega)).mono ?_; rintro e w' ⟨rfl, rfl⟩)
    | (go_at_call 53; refine (isDigit_any s[0] _).mono ?_; rintro e w' ⟨rfl, rfl⟩; rw [HD.out])
    | (go_at_call 42; refine (isSmall_any s[0] _).mono ?_; rintro e w' ⟨rfl, rfl⟩; rw [HS.out])
    | (go_at_call 45; refine (isGreat_any s[0] _).mono ?_; rintro e w' ⟨rfl, rfl⟩; rw [HG.out])
    | (go_at_call 60; refine (Tryd.strings_IndexByte _ (s[0].toNat : Int) _).mono ?_; rintro e w' ⟨rfl, rfl⟩)
    | (go_at_call 61; refine (clone_any _ _ ?_ ?_).mono ?_; (simp [maxLen]; omega); (simp; omega); rintro e w1 ⟨rfl, hb⟩; obtain ⟨hc1, hf1⟩ := bcell hb; have hz1 : w.heap.size < w1.heap.size := (by have := hb.size; simp at this; omega)))
  have hb' : Below w.heap.size w w1 := ((Below.refl _ w).alloc (Nat.le_refl _) _).trans (hb.mono (by simp))
  obtain ⟨q0, q1, q2, q3⟩ := four_set w1 w.heap.size (.int .i64 4) (.string (s.extract 0 1)) (.int .i64 0) (.int .i64 0) (by rw [hc1 _ _ (by simp)]; simp) (by rw [hc1 _ _ (by simp)]; simp) (by rw [hc1 _ _ (by simp)]; simp) (by rw [hc1 _ _ (by simp)]; simp)
  refine bodyPost_ret (v := .tuple #[.agg #[.int .i64 4, .string (s.extract 0 1), .int .i64 0, .int .i64 0], .nilIface]) (by simp [results, Tryd.results51, go_sem, q0, q1, q2, q3]) rfl ⟨rfl, ?_⟩
  exact (((hb'.setCell (Nat.le_refl _) _).setCell (Nat.le_refl _) _).setCell (Nat.le_refl _) _).setCell (Nat.le_refl _) _

set_option maxHeartbeats 1000000 in
theorem next_none (s : ByteArray) (E : Errs) (w : World) (hE : Laid E two w) (hs : s.size ≤ 65536) (h0 : 0 < s.size) (hd : Lx.isDigit s[0] = false) (hl : (Lx.isSmall s[0] || Lx.isGreat s[0]) = false) (hm : Lx.isMark s[0] = false) :
    Calls Tryd.prog 51 #[.string s] w fun e w' => e = .returned (.tuple #[.agg #[.int .i64 0, .string ⟨#[]⟩, .int .i64 0, .int .i64 0], E.val 4]) ∧ Below w.heap.size w w' := by
  have hW := (hE.alloc (.cells #[.int .i64 0, .string ⟨#[]⟩, .int .i64 0, .int .i64 0] 29)).word
  have hr : (Lx.run s.data.toList).length ≤ s.size := by rw [← bytes_size]; exact Lx.run_le _
  have HD := Lib.hid hd
  rw [Bool.or_eq_false_iff] at hl
  have HS := Lib.hid hl.1
  have HG := Lib.hid hl.2
  clear hd hl
  have hge : Lib.indexByte [61, 43, 124, 46, 92, 123, 125, 91, 93, 40, 41, 44, 47, 39, 60, 62, 126, 38, 45, 58, 59] s[0] < 0 := by
    have hi := mark_index s[0]
    rw [hm] at hi
    simpa using hi
  clear hm
  go_enter Tryd.func51, Tryd.ntmps51
  go_wp2_with (first
    | (go_at_call 43; refine (run_any s _ (by unfold maxLen; omega)).mono ?_; rintro e w' ⟨rfl, rfl⟩)
    | (go_at_call 53; refine (isDigit_any s[0] _).mono ?_; rintro e w' ⟨rfl, rfl⟩; rw [HD.out])
    | (go_at_call 42; refine (isSmall_any s[0] _).mono ?_; rintro e w' ⟨rfl, rfl⟩; rw [HS.out])
    | (go_at_call 45; refine (isGreat_any s[0] _).mono ?_; rintro e w' ⟨rfl, rfl⟩; rw [HG.out])
    | (go_at_call 60; refine (Tryd.strings_IndexByte _ (s[0].toNat : Int) _).mono ?_; rintro e w' ⟨rfl, rfl⟩)
    | (go_at_call 61; refine (clone_any _ _ ?_ ?_).mono ?_; (simp [maxLen]; omega); (simp; omega); rintro e w1 ⟨rfl, hb⟩; obtain ⟨hc1, hf1⟩ := bcell hb; have hz1 : w.heap.size < w1.heap.size := (by have := hb.size; simp at this; omega)))
  go_region
  go_wp2
  refine bodyPost_ret (v := .tuple #[.agg #[.int .i64 0, .string ⟨#[]⟩, .int .i64 0, .int .i64 0], E.val 4]) (by simp [results, Tryd.results51, go_sem]) rfl ⟨rfl, ?_⟩
  exact ((Below.refl _ w).alloc (Nat.le_refl _) _).drew

theorem numCode_or (l : List UInt8) : Lx.numCode l = 0 ∨ Lx.numCode l = 2 ∨ Lx.numCode l = 4 := by
  unfold Lx.numCode
  split
  · split
    · exact .inl rfl
    · exact .inr (.inl rfl)
  · exact .inr (.inr rfl)
theorem word_cons (s : ByteArray) (h0 : 0 < s.size) : s.data.toList = s[0] :: s.data.toList.drop 1 := by
  have := bytes_drop s 0 h0; simpa using this
theorem next_any (s : ByteArray) (E : Errs) (w : World) (hE : Laid E two w) (hs : s.size ≤ 65536) (h0 : 0 < s.size) :
    Calls Tryd.prog 51 #[.string s] w (NextEnds s.data.toList E w) := by
  have hw := word_cons s h0
  have hr : (Lx.run s.data.toList).length ≤ s.size := by rw [← bytes_size]; exact Lx.run_le _
  have hx : s.extract 0 (Lx.run s.data.toList).length = ⟨(Lx.run s.data.toList).toArray⟩ := by rw [extract_mk, Lx.run_take]
  have h1 : s.extract 0 1 = ⟨[s[0]].toArray⟩ := by rw [extract_mk, hw]; rfl
  have hword : ∀ r, (match s[0] :: s.data.toList.drop 1 with
    | [] => .error 4
    | c :: t =>
      if Lx.isDigit c then (if Lx.numCode (Lx.run (c :: t)) = 0 then .ok (3, Lx.run (c :: t)) else .error (Lx.numCode (Lx.run (c :: t))))
      else if Lx.isSmall c || Lx.isGreat c then (if (Lx.run (c :: t)).length ≤ 32 then .ok (2, Lx.run (c :: t)) else .error 2)
      else if Lx.isMark c then .ok (4, [c]) else .error 4) = r → Lx.word s.data.toList = r := fun r h => by rw [hw]; exact h
  simp only [← hw] at hword
  by_cases hd : Lx.isDigit s[0] = true
  · rw [if_pos hd] at hword
    by_cases hn : Lx.numCode (Lx.run s.data.toList) = 0
    · rw [if_pos hn] at hword
      refine (next_digit_ok s E w hE hs h0 hd hn).mono fun e w' ⟨he, hb⟩ => ⟨hb, .inl ⟨3, Lx.run s.data.toList, hword _ rfl, ?_⟩⟩
      rw [he, hx]; rfl
    · rw [if_neg hn] at hword
      refine (next_digit_no s E w hE hs h0 hd hn).mono fun e w' ⟨he, hb⟩ => ⟨hb, .inr ⟨_, hword _ rfl, ?_, he⟩⟩
      rcases numCode_or (Lx.run s.data.toList) with h | h | h
      · exact absurd h hn
      · exact .inl h
      · exact .inr h
  · have hd : Lx.isDigit s[0] = false := by simpa using hd
    rw [if_neg (by simp [hd])] at hword
    by_cases hl : (Lx.isSmall s[0] || Lx.isGreat s[0]) = true
    · rw [if_pos hl] at hword
      by_cases hn : (Lx.run s.data.toList).length ≤ 32
      · rw [if_pos hn] at hword
        refine (next_letter_ok s E w hE hs h0 hd hl hn).mono fun e w' ⟨he, hb⟩ => ⟨hb, .inl ⟨2, Lx.run s.data.toList, hword _ rfl, ?_⟩⟩
        rw [he, hx]; rfl
      · rw [if_neg hn] at hword
        exact (next_letter_long s E w hE hs h0 hd hl (by omega)).mono fun e w' ⟨he, hb⟩ => ⟨hb, .inr ⟨2, hword _ rfl, .inl rfl, he⟩⟩
    · have hl : (Lx.isSmall s[0] || Lx.isGreat s[0]) = false := by simpa using hl
      rw [if_neg (by simp [hl])] at hword
      by_cases hm : Lx.isMark s[0] = true
      · rw [if_pos hm] at hword
        refine (next_mark s E w hE hs h0 hd hl hm).mono fun e w' ⟨he, hb⟩ => ⟨hb, .inl ⟨4, [s[0]], hword _ rfl, ?_⟩⟩
        rw [he, h1]; rfl
      · rw [if_neg hm] at hword
        exact (next_none s E w hE hs h0 hd hl (by simpa using hm)).mono fun e w' ⟨he, hb⟩ => ⟨hb, .inr ⟨4, hword _ rfl, .inr rfl, he⟩⟩

theorem next_ok (s : ByteArray) (E : Errs) (w : World) (hE : Laid E two w) (hs : s.size ≤ 65536) (h0 : 0 < s.size) (k : Nat) (tx : List UInt8) (h : Lx.word s.data.toList = .ok (k, tx)) :
    Calls Tryd.prog 51 #[.string s] w fun e w' => e = .returned (.tuple #[.agg #[.int .i64 (k : Int), .string ⟨tx.toArray⟩, .int .i64 0, .int .i64 0], .nilIface]) ∧ Below w.heap.size w w' :=
  (next_any s E w hE hs h0).mono fun e w' hv => by
    rcases hv with ⟨hb, ⟨k', tx', h1, h2⟩ | ⟨c, h1, _⟩⟩
    · rw [h] at h1; injection h1 with h1; injection h1 with h3 h4; subst h3; subst h4; exact ⟨h2, hb⟩
    · rw [h] at h1; cases h1
theorem next_err (s : ByteArray) (E : Errs) (w : World) (hE : Laid E two w) (hs : s.size ≤ 65536) (h0 : 0 < s.size) (c : Nat) (h : Lx.word s.data.toList = .error c) :
    Calls Tryd.prog 51 #[.string s] w fun e w' => e = .returned (.tuple #[.agg #[.int .i64 0, .string ⟨#[]⟩, .int .i64 0, .int .i64 0], E.val c]) ∧ Below w.heap.size w w' ∧ (c = 2 ∨ c = 4) :=
  (next_any s E w hE hs h0).mono fun e w' hv => by
    rcases hv with ⟨hb, ⟨k', tx', h1, h2⟩ | ⟨c', h1, h2, h3⟩⟩
    · rw [h] at h1; cases h1
    · rw [h] at h1; injection h1 with h1; subst h1; exact ⟨h3, hb, h2⟩
end Go.Proofs.YtinobikikineiaaDoor
