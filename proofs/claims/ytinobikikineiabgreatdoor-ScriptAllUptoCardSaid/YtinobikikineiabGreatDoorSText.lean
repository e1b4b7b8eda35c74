/- The walks of strings.Trim at the blanks, of isText, of trim, blank and cut of the document. Conditions: the texts' sizes. -/
import Derived.Test.YtinobikikineiabGreatDoorSWants
import Derived.Test.YtinobikikineiabGreatDoorShelf
import Derived.Shelf.Strings.SlTrimAscii
namespace Go.Proofs.YtinobikikineiabGreatDoor
open Go.RowKit Go.Shelf

theorem trim_any (s : ByteArray) (w : World) (hs : s.size ≤ 9223372036854775807) :
    Calls Tryz.prog 77 #[.string s, .string ⟨#[32, 9, 13]⟩] w fun e w' => e = .returned (.string ⟨(Sc.trim s.data.toList).toArray⟩) ∧ Below w.heap.size w w' :=
  Any.strings_Trim_laid Tryz.lays160 (by kernel_rfl) s ⟨#[32, 9, 13]⟩ w hs (by decide) (ascii_of_all (by decide))
theorem contains_nl (s : ByteArray) (w : World) :
    Calls Tryz.prog 134 #[.string s, .string ⟨#[10]⟩] w fun e w' => e = .returned (.bool (s.data.toList.contains 10)) ∧ w = w' :=
  (Tryz.strings_Contains_one s 10 w).mono fun _ _ ⟨h1, h2⟩ => ⟨by rw [h1, Lib.contains_iff_indexByte], h2.symm⟩
theorem clone_any (s : ByteArray) (w : World) (hlim : s.size ≤ 281474976710656) :
    Calls Tryz.prog 79 #[.string s] w fun e w' => e = .returned (.string s) ∧ Below w.heap.size w w' := by
  go_enter Tryz.func79, Tryz.ntmps79
  go_wp2_with (go_at_call 130; refine (Tryz.stringslite_Clone s _ hlim).mono ?_; rintro e w' ⟨rfl, hb⟩)
  go_ret
  exact ⟨rfl, hb⟩

theorem empty_list (s : ByteArray) : s.toList = s.data.toList := ByteArray.toList_eq s
theorem isText_two (s : ByteArray) : Sc.isText 2 s.data.toList = (!s.data.toList.isEmpty && decide (s.data.toList = Sc.trim s.data.toList) && !s.data.toList.contains 10) := rfl

set_option maxHeartbeats 1000000 in
theorem isText_any (n : Nat) (s : ByteArray) (w : World) (hs : s.size ≤ 9223372036854775807) :
    Calls Tryz.prog 113 #[.int .i64 (n : Int), .string s] w fun e w' => e = .returned (.bool (Sc.isText n s.data.toList)) ∧ Below w.heap.size w w' := by
  have hel := empty_list s
  by_cases h2 : n = 2
  · subst h2
    cases he : s.data.toList.isEmpty with
    | true =>
      have HT : Hid (Sc.isText 2 s.data.toList = false) := by show _ = _; rw [isText_two, he]; rfl
      have e1 : s.toList = [] := by rw [hel]; simpa using he
      clear hel he
      go_enter Tryz.func113, Tryz.ntmps113
      go_wp2_with fail
      go_ret
      exact ⟨by rw [HT.out]; rfl, Below.refl _ _⟩
    | false =>
      have e1 : s.toList ≠ [] := by rw [hel]; simpa using he
      have e2 : s.toList.isEmpty = false := by rw [hel]; exact he
      cases ht : decide (s.data.toList = Sc.trim s.data.toList) with
      | false =>
        have HT : Hid (Sc.isText 2 s.data.toList = false) := by show _ = _; rw [isText_two, he, ht]; rfl
        have ht' : (s.toList == Sc.trim s.data.toList) = false := by rw [hel, beq_eq_false_iff_ne]; simpa using ht
        clear hel he ht
        go_enter Tryz.func113, Tryz.ntmps113
        go_wp2_with (first | (go_at_call 77; refine (trim_any s _ hs).mono ?_; rintro e w1 ⟨rfl, hb1⟩))
        go_ret
        exact ⟨by rw [HT.out]; rfl, hb1⟩
      | true =>
        have HT : Hid (Sc.isText 2 s.data.toList = !s.data.toList.contains 10) := by show _ = _; rw [isText_two, he, ht]; rfl
        have ht' : (s.toList == Sc.trim s.data.toList) = true := by rw [hel, beq_iff_eq]; simpa using ht
        clear hel he ht
        cases hc : s.data.toList.contains 10
        all_goals
          have HC := Lib.hid hc
          clear hc
          go_enter Tryz.func113, Tryz.ntmps113
          go_wp2_with (first
            | (go_at_call 77; refine (trim_any s _ hs).mono ?_; rintro e w1 ⟨rfl, hb1⟩)
            | (go_at_call 134; refine (contains_nl s _).mono ?_; rintro e w2 ⟨rfl, rfl⟩; rw [HC.out]))
          go_ret
          exact ⟨by rw [HT.out, HC.out]; rfl, hb1⟩
  · have n2 : ((n : Int) == 2) = false := by rw [beq_eq_false_iff_ne]; omega
    by_cases h3 : n = 3
    · subst h3
      have HT : Hid (Sc.isText 3 s.data.toList = (decide (s.data.toList = Sc.strongL) || decide (s.data.toList = Sc.branchingL))) := rfl
      cases h1 : decide (s.data.toList = Sc.strongL) with
      | true =>
        have t1 : (s.toList == [115, 116, 114, 111, 110, 103]) = true := by rw [hel, beq_iff_eq]; exact of_decide_eq_true h1
        have H1 := Lib.hid h1
        clear h1 hel h2
        go_enter Tryz.func113, Tryz.ntmps113
        go_wp2_with fail
        go_ret
        exact ⟨by rw [HT.out, H1.out]; rfl, Below.refl _ _⟩
      | false =>
        have t1 : (s.toList == [115, 116, 114, 111, 110, 103]) = false := by rw [hel, beq_eq_false_iff_ne]; exact of_decide_eq_false h1
        have H1 := Lib.hid h1
        have t2 : (s.toList == [98, 114, 97, 110, 99, 104, 105, 110, 103]) = decide (s.data.toList = Sc.branchingL) := by rw [hel, Bool.eq_iff_iff, beq_iff_eq, decide_eq_true_eq]; rfl
        cases h4 : decide (s.data.toList = Sc.branchingL) with
        | true =>
          rw [h4] at t2
          have H4 := Lib.hid h4
          clear h1 hel h2 h4
          go_enter Tryz.func113, Tryz.ntmps113
          go_wp2_with fail
          go_ret
          exact ⟨by rw [HT.out, H1.out, H4.out]; rfl, Below.refl _ _⟩
        | false =>
          rw [h4] at t2
          have H4 := Lib.hid h4
          clear h1 hel h2 h4
          go_enter Tryz.func113, Tryz.ntmps113
          go_wp2_with fail
          go_ret
          exact ⟨by rw [HT.out, H1.out, H4.out]; rfl, Below.refl _ _⟩
    · have n3 : ((n : Int) == 3) = false := by rw [beq_eq_false_iff_ne]; omega
      have HT : Hid (Sc.isText n s.data.toList = s.data.toList.isEmpty) := by show _ = _; unfold Sc.isText; rw [if_neg h2, if_neg h3]
      have e1 : s.toList.isEmpty = s.data.toList.isEmpty := by rw [hel]
      cases he : s.data.toList.isEmpty with
      | true =>
        rw [he] at e1
        have HE := Lib.hid he
        clear hel h2 h3 he
        go_enter Tryz.func113, Tryz.ntmps113
        go_wp2_with fail
        go_ret
        exact ⟨by rw [HT.out, HE.out]; rfl, Below.refl _ _⟩
      | false =>
        rw [he] at e1
        have HE := Lib.hid he
        clear hel h2 h3 he
        go_enter Tryz.func113, Tryz.ntmps113
        go_wp2_with fail
        go_ret
        exact ⟨by rw [HT.out, HE.out]; rfl, Below.refl _ _⟩
end Go.Proofs.YtinobikikineiabGreatDoor
