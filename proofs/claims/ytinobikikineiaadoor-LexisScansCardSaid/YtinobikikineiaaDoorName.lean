/- The walks of the names' predicates: lexis' own and the document's. No conditions but the text's size. -/
import Derived.Test.YtinobikikineiaaDoorRef
import Derived.Test.YtinobikikineiaaDoorValue
import Derived.Test.YtinobikikineiaaDoorPlainDigits
namespace Go.Proofs.YtinobikikineiaaDoor
open Go.RowKit

theorem isName_of (s : ByteArray) (h0 : 0 < s.size) (b : Bool) :
    Lx.isName b s.data.toList = ((if b then Lx.isSmall s[0] else Lx.isGreat s[0]) && s.data.toList.all Lx.inRun && decide (s.size ≤ 32)) := by
  have hg := bytes_get s 0 h0
  have hz := bytes_size s
  cases hl : s.data.toList with
  | nil => rw [hl] at hz; simp at hz; omega
  | cons c t =>
    rw [hl] at hg hz
    have hc : c = s[0] := by simpa using hg
    rw [← hc, ← hz]
    rfl
theorem isName_nil (s : ByteArray) (h0 : s.size = 0) (b : Bool) : Lx.isName b s.data.toList = false := by
  have he : s.data.toList = [] := List.eq_nil_of_length_eq_zero (by rw [bytes_size]; exact h0)
  rw [he]; rfl
theorem empty_of (s : ByteArray) (h : s.size = 0) : s.toList.isEmpty = true := by
  rw [ByteArray.toList_eq, List.isEmpty_iff]
  exact List.eq_nil_of_length_eq_zero (by rw [bytes_size]; exact h)
theorem nonempty_of (s : ByteArray) (h : 0 < s.size) : s.toList.isEmpty = false := by
  cases he : s.toList.isEmpty with
  | false => rfl
  | true => have := bytes_size s; rw [bytes_empty s he] at this; simp at this; omega

theorem isName_true (s : ByteArray) (h0 : 0 < s.size) : Lx.isName true s.data.toList = (Lx.isSmall s[0] && s.data.toList.all Lx.inRun && decide (s.size ≤ 32)) := isName_of s h0 true
theorem isName_false (s : ByteArray) (h0 : 0 < s.size) : Lx.isName false s.data.toList = (Lx.isGreat s[0] && s.data.toList.all Lx.inRun && decide (s.size ≤ 32)) := isName_of s h0 false
theorem bool_le32 (s : ByteArray) : Ending.returned (.bool (decide ((s.size : Int) ≤ 32))) = .returned (.bool (true && true && decide (s.size ≤ 32))) := by
  congr 2
  rw [Bool.true_and, Bool.true_and, decide_eq_decide]
  omega

set_option maxHeartbeats 1000000 in
theorem lexIsName_any (s : ByteArray) (w : World) (hs : s.size ≤ maxLen) :
    Calls Tryd.prog 25 #[.string s] w fun e w' => e = .returned (.bool (Lx.isName true s.data.toList)) ∧ w = w' := by
  by_cases h0 : s.size = 0
  · have HN := Lib.hid (isName_nil s h0 true)
    have he := empty_of s h0
    clear h0
    go_enter Tryd.func25, Tryd.ntmps25
    go_wp2_with fail
    go_ret
    exact ⟨by rw [HN.out]; rfl, rfl⟩
  · have h0 : 0 < s.size := by omega
    have HN := Lib.hid (isName_true s h0)
    have he := nonempty_of s h0
    have hr : (s.data.toList.all Lx.inRun = true) ↔ (Lx.run s.data.toList).length = s.size := by rw [← bytes_size]; exact (Lx.run_all _).symm
    cases hc : Lx.isSmall s[0] with
    | false =>
      have HC := Lib.hid hc
      clear hc hr
      go_enter Tryd.func25, Tryd.ntmps25
      go_wp2_with (first | (go_at_call 42; refine (isSmall_any s[0] _).mono ?_; rintro e w' ⟨rfl, rfl⟩; rw [HC.out]))
      go_ret
      exact ⟨by rw [HN.out, HC.out]; rfl, rfl⟩
    | true =>
      have HC := Lib.hid hc
      by_cases hl : (Lx.run s.data.toList).length = s.size
      · have HA : Hid (s.data.toList.all Lx.inRun = true) := hr.2 hl
        have HR := Lib.hid hl
        clear hc hr hl
        go_enter Tryd.func25, Tryd.ntmps25
        go_wp2_with (first | (go_at_call 42; refine (isSmall_any s[0] _).mono ?_; rintro e w' ⟨rfl, rfl⟩; rw [HC.out]) | (go_at_call 43; refine (run_any s _ hs).mono ?_; rintro e w' ⟨rfl, rfl⟩; rw [HR.out]))
        go_ret
        exact ⟨by rw [HN.out, HC.out, HA.out]; exact bool_le32 s, rfl⟩
      · have HA : Hid (s.data.toList.all Lx.inRun = false) := by
          cases h : s.data.toList.all Lx.inRun with
          | false => exact rfl
          | true => exact absurd (hr.1 h) hl
        have hb : (((Lx.run s.data.toList).length : Int) == (s.size : Int)) = false := by rw [beq_eq_false_iff_ne]; omega
        clear hc hr hl
        go_enter Tryd.func25, Tryd.ntmps25
        go_wp2_with (first | (go_at_call 42; refine (isSmall_any s[0] _).mono ?_; rintro e w' ⟨rfl, rfl⟩; rw [HC.out]) | (go_at_call 43; refine (run_any s _ hs).mono ?_; rintro e w' ⟨rfl, rfl⟩))
        go_ret
        exact ⟨by rw [HN.out, HC.out, HA.out]; rfl, rfl⟩

set_option maxHeartbeats 1000000 in
theorem lexIsConst_any (s : ByteArray) (w : World) (hs : s.size ≤ maxLen) :
    Calls Tryd.prog 27 #[.string s] w fun e w' => e = .returned (.bool (Lx.isName false s.data.toList)) ∧ w = w' := by
  by_cases h0 : s.size = 0
  · have HN := Lib.hid (isName_nil s h0 false)
    have he := empty_of s h0
    clear h0
    go_enter Tryd.func27, Tryd.ntmps27
    go_wp2_with fail
    go_ret
    exact ⟨by rw [HN.out]; rfl, rfl⟩
  · have h0 : 0 < s.size := by omega
    have HN := Lib.hid (isName_false s h0)
    have he := nonempty_of s h0
    have hr : (s.data.toList.all Lx.inRun = true) ↔ (Lx.run s.data.toList).length = s.size := by rw [← bytes_size]; exact (Lx.run_all _).symm
    cases hc : Lx.isGreat s[0] with
    | false =>
      have HC := Lib.hid hc
      clear hc hr
      go_enter Tryd.func27, Tryd.ntmps27
      go_wp2_with (first | (go_at_call 45; refine (isGreat_any s[0] _).mono ?_; rintro e w' ⟨rfl, rfl⟩; rw [HC.out]))
      go_ret
      exact ⟨by rw [HN.out, HC.out]; rfl, rfl⟩
    | true =>
      have HC := Lib.hid hc
      by_cases hl : (Lx.run s.data.toList).length = s.size
      · have HA : Hid (s.data.toList.all Lx.inRun = true) := hr.2 hl
        have HR := Lib.hid hl
        clear hc hr hl
        go_enter Tryd.func27, Tryd.ntmps27
        go_wp2_with (first | (go_at_call 45; refine (isGreat_any s[0] _).mono ?_; rintro e w' ⟨rfl, rfl⟩; rw [HC.out]) | (go_at_call 43; refine (run_any s _ hs).mono ?_; rintro e w' ⟨rfl, rfl⟩; rw [HR.out]))
        go_ret
        exact ⟨by rw [HN.out, HC.out, HA.out]; exact bool_le32 s, rfl⟩
      · have HA : Hid (s.data.toList.all Lx.inRun = false) := by
          cases h : s.data.toList.all Lx.inRun with
          | false => exact rfl
          | true => exact absurd (hr.1 h) hl
        have hb : (((Lx.run s.data.toList).length : Int) == (s.size : Int)) = false := by rw [beq_eq_false_iff_ne]; omega
        clear hc hr hl
        go_enter Tryd.func27, Tryd.ntmps27
        go_wp2_with (first | (go_at_call 45; refine (isGreat_any s[0] _).mono ?_; rintro e w' ⟨rfl, rfl⟩; rw [HC.out]) | (go_at_call 43; refine (run_any s _ hs).mono ?_; rintro e w' ⟨rfl, rfl⟩))
        go_ret
        exact ⟨by rw [HN.out, HC.out, HA.out]; rfl, rfl⟩

/-- The letter's case decides. -/
theorem case_of (c : UInt8) (hl : (Lx.isSmall c || Lx.isGreat c) = true) : Lx.isSmall c = decide ((97 : Int) ≤ (c.toNat : Int)) ∧ Lx.isGreat c = !decide ((97 : Int) ≤ (c.toNat : Int)) := by
  simp only [Lx.isSmall, Lx.isGreat, Bool.or_eq_true, Bool.and_eq_true, decide_eq_true_eq] at hl
  constructor
  · rw [Bool.eq_iff_iff]; simp [Lx.isSmall]; omega
  · rw [Bool.eq_iff_iff]; simp [Lx.isGreat]; omega
theorem isName_stop (s : ByteArray) (b : Bool) (k : Nat) (hk : k < s.size) (hc : Lx.inRun s[k] = false) : Lx.isName b s.data.toList = false := by
  rw [isName_of s (by omega)]
  have : s.data.toList.all Lx.inRun = false := by
    rw [List.all_eq_false]
    exact ⟨s[k], List.mem_of_getElem? (bytes_get s k hk), by simp [hc]⟩
  rw [this]; simp

set_option maxHeartbeats 2000000 in
theorem refName_any (s : ByteArray) (b : Bool) (w : World) (hs : s.size ≤ maxLen) :
    Calls Tryd.prog 44 #[.string s, .bool b] w fun e w' => e = .returned (.bool (Lx.isName b s.data.toList)) ∧ w = w' := by
  unfold maxLen at hs
  by_cases h0 : s.size = 0
  · have HN := Lib.hid (isName_nil s h0 b)
    go_enter Tryd.func44, Tryd.ntmps44
    go_wp2_with fail
    go_ret
    exact ⟨by rw [HN.out]; rfl, rfl⟩
  · have h0 : 0 < s.size := by omega
    by_cases h32 : 32 < s.size
    · have HN : Hid (Lx.isName b s.data.toList = false) := by show _ = _; rw [isName_of s h0, decide_eq_false (by omega), Bool.and_false]
      go_enter Tryd.func44, Tryd.ntmps44
      go_wp2_with fail
      go_ret
      exact ⟨by rw [HN.out]; rfl, rfl⟩
    · have h32' : s.size ≤ 32 := by omega
      cases hl : (Lx.isSmall s[0] || Lx.isGreat s[0]) with
      | false =>
        have HN : Hid (Lx.isName b s.data.toList = false) := by
          show _ = _
          rw [Bool.or_eq_false_iff] at hl
          rw [isName_of s h0, hl.1, hl.2]; simp
        have HL := Lib.hid hl
        clear hl
        go_enter Tryd.func44, Tryd.ntmps44
        go_wp2_with (first | (go_at_call 35; refine (letter_any s[0] _).mono ?_; rintro e w' ⟨rfl, rfl⟩; rw [HL.out]))
        go_ret
        exact ⟨by rw [HN.out]; rfl, rfl⟩
      | true =>
        obtain ⟨hsm, hgr⟩ := case_of _ hl
        have HL := Lib.hid hl
        clear hl
        by_cases h97 : (97 : Int) ≤ (s[0].toNat : Int) <;> cases b
        case pos.false =>
          have HN : Hid (Lx.isName false s.data.toList = false) := by show _ = _; rw [isName_false s h0, hgr]; simp [h97]
          clear hsm hgr
          go_enter Tryd.func44, Tryd.ntmps44
          go_wp2_with (first | (go_at_call 35; refine (letter_any s[0] _).mono ?_; rintro e w' ⟨rfl, rfl⟩; rw [HL.out]))
          go_ret
          exact ⟨by rw [HN.out]; rfl, rfl⟩
        case neg.true =>
          have HN : Hid (Lx.isName true s.data.toList = false) := by show _ = _; rw [isName_true s h0, hsm]; simp [h97]
          have hd97 : decide ((97 : Int) ≤ (s[0].toNat : Int)) = false := decide_eq_false h97
          clear hsm hgr
          go_enter Tryd.func44, Tryd.ntmps44
          go_wp2_with (first | (go_at_call 35; refine (letter_any s[0] _).mono ?_; rintro e w' ⟨rfl, rfl⟩; rw [HL.out]))
          go_ret
          exact ⟨by rw [HN.out]; rfl, rfl⟩
        all_goals
          (first
            | (have HF : Hid (s.data.toList.all Lx.inRun = true → Lx.isName true s.data.toList = true) := (by intro ha; rw [isName_true s h0, hsm, ha, decide_eq_true h97, decide_eq_true h32']; rfl))
            | (have HF : Hid (s.data.toList.all Lx.inRun = true → Lx.isName false s.data.toList = true) := (by intro ha; rw [isName_false s h0, hgr, ha, decide_eq_false h97, decide_eq_true h32']; rfl)))
          clear hsm hgr
          have hz0 : ((s.size : Int) == 0) = false := by rw [beq_eq_false_iff_ne]; omega
          have hz32 : decide ((32 : Int) < (s.size : Int)) = false := decide_eq_false (by omega)
          (first
            | (have hd97 : decide ((97 : Int) ≤ (s[0].toNat : Int)) = true := decide_eq_true h97)
            | (have hd97 : decide ((97 : Int) ≤ (s[0].toNat : Int)) = false := decide_eq_false h97))
          go_enter Tryd.func44, Tryd.ntmps44
          go_wp2_with (first | (go_at_call 35; refine (letter_any s[0] _).mono ?_; rintro e w' ⟨rfl, rfl⟩; rw [HL.out]))
          go_loop [5] (fun i => ∃ k : Nat, k ≤ s.size ∧ i = .int .i64 k ∧ (s.data.toList.take k).all Lx.inRun = true) (fun i => s.size - (intOf i).toNat)
          case atStart => exact ⟨0, Nat.zero_le _, rfl, by simp⟩
          case round =>
            obtain ⟨k, hk, rfl, hp⟩ := hrel
            have HP := Lib.hid hp
            clear hp
            by_cases hlt : k < s.size
            · cases hc : Lx.inRun s[k] with
              | true =>
                have HC := Lib.hid hc
                clear hc
                go_wp2_with (first | (go_at_call 34; refine (inner_any s[k] _).mono ?_; rintro e w' ⟨rfl, rfl⟩; rw [HC.out]))
                go_round
                case rel => exact ⟨k + 1, by omega, by go_num, Lx.run_go _ _ _ (bytes_get s k hlt) HP.out HC.out⟩
                case measure => simp [intOf]; omega
              | false =>
                have HC := Lib.hid hc
                clear hc
                go_wp2_with (first | (go_at_call 34; refine (inner_any s[k] _).mono ?_; rintro e w' ⟨rfl, rfl⟩; rw [HC.out]))
                go_ret
                exact ⟨by rw [isName_stop s _ k hlt HC.out]; rfl, rfl⟩
            · go_wp2_with fail
              go_ret
              obtain rfl : k = s.size := by omega
              exact ⟨by rw [HF.out (by have := HP.out; rwa [List.take_of_length_le (by rw [bytes_size]; exact Nat.le_refl _)] at this)]; rfl, rfl⟩

set_option maxHeartbeats 400000 in
theorem refIsName_any (s : ByteArray) (w : World) (hs : s.size ≤ maxLen) :
    Calls Tryd.prog 26 #[.string s] w fun e w' => e = .returned (.bool (Lx.isName true s.data.toList)) ∧ w = w' := by
  go_enter Tryd.func26, Tryd.ntmps26
  go_wp2_with (first | (go_at_call 44; refine (refName_any s true _ hs).mono ?_; rintro e w' ⟨rfl, rfl⟩))
  go_ret
  exact ⟨rfl, rfl⟩
set_option maxHeartbeats 400000 in
theorem refIsConst_any (s : ByteArray) (w : World) (hs : s.size ≤ maxLen) :
    Calls Tryd.prog 28 #[.string s] w fun e w' => e = .returned (.bool (Lx.isName false s.data.toList)) ∧ w = w' := by
  go_enter Tryd.func28, Tryd.ntmps28
  go_wp2_with (first | (go_at_call 44; refine (refName_any s false _ hs).mono ?_; rintro e w' ⟨rfl, rfl⟩))
  go_ret
  exact ⟨rfl, rfl⟩
end Go.Proofs.YtinobikikineiaaDoor
