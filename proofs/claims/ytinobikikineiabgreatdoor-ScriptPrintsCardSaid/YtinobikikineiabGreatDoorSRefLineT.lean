/- The walk of the document's own Line at the words that want no numbers. Conditions: the texts' sizes. -/
import Derived.Test.YtinobikikineiabGreatDoorSRefLine
namespace Go.Proofs.YtinobikikineiabGreatDoor
open Go.RowKit Go.Shelf

set_option maxRecDepth 100000 in
set_option maxHeartbeats 4000000 in
theorem refLine_zero (word text : ByteArray) (A : Option Addr) (n c : Nat) (l : List Int) (w : World) (_ : l.length = n) (_ : n ≤ 9223372036854775807) (_ : word.size ≤ 140737488355328) (_ : text.size ≤ 140737488355328) (hk : Sc.wants word.data.toList = 0) : Calls Tryz.prog 74 #[.agg #[.string word, .string text, .slice A n c]] w (RefLineEnds ⟨word.data.toList, text.data.toList, l⟩ w) := by
  have HF : Hid (Sc.isCommand ⟨word.data.toList, text.data.toList, l⟩ = false) := Sc.is_zero hk
  have HRW : Hid (refW (Sc.wants word.data.toList) = ⟨#[]⟩) := by show _ = _; rw [hk]; rfl
  obtain ⟨W, hW⟩ : ∃ W, w.alloc (.cells #[.string word, .string text, .slice A n c] 52) = W := ⟨_, rfl⟩
  have hb : Below w.heap.size w W := by rw [← hW]; exact (Below.refl _ _).alloc (Nat.le_refl _) _
  have q0 : W.cell? ⟨w.heap.size, 0, none⟩ = some (.string word) := by rw [← hW]; exact cmd_cells w _ _ _ 0 _ rfl
  have q1 : W.cell? ⟨w.heap.size, 1, none⟩ = some (.string text) := by rw [← hW]; exact cmd_cells w _ _ _ 1 _ rfl
  have q2 : W.cell? ⟨w.heap.size, 2, none⟩ = some (.slice A n c) := by rw [← hW]; exact cmd_cells w _ _ _ 2 _ rfl
  have hemp := empty_list text
  clear hk hemp
  go_enter Tryz.func74, Tryz.ntmps74
  go_wp2_with (first | (go_at_call 88; refine (refWants_any word _).mono ?_; rintro e w' ⟨rfl, rfl⟩; rw [HRW.out]))
  go_ret2
  exact refLine_no HF.out hb

set_option maxRecDepth 100000 in
set_option maxHeartbeats 4000000 in
theorem refLine_one (word text : ByteArray) (A : Option Addr) (n c : Nat) (l : List Int) (w : World) (hl : l.length = n) (_ : n ≤ 9223372036854775807) (_ : word.size ≤ 140737488355328) (_ : text.size ≤ 140737488355328) (hk : Sc.wants word.data.toList = 1) : Calls Tryz.prog 74 #[.agg #[.string word, .string text, .slice A n c]] w (RefLineEnds ⟨word.data.toList, text.data.toList, l⟩ w) := by
  have HIS := Lib.hid (Sc.is_one (c := ⟨word.data.toList, text.data.toList, l⟩) hk)
  have HRW : Hid (refW (Sc.wants word.data.toList) = ⟨#[45]⟩) := by show _ = _; rw [hk]; rfl
  obtain ⟨W, hW⟩ : ∃ W, w.alloc (.cells #[.string word, .string text, .slice A n c] 52) = W := ⟨_, rfl⟩
  have hb : Below w.heap.size w W := by rw [← hW]; exact (Below.refl _ _).alloc (Nat.le_refl _) _
  have q0 : W.cell? ⟨w.heap.size, 0, none⟩ = some (.string word) := by rw [← hW]; exact cmd_cells w _ _ _ 0 _ rfl
  have q1 : W.cell? ⟨w.heap.size, 1, none⟩ = some (.string text) := by rw [← hW]; exact cmd_cells w _ _ _ 1 _ rfl
  have q2 : W.cell? ⟨w.heap.size, 2, none⟩ = some (.slice A n c) := by rw [← hW]; exact cmd_cells w _ _ _ 2 _ rfl
  have hemp := empty_list text
  clear hk
  cases he : text.data.toList.isEmpty with
  | false =>
    have e1 : text.toList ≠ [] := by rw [hemp]; simpa using he
    have e2 : text.toList.isEmpty = false := by rw [hemp]; exact he
    have HF : Hid (Sc.isCommand ⟨word.data.toList, text.data.toList, l⟩ = false) := by show _ = _; rw [HIS.out, he]; rfl
    clear he hemp hl
    go_enter Tryz.func74, Tryz.ntmps74
    go_wp2_with (first | (go_at_call 88; refine (refWants_any word _).mono ?_; rintro e w' ⟨rfl, rfl⟩; rw [HRW.out]))
    go_quiet (fail)
    go_wp2
    go_ret2
    exact refLine_no HF.out (below_drewN' hb _)
  | true =>
    have e1 : text.toList = [] := by rw [hemp]; simpa using he
    have e2 : text.toList.isEmpty = true := by rw [e1]; rfl
    by_cases h0 : n = 0
    · have hl0 : l = [] := List.eq_nil_of_length_eq_zero (by omega)
      have HF : Hid (Sc.isCommand ⟨word.data.toList, text.data.toList, l⟩ = true) := by show _ = _; rw [HIS.out, he, hl0]; rfl
      have HV : Hid (word.data.toList = Sc.lineOf ⟨word.data.toList, text.data.toList, l⟩) := by show _ = _; rw [hl0, (by simpa using he : text.data.toList = []), Sc.line_none]
      have hq : ((n : Int) == 0) = true := by rw [h0]; rfl
      clear he hemp hl h0 hl0
      go_enter Tryz.func74, Tryz.ntmps74
      go_wp2_with (first | (go_at_call 88; refine (refWants_any word _).mono ?_; rintro e w' ⟨rfl, rfl⟩; rw [HRW.out]))
      go_quiet (fail)
      go_wp2
      go_ret2
      exact refLine_yes HF.out HV.out (below_drewN' hb _)
    · have HF : Hid (Sc.isCommand ⟨word.data.toList, text.data.toList, l⟩ = false) := by
        show _ = _
        rw [HIS.out, he]
        cases l with
        | nil => exact absurd hl.symm h0
        | cons z l => rfl
      have hq : ((n : Int) == 0) = false := by rw [beq_eq_false_iff_ne]; omega
      clear he hemp hl h0
      go_enter Tryz.func74, Tryz.ntmps74
      go_wp2_with (first | (go_at_call 88; refine (refWants_any word _).mono ?_; rintro e w' ⟨rfl, rfl⟩; rw [HRW.out]))
      go_quiet (fail)
      go_wp2
      go_ret2
      exact refLine_no HF.out (below_drewN' hb _)

set_option maxRecDepth 100000 in
set_option maxHeartbeats 8000000 in
theorem refLine_two (word text : ByteArray) (A : Option Addr) (n c : Nat) (l : List Int) (w : World) (hl : l.length = n) (hn : n ≤ maxLen) (hw : word.size ≤ 140737488355328) (ht : text.size ≤ 140737488355328) (hk : Sc.wants word.data.toList = 2) : Calls Tryz.prog 74 #[.agg #[.string word, .string text, .slice A n c]] w (RefLineEnds ⟨word.data.toList, text.data.toList, l⟩ w) := by
  have HIS := Lib.hid (Sc.is_two (c := ⟨word.data.toList, text.data.toList, l⟩) hk)
  have HRW : Hid (refW (Sc.wants word.data.toList) = ⟨#[116]⟩) := by show _ = _; rw [hk]; rfl
  obtain ⟨W, hW⟩ : ∃ W, w.alloc (.cells #[.string word, .string text, .slice A n c] 52) = W := ⟨_, rfl⟩
  have hb : Below w.heap.size w W := by rw [← hW]; exact (Below.refl _ _).alloc (Nat.le_refl _) _
  have q0 : W.cell? ⟨w.heap.size, 0, none⟩ = some (.string word) := by rw [← hW]; exact cmd_cells w _ _ _ 0 _ rfl
  have q1 : W.cell? ⟨w.heap.size, 1, none⟩ = some (.string text) := by rw [← hW]; exact cmd_cells w _ _ _ 1 _ rfl
  have q2 : W.cell? ⟨w.heap.size, 2, none⟩ = some (.slice A n c) := by rw [← hW]; exact cmd_cells w _ _ _ 2 _ rfl
  have hemp := empty_list text
  unfold maxLen at hn
  obtain ⟨tr, htr⟩ : ∃ tr : ByteArray, ⟨(Sc.trim text.data.toList).toArray⟩ = tr := ⟨_, rfl⟩
  have htrl : tr.toList = Sc.trim text.data.toList := by rw [ByteArray.toList_eq, ← htr]
  have htrim : ∀ v : World, Calls Tryz.prog 21 #[.string text] v fun e w' => e = .returned (.string tr) ∧ v = w' := by
    intro v
    rw [← htr]
    exact refTrim_any text v (by unfold maxLen; omega)
  clear hk
  by_cases hbad : text.data.toList.isEmpty = true
  · have e1 : text.toList = [] := by rw [hemp]; simpa using hbad
    have e2 : text.toList.isEmpty = true := by rw [e1]; rfl
    have HF : Hid (Sc.isCommand ⟨word.data.toList, text.data.toList, l⟩ = false) := by show _ = _; rw [HIS.out, hbad]; rfl
    clear hemp hl htr htrl hbad
    go_enter Tryz.func74, Tryz.ntmps74
    go_wp2_with (first | (go_at_call 88; refine (refWants_any word _).mono ?_; rintro e w' ⟨rfl, rfl⟩; rw [HRW.out]))
    go_quiet ((go_at_call 21; exact quiet_left (htrim _)))
    go_wp2
    go_ret2
    exact refLine_no HF.out (below_drewN' hb _)
  have e1 : text.toList ≠ [] := by rw [hemp]; simpa using hbad
  have e2 : text.toList.isEmpty = false := by rw [hemp]; simpa using hbad
  have HNE : Hid (text.data.toList.isEmpty = false) := by show _ = _; simpa using hbad
  clear hbad
  by_cases htt : text.data.toList = Sc.trim text.data.toList
  case neg =>
    have HF : Hid (Sc.isCommand ⟨word.data.toList, text.data.toList, l⟩ = false) := by
      show _ = _
      rw [HIS.out, decide_eq_false htt]; simp
    have t5 : (tr.toList == text.toList) = false := by rw [beq_eq_false_iff_ne, htrl, hemp]; exact fun e => htt e.symm
    have t6 : (tr.toList != text.toList) = true := by rw [bne, t5]; rfl
    clear hemp hl htr htrl htt
    go_enter Tryz.func74, Tryz.ntmps74
    go_wp2_with (first | (go_at_call 88; refine (refWants_any word _).mono ?_; rintro e w' ⟨rfl, rfl⟩; rw [HRW.out]))
    go_quiet ((go_at_call 21; exact quiet_left (htrim _)))
    go_wp2
    go_ret2
    exact refLine_no HF.out (below_drewN' hb _)
  have htx : text = tr := by rw [← htr, ← htt, bytes_mk]
  subst htx
  by_cases h0 : n = 0
  case neg =>
    have HF : Hid (Sc.isCommand ⟨word.data.toList, text.data.toList, l⟩ = false) := by
      show _ = _
      rw [HIS.out]
      cases l with
      | nil => exact absurd hl.symm h0
      | cons z l => simp
    have hq : decide ((0 : Int) < (n : Int)) = true := by rw [decide_eq_true_eq]; omega
    have hq2 : decide (0 < n) = true := by rw [decide_eq_true_eq]; omega
    have hq3 : (0 : Int) < (n : Int) := by omega
    have hq4 : 0 < n := by omega
    clear hemp hl htr htrl htt h0
    go_enter Tryz.func74, Tryz.ntmps74
    go_wp2_with (first | (go_at_call 88; refine (refWants_any word _).mono ?_; rintro e w' ⟨rfl, rfl⟩; rw [HRW.out]))
    go_quiet ((go_at_call 21; exact quiet_left (htrim _)))
    go_wp2
    go_ret2
    exact refLine_no HF.out (below_drewN' hb _)
  have hl0 : l = [] := List.eq_nil_of_length_eq_zero (by omega)
  have hq : decide ((0 : Int) < (n : Int)) = false := by rw [decide_eq_false_iff_not]; omega
  have hq2 : decide (0 < n) = false := by rw [decide_eq_false_iff_not]; omega
  have hq3 : ¬ (0 : Int) < (n : Int) := by omega
  subst hl0
  have HTT := Lib.hid htt
  clear hemp hl htr htrl htt h0
  go_enter Tryz.func74, Tryz.ntmps74
  go_wp2_with (first | (go_at_call 88; refine (refWants_any word _).mono ?_; rintro e w' ⟨rfl, rfl⟩; rw [HRW.out]))
  go_quiet ((go_at_call 21; exact quiet_left (htrim _)))
  go_wp2_with fail
  go_loop [5] (fun i => ∃ k : Nat, k ≤ text.size ∧ i = .int .i64 k ∧ ∀ j, j < k → text.data.toList[j]? ≠ some 10) (fun i => text.size - (intOf i).toNat)
  case atStart => exact ⟨0, Nat.zero_le _, rfl, fun j h => by omega⟩
  case round =>
    obtain ⟨k, hk, rfl, hno⟩ := hrel
    have HNO := Lib.hid hno
    clear hno
    by_cases hlt : k < text.size
    · have hget := bytes_get text k hlt
      by_cases h10 : text[k] = 10
      · have t10 : ((text[k].toNat : Int) == 10) = true := by rw [h10]; rfl
        have HF : Hid (Sc.isCommand ⟨word.data.toList, text.data.toList, []⟩ = false) := by
          show _ = _
          rw [HIS.out]
          have : text.data.toList.contains 10 = true := List.contains_iff_mem.2 (List.mem_of_getElem? (by rw [hget, h10]))
          rw [this]
          simp
        clear h10 hget
        go_wp2_with fail
        go_ret2
        exact refLine_no HF.out (below_drewN' hb _)
      · have t10 : ((text[k].toNat : Int) == 10) = false := by
          rw [beq_eq_false_iff_ne]
          exact fun e => h10 (UInt8.toNat_inj.1 (by show text[k].toNat = 10; omega))
        have HG : Hid (text.data.toList[k]? ≠ some 10) := by
          show _ ≠ _
          rw [hget]
          exact fun e => h10 (Option.some.inj e)
        clear h10 hget
        go_wp2_with fail
        go_round
        case rel => exact ⟨k + 1, by omega, by go_num, fun j hj => by
          rcases Nat.lt_or_ge j k with h | h
          · exact HNO.out j h
          · obtain rfl : j = k := by omega
            exact HG.out⟩
        case measure => simp [intOf]; omega
    · have HF : Hid (Sc.isCommand ⟨word.data.toList, text.data.toList, []⟩ = true) := by
        show _ = _
        rw [HIS.out, HNE.out, decide_eq_true HTT.out]
        have : text.data.toList.contains 10 = false := by
          cases hc : text.data.toList.contains 10 with
          | false => rfl
          | true =>
            obtain ⟨j, hj⟩ := List.getElem?_of_mem (List.contains_iff_mem.1 hc)
            have hjl := (List.getElem?_eq_some_iff.1 hj).1
            rw [bytes_size] at hjl
            exact absurd hj (HNO.out j (by omega))
        rw [this]
        rfl
      have HV : Hid ((word ++ ⟨#[32]⟩ ++ text).data.toList = Sc.lineOf ⟨word.data.toList, text.data.toList, []⟩) := by
        show _ = _
        rw [Sc.line_text _ _ HNE.out]
        simp
      have z1 : (⟨#[32]⟩ : ByteArray).size = 1 := rfl
      go_wp2_with fail
      go_ret2
      exact refLine_yes HF.out HV.out (below_drewN' hb _)

set_option maxRecDepth 100000 in
set_option maxHeartbeats 8000000 in
theorem refLine_three (word text : ByteArray) (A : Option Addr) (n c : Nat) (l : List Int) (w : World) (hl : l.length = n) (hn : n ≤ maxLen) (hw : word.size ≤ 140737488355328) (ht : text.size ≤ 140737488355328) (hk : Sc.wants word.data.toList = 3) : Calls Tryz.prog 74 #[.agg #[.string word, .string text, .slice A n c]] w (RefLineEnds ⟨word.data.toList, text.data.toList, l⟩ w) := by
  have HIS := Lib.hid (Sc.is_three (c := ⟨word.data.toList, text.data.toList, l⟩) hk)
  have HRW : Hid (refW (Sc.wants word.data.toList) = ⟨#[107]⟩) := by show _ = _; rw [hk]; rfl
  obtain ⟨W, hW⟩ : ∃ W, w.alloc (.cells #[.string word, .string text, .slice A n c] 52) = W := ⟨_, rfl⟩
  have hb : Below w.heap.size w W := by rw [← hW]; exact (Below.refl _ _).alloc (Nat.le_refl _) _
  have q0 : W.cell? ⟨w.heap.size, 0, none⟩ = some (.string word) := by rw [← hW]; exact cmd_cells w _ _ _ 0 _ rfl
  have q1 : W.cell? ⟨w.heap.size, 1, none⟩ = some (.string text) := by rw [← hW]; exact cmd_cells w _ _ _ 1 _ rfl
  have q2 : W.cell? ⟨w.heap.size, 2, none⟩ = some (.slice A n c) := by rw [← hW]; exact cmd_cells w _ _ _ 2 _ rfl
  have hemp := empty_list text
  unfold maxLen at hn
  obtain ⟨tr, htr⟩ : ∃ tr : ByteArray, ⟨(Sc.trim text.data.toList).toArray⟩ = tr := ⟨_, rfl⟩
  have htrl : tr.toList = Sc.trim text.data.toList := by rw [ByteArray.toList_eq, ← htr]
  have htrim : ∀ v : World, Calls Tryz.prog 21 #[.string text] v fun e w' => e = .returned (.string tr) ∧ v = w' := by
    intro v
    rw [← htr]
    exact refTrim_any text v (by unfold maxLen; omega)
  clear hk
  by_cases hbad : text.data.toList.isEmpty = true
  · have e1 : text.toList = [] := by rw [hemp]; simpa using hbad
    have e2 : text.toList.isEmpty = true := by rw [e1]; rfl
    have HF : Hid (Sc.isCommand ⟨word.data.toList, text.data.toList, l⟩ = false) := by
      show _ = _
      rw [HIS.out, (by simpa using hbad : text.data.toList = [])]
      rfl
    clear hemp hl htr htrl hbad
    go_enter Tryz.func74, Tryz.ntmps74
    go_wp2_with (first | (go_at_call 88; refine (refWants_any word _).mono ?_; rintro e w' ⟨rfl, rfl⟩; rw [HRW.out]))
    go_quiet ((go_at_call 21; exact quiet_left (htrim _)))
    go_wp2
    go_ret2
    exact refLine_no HF.out (below_drewN' hb _)
  have e1 : text.toList ≠ [] := by rw [hemp]; simpa using hbad
  have e2 : text.toList.isEmpty = false := by rw [hemp]; simpa using hbad
  have HNE : Hid (text.data.toList.isEmpty = false) := by show _ = _; simpa using hbad
  clear hbad
  by_cases htt : text.data.toList = Sc.trim text.data.toList
  case neg =>
    have HF : Hid (Sc.isCommand ⟨word.data.toList, text.data.toList, l⟩ = false) := by
      show _ = _
      rw [HIS.out, Bool.and_eq_false_iff]
      left
      rw [Bool.or_eq_false_iff, decide_eq_false_iff_not, decide_eq_false_iff_not]
      exact ⟨fun e => htt (by have e' : text.data.toList = Sc.strongL := e; rw [e']; rfl), fun e => htt (by have e' : text.data.toList = Sc.branchingL := e; rw [e']; rfl)⟩
    have t5 : (tr.toList == text.toList) = false := by rw [beq_eq_false_iff_ne, htrl, hemp]; exact fun e => htt e.symm
    have t6 : (tr.toList != text.toList) = true := by rw [bne, t5]; rfl
    clear hemp hl htr htrl htt
    go_enter Tryz.func74, Tryz.ntmps74
    go_wp2_with (first | (go_at_call 88; refine (refWants_any word _).mono ?_; rintro e w' ⟨rfl, rfl⟩; rw [HRW.out]))
    go_quiet ((go_at_call 21; exact quiet_left (htrim _)))
    go_wp2
    go_ret2
    exact refLine_no HF.out (below_drewN' hb _)
  have htx : text = tr := by rw [← htr, ← htt, bytes_mk]
  subst htx
  by_cases h0 : n = 0
  case neg =>
    have HF : Hid (Sc.isCommand ⟨word.data.toList, text.data.toList, l⟩ = false) := by
      show _ = _
      rw [HIS.out]
      cases l with
      | nil => exact absurd hl.symm h0
      | cons z l => simp
    have hq : decide ((0 : Int) < (n : Int)) = true := by rw [decide_eq_true_eq]; omega
    have hq2 : decide (0 < n) = true := by rw [decide_eq_true_eq]; omega
    have hq3 : (0 : Int) < (n : Int) := by omega
    have hq4 : 0 < n := by omega
    clear hemp hl htr htrl htt h0
    go_enter Tryz.func74, Tryz.ntmps74
    go_wp2_with (first | (go_at_call 88; refine (refWants_any word _).mono ?_; rintro e w' ⟨rfl, rfl⟩; rw [HRW.out]))
    go_quiet ((go_at_call 21; exact quiet_left (htrim _)))
    go_wp2
    go_ret2
    exact refLine_no HF.out (below_drewN' hb _)
  have hl0 : l = [] := List.eq_nil_of_length_eq_zero (by omega)
  have hq : decide ((0 : Int) < (n : Int)) = false := by rw [decide_eq_false_iff_not]; omega
  have hq2 : decide (0 < n) = false := by rw [decide_eq_false_iff_not]; omega
  have hq3 : ¬ (0 : Int) < (n : Int) := by omega
  subst hl0
  by_cases hs : text.data.toList = Sc.strongL ∨ text.data.toList = Sc.branchingL
  case neg =>
    have HF : Hid (Sc.isCommand ⟨word.data.toList, text.data.toList, []⟩ = false) := by
      show _ = _
      rw [HIS.out, decide_eq_false (fun e => hs (.inl e)), decide_eq_false (fun e => hs (.inr e))]
      rfl
    have s1 : (text.toList == [115, 116, 114, 111, 110, 103]) = false := by rw [beq_eq_false_iff_ne, hemp]; exact fun e => hs (.inl e)
    have s2 : (text.toList == [98, 114, 97, 110, 99, 104, 105, 110, 103]) = false := by rw [beq_eq_false_iff_ne, hemp]; exact fun e => hs (.inr e)
    have s3 : (text.toList != [115, 116, 114, 111, 110, 103]) = true := by rw [bne, s1]; rfl
    have s4 : (text.toList != [98, 114, 97, 110, 99, 104, 105, 110, 103]) = true := by rw [bne, s2]; rfl
    clear hemp hl htr htrl htt h0 hs
    go_enter Tryz.func74, Tryz.ntmps74
    go_wp2_with (first | (go_at_call 88; refine (refWants_any word _).mono ?_; rintro e w' ⟨rfl, rfl⟩; rw [HRW.out]))
    go_quiet ((go_at_call 21; exact quiet_left (htrim _)))
    go_wp2
    go_ret2
    exact refLine_no HF.out (below_drewN' hb _)
  have HSB := Lib.hid hs
  have s1 : (text.toList == [115, 116, 114, 111, 110, 103]) = true ∨ ((text.toList == [115, 116, 114, 111, 110, 103]) = false ∧ (text.toList == [98, 114, 97, 110, 99, 104, 105, 110, 103]) = true) := by
    rw [hemp]
    rcases hs with h | h
    · rw [h]; exact .inl rfl
    · rw [h]; exact .inr ⟨rfl, rfl⟩
  clear hemp hl htr htrl htt h0 hs
  have HN10 : Hid (∀ k : Nat, text.data.toList[k]? ≠ some 10) := by
    show ∀ k : Nat, _ ≠ _
    intro k hk
    have hm := List.mem_of_getElem? hk
    rcases HSB.out with h | h <;> rw [h] at hm <;> revert hm <;> decide
  rcases s1 with s1 | ⟨s1, s2⟩
  all_goals
    (try (have s3 : (text.toList != [115, 116, 114, 111, 110, 103]) = false := by rw [bne, s1]; rfl))
    (try (have s4 : (text.toList != [98, 114, 97, 110, 99, 104, 105, 110, 103]) = false := by rw [bne, s2]; rfl))
    (try (have s3 : (text.toList != [115, 116, 114, 111, 110, 103]) = true := by rw [bne, s1]; rfl))
    go_enter Tryz.func74, Tryz.ntmps74
    go_wp2_with (first | (go_at_call 88; refine (refWants_any word _).mono ?_; rintro e w' ⟨rfl, rfl⟩; rw [HRW.out]))
    go_quiet ((go_at_call 21; exact quiet_left (htrim _)))
    go_wp2_with fail
    go_loop [5] (fun i => ∃ k : Nat, k ≤ text.size ∧ i = .int .i64 k ∧ ∀ j, j < k → text.data.toList[j]? ≠ some 10) (fun i => text.size - (intOf i).toNat)
    case atStart => exact ⟨0, Nat.zero_le _, rfl, fun j h => by omega⟩
    case round =>
      obtain ⟨k, hk, rfl, hno⟩ := hrel
      have HNO := Lib.hid hno
      clear hno
      by_cases hlt : k < text.size
      · have hget := bytes_get text k hlt
        by_cases h10 : text[k] = 10
        · have t10 : ((text[k].toNat : Int) == 10) = true := by rw [h10]; rfl
          have HF : Hid (Sc.isCommand ⟨word.data.toList, text.data.toList, []⟩ = false) := by
            show _ = _
            exact absurd (by rw [hget, h10]) (HN10.out k)
          clear h10 hget
          go_wp2_with fail
          go_ret2
          exact refLine_no HF.out (below_drewN' hb _)
        · have t10 : ((text[k].toNat : Int) == 10) = false := by
            rw [beq_eq_false_iff_ne]
            exact fun e => h10 (UInt8.toNat_inj.1 (by show text[k].toNat = 10; omega))
          have HG : Hid (text.data.toList[k]? ≠ some 10) := by
            show _ ≠ _
            rw [hget]
            exact fun e => h10 (Option.some.inj e)
          clear h10 hget
          go_wp2_with fail
          go_round
          case rel => exact ⟨k + 1, by omega, by go_num, fun j hj => by
            rcases Nat.lt_or_ge j k with h | h
            · exact HNO.out j h
            · obtain rfl : j = k := by omega
              exact HG.out⟩
          case measure => simp [intOf]; omega
      · have HF : Hid (Sc.isCommand ⟨word.data.toList, text.data.toList, []⟩ = true) := by
          show _ = _
          rw [HIS.out]
          rcases HSB.out with h | h <;> rw [h] <;> rfl
        have HV : Hid ((word ++ ⟨#[32]⟩ ++ text).data.toList = Sc.lineOf ⟨word.data.toList, text.data.toList, []⟩) := by
          show _ = _
          rw [Sc.line_text _ _ HNE.out]
          simp
        have z1 : (⟨#[32]⟩ : ByteArray).size = 1 := rfl
        go_wp2_with fail
        go_ret2
        exact refLine_yes HF.out HV.out (below_drewN' hb _)

theorem refLine_any (word text : ByteArray) (A : Option Addr) (n c : Nat) (l : List Int) (w : World) (hr : ReadsI w (.slice A n c) l) (hn : n ≤ maxLen) (hw : word.size ≤ 140737488355328) (ht : text.size ≤ 140737488355328) : Calls Tryz.prog 74 #[.agg #[.string word, .string text, .slice A n c]] w (RefLineEnds ⟨word.data.toList, text.data.toList, l⟩ w) := by
  have h5 := Sc.wants_le word.data.toList
  rcases (show Sc.wants word.data.toList = 0 ∨ Sc.wants word.data.toList = 1 ∨ Sc.wants word.data.toList = 2 ∨ Sc.wants word.data.toList = 3 ∨ (Sc.wants word.data.toList = 4 ∨ Sc.wants word.data.toList = 5) by omega) with h | h | h | h | h
  · exact refLine_zero word text A n c l w hr.len (by unfold maxLen at hn; omega) hw ht h
  · exact refLine_one word text A n c l w hr.len (by unfold maxLen at hn; omega) hw ht h
  · exact refLine_two word text A n c l w hr.len hn hw ht h
  · exact refLine_three word text A n c l w hr.len hn hw ht h
  · exact refLine_num word text A n c l w hr hn hw h
end Go.Proofs.YtinobikikineiabGreatDoor
