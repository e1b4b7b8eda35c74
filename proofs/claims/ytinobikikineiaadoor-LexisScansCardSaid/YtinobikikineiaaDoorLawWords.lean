/- The walk of the law LexisWords: for every text it returns true. Condition: the first four error variables lie as the program lays them. -/
import Derived.Test.YtinobikikineiaaDoorAlive
import Derived.Test.YtinobikikineiaaDoorNumber
import Derived.Test.YtinobikikineiaaDoorRefNumber
import Derived.Test.YtinobikikineiaaDoorName
import Derived.Test.YtinobikikineiaaDoorCode
import Derived.Test.YtinobikikineiaaDoorTold
namespace Go.Proofs.YtinobikikineiaaDoor
open Go.RowKit Go.Shelf

theorem codeF_two (E : Errs) (p c : Nat) (hc : c = 2 ∨ c = 4) : CodeF E four p c := fun W hE h => code_fault E c p hc W hE h
theorem codeB_two (E : Errs) (c : Nat) (hc : c = 2 ∨ c = 4) : CodeB E four c := fun W hE => code_bare E c hc W hE

set_option maxRecDepth 100000 in
set_option maxHeartbeats 2000000 in
theorem words_ok (s : ByteArray) (E : Errs) (w : World) (hE : Laid E four w) (hs : s.size ≤ maxLen) (h : Lx.numCode s.data.toList = 0) :
    Calls Tryd.prog 9 #[.string s] w fun e w' => e = .returned (.bool true) ∧ Below w.heap.size w w' := by
  have HH := Lib.hid h
  clear h
  go_enter Tryd.func9, Tryd.ntmps9
  go_wp2_with (first
    | (go_at_call 22; refine (number_ok s E _ hE.two_of_four hs HH.out).mono ?_; rintro e w1 ⟨rfl, rfl⟩)
    | (go_at_call 23; refine (refNumber_any s _ hs).mono ?_; rintro e w1 ⟨rfl, rfl⟩; rw [HH.out])
    | (go_at_call 12; refine (alive_any E _ (hE.two_of_four.alloc _)).mono ?_; rintro e w2 ⟨rfl, hb2⟩; obtain ⟨hc2, hf2⟩ := bcell hb2; have hz2 : w.heap.size < w2.heap.size := (by have := hb2.size; simp at this; omega))
    | (go_at_call 18; refine (told_nil _ _ _ _).mono ?_; rintro e w3 ⟨rfl, hb3⟩)
    | (go_at_call 25; refine (lexIsName_any s _ hs).mono ?_; rintro e w1 ⟨rfl, rfl⟩)
    | (go_at_call 26; refine (refIsName_any s _ hs).mono ?_; rintro e w1 ⟨rfl, rfl⟩)
    | (go_at_call 27; refine (lexIsConst_any s _ hs).mono ?_; rintro e w1 ⟨rfl, rfl⟩)
    | (go_at_call 28; refine (refIsConst_any s _ hs).mono ?_; rintro e w1 ⟨rfl, rfl⟩))
  go_ret
  exact ⟨rfl, ((Below.refl _ w).alloc (Nat.le_refl _) _).trans ((hb2.mono (by simp)).trans (hb3.mono (by omega)))⟩

set_option maxRecDepth 100000 in
set_option maxHeartbeats 2000000 in
theorem words_no (s : ByteArray) (E : Errs) (w : World) (hE : Laid E four w) (hs : s.size ≤ maxLen) (c : Nat) (hc : c = 2 ∨ c = 4) (h : Lx.numCode s.data.toList = c) :
    Calls Tryd.prog 9 #[.string s] w fun e w' => e = .returned (.bool true) ∧ Below w.heap.size w w' := by
  have hne : Lx.numCode s.data.toList ≠ 0 := by omega
  have HH := Lib.hid h
  have HN := Lib.hid hne
  have HV : Hid (Lx.numVal s.data.toList = 0) := numVal_bad hne
  have HC := Lib.hid hc
  have hcn : ((c : Int) == 0) = false := by rw [beq_eq_false_iff_ne]; omega
  clear h hne hc
  go_enter Tryd.func9, Tryd.ntmps9
  go_wp2_with (first
    | (go_at_call 22; refine (number_no s E _ hE.two_of_four hs HN.out).mono ?_; rintro e w1 ⟨b, rfl, hb1, hB, hh⟩; rw [HH.out] at hh)
    | (go_at_call 23; refine (refNumber_any s _ hs).mono ?_; rintro e w1 ⟨rfl, rfl⟩; rw [HH.out, HV.out])
    | (go_at_call 24; refine (bad_any lexisB _ _ (by decide)).mono ?_; rintro e w2 ⟨rfl, hb2⟩; obtain ⟨hc2, hf2⟩ := bcell hb2; have hz2 : w1.heap.size < w2.heap.size := (by have := hb2.size; simp at this; omega)))
  have hb0 : Below w.heap.size w w2 := (hb1.alloc hb1.size _).trans (hb2.mono (by have := hb1.size; simp; omega))
  have hs1 := hb1.size
  obtain ⟨q0, q1, q2, q3⟩ := four_set w2 w1.heap.size (.int .i64 (c : Int)) (.int .i64 0) (.int .i64 0) (.string (lexisB ++ ⟨#[32]⟩)) (by rw [hc2 _ _ (by simp)]; simp) (by rw [hc2 _ _ (by simp)]; simp) (by rw [hc2 _ _ (by simp)]; simp) (by rw [hc2 _ _ (by simp)]; simp)
  have hb3 : Below w.heap.size w ((((w2.setCell ⟨w1.heap.size, 0, none⟩ (.int .i64 (c : Int))).setCell ⟨w1.heap.size, 1, none⟩ (.int .i64 0)).setCell ⟨w1.heap.size, 2, none⟩ (.int .i64 0)).setCell ⟨w1.heap.size, 3, none⟩ (.string (lexisB ++ ⟨#[32]⟩))) :=
    (((hb0.setCell hs1 _).setCell hs1 _).setCell hs1 _).setCell hs1 _
  have hh2 : w2.heap[b]? = some (.cells #[.string lexisB, .int .i64 0, .int .i64 0, E.val c] 44 (0, 0)) := (hb2.block b (by have := (Array.getElem?_eq_some_iff.1 hh).1; simp; omega)).trans ((Below.heap_alloc _ _ _ (Array.getElem?_eq_some_iff.1 hh).1).trans hh)
  have hbl := (Array.getElem?_eq_some_iff.1 hh).1
  have hh3 := (Below.heap_setCell _ ⟨w1.heap.size, 3, none⟩ (.string (lexisB ++ ⟨#[32]⟩)) b (by simp; omega)).trans ((Below.heap_setCell _ ⟨w1.heap.size, 2, none⟩ (.int .i64 0) b (by simp; omega)).trans ((Below.heap_setCell _ ⟨w1.heap.size, 1, none⟩ (.int .i64 0) b (by simp; omega)).trans ((Below.heap_setCell w2 ⟨w1.heap.size, 0, none⟩ (.int .i64 (c : Int)) b (by simp; omega)).trans hh2)))
  obtain ⟨W, hW⟩ : ∃ W, ((((w2.setCell ⟨w1.heap.size, 0, none⟩ (.int .i64 (c : Int))).setCell ⟨w1.heap.size, 1, none⟩ (.int .i64 0)).setCell ⟨w1.heap.size, 2, none⟩ (.int .i64 0)).setCell ⟨w1.heap.size, 3, none⟩ (.string (lexisB ++ ⟨#[32]⟩))) = W := ⟨_, rfl⟩
  have hzW : w1.heap.size < W.heap.size := by rw [← hW]; simp [World.setCell]; omega
  rw [hW] at q0 q1 q2 q3 hb3 hh3 ⊢
  clear hW hc2 hf2 hb2 hh hh2 hb0
  have hbW := Nat.lt_trans hbl hzW
  go_wp2_with (first
    | (go_at_call 12; refine (alive_any E _ (hE.two_of_four.below hb3)).mono ?_; rintro e w4 ⟨rfl, hb4⟩; obtain ⟨hc4, hf4⟩ := bcell hb4; have hh4 := (hb4.block b hbW).trans hh3)
    | (go_at_call 18; refine (told_fault E four b c 0 0 lexisB (codeF_two E b c HC.out) (codeB_two E c HC.out) (by simpa using hcn) (by decide) _ (hE.below (hb3.trans (hb4.mono hb3.size))) (cell_of_row _ _ 0 _ _ _ hh4) (cell_of_row _ _ 1 _ _ _ hh4) (cell_of_row _ _ 2 _ _ _ hh4) (cell_of_row _ _ 3 _ _ _ hh4)).mono ?_; rintro e w5 ⟨rfl, hb5⟩)
    | (go_at_call 25; refine (lexIsName_any s _ hs).mono ?_; rintro e w1 ⟨rfl, rfl⟩)
    | (go_at_call 26; refine (refIsName_any s _ hs).mono ?_; rintro e w1 ⟨rfl, rfl⟩)
    | (go_at_call 27; refine (lexIsConst_any s _ hs).mono ?_; rintro e w1 ⟨rfl, rfl⟩)
    | (go_at_call 28; refine (refIsConst_any s _ hs).mono ?_; rintro e w1 ⟨rfl, rfl⟩))
  go_ret
  exact ⟨rfl, (hb3.trans (hb4.mono hb3.size)).trans (hb5.mono (Nat.le_trans hb3.size hb4.size))⟩
/-- LexisWords returns true. -/
theorem words_true (s : ByteArray) (E : Errs) (w : World) (hE : Laid E four w) (hs : s.size ≤ maxLen) :
    Calls Tryd.prog 9 #[.string s] w fun e w' => e = .returned (.bool true) ∧ Below w.heap.size w w' := by
  rcases numCode_or s.data.toList with h | h | h
  · exact words_ok s E w hE hs h
  · exact words_no s E w hE hs 2 (.inl rfl) h
  · exact words_no s E w hE hs 4 (.inr rfl) h
end Go.Proofs.YtinobikikineiaaDoor
