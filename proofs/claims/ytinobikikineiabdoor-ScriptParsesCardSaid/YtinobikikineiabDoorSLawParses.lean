/- The walk of the law ScriptParses: for every text it returns true. Condition: the error variables lie as the program lays them. -/
import Derived.Test.YtinobikikineiabDoorSRefParse
import Derived.Test.YtinobikikineiabDoorSAlive
namespace Go.Proofs.YtinobikikineiabDoor
open Go.RowKit Go.Shelf

theorem nums_three' {l : List UInt8} {cs : List Sc.Cmd} (h : Sc.parse l = .ok cs) : ∀ x ∈ cs, x.nums.length ≤ 3 := by
  intro x hx
  have h1 := (Sc.parse_print h).1 x hx
  unfold Sc.isCommand Sc.areNumbers at h1
  simp only [Bool.and_eq_true, decide_eq_true_eq] at h1
  rw [h1.2.1]
  unfold Sc.many
  split <;> (try split) <;> omega
theorem refParse_ok (s : ByteArray) (w : World) (hs : s.size ≤ 281474976710656) (cs : List Sc.Cmd) (h : Sc.parse s.data.toList = .ok cs) :
    Calls Tryd.prog 8 #[.string s] w fun e w' => ∃ A c, e = .returned (.tuple #[.slice A cs.length c, refErr 0 0 0 ⟨#[]⟩]) ∧ Below w.heap.size w w' ∧ ReadsC w' (.slice A cs.length c) cs :=
  (refParse_any s w hs).mono fun e w' hv => by
    rcases hv with ⟨hb, ⟨cs', A, c, h1, h2, h3⟩ | ⟨c, line, col, h1, _⟩⟩
    · rw [h] at h1; injection h1 with h1; subst h1
      exact ⟨A, c, h2, hb, h3.reads⟩
    · rw [h] at h1; cases h1
theorem refParse_err (s : ByteArray) (w : World) (hs : s.size ≤ 281474976710656) (c line col : Nat) (h : Sc.parse s.data.toList = .error (c, line, col)) :
    Calls Tryd.prog 8 #[.string s] w fun e w' => e = .returned (.tuple #[.slice none 0 0, refErr (c : Int) (line : Int) (col : Int) (scriptB ++ ⟨#[32]⟩)]) ∧ Below w.heap.size w w' :=
  (refParse_any s w hs).mono fun e w' hv => by
    rcases hv with ⟨hb, ⟨cs', A, c, h1, h2, h3⟩ | ⟨c', line', col', h1, h2⟩⟩
    · rw [h] at h1; cases h1
    · rw [h] at h1; injection h1 with h1; injection h1 with h3 h4; injection h4 with h4 h5
      subst h3; subst h4; subst h5
      exact ⟨h2, hb⟩

set_option maxRecDepth 100000 in
set_option maxHeartbeats 2000000 in
theorem parses_ok (s : ByteArray) (E : Errs) (w : World) (hE : Laid E nineteen w) (hs : s.size ≤ 281474976710656) (cs : List Sc.Cmd) (h : Sc.parse s.data.toList = .ok cs) :
    Calls Tryd.prog 3 #[.string s] w fun e w' => e = .returned (.bool true) ∧ Below w.heap.size w w' := by
  have HN := Lib.hid (nums_three' h)
  have HH := Lib.hid h
  clear h
  go_enter Tryd.func3, Tryd.ntmps3
  go_wp2_with (first
    | (go_at_call 7; refine (parse_good s E _ hE hs cs HH.out).mono ?_; rintro e w1 ⟨A, c, rfl, hb1, hr1, hl1⟩)
    | (go_at_call 8; refine (refParse_ok s _ hs cs HH.out).mono ?_; rintro e w2 ⟨A2, c2, rfl, hb2, hr2⟩)
    | (go_at_call 9; refine (alive_any E _ (((hE.below hb1).below hb2).alloc _)).mono ?_; rintro e w3 ⟨rfl, hb3⟩; obtain ⟨hc3, hf3⟩ := bcell hb3; have hz3 : w2.heap.size < w3.heap.size := (by have := hb3.size; simp at this; omega))
    | (go_at_call 10; refine (told_nil _ _ _ _).mono ?_; rintro e w4 ⟨rfl, hb4⟩)
    | (go_at_call 11; refine (sameCmds_true _ _ _ _ _ cs _ (((hr1.reads.below hb2).below ((Below.refl _ w2).alloc (Nat.le_refl _) _)).below hb3 |>.below hb4) (((hr2.below ((Below.refl _ w2).alloc (Nat.le_refl _) _)).below hb3).below hb4) ?_ ?_).mono ?_; (unfold maxLen; omega); (exact fun x hx => Nat.le_trans (HN.out x hx) (by unfold maxLen; omega)); rintro e w5 ⟨rfl, m, rfl⟩))
  go_ret
  have hb12 := hb1.trans (hb2.mono hb1.size)
  have hb123 := (hb12.alloc hb12.size _).trans (hb3.mono (by simp; have := hb12.size; omega))
  exact ⟨rfl, below_drewN' (hb123.trans (hb4.mono hb123.size)) m⟩

set_option maxRecDepth 100000 in
set_option maxHeartbeats 2000000 in
theorem parses_err (s : ByteArray) (E : Errs) (w : World) (hE : Laid E nineteen w) (hs : s.size ≤ 281474976710656) (c l co : Nat) (hc : c = 2 ∨ c = 19) (h : Sc.parse s.data.toList = .error (c, l, co)) :
    Calls Tryd.prog 3 #[.string s] w fun e w' => e = .returned (.bool true) ∧ Below w.heap.size w w' := by
  have HH := Lib.hid h
  have HC := Lib.hid hc
  have hc0 : (c : Int) ≠ 0 := by omega
  clear h hc
  go_enter Tryd.func3, Tryd.ntmps3
  go_wp2_with (first
    | (go_at_call 7; refine (parse_bad s E _ hE hs c l co HH.out).mono ?_; rintro e w1 ⟨b, rfl, hb1, hB, hh, _⟩)
    | (go_at_call 8; refine (refParse_err s _ hs c l co HH.out).mono ?_; rintro e w2 ⟨rfl, hb2⟩)
    | (go_at_call 9; refine (alive_any E _ (((hE.below hb1).below hb2).alloc _)).mono ?_; rintro e w3 ⟨rfl, hb3⟩; obtain ⟨hc3, hf3⟩ := bcell hb3; have hz3 : w2.heap.size < w3.heap.size := (by have := hb3.size; simp at this; omega); have hh3 := (hb3.block b (by have := (Array.getElem?_eq_some_iff.1 ((hb2.block b (Array.getElem?_eq_some_iff.1 hh).1).trans hh)).1; simp; omega)).trans (alloc_old ((hb2.block b (Array.getElem?_eq_some_iff.1 hh).1).trans hh) _))
    | (go_at_call 10; refine (told_fault E nineteen b c l co scriptB (codeF_any E b c HC.out) (codeB_any E c HC.out) hc0 (by decide) _ ((((hE.below hb1).below hb2).alloc _).below hb3) (cell_of_row _ _ 0 _ _ _ hh3) (cell_of_row _ _ 1 _ _ _ hh3) (cell_of_row _ _ 2 _ _ _ hh3) (cell_of_row _ _ 3 _ _ _ hh3)).mono ?_; rintro e w4 ⟨rfl, hb4⟩)
    | (go_at_call 11; refine (sameCmds_true _ _ _ _ _ [] _ (ReadsC.nil _) (ReadsC.nil _) (by decide) ?_).mono ?_; (exact fun x hx => by cases hx); rintro e w5 ⟨rfl, m, rfl⟩))
  go_ret
  have hb12 := hb1.trans (hb2.mono hb1.size)
  have hb123 := (hb12.alloc hb12.size _).trans (hb3.mono (by simp; have := hb12.size; omega))
  exact ⟨rfl, below_drewN' (hb123.trans (hb4.mono hb123.size)) m⟩
/-- ScriptParses returns true. -/
theorem parses_true (s : ByteArray) (E : Errs) (w : World) (hE : Laid E nineteen w) (hs : s.size ≤ 140737488355328) :
    Calls Tryd.prog 3 #[.string s] w fun e w' => e = .returned (.bool true) ∧ Below w.heap.size w w' := by
  cases h : Sc.parse s.data.toList with
  | error b =>
    obtain ⟨c, line, col⟩ := b
    exact parses_err s E w hE (by omega) c line col (Sc.parse_code h).1 h
  | ok cs => exact parses_ok s E w hE (by omega) cs h
end Go.Proofs.YtinobikikineiabDoor
