/- The walk of the law LexisIs: for every text it returns true. Condition: the first four error variables lie as the program lays them. -/
import Derived.Test.YtinobikikineiaaDoorAlive
import Derived.Test.YtinobikikineiaaDoorCode
import Derived.Test.YtinobikikineiaaDoorPlainCode
namespace Go.Proofs.YtinobikikineiaaDoor
open Go.RowKit Go.Shelf

set_option maxHeartbeats 1000000 in
theorem is_law_err (s : ByteArray) (E : Errs) (w : World) (hE : Laid E four w) (c line col : Nat) (hc : c = 2 ∨ c = 4) (h : Lx.scan s.data.toList = .error (c, line, col)) :
    Calls Tryd.prog 7 #[.string s] w fun e w' => e = .returned (.bool true) ∧ Below w.heap.size w w' := by
  have HH := Lib.hid h
  clear h
  rcases hc with rfl | rfl
  all_goals
    go_enter Tryd.func7, Tryd.ntmps7
    go_wp2_with (first
      | (go_at_call 11; refine (scan_bad s E _ hE.two_of_four _ line col HH.out).mono ?_; rintro e w1 ⟨b, rfl, hb1, _, hh, _⟩)
      | (go_at_call 12; refine (alive_any E _ (hE.two_of_four.below hb1)).mono ?_; rintro e w2 ⟨rfl, hb2⟩; have hE2 := (hE.below hb1).below hb2; have hk := cell_of_row _ _ 3 _ _ _ ((hb2.block _ (Array.getElem?_eq_some_iff.1 hh).1).trans hh); have hw := hE2.cell 4 (by simp); simp only [gOf] at hw)
      | (go_at_call 21; refine (is_fault_code E four _ _ _ _ hE2 hk (by decide) ?_).mono ?_; decide; rintro e w3 ⟨rfl, rfl⟩; simp only [Nat.reduceBEq])
      | (go_at_call 20; refine (code_fault E _ _ (by decide) _ hE2 hk).mono ?_; rintro e w3 ⟨rfl, rfl⟩))
    go_ret
    exact ⟨rfl, hb1.trans (hb2.mono hb1.size)⟩
set_option maxHeartbeats 1000000 in
theorem is_law_ok (s : ByteArray) (E : Errs) (w : World) (hE : Laid E four w) (ts : List Lx.Tok) (h : Lx.scan s.data.toList = .ok ts) :
    Calls Tryd.prog 7 #[.string s] w fun e w' => e = .returned (.bool true) ∧ Below w.heap.size w w' := by
  have HH := Lib.hid h
  clear h
  go_enter Tryd.func7, Tryd.ntmps7
  go_wp2_with (first
    | (go_at_call 11; refine (scan_good s E _ hE.two_of_four ts HH.out).mono ?_; rintro e w1 ⟨A, c, rfl, hb1, _⟩)
    | (go_at_call 12; refine (alive_any E _ (hE.two_of_four.below hb1)).mono ?_; rintro e w2 ⟨rfl, hb2⟩))
  go_ret
  exact ⟨rfl, hb1.trans (hb2.mono hb1.size)⟩
/-- LexisIs returns true. -/
theorem is_law_true (s : ByteArray) (E : Errs) (w : World) (hE : Laid E four w) :
    Calls Tryd.prog 7 #[.string s] w fun e w' => e = .returned (.bool true) ∧ Below w.heap.size w w' := by
  cases h : Lx.scan s.data.toList with
  | error b =>
    obtain ⟨c, line, col⟩ := b
    exact is_law_err s E w hE c line col (Lx.scan_code h) h
  | ok ts => exact is_law_ok s E w hE ts h
end Go.Proofs.YtinobikikineiaaDoor
