/- The walk of the law LexisScans: for every text it returns true. Condition: the first four error variables lie as the program lays them. -/
import Derived.Test.YtinobikikineiaaDoorRefScan
import Derived.Test.YtinobikikineiaaDoorLawWords
import Derived.Test.YtinobikikineiaaDoorSame
namespace Go.Proofs.YtinobikikineiaaDoor
open Go.RowKit Go.Shelf

theorem refScan_any (s : ByteArray) (w : World) : Calls Tryd.prog 17 #[.string s] w (RefScanEnds s.data.toList w) := by
  by_cases h : s.size ≤ 65536
  · exact refScan_loop s w h
  · exact refScan_long s w (by omega)
theorem refScan_ok (s : ByteArray) (w : World) (ts : List Lx.Tok) (h : Lx.scan s.data.toList = .ok ts) :
    Calls Tryd.prog 17 #[.string s] w fun e w' => ∃ A c, e = .returned (.tuple #[.slice A ts.length c, refErr 0 0 0 ⟨#[]⟩]) ∧ Below w.heap.size w w' ∧ Reads4 w' (.slice A ts.length c) (ts.map Lx.Tok.v) :=
  (refScan_any s w).mono fun e w' hv => by
    rcases hv with ⟨hb, ⟨ts', A, c, h1, h2, h3⟩ | ⟨c, line, col, h1, _⟩⟩
    · rw [h] at h1; injection h1 with h1; subst h1
      exact ⟨A, c, h2, hb, h3⟩
    · rw [h] at h1; cases h1
theorem refScan_err (s : ByteArray) (w : World) (c line col : Nat) (h : Lx.scan s.data.toList = .error (c, line, col)) :
    Calls Tryd.prog 17 #[.string s] w fun e w' => e = .returned (.tuple #[.slice none 0 0, refErr (c : Int) (line : Int) (col : Int) (lexisB ++ ⟨#[32]⟩)]) ∧ Below w.heap.size w w' :=
  (refScan_any s w).mono fun e w' hv => by
    rcases hv with ⟨hb, ⟨ts', A, c, h1, h2, h3⟩ | ⟨c', line', col', h1, h2⟩⟩
    · rw [h] at h1; cases h1
    · rw [h] at h1; injection h1 with h1; injection h1 with h3 h4; injection h4 with h4 h5
      subst h3; subst h4; subst h5
      exact ⟨h2, hb⟩

set_option maxRecDepth 100000 in
set_option maxHeartbeats 2000000 in
theorem scans_ok (s : ByteArray) (E : Errs) (w : World) (hE : Laid E four w) (ts : List Lx.Tok) (h : Lx.scan s.data.toList = .ok ts) :
    Calls Tryd.prog 5 #[.string s] w fun e w' => e = .returned (.bool true) ∧ Below w.heap.size w w' := by
  have hn : ts.length ≤ maxLen := by
    have h1 := (Lx.scan_wf _ _ h).2.2
    rw [bytes_size] at h1
    have h2 : s.size ≤ 65536 := by
      unfold Lx.scan at h
      split at h
      · cases h
      · rename_i hh; rw [bytes_size] at hh; omega
    unfold maxLen; omega
  have HH := Lib.hid h
  have HL := Lib.hid hn
  clear h hn
  go_enter Tryd.func5, Tryd.ntmps5
  go_wp2_with (first
    | (go_at_call 11; refine (scan_good s E _ hE.two_of_four ts HH.out).mono ?_; rintro e w1 ⟨A, c, rfl, hb1, hr1⟩)
    | (go_at_call 17; refine (refScan_ok s _ ts HH.out).mono ?_; rintro e w2 ⟨A2, c2, rfl, hb2, hr2⟩)
    | (go_at_call 12; refine (alive_any E _ (((hE.two_of_four.below hb1).below hb2).alloc _)).mono ?_; rintro e w3 ⟨rfl, hb3⟩; obtain ⟨hc3, hf3⟩ := bcell hb3; have hz3 : w2.heap.size < w3.heap.size := (by have := hb3.size; simp at this; omega))
    | (go_at_call 18; refine (told_nil _ _ _ _).mono ?_; rintro e w4 ⟨rfl, hb4⟩)
    | (go_at_call 19; refine (same_true _ _ _ _ _ _ _ ((((hr1.below hb2).alloc _).below hb3).below hb4) (((hr2.alloc _).below hb3).below hb4) HL.out).mono ?_; rintro e w5 ⟨rfl, m, rfl⟩))
  go_ret
  have hb12 := hb1.trans (hb2.mono hb1.size)
  have hb123 := (hb12.alloc hb12.size _).trans (hb3.mono (by simp; have := hb12.size; omega))
  exact ⟨rfl, below_drewN' (hb123.trans (hb4.mono hb123.size)) m⟩

set_option maxRecDepth 100000 in
set_option maxHeartbeats 2000000 in
theorem scans_err (s : ByteArray) (E : Errs) (w : World) (hE : Laid E four w) (c l co : Nat) (hc : c = 2 ∨ c = 4) (h : Lx.scan s.data.toList = .error (c, l, co)) :
    Calls Tryd.prog 5 #[.string s] w fun e w' => e = .returned (.bool true) ∧ Below w.heap.size w w' := by
  have HH := Lib.hid h
  have HC := Lib.hid hc
  have hc0 : (c : Int) ≠ 0 := by omega
  clear h hc
  go_enter Tryd.func5, Tryd.ntmps5
  go_wp2_with (first
    | (go_at_call 11; refine (scan_bad s E _ hE.two_of_four c l co HH.out).mono ?_; rintro e w1 ⟨b, rfl, hb1, hB, hh, _⟩)
    | (go_at_call 17; refine (refScan_err s _ c l co HH.out).mono ?_; rintro e w2 ⟨rfl, hb2⟩)
    | (go_at_call 12; refine (alive_any E _ (((hE.two_of_four.below hb1).below hb2).alloc _)).mono ?_; rintro e w3 ⟨rfl, hb3⟩; obtain ⟨hc3, hf3⟩ := bcell hb3; have hz3 : w2.heap.size < w3.heap.size := (by have := hb3.size; simp at this; omega); have hh3 := (hb3.block b (by have := (Array.getElem?_eq_some_iff.1 ((hb2.block b (Array.getElem?_eq_some_iff.1 hh).1).trans hh)).1; simp; omega)).trans (alloc_old ((hb2.block b (Array.getElem?_eq_some_iff.1 hh).1).trans hh) _))
    | (go_at_call 18; refine (told_fault E four b c l co lexisB (codeF_two E b c HC.out) (codeB_two E c HC.out) hc0 (by decide) _ ((((hE.below hb1).below hb2).alloc _).below hb3) (cell_of_row _ _ 0 _ _ _ hh3) (cell_of_row _ _ 1 _ _ _ hh3) (cell_of_row _ _ 2 _ _ _ hh3) (cell_of_row _ _ 3 _ _ _ hh3)).mono ?_; rintro e w4 ⟨rfl, hb4⟩)
    | (go_at_call 19; refine (same_true _ _ _ _ _ [] _ (Reads4.nil _) (Reads4.nil _) (by decide)).mono ?_; rintro e w5 ⟨rfl, m, rfl⟩))
  go_ret
  have hb12 := hb1.trans (hb2.mono hb1.size)
  have hb123 := (hb12.alloc hb12.size _).trans (hb3.mono (by simp; have := hb12.size; omega))
  exact ⟨rfl, below_drewN' (hb123.trans (hb4.mono hb123.size)) m⟩
/-- LexisScans returns true. -/
theorem scans_true (s : ByteArray) (E : Errs) (w : World) (hE : Laid E four w) :
    Calls Tryd.prog 5 #[.string s] w fun e w' => e = .returned (.bool true) ∧ Below w.heap.size w w' := by
  cases h : Lx.scan s.data.toList with
  | error b =>
    obtain ⟨c, line, col⟩ := b
    exact scans_err s E w hE c line col (Lx.scan_code h) h
  | ok ts => exact scans_ok s E w hE ts h
end Go.Proofs.YtinobikikineiaaDoor
