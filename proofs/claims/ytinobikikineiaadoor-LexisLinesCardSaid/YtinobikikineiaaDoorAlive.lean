/- Contracts of Scan by its outcome, and the walk of 'alive'. -/
import Derived.Test.YtinobikikineiaaDoorScan
namespace Go.Proofs.YtinobikikineiaaDoor
open Go.RowKit Go.Shelf

theorem scan_ok (s : ByteArray) (E : Errs) (w : World) (hE : Laid E two w) (ts : List Lx.Tok) (hne : ts ≠ []) (h : Lx.scan s.data.toList = .ok ts) :
    Calls Tryd.prog 11 #[.string s] w fun e w' => ∃ b off c, e = .returned (.tuple #[.slice (some ⟨b, off, none⟩) ts.length c, .nilIface]) ∧ Below w.heap.size w w' ∧
      ∀ j u, (flat (ts.map Lx.Tok.v))[j]? = some u → w'.cell? ⟨b, off + j, none⟩ = some u :=
  (scan_any s E w hE).mono fun e w' hv => by
    rcases hv with ⟨hb, ⟨ts', v, h1, h2, ⟨A, c, hv, _, h3⟩⟩ | ⟨c, line, col, v, h1, _⟩⟩
    · rw [h] at h1; injection h1 with h1; subst h1
      obtain ⟨b, off, rfl, hc⟩ := h3 (by simpa using hne)
      rw [List.length_map] at hv
      exact ⟨b, off, c, by rw [h2, hv], hb, hc⟩
    · rw [h] at h1; cases h1
/-- Whatever the words: the slice reads as they do. -/
theorem scan_good (s : ByteArray) (E : Errs) (w : World) (hE : Laid E two w) (ts : List Lx.Tok) (h : Lx.scan s.data.toList = .ok ts) :
    Calls Tryd.prog 11 #[.string s] w fun e w' => ∃ A c, e = .returned (.tuple #[.slice A ts.length c, .nilIface]) ∧ Below w.heap.size w w' ∧ Reads4 w' (.slice A ts.length c) (ts.map Lx.Tok.v) :=
  (scan_any s E w hE).mono fun e w' hv => by
    rcases hv with ⟨hb, ⟨ts', v, h1, h2, h3⟩ | ⟨c, line, col, v, h1, _⟩⟩
    · rw [h] at h1; injection h1 with h1; subst h1
      have h3' := h3
      obtain ⟨A, c, hv, _⟩ := h3'
      rw [List.length_map] at hv
      subst hv
      exact ⟨A, c, h2, hb, h3⟩
    · rw [h] at h1; cases h1
theorem scan_bad (s : ByteArray) (E : Errs) (w : World) (hE : Laid E two w) (c line col : Nat) (h : Lx.scan s.data.toList = .error (c, line, col)) :
    Calls Tryd.prog 11 #[.string s] w fun e w' => ∃ b, e = .returned (.tuple #[.slice none 0 0, .iface 41 (.pointer (some ⟨b, 0, none⟩))]) ∧ Below w.heap.size w w' ∧ w.heap.size ≤ b ∧
      w'.heap[b]? = some (.cells #[.string lexisB, .int .i64 (line : Int), .int .i64 (col : Int), E.val c] 44 (0, 0)) ∧ (c = 2 ∨ c = 4) :=
  (scan_any s E w hE).mono fun e w' hv => by
    rcases hv with ⟨hb, ⟨ts', v, h1, _⟩ | ⟨c', line', col', v, h1, hc, h2, b, hB, hv, hh⟩⟩
    · rw [h] at h1; cases h1
    · rw [h] at h1; injection h1 with h1; injection h1 with h3 h4; injection h4 with h4 h5
      subst h3; subst h4; subst h5
      exact ⟨b, by rw [h2, hv], hb, hB, hh, hc⟩

/-- "P = a.0" -/
def aliveB : ByteArray := ⟨#[80, 32, 61, 32, 97, 46, 48]⟩
def aliveToks : List Lx.Tok := [⟨2, [80], 1, 1⟩, ⟨4, [61], 1, 3⟩, ⟨2, [97], 1, 5⟩, ⟨4, [46], 1, 6⟩, ⟨3, [48], 1, 7⟩, ⟨1, [10], 1, 8⟩]
theorem alive_scan : Lx.scan aliveB.data.toList = .ok aliveToks := by rfl

theorem alive_call (E : Errs) (w : World) (hE : Laid E two w) :
    Calls Tryd.prog 11 #[.string ⟨#[80, 32, 61, 32, 97, 46, 48]⟩] w fun e w' => ∃ b off c, e = .returned (.tuple #[.slice (some ⟨b, off, none⟩) 6 c, .nilIface]) ∧ Below w.heap.size w w' ∧
      w'.cell? ⟨b, off + 8 + 1, none⟩ = some (.string ⟨#[97]⟩) ∧ w'.cell? ⟨b, off + 20 + 3, none⟩ = some (.int .i64 8) :=
  (scan_ok aliveB E w hE aliveToks (by simp [aliveToks]) alive_scan).mono fun e w' ⟨b, off, c, h1, h2, h3⟩ => ⟨b, off, c, h1, h2, h3 9 _ rfl, h3 23 _ rfl⟩

set_option maxHeartbeats 400000 in
theorem alive_any (E : Errs) (w : World) (hE : Laid E two w) :
    Calls Tryd.prog 12 #[] w fun e w' => e = .returned (.bool true) ∧ Below w.heap.size w w' := by
  go_enter Tryd.func12, Tryd.ntmps12
  go_wp2_with (first | (go_at_call 11; refine (alive_call E _ hE).mono ?_; rintro e w1 ⟨b, off, c, rfl, hb, h2, h5⟩))
  go_ret
  exact ⟨rfl, hb⟩
end Go.Proofs.YtinobikikineiaaDoor
