/- lexis.Number by its contracts. Condition: the two error variables of lexis lie as the program lays them. -/
import Derived.Test.YtinobikikineiabGreatDoorSValue
import Derived.Test.YtinobikikineiabGreatDoorSMem
namespace Go.Proofs.YtinobikikineiabGreatDoor
open Go.RowKit

set_option maxHeartbeats 400000 in
theorem new_any (layer : ByteArray) (T : TypeId) (a : Addr) (w : World) :
    Calls Tryz.prog 17 #[.string layer, .iface T (.pointer (some a))] w fun e w' =>
      e = .returned (.iface 72 (.pointer (some ⟨w.heap.size, 0, none⟩))) ∧ w' = w.alloc (.cells #[.string layer, .int .i64 0, .int .i64 0, .iface T (.pointer (some a))] 75) := by
  go_enter Tryz.func17, Tryz.ntmps17
  go_wp2
  go_ret
  exact ⟨rfl, rfl⟩
set_option maxHeartbeats 400000 in
theorem number_ok (s : ByteArray) (E : Errs) (w : World) (hE : Laid E two w) (hs : s.size ≤ maxLen) (h : Lx.numCode s.data.toList = 0) :
    Calls Tryz.prog 85 #[.string s] w fun e w' => e = .returned (.tuple #[.int .i64 (Lx.numVal s.data.toList : Int), .nilIface]) ∧ w = w' := by
  go_enter Tryz.func85, Tryz.ntmps85
  go_wp2_with (first
    | (go_at_call 131; refine (value_ok s E _ hE hs h).mono ?_; rintro e w1 ⟨rfl, rfl⟩))
  go_ret2
  exact ⟨rfl, rfl⟩
set_option maxHeartbeats 400000 in
theorem number_no (s : ByteArray) (E : Errs) (w : World) (hE : Laid E two w) (hs : s.size ≤ maxLen) (h : Lx.numCode s.data.toList ≠ 0) :
    Calls Tryz.prog 85 #[.string s] w fun e w' => ∃ b, e = .returned (.tuple #[.int .i64 0, .iface 72 (.pointer (some ⟨b, 0, none⟩))]) ∧ Below w.heap.size w w' ∧ w.heap.size ≤ b ∧
      w'.heap[b]? = some (.cells #[.string lexisB, .int .i64 0, .int .i64 0, E.val (Lx.numCode s.data.toList)] 75 (0, 0)) := by
  go_enter Tryz.func85, Tryz.ntmps85
  go_wp2_with (first
    | (go_at_call 131; refine (value_no s E _ hE hs h).mono ?_; rintro e w1 ⟨rfl, hb1⟩)
    | (go_at_call 17; refine (new_any _ _ _ _).mono ?_; rintro e w2 ⟨rfl, rfl⟩))
  go_ret2
  exact ⟨w1.heap.size, rfl, hb1.alloc hb1.size _, hb1.size, heap_alloc_new w1 _⟩
/-- .. where the text is no number. -/
theorem number_four (s : ByteArray) (E : Errs) (w : World) (hE : Laid E two w) (hs : s.size ≤ maxLen) (h : Lx.numCode s.data.toList = 4) :
    Calls Tryz.prog 85 #[.string s] w fun e w' => ∃ b, e = .returned (.tuple #[.int .i64 0, .iface 72 (.pointer (some ⟨b, 0, none⟩))]) ∧ Below w.heap.size w w' ∧ w.heap.size ≤ b ∧
      w'.heap[b]? = some (.cells #[.string lexisB, .int .i64 0, .int .i64 0, E.val 4] 75 (0, 0)) := by
  have := number_no s E w hE hs (by rw [h]; decide)
  rwa [h] at this
end Go.Proofs.YtinobikikineiabGreatDoor
