/- The walk of strings.IndexRune at the blanks, at a rune beyond ASCII whose encoding has four bytes, at one that is none, or the one that stands for none: it finds none. -/
import Derived.Test.YtinobikikineiabGreatDoorSRune
import Derived.BigQuiet
import Derived.Deep.QuietTactic
import Derived.WalkMore
import Derived.Laws.RangeAny
import Derived.Lib.OthersKept
namespace Go.Proofs.YtinobikikineiabGreatDoor
open Go.RowKit Go.Shelf

set_option maxRecDepth 1000000 in
set_option maxHeartbeats 16000000 in
theorem indexRune_invalid (r : Nat) (h : 128 ≤ r) (hr : r ≤ 1114111) (hne : r ≠ 65533) (w : World) (hv : Lib.validRune (r : Int) = false) :
    Calls Tryz.prog 127 #[.string ⟨#[32, 9, 13]⟩, .int .i32 (r : Int)] w fun e w' => e = .returned (.int .i64 (-1)) ∧ Below w.heap.size w w' := by
    have hrune : ((r : Int) == 65533) = false := by rw [beq_eq_false_iff_ne]; omega
    go_enter Tryz.func127, Tryz.ntmps127
    go_wp2_with (first | (go_at_call 145; refine (Tryz.utf8_ValidRune _ _).mono ?_; rintro e w' ⟨rfl, hw⟩; rw [hw, hv]))
    (try simp only [Exit.inBlock, Exit.noGoto, Exit.then])
    (first
      | go_ret
      | (rw [Exit.noGoto_ret]; go_ret)
      | (go_wp2; go_ret)
      | (simp only [go_sem]; go_ret))
    exact ⟨rfl, Below.refl _ _⟩
set_option maxRecDepth 1000000 in
set_option maxHeartbeats 16000000 in
theorem indexRune_error (w : World) :
    Calls Tryz.prog 127 #[.string ⟨#[32, 9, 13]⟩, .int .i32 65533] w fun e w' => e = .returned (.int .i64 (-1)) ∧ Below w.heap.size w w' := by
  have h0 : ∀ ty, (Instr.next (.pointer (some ⟨w.heap.size, 0, none⟩)) true ty).run Tryz.prog (w.iter ⟨#[32, 9, 13]⟩ 0) = .ok (.tuple #[.bool true, .int .i64 0, .int .i32 32]) (w.iter ⟨#[32, 9, 13]⟩ 1) := fun ty => run_next_ascii (P := Tryz.prog) w ⟨#[32, 9, 13]⟩ 0 ty (by decide) (by decide)
  have h1 : ∀ ty, (Instr.next (.pointer (some ⟨w.heap.size, 0, none⟩)) true ty).run Tryz.prog (w.iter ⟨#[32, 9, 13]⟩ 1) = .ok (.tuple #[.bool true, .int .i64 1, .int .i32 9]) (w.iter ⟨#[32, 9, 13]⟩ 2) := fun ty => run_next_ascii (P := Tryz.prog) w ⟨#[32, 9, 13]⟩ 1 ty (by decide) (by decide)
  have h2 : ∀ ty, (Instr.next (.pointer (some ⟨w.heap.size, 0, none⟩)) true ty).run Tryz.prog (w.iter ⟨#[32, 9, 13]⟩ 2) = .ok (.tuple #[.bool true, .int .i64 2, .int .i32 13]) (w.iter ⟨#[32, 9, 13]⟩ 3) := fun ty => run_next_ascii (P := Tryz.prog) w ⟨#[32, 9, 13]⟩ 2 ty (by decide) (by decide)
  have h3 := fun ty => run_next_end (P := Tryz.prog) w ⟨#[32, 9, 13]⟩ 3 ty (by decide)
  go_enter Tryz.func127, Tryz.ntmps127
  go_wp2_with fail
  refine wp_loop_rounds 4 ?_
  rw [rounds_succ]
  go_wp2_with fail
  rw [rounds_succ]
  go_wp2_with fail
  rw [rounds_succ]
  go_wp2_with fail
  rw [rounds_succ]
  go_wp2_with fail
  (try simp only [Exit.inBlock, Exit.noGoto, Exit.then])
  go_ret
  exact ⟨rfl, (Below.refl _ w).alloc (Nat.le_refl _) _⟩
set_option maxRecDepth 1000000 in
set_option maxHeartbeats 16000000 in
theorem indexRune_four (r : Nat) (h : 128 ≤ r) (hr : r ≤ 1114111) (hne : r ≠ 65533) (w : World) (hv : Lib.validRune (r : Int) = true) (a b c d : UInt8) (he : Utf8.encode (r : Int) = ⟨#[a, b, c, d]⟩) :
    Calls Tryz.prog 127 #[.string ⟨#[32, 9, 13]⟩, .int .i32 (r : Int)] w fun e w' => e = .returned (.int .i64 (-1)) ∧ Below w.heap.size w w' := by
    have hrune : ((r : Int) == 65533) = false := by rw [beq_eq_false_iff_ne]; omega
    go_enter Tryz.func127, Tryz.ntmps127
    go_wp2_with (first | (go_at_call 145; refine (Tryz.utf8_ValidRune _ _).mono ?_; rintro e w' ⟨rfl, hw⟩; rw [hw, hv]))
    go_step3
    go_wp2_with fail
    refine wp_loop_rounds 1 ?_
    rw [rounds_succ]
    go_wp2_with fail
    go_outline
    (try simp only [Exit.inBlock, Exit.noGoto])
    (first
      | go_ret
      | (rw [Exit.noGoto_ret]; go_ret)
      | (go_wp2; go_ret)
      | (simp only [go_sem]; go_ret))
    exact ⟨rfl, Below.refl _ _⟩
end Go.Proofs.YtinobikikineiabGreatDoor
