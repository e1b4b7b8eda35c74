/- The walk of strings.IndexRune at the blanks, at a rune beyond ASCII whose encoding has three bytes: it finds none. Condition: the rune is a valid one beyond ASCII. -/
import Derived.Test.YtinobikikineiabGreatDoorSRune
import Derived.BigQuiet
import Derived.Deep.QuietTactic
import Derived.WalkMore
namespace Go.Proofs.YtinobikikineiabGreatDoor
open Go.RowKit Go.Shelf

set_option maxRecDepth 1000000 in
set_option maxHeartbeats 16000000 in
theorem indexRune_three (r : Nat) (h : 128 ≤ r) (hr : r ≤ 1114111) (hne : r ≠ 65533) (w : World) (hv : Lib.validRune (r : Int) = true) (a b c : UInt8) (hb : 128 ≤ c.toNat) (he : Utf8.encode (r : Int) = ⟨#[a, b, c]⟩) :
    Calls Tryz.prog 127 #[.string ⟨#[32, 9, 13]⟩, .int .i32 (r : Int)] w fun e w' => e = .returned (.int .i64 (-1)) ∧ Below w.heap.size w w' := by
    have hrune : ((r : Int) == 65533) = false := by rw [beq_eq_false_iff_ne]; omega
    have t1 : ((((⟨#[32, 9, 13]⟩ : ByteArray)[2]'(by decide)).toNat : Int) != (((⟨#[a, b, c]⟩ : ByteArray)[2]'(by show 2 < 3; omega)).toNat : Int)) = true := by
      show ((13 : Int) != (c.toNat : Int)) = true
      rw [bne_iff_ne]; omega
    have t2 : Lib.indexByte [] ((⟨#[a, b, c]⟩ : ByteArray)[2]'(by show 2 < 3; omega)) < 0 := by
      have := index_hi [] c hb (by decide)
      have e : ((c.toNat : Int)).toNat.toUInt8 = c := by simp
      rw [e] at this
      exact this
    go_enter Tryz.func127, Tryz.ntmps127
    go_wp2_with (first | (go_at_call 145; refine (Tryz.utf8_ValidRune _ _).mono ?_; rintro e w' ⟨rfl, hw⟩; rw [hw, hv]))
    go_step3
    go_wp2_with fail
    refine wp_loop_rounds 1 ?_
    rw [rounds_succ]
    go_wp2_with fail
    go_step3
    go_wp2_with fail
    go_quiet (fail)
    go_wp2_with fail
    go_quiet ((go_at_call 144; exact quiet_add_same (Tryz.strings_IndexByte _ _ _)))
    go_wp2_with fail
    go_outline
    (try simp only [Exit.inBlock, Exit.noGoto, Exit.then])
    (first
      | go_ret
      | (rw [Exit.noGoto_ret]; go_ret)
      | (go_wp2; go_ret)
      | (simp only [go_sem]; go_ret))
    exact ⟨rfl, below_drewN' (Below.refl _ _) _⟩
end Go.Proofs.YtinobikikineiabGreatDoor
