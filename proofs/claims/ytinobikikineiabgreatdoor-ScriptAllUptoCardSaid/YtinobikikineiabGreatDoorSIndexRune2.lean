/- The walk of strings.IndexRune at the blanks, whatever the rune: it finds the blanks and none but them. Condition: the rune lies in 0 .. 1114111. -/
import Derived.Test.YtinobikikineiabGreatDoorSFields
import Derived.Test.YtinobikikineiabGreatDoorSIndexRuneA
import Derived.Test.YtinobikikineiabGreatDoorSIndexRuneB
import Derived.Test.YtinobikikineiabGreatDoorSIndexRuneE
namespace Go.Proofs.YtinobikikineiabGreatDoor
open Go.RowKit Go.Shelf

theorem indexRune_any (r : Nat) (hr : r ≤ 1114111) (w : World) :
    Calls Tryz.prog 127 #[.string ⟨#[32, 9, 13]⟩, .int .i32 (r : Int)] w fun e w' => ∃ z : Int, e = .returned (.int .i64 z) ∧ decide (0 ≤ z) = isBl r ∧ Below w.heap.size w w' := by
  by_cases h : r < 128
  · refine (Tryz.strings_IndexRune_ascii ⟨#[32, 9, 13]⟩ (r : Int) w (by omega) (by omega)).mono ?_
    rintro e w' ⟨rfl, rfl⟩
    refine ⟨_, rfl, ?_, Below.refl _ _⟩
    have e1 : ((r : Int)).toNat.toUInt8.toNat = r := by simp; omega
    have h1 := Lib.contains_iff_indexByte [32, 9, 13] ((r : Int)).toNat.toUInt8
    rw [Sc.set_blank] at h1
    have h2 := isBl_byte ((r : Int)).toNat.toUInt8
    rw [e1] at h2
    rw [h2]
    exact h1.symm
  · have hb := isBl_hi r (by omega)
    by_cases he : r = 65533
    · subst he
      refine (indexRune_error w).mono ?_
      rintro e w' ⟨rfl, hw⟩
      exact ⟨-1, rfl, by rw [hb]; rfl, hw⟩
    · cases hv : Lib.validRune (r : Int) with
      | false =>
        refine (indexRune_invalid r (by omega) hr he w hv).mono ?_
        rintro e w' ⟨rfl, hw⟩
        exact ⟨-1, rfl, by rw [hb]; rfl, hw⟩
      | true =>
        rcases encode_hi r (by omega) with ⟨a, b, hx, hy⟩ | ⟨a, b, c, hx, hy⟩ | ⟨a, b, c, d, hx⟩
        · refine (indexRune_two r (by omega) hr he w hv a b hy hx).mono ?_
          rintro e w' ⟨rfl, hw⟩
          exact ⟨-1, rfl, by rw [hb]; rfl, hw⟩
        · refine (indexRune_three r (by omega) hr he w hv a b c hy hx).mono ?_
          rintro e w' ⟨rfl, hw⟩
          exact ⟨-1, rfl, by rw [hb]; rfl, hw⟩
        · refine (indexRune_four r (by omega) hr he w hv a b c d hx).mono ?_
          rintro e w' ⟨rfl, hw⟩
          exact ⟨-1, rfl, by rw [hb]; rfl, hw⟩
end Go.Proofs.YtinobikikineiabGreatDoor
