/- The walks of the document's own answer to chapter 1: its predicates, its numbers, its errors. Each answers as its plain function does. -/
import Derived.Test.YtinobikikineiaaDoorLine
import Derived.Test.YtinobikikineiaaDoorPlainDigits
import Derived.Test.YtinobikikineiaaDoorMem
namespace Go.Proofs.YtinobikikineiaaDoor
open Go.RowKit

namespace Lx
/-- The value while it is not yet too great. -/
def held (l : List UInt8) : Nat := if digVal l ≤ big then digVal l else 0
theorem letter_eq (c : UInt8) : (isSmall c || isGreat c) = ((decide (97 ≤ c.toNat) && decide (c.toNat ≤ 122)) || (decide (65 ≤ c.toNat) && decide (c.toNat ≤ 90))) := rfl
end Lx

set_option maxHeartbeats 400000 in
theorem letter_any (c : UInt8) (w : World) :
    Calls Tryd.prog 35 #[.int .u8 (c.toNat : Int)] w fun e w' => e = .returned (.bool (Lx.isSmall c || Lx.isGreat c)) ∧ w = w' := by
  have hc : c.toNat < 256 := c.toNat_lt
  unfold Lx.isSmall Lx.isGreat
  by_cases h1 : 97 ≤ (c.toNat : Int) <;> by_cases h2 : (c.toNat : Int) ≤ 122 <;> by_cases h3 : 65 ≤ (c.toNat : Int) <;> by_cases h4 : (c.toNat : Int) ≤ 90
  all_goals try omega
  all_goals
    go_enter Tryd.func35, Tryd.ntmps35
    go_wp2
    go_ret
    exact ⟨by simp; omega, rfl⟩

set_option maxHeartbeats 400000 in
theorem inner_any (c : UInt8) (w : World) :
    Calls Tryd.prog 34 #[.int .u8 (c.toNat : Int)] w fun e w' => e = .returned (.bool (Lx.inRun c)) ∧ w = w' := by
  have hc : c.toNat < 256 := c.toNat_lt
  have h95 : ((c.toNat : Int) == 95) = (c == 95) := byte_beq c 95
  have e : Lx.inRun c = ((Lx.isSmall c || Lx.isGreat c) || Lx.isDigit c || c == 95) := rfl
  rw [e]
  unfold Lx.isDigit
  cases hl : (Lx.isSmall c || Lx.isGreat c) <;> cases h4 : (c == 95) <;> by_cases h2 : 48 ≤ (c.toNat : Int) <;> by_cases h3 : (c.toNat : Int) ≤ 57
  all_goals try (exfalso; omega)
  all_goals
    rw [h4] at h95
    have HL := Lib.hid hl
    clear hl h4 e
    go_enter Tryd.func34, Tryd.ntmps34
    go_wp2_with (first | (go_at_call 35; refine (letter_any c _).mono ?_; rintro e w' ⟨rfl, rfl⟩; rw [HL.out]))
    go_ret
    exact ⟨by (first | (simp; done) | (simp [show 48 ≤ c.toNat by omega, show c.toNat ≤ 57 by omega]; done) | (simp [show 48 ≤ c.toNat by omega, show ¬ c.toNat ≤ 57 by omega, show ¬ (c.toNat : Int) ≤ 57 by omega]; done) | (simp [show ¬ 48 ≤ c.toNat by omega]; done)), rfl⟩

theorem mark_at (c : UInt8) (k : Nat) (hk : k < (⟨#[61, 43, 124, 46, 92, 123, 125, 91, 93, 40, 41, 44, 47, 39, 60, 62, 126, 38, 45, 58, 59]⟩ : ByteArray).size) : (⟨#[61, 43, 124, 46, 92, 123, 125, 91, 93, 40, 41, 44, 47, 39, 60, 62, 126, 38, 45, 58, 59]⟩ : ByteArray)[k] = c ↔ Lx.marks[k]? = some c := by
  have := bytes_get (⟨#[61, 43, 124, 46, 92, 123, 125, 91, 93, 40, 41, 44, 47, 39, 60, 62, 126, 38, 45, 58, 59]⟩ : ByteArray) k hk
  have e : (⟨#[61, 43, 124, 46, 92, 123, 125, 91, 93, 40, 41, 44, 47, 39, 60, 62, 126, 38, 45, 58, 59]⟩ : ByteArray).data.toList = Lx.marks := rfl
  rw [e] at this
  rw [this]
  exact ⟨fun h => by rw [h], fun h => Option.some.inj h⟩
set_option maxRecDepth 100000 in
set_option maxHeartbeats 1000000 in
theorem mark_any (c : UInt8) (w : World) :
    Calls Tryd.prog 37 #[.int .u8 (c.toNat : Int)] w fun e w' => e = .returned (.bool (Lx.isMark c)) ∧ w = w' := by
  have hc : c.toNat < 256 := c.toNat_lt
  go_enter Tryd.func37, Tryd.ntmps37
  go_wp2_with fail
  go_loop [3] (fun i => ∃ k : Nat, k ≤ 21 ∧ i = .int .i64 k ∧ ∀ j, j < k → Lx.marks[j]? ≠ some c) (fun i => 21 - (intOf i).toNat)
  case atStart => exact ⟨0, by omega, rfl, fun j h => by omega⟩
  case round =>
    obtain ⟨k, hk, rfl, hj⟩ := hrel
    have HJ := Lib.hid hj
    clear hj
    by_cases hlt : k < 21
    · have hk' : k < (⟨#[61, 43, 124, 46, 92, 123, 125, 91, 93, 40, 41, 44, 47, 39, 60, 62, 126, 38, 45, 58, 59]⟩ : ByteArray).size := hlt
      by_cases he : (⟨#[61, 43, 124, 46, 92, 123, 125, 91, 93, 40, 41, 44, 47, 39, 60, 62, 126, 38, 45, 58, 59]⟩ : ByteArray)[k] = c
      · have ht : (((⟨#[61, 43, 124, 46, 92, 123, 125, 91, 93, 40, 41, 44, 47, 39, 60, 62, 126, 38, 45, 58, 59]⟩ : ByteArray)[k].toNat : Int) == (c.toNat : Int)) = true := by rw [he]; simp
        have HE := Lib.hid ((mark_at c k hk').1 he)
        clear he
        go_wp2_with fail
        go_ret
        refine ⟨?_, rfl⟩
        have : Lx.isMark c = true := List.contains_iff_mem.2 (List.mem_of_getElem? HE.out)
        rw [this]
        rfl
      · have ht : (((⟨#[61, 43, 124, 46, 92, 123, 125, 91, 93, 40, 41, 44, 47, 39, 60, 62, 126, 38, 45, 58, 59]⟩ : ByteArray)[k].toNat : Int) == (c.toNat : Int)) = false := by
          rw [beq_eq_false_iff_ne]
          intro h
          exact he (UInt8.toNat_inj.1 (by omega))
        have HE := Lib.hid (fun h => he ((mark_at c k hk').2 h))
        clear he
        go_wp2_with fail
        go_round
        case rel =>
          refine ⟨k + 1, by omega, by go_num, fun j hj => ?_⟩
          rcases Nat.lt_or_ge j k with h | h
          · exact HJ.out j h
          · obtain rfl : j = k := by omega
            exact HE.out
        case measure => simp [intOf]; omega
    · go_wp2_with fail
      go_ret
      refine ⟨?_, rfl⟩
      have : Lx.isMark c = false := by
        cases hm : Lx.isMark c with
        | false => rfl
        | true =>
          obtain ⟨j, hj⟩ := List.getElem?_of_mem (List.contains_iff_mem.1 hm)
          have h1 := (List.getElem?_eq_some_iff.1 hj).1
          exact absurd hj (HJ.out j (by have : Lx.marks.length = 21 := rfl; omega))
      rw [this]
      rfl

end Go.Proofs.YtinobikikineiaaDoor
