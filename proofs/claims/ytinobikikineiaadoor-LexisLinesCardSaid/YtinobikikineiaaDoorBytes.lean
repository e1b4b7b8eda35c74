/- The walks of lexis's predicates on bytes and of 'run': each answers as its plain function does, and changes nothing. -/
import Derived.Test.YtinobikikineiaaDoorRows
import Derived.Test.YtinobikikineiaaDoorPlainLaws
import Derived.WalkKit
import Derived.WalkSpells
import Derived.WalkLawsBesides
import Derived.Lib.Hide
namespace Go.Proofs.YtinobikikineiaaDoor
open Go.RowKit

set_option maxHeartbeats 400000 in
theorem isSmall_any (c : UInt8) (w : World) :
    Calls Tryd.prog 42 #[.int .u8 (c.toNat : Int)] w fun e w' => e = .returned (.bool (Lx.isSmall c)) ∧ w = w' := by
  have hc : c.toNat < 256 := c.toNat_lt
  unfold Lx.isSmall
  by_cases h1 : 97 ≤ (c.toNat : Int) <;> by_cases h2 : (c.toNat : Int) ≤ 122
  all_goals
    go_enter Tryd.func42, Tryd.ntmps42
    go_wp2
    go_ret
    exact ⟨by simp; omega, rfl⟩

set_option maxHeartbeats 400000 in
theorem isGreat_any (c : UInt8) (w : World) :
    Calls Tryd.prog 45 #[.int .u8 (c.toNat : Int)] w fun e w' => e = .returned (.bool (Lx.isGreat c)) ∧ w = w' := by
  have hc : c.toNat < 256 := c.toNat_lt
  unfold Lx.isGreat
  by_cases h1 : 65 ≤ (c.toNat : Int) <;> by_cases h2 : (c.toNat : Int) ≤ 90
  all_goals
    go_enter Tryd.func45, Tryd.ntmps45
    go_wp2
    go_ret
    exact ⟨by simp; omega, rfl⟩

set_option maxHeartbeats 400000 in
theorem isDigit_any (c : UInt8) (w : World) :
    Calls Tryd.prog 53 #[.int .u8 (c.toNat : Int)] w fun e w' => e = .returned (.bool (Lx.isDigit c)) ∧ w = w' := by
  have hc : c.toNat < 256 := c.toNat_lt
  unfold Lx.isDigit
  by_cases h1 : 48 ≤ (c.toNat : Int) <;> by_cases h2 : (c.toNat : Int) ≤ 57
  all_goals
    go_enter Tryd.func53, Tryd.ntmps53
    go_wp2
    go_ret
    exact ⟨by simp; omega, rfl⟩

set_option maxHeartbeats 400000 in
theorem inRun_any (c : UInt8) (w : World) :
    Calls Tryd.prog 54 #[.int .u8 (c.toNat : Int)] w fun e w' => e = .returned (.bool (Lx.inRun c)) ∧ w = w' := by
  have hc : c.toNat < 256 := c.toNat_lt
  have h95 : ((c.toNat : Int) == 95) = (c == 95) := by
    rw [Bool.eq_iff_iff]; simp [← UInt8.toNat_inj]; omega
  unfold Lx.inRun
  cases h1 : Lx.isSmall c <;> cases h2 : Lx.isGreat c <;> cases h3 : Lx.isDigit c <;> cases h4 : (c == 95)
  all_goals
    rw [h4] at h95
    go_enter Tryd.func54, Tryd.ntmps54
    go_wp2_with (first
      | (go_at_call 42; refine (isSmall_any c _).mono ?_; rintro e w' ⟨rfl, rfl⟩)
      | (go_at_call 45; refine (isGreat_any c _).mono ?_; rintro e w' ⟨rfl, rfl⟩)
      | (go_at_call 53; refine (isDigit_any c _).mono ?_; rintro e w' ⟨rfl, rfl⟩))
    go_ret
    exact ⟨rfl, rfl⟩
end Go.Proofs.YtinobikikineiaaDoor
