/- api.Code at the errors of lexis: a fault that wraps ErrWord or ErrLong, and the bare error. Condition: the first four error variables lie as the program lays them. -/
import Derived.Test.YtinobikikineiaaDoorIs
namespace Go.Proofs.YtinobikikineiaaDoor
open Go.RowKit

/-- The errors that api.Code asks till it has told one of lexis. -/
abbrev four : List Nat := [1, 2, 3, 4]
theorem Laid.two_of_four {E : Errs} {w : World} (h : Laid E four w) : Laid E two w := h.sub (by decide)

theorem is_fault_code (E : Errs) (ks : List Nat) (p c k : Nat) (w : World) (hE : Laid E ks w) (h : w.cell? ⟨p, 3, none⟩ = some (E.val c)) (hc : c ∈ ks) (hk : k ∈ ks) :
    Calls Tryd.prog 21 #[.iface 41 (.pointer (some ⟨p, 0, none⟩)), .iface 115 (.pointer (some (E.addr k)))] w fun e w' => e = .returned (.bool (c == k)) ∧ w = w' := by
  by_cases e : c = k
  · subst e
    rw [beq_self_eq_true]
    exact is_fault_same p (E.addr c) w h
  · rw [beq_eq_false_iff_ne.2 e]
    exact is_fault_other p (E.addr c) (E.addr k) w h (hE.ne c hc k hk e) (hE.row c hc) (hE.row k hk)
theorem is_bare_code (E : Errs) (ks : List Nat) (c k : Nat) (w : World) (hE : Laid E ks w) (hc : c ∈ ks) (hk : k ∈ ks) :
    Calls Tryd.prog 21 #[.iface 115 (.pointer (some (E.addr c))), .iface 115 (.pointer (some (E.addr k)))] w fun e w' => e = .returned (.bool (c == k)) ∧ w = w' := by
  by_cases e : c = k
  · subst e
    rw [beq_self_eq_true]
    exact is_same (E.addr c) w
  · rw [beq_eq_false_iff_ne.2 e]
    exact is_other (E.addr c) (E.addr k) w (hE.ne c hc k hk e) (hE.row c hc) (hE.row k hk)

set_option maxHeartbeats 1000000 in
theorem code_fault_2 (E : Errs) (p : Nat) (w : World) (hE : Laid E four w) (h : w.cell? ⟨p, 3, none⟩ = some (E.val 2)) :
    Calls Tryd.prog 20 #[.iface 41 (.pointer (some ⟨p, 0, none⟩))] w fun e w' => e = .returned (.int .i64 2) ∧ w = w' := by
  have c1 : w.cell? ⟨2, 0, none⟩ = some (E.val 1) := hE.cell 1 (by simp)
  have c2 : w.cell? ⟨1, 0, none⟩ = some (E.val 2) := hE.cell 2 (by simp)
  go_enter Tryd.func20, Tryd.ntmps20
  go_wp2_with (first
    | (go_at_call 21; refine (is_fault_code E four p 2 _ _ hE h (by decide) ?_).mono ?_; decide; rintro e w1 ⟨rfl, rfl⟩; simp only [Nat.reduceBEq]))
  go_ret
  exact ⟨rfl, rfl⟩
set_option maxHeartbeats 1000000 in
theorem code_fault_4 (E : Errs) (p : Nat) (w : World) (hE : Laid E four w) (h : w.cell? ⟨p, 3, none⟩ = some (E.val 4)) :
    Calls Tryd.prog 20 #[.iface 41 (.pointer (some ⟨p, 0, none⟩))] w fun e w' => e = .returned (.int .i64 4) ∧ w = w' := by
  have c1 : w.cell? ⟨2, 0, none⟩ = some (E.val 1) := hE.cell 1 (by simp)
  have c2 : w.cell? ⟨1, 0, none⟩ = some (E.val 2) := hE.cell 2 (by simp)
  have c3 : w.cell? ⟨3, 0, none⟩ = some (E.val 3) := hE.cell 3 (by simp)
  have c4 : w.cell? ⟨0, 0, none⟩ = some (E.val 4) := hE.cell 4 (by simp)
  go_enter Tryd.func20, Tryd.ntmps20
  go_wp2_with (first
    | (go_at_call 21; refine (is_fault_code E four p 4 _ _ hE h (by decide) ?_).mono ?_; decide; rintro e w1 ⟨rfl, rfl⟩; simp only [Nat.reduceBEq]))
  go_ret
  exact ⟨rfl, rfl⟩
/-- Code of a fault of lexis. -/
theorem code_fault (E : Errs) (c p : Nat) (hc : c = 2 ∨ c = 4) (w : World) (hE : Laid E four w) (h : w.cell? ⟨p, 3, none⟩ = some (E.val c)) :
    Calls Tryd.prog 20 #[.iface 41 (.pointer (some ⟨p, 0, none⟩))] w fun e w' => e = .returned (.int .i64 (c : Int)) ∧ w = w' := by
  rcases hc with rfl | rfl
  · exact code_fault_2 E p w hE h
  · exact code_fault_4 E p w hE h
set_option maxHeartbeats 1000000 in
theorem code_bare_2 (E : Errs) (w : World) (hE : Laid E four w) :
    Calls Tryd.prog 20 #[E.val 2] w fun e w' => e = .returned (.int .i64 2) ∧ w = w' := by
  have c1 : w.cell? ⟨2, 0, none⟩ = some (E.val 1) := hE.cell 1 (by simp)
  have c2 : w.cell? ⟨1, 0, none⟩ = some (E.val 2) := hE.cell 2 (by simp)
  go_enter Tryd.func20, Tryd.ntmps20
  go_wp2_with (first
    | (go_at_call 21; refine (is_bare_code E four 2 _ _ hE (by decide) ?_).mono ?_; decide; rintro e w1 ⟨rfl, rfl⟩; simp only [Nat.reduceBEq]))
  go_ret
  exact ⟨rfl, rfl⟩
set_option maxHeartbeats 1000000 in
theorem code_bare_4 (E : Errs) (w : World) (hE : Laid E four w) :
    Calls Tryd.prog 20 #[E.val 4] w fun e w' => e = .returned (.int .i64 4) ∧ w = w' := by
  have c1 : w.cell? ⟨2, 0, none⟩ = some (E.val 1) := hE.cell 1 (by simp)
  have c2 : w.cell? ⟨1, 0, none⟩ = some (E.val 2) := hE.cell 2 (by simp)
  have c3 : w.cell? ⟨3, 0, none⟩ = some (E.val 3) := hE.cell 3 (by simp)
  have c4 : w.cell? ⟨0, 0, none⟩ = some (E.val 4) := hE.cell 4 (by simp)
  go_enter Tryd.func20, Tryd.ntmps20
  go_wp2_with (first
    | (go_at_call 21; refine (is_bare_code E four 4 _ _ hE (by decide) ?_).mono ?_; decide; rintro e w1 ⟨rfl, rfl⟩; simp only [Nat.reduceBEq]))
  go_ret
  exact ⟨rfl, rfl⟩
/-- Code of a bare error of lexis. -/
theorem code_bare (E : Errs) (c : Nat) (hc : c = 2 ∨ c = 4) (w : World) (hE : Laid E four w) :
    Calls Tryd.prog 20 #[E.val c] w fun e w' => e = .returned (.int .i64 (c : Int)) ∧ w = w' := by
  rcases hc with rfl | rfl
  · exact code_bare_2 E w hE
  · exact code_bare_4 E w hE
end Go.Proofs.YtinobikikineiaaDoor
