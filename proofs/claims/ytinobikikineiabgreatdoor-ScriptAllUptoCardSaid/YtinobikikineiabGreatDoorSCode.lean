/- api.Code at the errors of script: a fault that wraps ErrLong or ErrScript, and the bare error. Condition: the error variables lie as the program lays them. -/
import Derived.Test.YtinobikikineiabGreatDoorSIs
import Derived.Test.YtinobikikineiabGreatDoorSTold
namespace Go.Proofs.YtinobikikineiabGreatDoor
open Go.RowKit

abbrev nineteen : List Nat := [1, 2, 3, 4, 5, 6, 7, 8, 9, 10, 11, 12, 13, 14, 15, 16, 17, 18, 19]
theorem Laid.two_of {E : Errs} {w : World} (h : Laid E nineteen w) : Laid E two w := h.sub (by decide)
theorem is_fault_code (E : Errs) (ks : List Nat) (p c k : Nat) (w : World) (hE : Laid E ks w) (h : w.cell? ⟨p, 3, none⟩ = some (E.val c)) (hc : c ∈ ks) (hk : k ∈ ks) :
    Calls Tryz.prog 90 #[.iface 72 (.pointer (some ⟨p, 0, none⟩)), .iface 228 (.pointer (some (E.addr k)))] w fun e w' => e = .returned (.bool (c == k)) ∧ w = w' := by
  by_cases e : c = k
  · subst e
    rw [beq_self_eq_true]
    exact is_fault_same p (E.addr c) w h
  · rw [beq_eq_false_iff_ne.2 e]
    exact is_fault_other p (E.addr c) (E.addr k) w h (hE.ne c hc k hk e) (hE.row c hc) (hE.row k hk)
theorem is_bare_code (E : Errs) (ks : List Nat) (c k : Nat) (w : World) (hE : Laid E ks w) (hc : c ∈ ks) (hk : k ∈ ks) :
    Calls Tryz.prog 90 #[.iface 228 (.pointer (some (E.addr c))), .iface 228 (.pointer (some (E.addr k)))] w fun e w' => e = .returned (.bool (c == k)) ∧ w = w' := by
  by_cases e : c = k
  · subst e
    rw [beq_self_eq_true]
    exact is_same (E.addr c) w
  · rw [beq_eq_false_iff_ne.2 e]
    exact is_other (E.addr c) (E.addr k) w (hE.ne c hc k hk e) (hE.row c hc) (hE.row k hk)

set_option maxHeartbeats 4000000 in
theorem rest_fault_19 (E : Errs) (p : Nat) (w : World) (hE : Laid E nineteen w) (h : w.cell? ⟨p, 3, none⟩ = some (E.val 19)) :
    Calls Tryz.prog 91 #[.iface 72 (.pointer (some ⟨p, 0, none⟩))] w fun e w' => e = .returned (.int .i64 19) ∧ w = w' := by
  have c11 : w.cell? ⟨11, 0, none⟩ = some (E.val 11) := hE.cell 11 (by simp)
  have c12 : w.cell? ⟨12, 0, none⟩ = some (E.val 12) := hE.cell 12 (by simp)
  have c13 : w.cell? ⟨13, 0, none⟩ = some (E.val 13) := hE.cell 13 (by simp)
  have c14 : w.cell? ⟨14, 0, none⟩ = some (E.val 14) := hE.cell 14 (by simp)
  have c15 : w.cell? ⟨15, 0, none⟩ = some (E.val 15) := hE.cell 15 (by simp)
  have c16 : w.cell? ⟨16, 0, none⟩ = some (E.val 16) := hE.cell 16 (by simp)
  have c17 : w.cell? ⟨17, 0, none⟩ = some (E.val 17) := hE.cell 17 (by simp)
  have c18 : w.cell? ⟨18, 0, none⟩ = some (E.val 18) := hE.cell 18 (by simp)
  have c19 : w.cell? ⟨1, 0, none⟩ = some (E.val 19) := hE.cell 19 (by simp)
  go_enter Tryz.func91, Tryz.ntmps91
  go_wp2_with (first
    | (go_at_call 90; refine (is_fault_code E nineteen p 19 _ _ hE h (by decide) ?_).mono ?_; decide; rintro e w1 ⟨rfl, rfl⟩; simp only [Nat.reduceBEq]))
  go_ret
  exact ⟨rfl, rfl⟩
set_option maxHeartbeats 4000000 in
theorem rest_bare_19 (E : Errs) (w : World) (hE : Laid E nineteen w) :
    Calls Tryz.prog 91 #[E.val 19] w fun e w' => e = .returned (.int .i64 19) ∧ w = w' := by
  have c11 : w.cell? ⟨11, 0, none⟩ = some (E.val 11) := hE.cell 11 (by simp)
  have c12 : w.cell? ⟨12, 0, none⟩ = some (E.val 12) := hE.cell 12 (by simp)
  have c13 : w.cell? ⟨13, 0, none⟩ = some (E.val 13) := hE.cell 13 (by simp)
  have c14 : w.cell? ⟨14, 0, none⟩ = some (E.val 14) := hE.cell 14 (by simp)
  have c15 : w.cell? ⟨15, 0, none⟩ = some (E.val 15) := hE.cell 15 (by simp)
  have c16 : w.cell? ⟨16, 0, none⟩ = some (E.val 16) := hE.cell 16 (by simp)
  have c17 : w.cell? ⟨17, 0, none⟩ = some (E.val 17) := hE.cell 17 (by simp)
  have c18 : w.cell? ⟨18, 0, none⟩ = some (E.val 18) := hE.cell 18 (by simp)
  have c19 : w.cell? ⟨1, 0, none⟩ = some (E.val 19) := hE.cell 19 (by simp)
  go_enter Tryz.func91, Tryz.ntmps91
  go_wp2_with (first
    | (go_at_call 90; refine (is_bare_code E nineteen 19 _ _ hE (by decide) ?_).mono ?_; decide; rintro e w1 ⟨rfl, rfl⟩; simp only [Nat.reduceBEq]))
  go_ret
  exact ⟨rfl, rfl⟩
set_option maxHeartbeats 4000000 in
theorem code_fault_2 (E : Errs) (p : Nat) (w : World) (hE : Laid E nineteen w) (h : w.cell? ⟨p, 3, none⟩ = some (E.val 2)) :
    Calls Tryz.prog 24 #[.iface 72 (.pointer (some ⟨p, 0, none⟩))] w fun e w' => e = .returned (.int .i64 2) ∧ w = w' := by
  have c1 : w.cell? ⟨2, 0, none⟩ = some (E.val 1) := hE.cell 1 (by simp)
  have c2 : w.cell? ⟨0, 0, none⟩ = some (E.val 2) := hE.cell 2 (by simp)
  go_enter Tryz.func24, Tryz.ntmps24
  go_wp2_with (first
    | (go_at_call 90; refine (is_fault_code E nineteen p 2 _ _ hE h (by decide) ?_).mono ?_; decide; rintro e w1 ⟨rfl, rfl⟩; simp only [Nat.reduceBEq]))
  go_ret
  exact ⟨rfl, rfl⟩
set_option maxHeartbeats 4000000 in
theorem code_bare_2 (E : Errs) (w : World) (hE : Laid E nineteen w) :
    Calls Tryz.prog 24 #[E.val 2] w fun e w' => e = .returned (.int .i64 2) ∧ w = w' := by
  have c1 : w.cell? ⟨2, 0, none⟩ = some (E.val 1) := hE.cell 1 (by simp)
  have c2 : w.cell? ⟨0, 0, none⟩ = some (E.val 2) := hE.cell 2 (by simp)
  go_enter Tryz.func24, Tryz.ntmps24
  go_wp2_with (first
    | (go_at_call 90; refine (is_bare_code E nineteen 2 _ _ hE (by decide) ?_).mono ?_; decide; rintro e w1 ⟨rfl, rfl⟩; simp only [Nat.reduceBEq]))
  go_ret
  exact ⟨rfl, rfl⟩
set_option maxHeartbeats 4000000 in
theorem code_fault_19 (E : Errs) (p : Nat) (w : World) (hE : Laid E nineteen w) (h : w.cell? ⟨p, 3, none⟩ = some (E.val 19)) :
    Calls Tryz.prog 24 #[.iface 72 (.pointer (some ⟨p, 0, none⟩))] w fun e w' => e = .returned (.int .i64 19) ∧ w = w' := by
  have c1 : w.cell? ⟨2, 0, none⟩ = some (E.val 1) := hE.cell 1 (by simp)
  have c2 : w.cell? ⟨0, 0, none⟩ = some (E.val 2) := hE.cell 2 (by simp)
  have c3 : w.cell? ⟨3, 0, none⟩ = some (E.val 3) := hE.cell 3 (by simp)
  have c4 : w.cell? ⟨4, 0, none⟩ = some (E.val 4) := hE.cell 4 (by simp)
  have c5 : w.cell? ⟨5, 0, none⟩ = some (E.val 5) := hE.cell 5 (by simp)
  have c6 : w.cell? ⟨6, 0, none⟩ = some (E.val 6) := hE.cell 6 (by simp)
  have c7 : w.cell? ⟨7, 0, none⟩ = some (E.val 7) := hE.cell 7 (by simp)
  have c8 : w.cell? ⟨8, 0, none⟩ = some (E.val 8) := hE.cell 8 (by simp)
  have c9 : w.cell? ⟨9, 0, none⟩ = some (E.val 9) := hE.cell 9 (by simp)
  have c10 : w.cell? ⟨10, 0, none⟩ = some (E.val 10) := hE.cell 10 (by simp)
  go_enter Tryz.func24, Tryz.ntmps24
  go_wp2_with (first
    | (go_at_call 90; refine (is_fault_code E nineteen p 19 _ _ hE h (by decide) ?_).mono ?_; decide; rintro e w1 ⟨rfl, rfl⟩; simp only [Nat.reduceBEq])
    | (go_at_call 91; refine (rest_fault_19 E p _ hE h).mono ?_; rintro e w1 ⟨rfl, rfl⟩))
  go_ret
  exact ⟨rfl, rfl⟩
set_option maxHeartbeats 4000000 in
theorem code_bare_19 (E : Errs) (w : World) (hE : Laid E nineteen w) :
    Calls Tryz.prog 24 #[E.val 19] w fun e w' => e = .returned (.int .i64 19) ∧ w = w' := by
  have c1 : w.cell? ⟨2, 0, none⟩ = some (E.val 1) := hE.cell 1 (by simp)
  have c2 : w.cell? ⟨0, 0, none⟩ = some (E.val 2) := hE.cell 2 (by simp)
  have c3 : w.cell? ⟨3, 0, none⟩ = some (E.val 3) := hE.cell 3 (by simp)
  have c4 : w.cell? ⟨4, 0, none⟩ = some (E.val 4) := hE.cell 4 (by simp)
  have c5 : w.cell? ⟨5, 0, none⟩ = some (E.val 5) := hE.cell 5 (by simp)
  have c6 : w.cell? ⟨6, 0, none⟩ = some (E.val 6) := hE.cell 6 (by simp)
  have c7 : w.cell? ⟨7, 0, none⟩ = some (E.val 7) := hE.cell 7 (by simp)
  have c8 : w.cell? ⟨8, 0, none⟩ = some (E.val 8) := hE.cell 8 (by simp)
  have c9 : w.cell? ⟨9, 0, none⟩ = some (E.val 9) := hE.cell 9 (by simp)
  have c10 : w.cell? ⟨10, 0, none⟩ = some (E.val 10) := hE.cell 10 (by simp)
  go_enter Tryz.func24, Tryz.ntmps24
  go_wp2_with (first
    | (go_at_call 90; refine (is_bare_code E nineteen 19 _ _ hE (by decide) ?_).mono ?_; decide; rintro e w1 ⟨rfl, rfl⟩; simp only [Nat.reduceBEq])
    | (go_at_call 91; refine (rest_bare_19 E _ hE).mono ?_; rintro e w1 ⟨rfl, rfl⟩))
  go_ret
  exact ⟨rfl, rfl⟩
theorem codeF_any (E : Errs) (p c : Nat) (hc : c = 2 ∨ c = 19) : CodeF E nineteen p c := by
  intro W hE h
  rcases hc with rfl | rfl
  · exact code_fault_2 E p W hE h
  · exact code_fault_19 E p W hE h
theorem codeB_any (E : Errs) (c : Nat) (hc : c = 2 ∨ c = 19) : CodeB E nineteen c := by
  intro W hE
  rcases hc with rfl | rfl
  · exact code_bare_2 E W hE
  · exact code_bare_19 E W hE
end Go.Proofs.YtinobikikineiabGreatDoor
