/- The walks of 'SameTokens' and 'like' at lists that are alike. -/
import Derived.Test.YtinobikikineiaaDoorMem
import Derived.BigQuiet
import Derived.Deep.QuietTactic
namespace Go.Proofs.YtinobikikineiaaDoor
open Go.RowKit

theorem reads4_cell {w : World} {A : Option Addr} {n c : Nat} {ts : List TokV} (h : Reads4 w (.slice A n c) ts) (k : Nat) (hk : k < n) :
    ∃ b off t, A = some ⟨b, off, none⟩ ∧ ts[k]? = some t ∧ w.cell? ⟨b, off + k * 4, none⟩ = some (.int .i64 t.kind) ∧ w.cell? ⟨b, off + k * 4 + 1, none⟩ = some (.string t.text) ∧
      w.cell? ⟨b, off + k * 4 + 2, none⟩ = some (.int .i64 t.line) ∧ w.cell? ⟨b, off + k * 4 + 3, none⟩ = some (.int .i64 t.col) := by
  obtain ⟨A', c', hv, _, h⟩ := h
  injection hv with h1 h2 h3
  subst h1; subst h2
  have hne : ts ≠ [] := by intro e; subst e; simp at hk
  obtain ⟨b, off, hA, hc⟩ := h hne
  refine ⟨b, off, ts[k], hA, List.getElem?_eq_getElem hk, ?_, ?_, ?_, ?_⟩
  · exact hc _ _ (flat_cells ts k _ (List.getElem?_eq_getElem hk) 0 (by omega))
  · rw [Nat.add_assoc]; exact hc _ _ (flat_cells ts k _ (List.getElem?_eq_getElem hk) 1 (by omega))
  · rw [Nat.add_assoc]; exact hc _ _ (flat_cells ts k _ (List.getElem?_eq_getElem hk) 2 (by omega))
  · rw [Nat.add_assoc]; exact hc _ _ (flat_cells ts k _ (List.getElem?_eq_getElem hk) 3 (by omega))
theorem reads4_len {w : World} {A : Option Addr} {n c : Nat} {ts : List TokV} (h : Reads4 w (.slice A n c) ts) : ts.length = n := by
  obtain ⟨A', c', hv, _⟩ := h
  injection hv with h1 h2 h3
  exact h2.symm

set_option maxRecDepth 100000 in
set_option maxHeartbeats 1000000 in
theorem same_true (A B : Option Addr) (n c d : Nat) (ts : List TokV) (w : World) (ha : Reads4 w (.slice A n c) ts) (hb : Reads4 w (.slice B n d) ts) (hn : n ≤ maxLen) :
    Calls Tryd.prog 19 #[.slice A n c, .slice B n d] w fun e w' => e = .returned (.bool true) ∧ ∃ m, w' = w.drewN m := by
  unfold maxLen at hn
  go_enter Tryd.func19, Tryd.ntmps19
  go_wp2_with fail
  go_loopw [5] (fun i wr => ∃ k m : Nat, k ≤ n ∧ i = .int .i64 k ∧ wr = w.drewN m) (fun i _ => n - (intOf i).toNat)
  case atStart => exact ⟨0, 0, Nat.zero_le _, rfl, rfl⟩
  case round =>
    obtain ⟨k, m, hk, rfl, rfl⟩ := hrel
    by_cases hlt : k < n
    · obtain ⟨b, off, t, rfl, ht, a0, a1, a2, a3⟩ := reads4_cell ha k hlt
      obtain ⟨b', off', t', rfl, ht', b0, b1, b2, b3⟩ := reads4_cell hb k hlt
      obtain rfl : t = t' := by rw [ht] at ht'; exact Option.some.inj ht'
      clear ht ht' ha hb
      go_wp2_with fail
      go_quiet (fail)
      go_wp2
      go_roundw
      case rel => exact ⟨k + 1, _, by omega, by go_num, rfl⟩
      case measure => simp [intOf]; omega
    · go_wp2_with fail
      go_ret
      exact ⟨rfl, m, rfl⟩

set_option maxRecDepth 100000 in
set_option maxHeartbeats 1000000 in
theorem like_true (A B : Option Addr) (n c d : Nat) (ts us : List TokV) (w : World) (ha : Reads4 w (.slice A n c) ts) (hb : Reads4 w (.slice B n d) us) (hn : n ≤ maxLen)
    (hl : ts.map (fun t => (t.kind, t.text)) = us.map (fun t => (t.kind, t.text))) :
    Calls Tryd.prog 13 #[.slice A n c, .slice B n d] w fun e w' => e = .returned (.bool true) ∧ ∃ m, w' = w.drewN m := by
  unfold maxLen at hn
  have HL := Lib.hid hl
  clear hl
  go_enter Tryd.func13, Tryd.ntmps13
  go_wp2_with fail
  go_loopw [5] (fun i wr => ∃ k m : Nat, k ≤ n ∧ i = .int .i64 k ∧ wr = w.drewN m) (fun i _ => n - (intOf i).toNat)
  case atStart => exact ⟨0, 0, Nat.zero_le _, rfl, rfl⟩
  case round =>
    obtain ⟨k, m, hk, rfl, rfl⟩ := hrel
    by_cases hlt : k < n
    · obtain ⟨b, off, t, rfl, ht, a0, a1, a2, a3⟩ := reads4_cell ha k hlt
      obtain ⟨b', off', t', rfl, ht', b0, b1, b2, b3⟩ := reads4_cell hb k hlt
      have he : (t.kind, t.text) = (t'.kind, t'.text) := by
        have h1 := congrArg (fun l => l[k]?) HL.out
        simp only [List.getElem?_map, ht, ht', Option.map_some] at h1
        exact Option.some.inj h1
      rw [← (Prod.mk.inj he).1] at b0
      rw [← (Prod.mk.inj he).2] at b1
      clear ht ht' ha hb he a2 a3 b2 b3
      go_wp2_with fail
      go_quiet (fail)
      go_wp2
      go_roundw
      case rel => exact ⟨k + 1, _, by omega, by go_num, rfl⟩
      case measure => simp [intOf]; omega
    · go_wp2_with fail
      go_ret
      exact ⟨rfl, m, rfl⟩
end Go.Proofs.YtinobikikineiaaDoor
