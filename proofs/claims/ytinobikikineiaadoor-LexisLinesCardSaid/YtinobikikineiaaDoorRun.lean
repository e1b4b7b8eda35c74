/- The walk of lexis's 'run': it answers how many bytes the run has that a string begins with, and changes nothing. -/
import Derived.Test.YtinobikikineiaaDoorBytes
namespace Go.Proofs.YtinobikikineiaaDoor
open Go.RowKit

theorem bytes_get (s : ByteArray) (k : Nat) (h : k < s.size) : s.data.toList[k]? = some s[k] := by
  rw [Array.getElem?_toList, Array.getElem?_eq_getElem h]; rfl
theorem bytes_drop (s : ByteArray) (k : Nat) (h : k < s.size) : s.data.toList.drop k = s[k] :: s.data.toList.drop (k + 1) := by
  rw [List.drop_eq_getElem_cons (by simpa using h)]; rfl
theorem bytes_take (s : ByteArray) (k : Nat) (h : k < s.size) : s.data.toList.take (k + 1) = s.data.toList.take k ++ [s[k]] := by
  rw [List.take_succ_eq_append_getElem (by simpa using h)]; rfl
theorem bytes_size (s : ByteArray) : s.data.toList.length = s.size := by simp

namespace Lx
theorem run_go (l : List UInt8) (k : Nat) (c : UInt8) (hk : l[k]? = some c) (hp : (l.take k).all inRun = true) (hc : inRun c = true) : (l.take (k + 1)).all inRun = true := by
  rw [List.take_add_one, hk, List.all_append, hp]; simpa using hc
theorem run_at (l : List UInt8) (k : Nat) (c : UInt8) (hk : l[k]? = some c) (hp : (l.take k).all inRun = true) (hc : inRun c = false) : (run l).length = k := by
  have hlt : k < l.length := (List.getElem?_eq_some_iff.1 hk).1
  have hl : l = l.take k ++ c :: l.drop (k + 1) := by
    have := (List.getElem?_eq_some_iff.1 hk).2
    rw [← this, ← List.drop_eq_getElem_cons hlt, List.take_append_drop]
  unfold run
  rw [hl, List.takeWhile_append_of_pos (by simpa using hp), List.takeWhile_cons, if_neg (by simp [hc])]
  simp; omega
theorem run_end (l : List UInt8) (hp : (l.take l.length).all inRun = true) : (run l).length = l.length := by
  rw [List.take_length] at hp
  unfold run
  have := List.takeWhile_append_of_pos (p := inRun) (l₁ := l) (l₂ := []) (by simpa using hp)
  rw [List.append_nil] at this
  rw [this]; simp
end Lx

set_option maxHeartbeats 400000 in
theorem run_any (s : ByteArray) (w : World) (hs : s.size ≤ maxLen) :
    Calls Tryd.prog 43 #[.string s] w fun e w' => e = .returned (.int .i64 ((Lx.run s.data.toList).length : Int)) ∧ w = w' := by
  unfold maxLen at hs
  go_enter Tryd.func43, Tryd.ntmps43
  go_wp2_with fail
  go_loop [3] (fun i => ∃ k : Nat, k ≤ s.size ∧ i = .int .i64 k ∧ (s.data.toList.take k).all Lx.inRun = true) (fun i => s.size - (intOf i).toNat)
  case atStart => exact ⟨0, Nat.zero_le _, rfl, by simp⟩
  case round =>
    obtain ⟨k, hk, rfl, hp⟩ := hrel
    have HP := Lib.hid hp
    clear hp
    by_cases hlt : k < s.size
    · cases hc : Lx.inRun s[k] with
      | true =>
        have HC := Lib.hid hc
        clear hc
        go_wp2_with (first | (go_at_call 54; refine (inRun_any s[k] _).mono ?_; rintro e w' ⟨rfl, rfl⟩; rw [HC.out]))
        go_round
        case rel => exact ⟨k + 1, by omega, by go_num, Lx.run_go _ _ _ (bytes_get s k hlt) HP.out HC.out⟩
        case measure => simp [intOf]; omega
      | false =>
        have HC := Lib.hid hc
        clear hc
        go_wp2_with (first | (go_at_call 54; refine (inRun_any s[k] _).mono ?_; rintro e w' ⟨rfl, rfl⟩; rw [HC.out]))
        go_ret
        exact ⟨by rw [Lx.run_at _ _ _ (bytes_get s k hlt) HP.out HC.out]; rfl, rfl⟩
    · go_wp2_with fail
      go_ret
      obtain rfl : k = s.size := by omega
      exact ⟨by rw [Lx.run_end _ (by rw [bytes_size]; exact HP.out), bytes_size]; rfl, rfl⟩
end Go.Proofs.YtinobikikineiaaDoor
