/- The walks of areNumbers and what it calls. Conditions: the numbers' list is read in memory, and has at most maxLen elements. -/
import Derived.Test.YtinobikikineiabGreatDoorSText
namespace Go.Proofs.YtinobikikineiabGreatDoor
open Go.RowKit Go.Shelf

/-- A slice value that reads as these numbers. -/
def ReadsI (w : World) (v : Value) (l : List Int) : Prop :=
  ∃ (A : Option Addr) (c : Nat), v = .slice A l.length c ∧ l.length ≤ c ∧ (l ≠ [] → ∃ b off, A = some ⟨b, off, none⟩ ∧ ∀ (j : Nat) (z : Int), l[j]? = some z → w.cell? ⟨b, off + j, none⟩ = some (.int .i64 z))
theorem ReadsI.below {w w' : World} {v : Value} {l : List Int} (h : ReadsI w v l) (hb : Below w.heap.size w w') : ReadsI w' v l := by
  obtain ⟨A, c, hv, hc, h⟩ := h
  refine ⟨A, c, hv, hc, fun hne => ?_⟩
  obtain ⟨b, off, hA, hcell⟩ := h hne
  exact ⟨b, off, hA, fun j z hz => (hb.cell (p := ⟨b, off + j, none⟩) (cell_lt (hcell j z hz))).trans (hcell j z hz)⟩
theorem ReadsI.drewN {w : World} {v : Value} {l : List Int} (h : ReadsI w v l) (n : Nat) : ReadsI (w.drewN n) v l := h
theorem ReadsI.alloc {w : World} {v : Value} {l : List Int} (h : ReadsI w v l) (o : Obj) : ReadsI (w.alloc o) v l := h.below ((Below.refl _ w).alloc (Nat.le_refl _) o)
theorem ReadsI.nil (w : World) : ReadsI w (.slice none 0 0) [] := ⟨none, 0, rfl, Nat.le_refl _, fun h => absurd rfl h⟩
theorem ReadsI.len {w : World} {A : Option Addr} {n c : Nat} {l : List Int} (h : ReadsI w (.slice A n c) l) : l.length = n := by
  obtain ⟨A', c', hv, _⟩ := h
  injection hv with h1 h2 h3
  exact h2.symm
theorem ReadsI.cell {w : World} {A : Option Addr} {n c : Nat} {l : List Int} (h : ReadsI w (.slice A n c) l) (k : Nat) (hk : k < n) :
    ∃ b off z, A = some ⟨b, off, none⟩ ∧ l[k]? = some z ∧ w.cell? ⟨b, off + k, none⟩ = some (.int .i64 z) := by
  obtain ⟨A', c', hv, _, h⟩ := h
  injection hv with h1 h2 h3
  subst h1; subst h2
  have hne : l ≠ [] := by intro e; subst e; simp at hk
  obtain ⟨b, off, hA, hc⟩ := h hne
  exact ⟨b, off, l[k], hA, List.getElem?_eq_getElem hk, hc _ _ (List.getElem?_eq_getElem hk)⟩

/-- A number that no text has. -/
def badN (z : Int) : Bool := decide (z < 0) || decide (1073741824 < z)
set_option maxHeartbeats 400000 in
theorem badN_any (z : Int) (w : World) :
    Calls Tryz.prog 136 #[.int .i64 z] w fun e w' => e = .returned (.bool (badN z)) ∧ w = w' := by
  unfold badN
  by_cases h1 : z < 0
  · go_enter Tryz.func136, Tryz.ntmps136
    go_wp2
    go_ret
    exact ⟨by simp [h1], rfl⟩
  · have t1 : decide (z < 0) = false := decide_eq_false h1
    go_enter Tryz.func136, Tryz.ntmps136
    go_wp2
    go_ret
    exact ⟨by simp, rfl⟩
theorem any_take {l : List Int} {k : Nat} {z : Int} (hz : l[k]? = some z) (hp : (l.take k).any badN = false) (hb : badN z = false) : (l.take (k + 1)).any badN = false := by
  rw [List.take_add_one, hz, List.any_append, hp]; simpa using hb
theorem any_hit {l : List Int} {k : Nat} {z : Int} (hz : l[k]? = some z) (hb : badN z = true) : l.any badN = true := by
  rw [List.any_eq_true]; exact ⟨z, List.mem_of_getElem? hz, hb⟩
def IdxEnds (l : List Int) (w : World) (e : Ending) (w' : World) : Prop := ∃ z : Int, e = .returned (.int .i64 z) ∧ decide (0 ≤ z) = l.any badN ∧ w = w'
set_option maxHeartbeats 1000000 in
theorem indexFunc_any (A : Option Addr) (n c : Nat) (l : List Int) (w : World) (hr : ReadsI w (.slice A n c) l) (hn : n ≤ maxLen) :
    Calls Tryz.prog 149 #[.slice A n c, .func (.func 136) #[] #[]] w (IdxEnds l w) := by
  unfold maxLen at hn
  have hl := Lib.hid hr.len
  go_enter Tryz.func149, Tryz.ntmps149
  go_wp2_with fail
  go_loop [8] (fun i => ∃ k : Nat, k ≤ n ∧ i = .int .i64 k ∧ (l.take k).any badN = false) (fun i => n - (intOf i).toNat)
  case atStart => exact ⟨0, Nat.zero_le _, rfl, by simp⟩
  case round =>
    obtain ⟨k, hk, rfl, hp⟩ := hrel
    have HP := Lib.hid hp
    clear hp
    by_cases hlt : k < n
    · obtain ⟨b, off, z, rfl, hz, hcell⟩ := hr.cell k hlt
      have HZ := Lib.hid hz
      clear hz hr
      cases hb : badN z with
      | true =>
        have HB := Lib.hid hb
        clear hb
        go_wp2_with (first | (go_at_call 136; refine (badN_any z _).mono ?_; rintro e w' ⟨rfl, rfl⟩; rw [HB.out]))
        go_ret
        exact ⟨_, rfl, by rw [any_hit HZ.out HB.out]; simp, rfl⟩
      | false =>
        have HB := Lib.hid hb
        clear hb
        go_wp2_with (first | (go_at_call 136; refine (badN_any z _).mono ?_; rintro e w' ⟨rfl, rfl⟩; rw [HB.out]))
        go_round
        case rel => exact ⟨k + 1, by omega, by go_num, any_take HZ.out HP.out HB.out⟩
        case measure => simp [intOf]; omega
    · go_wp2_with fail
      go_ret
      refine ⟨_, rfl, ?_, rfl⟩
      have := HP.out
      rw [List.take_of_length_le (by rw [hl.out]; omega)] at this
      rw [this]; rfl
set_option maxHeartbeats 1000000 in
theorem containsFunc_any (A : Option Addr) (n c : Nat) (l : List Int) (w : World) (hr : ReadsI w (.slice A n c) l) (hn : n ≤ maxLen) :
    Calls Tryz.prog 135 #[.slice A n c, .func (.func 136) #[] #[]] w fun e w' => e = .returned (.bool (l.any badN)) ∧ w = w' := by
  go_enter Tryz.func135, Tryz.ntmps135
  go_wp2_with (first | (go_at_call 149; refine (indexFunc_any A n c l _ hr hn).mono ?_; rintro e w' ⟨z, rfl, hz, rfl⟩; have HZ := Lib.hid hz; clear hz))
  go_ret
  exact ⟨by rw [← HZ.out]; rfl, rfl⟩
theorem areNumbers_eq (want : Nat) (l : List Int) : Sc.areNumbers want l = (decide (l.length = Sc.many want) && !l.any badN) := by
  unfold Sc.areNumbers
  congr 1
  induction l with
  | nil => rfl
  | cons z l ih =>
    rw [List.all_cons, List.any_cons, Bool.not_or, ih]
    congr 1
    unfold badN
    rw [Bool.eq_iff_iff]
    simp
set_option maxHeartbeats 1000000 in
theorem areNumbers_any (want : Nat) (A : Option Addr) (n c : Nat) (l : List Int) (w : World) (hr : ReadsI w (.slice A n c) l) (hn : n ≤ maxLen) :
    Calls Tryz.prog 114 #[.int .i64 (want : Int), .slice A n c] w fun e w' => e = .returned (.bool (Sc.areNumbers want l)) ∧ w = w' := by
  have HE := Lib.hid (areNumbers_eq want l)
  have hl := Lib.hid hr.len
  cases hm : decide (l.length = Sc.many want) with
  | false =>
    have hne : ((n : Int) == (Sc.many want : Int)) = false := by
      rw [beq_eq_false_iff_ne]
      have := of_decide_eq_false hm
      rw [hl.out] at this
      omega
    have HM := Lib.hid hm
    clear hm
    go_enter Tryz.func114, Tryz.ntmps114
    go_wp2_with (first | (go_at_call 80; refine (many_any want _).mono ?_; rintro e w' ⟨rfl, rfl⟩))
    go_ret
    exact ⟨by rw [HE.out, HM.out]; rfl, rfl⟩
  | true =>
    have hne : ((n : Int) == (Sc.many want : Int)) = true := by
      rw [beq_iff_eq]
      have := of_decide_eq_true hm
      rw [hl.out] at this
      omega
    have HM := Lib.hid hm
    clear hm
    cases ha : l.any badN
    all_goals
      have HA := Lib.hid ha
      clear ha
      go_enter Tryz.func114, Tryz.ntmps114
      go_wp2_with (first
        | (go_at_call 80; refine (many_any want _).mono ?_; rintro e w' ⟨rfl, rfl⟩)
        | (go_at_call 135; refine (containsFunc_any A n c l _ hr hn).mono ?_; rintro e w' ⟨rfl, rfl⟩; rw [HA.out]))
      go_ret
      exact ⟨by rw [HE.out, HM.out, HA.out]; rfl, rfl⟩
end Go.Proofs.YtinobikikineiabGreatDoor
