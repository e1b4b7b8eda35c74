/- The walks of 'SameLines' at rows that are alike and of the law LexisLines: for every list of words it returns true. Condition: the two error variables of lexis lie as the program lays them. -/
import Derived.Test.YtinobikikineiaaDoorRefLines
import Derived.Test.YtinobikikineiaaDoorTold
namespace Go.Proofs.YtinobikikineiaaDoor
open Go.RowKit Go.Shelf

namespace Lx
theorem linesGo_sizes (ts : List TokV) : ∀ (out : List (List TokV)) (row : List TokV) (N : Nat), (∀ r ∈ out, r.length ≤ N) → row.length + ts.length ≤ N → (∀ r ∈ linesGo out row ts, r.length ≤ N) ∧ (linesGo out row ts).length ≤ out.length + ts.length + 1 := by
  induction ts with
  | nil =>
    intro out row N ho hr
    simp only [linesGo]
    split
    · exact ⟨ho, by omega⟩
    · refine ⟨fun r hm => ?_, by simp⟩
      rcases List.mem_append.1 hm with h | h
      · exact ho r h
      · rw [List.mem_singleton] at h; subst h; simp at hr; omega
  | cons t ts ih =>
    intro out row N ho hr
    rw [List.length_cons] at hr
    simp only [linesGo]
    split
    · obtain ⟨h1, h2⟩ := ih (out ++ [row]) [] N (fun r hm => by
        rcases List.mem_append.1 hm with h | h
        · exact ho r h
        · rw [List.mem_singleton] at h; subst h; omega) (by simp; omega)
      exact ⟨h1, by rw [List.length_append] at h2; simp at h2; rw [List.length_cons]; omega⟩
    · obtain ⟨h1, h2⟩ := ih out (row ++ [t]) N ho (by rw [List.length_append]; simp; omega)
      exact ⟨h1, by rw [List.length_cons]; omega⟩
end Lx

theorem outRows_cell {W : World} {base hi n c : Nat} {A : Option Addr} {rows : List (List TokV)} (h : OutRows W base hi (.slice A n c) rows) (k : Nat) (hk : k < n) :
    ∃ g r A1 c1, A = some ⟨g, 0, none⟩ ∧ rows[k]? = some r ∧ W.cell? ⟨g, k, none⟩ = some (.slice A1 r.length c1) ∧ Reads4 W (.slice A1 r.length c1) r := by
  obtain ⟨us, ⟨hl, ⟨hv, _⟩ | ⟨g, cap, cur, hv, _, hh, hc, _, hs, ht⟩⟩, h2⟩ := h
  · injection hv with _ h3 _; omega
  · injection hv with h1 h3 h4
    obtain ⟨r, hr⟩ : ∃ r, rows[k]? = some r := ⟨_, List.getElem?_eq_getElem (by omega)⟩
    obtain ⟨u, hu, hin⟩ := h2 k r hr
    have hR := hin.reads
    obtain ⟨A1, c1, rfl, _, _⟩ := hin
    refine ⟨g, r, A1, c1, h1, hr, ?_, hR⟩
    rw [cell_of_row W g k cur _ _ hh, ← Array.getElem?_toList, ← hu, ← ht, List.getElem?_take_of_lt (by omega)]
theorem outRows_slice {W : World} {base hi : Nat} {v : Value} {rows : List (List TokV)} (h : OutRows W base hi v rows) : ∃ A c, v = .slice A rows.length c := by
  obtain ⟨us, h1, _⟩ := h
  obtain ⟨A, cap, hv⟩ := own_slice h1
  exact ⟨A, cap, hv⟩

set_option maxRecDepth 100000 in
set_option maxHeartbeats 2000000 in
theorem sameLines_true (A B : Option Addr) (n c d b1 b2 i1 i2 : Nat) (rows : List (List TokV)) (w : World) (ha : OutRows w b1 i1 (.slice A n c) rows) (hb : OutRows w b2 i2 (.slice B n d) rows) (hn : n ≤ 6000) (hs : ∀ r ∈ rows, r.length ≤ 6000) :
    Calls Tryd.prog 14 #[.slice A n c, .slice B n d] w fun e w' => e = .returned (.bool true) ∧ ∃ m, w' = w.drewN m := by
  have HS := Lib.hid hs
  clear hs
  go_enter Tryd.func14, Tryd.ntmps14
  go_wp2_with fail
  go_loopw [5] (fun i wr => ∃ k m : Nat, k ≤ n ∧ i = .int .i64 k ∧ wr = w.drewN m) (fun i _ => n - (intOf i).toNat)
  case atStart => exact ⟨0, 0, Nat.zero_le _, rfl, rfl⟩
  case round =>
    obtain ⟨k, m, hk, rfl, hwr⟩ := hrel
    by_cases hlt : k < n
    · obtain ⟨g, r, A1, c1, rfl, hr, a0, hR⟩ := outRows_cell ha k hlt
      obtain ⟨g', r', A2, c2, rfl, hr', b0, hR'⟩ := outRows_cell hb k hlt
      obtain rfl : r = r' := by rw [hr] at hr'; exact Option.some.inj hr'
      have hrl := HS.out r (List.mem_of_getElem? hr)
      have x0 : wr.cell? ⟨g, k, none⟩ = some (.slice A1 r.length c1) := by rw [hwr]; exact a0
      have y0 : wr.cell? ⟨g', k, none⟩ = some (.slice A2 r.length c2) := by rw [hwr]; exact b0
      have X := Lib.hid (show Reads4 wr (.slice A1 r.length c1) r by rw [hwr]; exact hR)
      have Y := Lib.hid (show Reads4 wr (.slice A2 r.length c2) r by rw [hwr]; exact hR')
      have HW := Lib.hid hwr
      clear hr hr' ha hb a0 b0 hR hR' hwr
      go_wp2_with fail
      go_quiet ((go_at_call 19; exact Calls.quiet_of (same_true _ _ _ _ _ _ _ (X.out.drewN _) (Y.out.drewN _) (by unfold maxLen; omega))))
      go_wp2
      go_roundw
      case rel => exact ⟨k + 1, _, by omega, by go_num, by rw [HW.out, World.drewN_drewN]⟩
      case measure => simp [intOf]; omega
    · go_wp2_with fail
      go_ret
      exact ⟨rfl, m, rfl⟩

set_option maxRecDepth 100000 in
set_option maxHeartbeats 2000000 in
theorem lines_true (A : Option Addr) (n c : Nat) (ts : List TokV) (E : Errs) (w : World) (hE : Laid E two w) (hr : Reads4 w (.slice A n c) ts) (hA : A = none → n = 0 ∧ c = 0) (hn : n ≤ maxLen) :
    Calls Tryd.prog 4 #[.slice A n c] w fun e w' => e = .returned (.bool true) ∧ Below w.heap.size w w' := by
  unfold maxLen at hn
  by_cases h : 5000 < n
  · go_enter Tryd.func4, Tryd.ntmps4
    go_wp2_with (first | (go_at_call 12; refine (alive_any E _ hE).mono ?_; rintro e w1 ⟨rfl, hb1⟩))
    go_ret
    exact ⟨rfl, hb1⟩
  · have hl := reads4_len hr
    obtain ⟨hs1, hs2⟩ := Lx.linesGo_sizes ts [] [] 6000 (fun r h => by cases h) (by simp; omega)
    rw [List.length_nil, Nat.zero_add] at hs2
    have hrn : (Lx.linesGo [] [] ts).length ≤ 6000 := by omega
    have HS := Lib.hid hs1
    have HA := Lib.hid hA
    clear hs1 hs2 hl hA
    go_enter Tryd.func4, Tryd.ntmps4
    go_wp2_with (first
      | (go_at_call 12; refine (alive_any E _ hE).mono ?_; rintro e w1 ⟨rfl, hb1⟩)
      | (go_at_call 15; refine (lexLines_any A n c ts _ (hr.below hb1) (by omega) HA.out).mono ?_; rintro e w2 ⟨v, rfl, hb2, ho2⟩; obtain ⟨A2, c2, rfl⟩ := outRows_slice ho2)
      | (go_at_call 16; refine (refLines_any A n c ts _ ((hr.below hb1).below hb2) (by omega)).mono ?_; rintro e w3 ⟨v, rfl, hb3, ho3⟩; obtain ⟨A3, c3, rfl⟩ := outRows_slice ho3)
      | (go_at_call 14; refine (sameLines_true _ _ _ _ _ _ _ _ _ _ _ (ho2.below hb3 hb3.size) ho3 hrn HS.out).mono ?_; rintro e w4 ⟨rfl, m, rfl⟩))
    go_ret
    have hb12 := hb1.trans (hb2.mono hb1.size)
    exact ⟨rfl, below_drewN' (hb12.trans (hb3.mono hb12.size)) m⟩
end Go.Proofs.YtinobikikineiaaDoor
