/- The walks of the Book's marks and of the looks at its lists. Conditions: the lists are short. -/
import Derived.Test.YtinobikikineiabGreatDoorSBookInts
import Derived.Deep.RegionHeld3
namespace Go.Proofs.YtinobikikineiabGreatDoor
open Go.RowKit Go.Shelf

/-- The marks of the list i, from a place on, so many. -/
def marks (i s n : Nat) : List Int := (List.range n).map fun (k : Nat) => -1000000 * (i : Int) - ((s : Int) + k) - 7
theorem marks_length (i s n : Nat) : (marks i s n).length = n := by simp [marks]
theorem marks_succ (i s n : Nat) : marks i s (n + 1) = marks i s n ++ [-1000000 * (i : Int) - ((s : Int) + n) - 7] := by simp [marks, List.range_succ]
theorem marks_add (i s n m : Nat) : marks i s (n + m) = marks i s n ++ marks i (s + n) m := by
  induction m with
  | zero => simp [marks]
  | succ m ih =>
    rw [← Nat.add_assoc, marks_succ, ih, marks_succ, List.append_assoc]
    congr 3
    omega
theorem marks_get (i s n k : Nat) (hk : k < n) : (marks i s n)[k]? = some (-1000000 * (i : Int) - ((s : Int) + k) - 7) := by simp [marks, hk]
theorem ReadsI.drewN' {w : World} {v : Value} {l : List Int} (h : ReadsI w v l) (n : Nat) : ReadsI (w.drewN n) v l := h
/-- What the loop holds (kept shut). -/
def MarkAt (w : World) (i s n : Nat) (out k : Value) (wr : World) : Prop :=
  ∃ (j : Nat) (A : Option Addr) (cap : Nat), j ≤ n ∧ k = .int .i64 ((s : Int) + j) ∧ out = .slice A j cap ∧ OwnI wr w.heap.size (.slice A j cap) (marks i s j) ∧ Below w.heap.size w wr

set_option maxRecDepth 100000 in
set_option maxHeartbeats 2000000 in
theorem markInts_any (i s n : Nat) (hi : i ≤ 400) (hs : s ≤ 5000) (hn : n ≤ 5000) (w : World) :
    Calls Tryz.prog 102 #[.int .i64 i, .int .i64 s, .int .i64 n] w fun e w' => ∃ A c, e = .returned (.slice A n c) ∧ Below w.heap.size w w' ∧ OwnI w' w.heap.size (.slice A n c) (marks i s n) := by
  obtain ⟨i0, ii, iz0, iz1, iz2⟩ := info_parts infoInt
  go_enter Tryz.func102, Tryz.ntmps102
  go_wp2_with fail
  go_loopw [7, 8] (fun out k wr => MarkAt w i s n out k wr) (fun _ k _ => s + n - (intOf k).toNat)
  case atStart => exact ⟨0, none, 0, Nat.zero_le _, by simp, rfl, World.ownsRow_nil _ _ _ _, Below.refl _ _⟩
  case round =>
    obtain ⟨j, A, cap, hj, rfl, rfl, hown, hbw⟩ := hrel
    have hown' := hown
    unfold OwnI at hown'
    rw [marks_length] at hown'
    by_cases hlt : j < n
    · go_wp2_with (first
        | (at_builtin; refine wpList_append_own _ rfl _ _ 50 rfl w.heap.size 3 i0 _ 1 8 Tryz.underlying50 ii iz0 iz1 iz2 rfl (by decide) (.slice A j cap) j ((marks i s j).map (Value.int .i64)) rfl (hown'.alloc _) ⟨wr.heap.size, 0, none⟩ 1 1 [.int .i64 (-1000000 * (i : Int) - ((s : Int) + j) - 7)] rfl rfl (new_cells wr [.int .i64 (-1000000 * (i : Int) - ((s : Int) + j) - 7)] 3) (fun u hu => by rw [List.mem_singleton] at hu; subst hu; rfl) (by unfold maxLen; omega) (by omega) (by have := hbw.size; simp; omega) ?_;
            intro v2 w2 hown2 hg2 _; obtain ⟨A2, cap2, rfl⟩ := own_slice hown2))
      go_roundw
      case rel => exact ⟨j + 1, A2, cap2, by omega, by go_num, rfl, by unfold OwnI; rw [marks_length, marks_succ, List.map_append]; exact hown2, below_append (hbw.alloc hbw.size _) (hown'.alloc _) (Nat.le_refl _) (by have := hbw.size; simp; omega) hg2⟩
      case measure => simp [intOf]; omega
    · obtain rfl : j = n := by omega
      go_wp2_with fail
      go_ret
      exact ⟨A, cap, rfl, hbw, hown⟩

theorem row_cell {W : World} {base N c : Nat} {A : Option Addr} {us : List Value} (h : W.ownsRow base 50 1 (.slice A N c) N us) (k : Nat) (hk : k < N) : ∃ g u, A = some ⟨g, 0, none⟩ ∧ base ≤ g ∧ us[k]? = some u ∧ W.cell? ⟨g, k, none⟩ = some u := by
  obtain ⟨hl, ⟨hv, hn⟩ | ⟨g, cap', cur, hv, hg, hh, hc, _, hsz, ht⟩⟩ := h
  · omega
  · injection hv with h1 h2 h3
    subst h1
    have hlen : us.length = N := by simpa using hl
    refine ⟨g, us[k], rfl, hg, List.getElem?_eq_getElem (by omega), ?_⟩
    rw [cell_of_row W g k cur _ _ hh, ← List.getElem?_eq_getElem (by omega), ← ht, List.getElem?_take_of_lt (by omega), Array.getElem?_toList]

set_option maxRecDepth 100000 in
set_option maxHeartbeats 2000000 in
theorem still_any (base B : Nat) (I X : Value) (us vs : List Value) (ls : List (List Int)) (W : World) (h : BookAt W base B I X us vs ls) (hl : ls.length ≤ 400) (hn : ∀ l ∈ ls, l.length ≤ 1000) :
    Calls Tryz.prog 26 #[.pointer (some ⟨B, 0, none⟩)] W fun e w' => e = .returned (.bool true) ∧ ∃ m, w' = W.drewN m := by
  obtain ⟨N, hN⟩ : ∃ N, ls.length = N := ⟨_, rfl⟩
  have hI := h.oi
  have hX := h.ox
  rw [hN] at hI hX hl
  obtain ⟨A0, c0, rfl⟩ := own_slice hI
  obtain ⟨A1, c1, rfl⟩ := own_slice hX
  have p0 : W.cell? ⟨B, 0, none⟩ = some (.slice A0 N c0) := by rw [h.cells]; rfl
  have p1 : W.cell? ⟨B, 1, none⟩ = some (.slice A1 N c1) := by rw [h.cells]; rfl
  have H := Lib.hid h
  have HNN := Lib.hid hn
  have HN := Lib.hid hN
  clear h hn hN
  go_enter Tryz.func26, Tryz.ntmps26
  go_wp2_with fail
  go_loopw [3] (fun i wr => ∃ k m : Nat, k ≤ N ∧ i = .int .i64 k ∧ wr = W.drewN m) (fun i _ => N - (intOf i).toNat)
  case atStart => exact ⟨0, 0, Nat.zero_le _, rfl, rfl⟩
  case round =>
    obtain ⟨k, m, hk, rfl, hwr⟩ := hrel
    have r0 : wr.cell? ⟨B, 0, none⟩ = some (.slice A0 N c0) := by rw [hwr]; exact p0
    have r1 : wr.cell? ⟨B, 1, none⟩ = some (.slice A1 N c1) := by rw [hwr]; exact p1
    by_cases hlt : k < N
    · obtain ⟨g, u, rfl, _, hu, z0⟩ := row_cell hI k hlt
      obtain ⟨g', v, rfl, _, hv, z1⟩ := row_cell hX k hlt
      obtain ⟨l, hlk⟩ : ∃ l, ls[k]? = some l := ⟨_, List.getElem?_eq_getElem (by rw [HN.out]; exact hlt)⟩
      obtain ⟨u', hu', ou⟩ := H.out.ru k _ hlk
      obtain ⟨v', hv', ov⟩ := H.out.rv k _ hlk
      obtain rfl : u = u' := by rw [hu] at hu'; exact Option.some.inj hu'
      obtain rfl : v = v' := by rw [hv] at hv'; exact Option.some.inj hv'
      obtain ⟨Au, cu, rfl⟩ := ou.slice
      obtain ⟨Av, cv, rfl⟩ := ov.slice
      have y0 : wr.cell? ⟨g, k, none⟩ = some (.slice Au l.length cu) := by rw [hwr]; exact z0
      have y1 : wr.cell? ⟨g', k, none⟩ = some (.slice Av l.length cv) := by rw [hwr]; exact z1
      have R0 := Lib.hid (show ReadsI wr (.slice Au l.length cu) l by rw [hwr]; exact ou.row.reads)
      have R1 := Lib.hid (show ReadsI wr (.slice Av l.length cv) l by rw [hwr]; exact ov.row.reads)
      have hlz : Hid (l.length ≤ maxLen) := by show _ ≤ _; have := HNN.out l (List.mem_of_getElem? hlk); unfold maxLen; omega
      have HW := Lib.hid hwr
      clear hu hv hu' hv' ou ov z0 z1 hlk hwr hI hX
      go_wp2_with fail
      go_quiet ((go_at_call 25; exact Calls.quiet_of (sameInts_true _ _ _ _ _ _ _ (ReadsI.drewN' R0.out _) (ReadsI.drewN' R1.out _) hlz.out)))
      go_wp2_with fail
      go_roundw
      case rel => exact ⟨k + 1, _, by omega, by go_num, by rw [HW.out, World.drewN_drewN]⟩
      case measure => simp [intOf]; omega
    · go_wp2_with fail
      go_ret
      exact ⟨rfl, m, by first | rfl | exact hwr⟩

/-- What a list of lists of marks is. -/
def Marked (ls : List (List Int)) : Prop := ∀ (j : Nat) (l : List Int), ls[j]? = some l → l = marks j 0 l.length ∧ l.length ≤ 2000
set_option maxRecDepth 100000 in
set_option maxHeartbeats 2000000 in
theorem marked_any (base N c : Nat) (A : Option Addr) (us : List Value) (ls : List (List Int)) (W : World) (hI : W.ownsRow base 50 1 (.slice A N c) N us) (hN : ls.length = N) (hl : N ≤ 400) (hr : ∀ (j : Nat) (l : List Int), ls[j]? = some l → ∃ u, us[j]? = some u ∧ OwnI W base u l) (hm : Marked ls) :
    Calls Tryz.prog 59 #[.slice A N c] W fun e w' => e = .returned (.bool true) ∧ Below W.heap.size W w' := by
  have HN := Lib.hid hN
  have HR := Lib.hid hr
  have HM := Lib.hid hm
  clear hN hr hm
  go_enter Tryz.func59, Tryz.ntmps59
  go_wp2_with fail
  go_loopw [3] (fun i wr => ∃ k : Nat, k ≤ N ∧ i = .int .i64 k ∧ Below W.heap.size W wr) (fun i _ => N - (intOf i).toNat)
  case atStart => exact ⟨0, Nat.zero_le _, rfl, Below.refl _ _⟩
  case round =>
    obtain ⟨k, hk, rfl, hbw⟩ := hrel
    by_cases hlt : k < N
    · obtain ⟨g, u, rfl, _, hu, z0⟩ := row_cell hI k hlt
      obtain ⟨l, hlk⟩ : ∃ l, ls[k]? = some l := ⟨_, List.getElem?_eq_getElem (by rw [HN.out]; exact hlt)⟩
      obtain ⟨u', hu', ou⟩ := HR.out k _ hlk
      obtain rfl : u = u' := by rw [hu] at hu'; exact Option.some.inj hu'
      obtain ⟨Au, cu, rfl⟩ := ou.slice
      obtain ⟨hmk, hml⟩ := HM.out k l hlk
      have y0 : wr.cell? ⟨g, k, none⟩ = some (.slice Au l.length cu) := (hbw.cell (p := ⟨g, k, none⟩) (cell_lt z0)).trans z0
      have R0 := Lib.hid (ou.row.reads.below hbw)
      have HMK := Lib.hid hmk
      clear hu hu' ou z0 hlk hmk hI
      have hS : wr.cell? ⟨g, k, none⟩ = some (.slice Au l.length cu) ∧ Below W.heap.size W wr := ⟨y0, hbw⟩
      go_wp2_with fail
      go_region_held3 (fun x => x.cell? ⟨g, k, none⟩ = some (.slice Au l.length cu) ∧ Below W.heap.size W x)
        (first | exact hS | exact ⟨hS.1, below_drewN' hS.2 1⟩ | exact hS2 | assumption)
        (first
          | (go_at_call 102; refine (markInts_any k 0 l.length (by omega) (by omega) (by omega) _).mono ?_; rintro e w2 ⟨A2, c2, rfl, hb2, ho2⟩;
              have hS2 : w2.cell? ⟨g, k, none⟩ = some (.slice Au l.length cu) ∧ Below W.heap.size W w2 := ⟨(hb2.cell (p := ⟨g, k, none⟩) (cell_lt hS.1)).trans hS.1, (below_drewN' hS.2 1).trans (hb2.mono hS.2.size)⟩;
              have R1 := Lib.hid (ReadsI.below (w := wr.drew) R0.out hb2); have R2 : Hid (ReadsI w2 (.slice A2 l.length c2) l) := (by have := ho2.row.reads; rw [← HMK.out] at this; exact this))
          | (go_at_call 25; refine (sameInts_true _ _ _ _ _ l _ R1.out R2.out (by unfold maxLen; omega)).mono ?_; rintro e w3 ⟨rfl, m3, rfl⟩; have hS3 : (w2.drewN m3).cell? ⟨g, k, none⟩ = some (.slice Au l.length cu) ∧ Below W.heap.size W (w2.drewN m3) := ⟨hS2.1, below_drewN' hS2.2 m3⟩))
      all_goals
        go_wp2
        go_roundw
        case rel => exact ⟨k + 1, by omega, by go_num, below_drewN' hS2.2 _⟩
        case measure => simp [intOf]; omega
    · go_wp2_with fail
      go_ret
      exact ⟨rfl, hbw⟩
end Go.Proofs.YtinobikikineiabGreatDoor
