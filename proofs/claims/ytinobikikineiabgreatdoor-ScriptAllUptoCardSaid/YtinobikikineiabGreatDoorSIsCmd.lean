/- The walk of isCommand. Conditions: the command's text has at most 2^63 - 1 bytes, its numbers are read in memory. -/
import Derived.Test.YtinobikikineiabGreatDoorSNums
import Derived.Test.YtinobikikineiabGreatDoorSTold
namespace Go.Proofs.YtinobikikineiabGreatDoor
open Go.RowKit Go.Shelf

theorem cmd_cells (w : World) (x y z : Value) : ∀ j u, ([x, y, z] : List Value)[j]? = some u → (w.alloc (.cells #[x, y, z] 52)).cell? ⟨w.heap.size, j, none⟩ = some u := by
  intro j u hu
  have hh : (w.alloc (.cells #[x, y, z] 52)).heap[w.heap.size]? = some (.cells #[x, y, z] 52 (0, 0)) := heap_alloc_new w _
  rw [cell_of_row _ _ j _ _ (0, 0) hh]
  simpa using hu
set_option maxHeartbeats 2000000 in
theorem isCommand_any (word text : ByteArray) (A : Option Addr) (n c : Nat) (l : List Int) (w : World) (hr : ReadsI w (.slice A n c) l) (hn : n ≤ maxLen) (ht : text.size ≤ 9223372036854775807) :
    Calls Tryz.prog 70 #[.agg #[.string word, .string text, .slice A n c]] w fun e w' => e = .returned (.bool (Sc.isCommand ⟨word.data.toList, text.data.toList, l⟩)) ∧ Below w.heap.size w w' := by
  have HE : Hid (Sc.isCommand ⟨word.data.toList, text.data.toList, l⟩ = (decide (Sc.wants word.data.toList ≠ 0) && Sc.isText (Sc.wants word.data.toList) text.data.toList && Sc.areNumbers (Sc.wants word.data.toList) l)) := rfl
  obtain ⟨k, hk⟩ : ∃ k, Sc.wants word.data.toList = k := ⟨_, rfl⟩
  have HK := Lib.hid hk
  obtain ⟨W, hW⟩ : ∃ W, w.alloc (.cells #[.string word, .string text, .slice A n c] 52) = W := ⟨_, rfl⟩
  have hb : Below w.heap.size w W := by rw [← hW]; exact (Below.refl _ _).alloc (Nat.le_refl _) _
  have q0 : W.cell? ⟨w.heap.size, 0, none⟩ = some (.string word) := by rw [← hW]; exact cmd_cells w _ _ _ 0 _ rfl
  have q1 : W.cell? ⟨w.heap.size, 1, none⟩ = some (.string text) := by rw [← hW]; exact cmd_cells w _ _ _ 1 _ rfl
  have q2 : W.cell? ⟨w.heap.size, 2, none⟩ = some (.slice A n c) := by rw [← hW]; exact cmd_cells w _ _ _ 2 _ rfl
  have hR : ReadsI W (.slice A n c) l := hr.below hb
  have hwz : w.heap.size < W.heap.size := by rw [← hW]; simp
  clear hr hk
  by_cases h0 : k = 0
  · have t0 : ((k : Int) != 0) = false := by subst h0; rfl
    have HF : Hid (Sc.isCommand ⟨word.data.toList, text.data.toList, l⟩ = false) := by show _ = _; rw [HE.out, HK.out, h0]; rfl
    clear h0
    go_enter Tryz.func70, Tryz.ntmps70
    go_wp2_with (first | (go_at_call 81; refine (wants_any word _).mono ?_; rintro e w' ⟨rfl, rfl⟩; rw [HK.out]))
    go_ret
    exact ⟨by rw [HF.out]; rfl, hb⟩
  · have t0 : ((k : Int) != 0) = true := by rw [bne_iff_ne]; omega
    have HF : Hid (Sc.isCommand ⟨word.data.toList, text.data.toList, l⟩ = (Sc.isText k text.data.toList && Sc.areNumbers k l)) := by show _ = _; rw [HE.out, HK.out, decide_eq_true h0]; rfl
    clear h0
    cases hT : Sc.isText k text.data.toList with
    | false =>
      have HT := Lib.hid hT
      clear hT
      go_enter Tryz.func70, Tryz.ntmps70
      go_wp2_with (first
        | (go_at_call 81; refine (wants_any word _).mono ?_; rintro e w' ⟨rfl, rfl⟩; rw [HK.out])
        | (go_at_call 113; refine (isText_any k text _ ht).mono ?_; rintro e w1 ⟨rfl, hb1⟩; rw [HT.out]))
      go_ret
      exact ⟨by rw [HF.out, HT.out]; rfl, hb.trans (hb1.mono hb.size)⟩
    | true =>
      have HT := Lib.hid hT
      clear hT
      go_enter Tryz.func70, Tryz.ntmps70
      go_wp2_with (first
        | (go_at_call 81; refine (wants_any word _).mono ?_; rintro e w' ⟨rfl, rfl⟩; rw [HK.out])
        | (go_at_call 113; refine (isText_any k text _ ht).mono ?_; rintro e w1 ⟨rfl, hb1⟩; rw [HT.out]; obtain ⟨hc1, hf1⟩ := bcell hb1)
        | (go_at_call 114; refine (areNumbers_any k A n c l _ (hR.below hb1) hn).mono ?_; rintro e w2 ⟨rfl, rfl⟩))
      go_ret
      exact ⟨by rw [HF.out, HT.out]; rfl, hb.trans (hb1.mono hb.size)⟩
end Go.Proofs.YtinobikikineiabGreatDoor
