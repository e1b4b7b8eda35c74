/- The walk of script's command: a line that says something, as the plain function reads it. Conditions: the line's size; the error variables lie as the program lays them. -/
import Derived.Test.YtinobikikineiabGreatDoorSIndexAny
import Derived.Test.YtinobikikineiabGreatDoorSIsCmd
import Derived.Test.YtinobikikineiabGreatDoorSNumber
import Derived.Deep.RegionWith
namespace Go.Proofs.YtinobikikineiabGreatDoor
open Go.RowKit Go.Shelf

theorem index_head (l : List UInt8) : (Lib.indexAny l [32, 9, 13] = -1 ∧ Sc.headW l = l ∧ Sc.tailW l = []) ∨ ∃ i : Nat, Lib.indexAny l [32, 9, 13] = (i : Int) ∧ i ≤ l.length ∧ Sc.headW l = l.take i ∧ Sc.tailW l = l.drop i := by
  have key : ∀ (i : Nat), i ≤ l.length → (∀ (j : Nat) (b : UInt8), j < i → l[j]? = some b → Sc.blank b = false) → (∀ b, l[i]? = some b → Sc.blank b = true) → Sc.headW l = l.take i ∧ Sc.tailW l = l.drop i := by
    intro i hi h1 h2
    have hh := Sc.headW_of (l.take i) (l.drop i) (fun c hc => by
      obtain ⟨j, hj⟩ := List.getElem?_of_mem hc
      have hlt := (List.getElem?_eq_some_iff.1 hj).1
      rw [List.length_take] at hlt
      rw [List.getElem?_take_of_lt (by omega)] at hj
      exact h1 j c (by omega) hj) (by
      cases hd : l.drop i with
      | nil => exact .inl rfl
      | cons c u =>
        refine .inr ⟨c, u, rfl, h2 c ?_⟩
        have := congrArg List.head? hd
        rwa [List.head?_drop] at this)
    rwa [List.take_append_drop] at hh
  by_cases h : ∃ i : Nat, i < l.length ∧ Lib.NoAny l [32, 9, 13] i ∧ ∃ b, l[i]? = some b ∧ Sc.blank b = true
  · obtain ⟨i, hi, hno, b, hb, hbl⟩ := h
    refine .inr ⟨i, Lib.indexAny_hit hno hb (by rw [Sc.set_blank]; exact hbl), by omega, ?_⟩
    exact key i (by omega) (fun j c hj hc => by have := hno j c hj hc; rwa [Sc.set_blank] at this) (fun c hc => by rw [hb] at hc; rw [← Option.some.inj hc]; exact hbl)
  · have hno : ∀ i : Nat, i ≤ l.length → Lib.NoAny l [32, 9, 13] i := by
      intro i
      induction i with
      | zero => intro _; exact Lib.NoAny.zero _ _
      | succ i ih =>
        intro hi
        have hn := ih (by omega)
        obtain ⟨b, hb⟩ : ∃ b, l[i]? = some b := ⟨_, List.getElem?_eq_getElem (by omega)⟩
        refine hn.succ hb ?_
        cases hc : ([32, 9, 13] : List UInt8).contains b with
        | false => rfl
        | true => rw [Sc.set_blank] at hc; exact absurd ⟨i, by omega, hn, b, hb, hc⟩ h
    have hl := hno l.length (Nat.le_refl _)
    obtain ⟨h1, h2⟩ := key l.length (Nat.le_refl _) (fun j c hj hc => by have := hl j c hj hc; rwa [Sc.set_blank] at this) (fun b hb => by have := (List.getElem?_eq_some_iff.1 hb).1; omega)
    exact .inl ⟨Lib.indexAny_none hl, by rw [h1, List.take_length], by rw [h2, List.drop_length]⟩

theorem set_block {W : World} {k i : Nat} {cs : Array Value} {t : TypeId} (h : W.heap[k]? = some (.cells cs t (0, 0))) (v : Value) : (W.setCell ⟨k, i, none⟩ v).heap[k]? = some (.cells (cs.setIfInBounds i v) t (0, 0)) := by
  simp [World.setCell, Array.getElem?_modify, h]
theorem set_far {W : World} {b i k : Nat} {v : Value} {o : Obj} (h : W.heap[k]? = some o) (hk : k ≠ b) : (W.setCell ⟨b, i, none⟩ v).heap[k]? = some o := (Below.heap_setCell W ⟨b, i, none⟩ v k hk).trans h
theorem cell_keep {W W' : World} (hb : Below W.heap.size W W') {b o : Nat} {v : Value} (h : W.cell? ⟨b, o, none⟩ = some v) : W'.cell? ⟨b, o, none⟩ = some v := (hb.cell (p := ⟨b, o, none⟩) (cell_lt h)).trans h
theorem frozen_keep {W W' : World} (hb : Below W.heap.size W W') {b o : Nat} {v : Value} (h : W.cell? ⟨b, o, none⟩ = some v) (hf : W.frozen? ⟨b, o, none⟩ = false) : W'.frozen? ⟨b, o, none⟩ = false := (hb.frozen (p := ⟨b, o, none⟩) (cell_lt h)).trans hf
theorem lt_of {W : World} {k : Nat} {o : Obj} (h : W.heap[k]? = some o) : k < W.heap.size := (Array.getElem?_eq_some_iff.1 h).1
theorem keep {W W' : World} {k : Nat} {o : Obj} (h : W.heap[k]? = some o) (hb : Below W.heap.size W W') : W'.heap[k]? = some o := (hb.block k (lt_of h)).trans h
/-- What IndexAny tells of a line, and the two pieces. -/
theorem index_two (s : ByteArray) : ∃ (k : Nat) (word : ByteArray), k ≤ s.size ∧ (Lib.indexAny s.data.toList [32, 9, 13] = (k : Int) ∨ (Lib.indexAny s.data.toList [32, 9, 13] = -1 ∧ k = s.size)) ∧ s.extract 0 k = word ∧ word.data.toList = Sc.headW s.data.toList ∧ (s.extract k s.size).data.toList = Sc.tailW s.data.toList := by
  have hx : ∀ k, (s.extract 0 k).data.toList = s.data.toList.take k := fun k => by rw [extract_mid, List.drop_zero]; rfl
  have hy : ∀ k, (s.extract k s.size).data.toList = s.data.toList.drop k := fun k => by rw [extract_mid, List.take_of_length_le (by rw [List.length_drop, bytes_size]; exact Nat.le_refl _)]
  rcases index_head s.data.toList with ⟨h1, h2, h3⟩ | ⟨i, h1, h2, h3, h4⟩
  · refine ⟨s.size, _, Nat.le_refl _, .inr ⟨h1, rfl⟩, rfl, ?_, ?_⟩
    · rw [hx, h2, List.take_of_length_le (by rw [bytes_size]; exact Nat.le_refl _)]
    · rw [hy, h3, List.drop_of_length_le (by rw [bytes_size]; exact Nat.le_refl _)]
  · rw [bytes_size] at h2
    exact ⟨i, _, h2, .inl h1, rfl, by rw [hx, h3], by rw [hy, h4]⟩

/-- The way of a line whose word wants no numbers. -/
def CmdText (l : List UInt8) (w : World) (e : Ending) (w' : World) : Prop :=
  e = .returned (.tuple #[.agg #[.string ⟨(Sc.headW l).toArray⟩, .string ⟨(Sc.trim (Sc.tailW l)).toArray⟩, .slice none 0 0], .bool (Sc.isCommand ⟨Sc.headW l, Sc.trim (Sc.tailW l), []⟩)]) ∧ Below w.heap.size w w'
theorem text_end {l : List UInt8} {word rest : ByteArray} {w W' : World} (hw : word.data.toList = Sc.headW l) (hr : (⟨(Sc.trim (Sc.tailW l)).toArray⟩ : ByteArray) = rest) (hb : Below w.heap.size w W') :
    CmdText l w (.returned (.tuple #[.agg #[.string word, .string rest, .slice none 0 0], .bool (Sc.isCommand ⟨word.data.toList, rest.data.toList, []⟩)])) W' := by
  have h1 : word = ⟨(Sc.headW l).toArray⟩ := by rw [← hw, bytes_mk]
  have h2 : rest.data.toList = Sc.trim (Sc.tailW l) := by rw [← hr]
  refine ⟨?_, hb⟩
  rw [h2, hw, ← hr, h1]
/-- Three stores into a block: what the cells hold behind them. -/
theorem three_set (W : World) (b : Nat) (v0 v1 v2 : Value) (h0 : (W.cell? ⟨b, 0, none⟩).isSome = true) (h1 : (W.cell? ⟨b, 1, none⟩).isSome = true) (h2 : (W.cell? ⟨b, 2, none⟩).isSome = true) :
    let W' := ((W.setCell ⟨b, 0, none⟩ v0).setCell ⟨b, 1, none⟩ v1).setCell ⟨b, 2, none⟩ v2
    W'.cell? ⟨b, 0, none⟩ = some v0 ∧ W'.cell? ⟨b, 1, none⟩ = some v1 ∧ W'.cell? ⟨b, 2, none⟩ = some v2 := by
  have n : ∀ (w : World) (v : Value) (i j : Nat), i ≠ j → (w.setCell ⟨b, i, none⟩ v).cell? ⟨b, j, none⟩ = w.cell? ⟨b, j, none⟩ := fun w v i j h => World.cell?_setCell_other w ⟨b, i, none⟩ ⟨b, j, none⟩ v (fun e => h (by injection e))
  intro W'
  refine ⟨?_, ?_, ?_⟩
  · show (World.setCell _ _ _).cell? _ = _
    rw [n _ _ 2 0 (by decide), n _ _ 1 0 (by decide), World.cell?_setCell_same' _ _ _ h0]
  · show (World.setCell _ _ _).cell? _ = _
    rw [n _ _ 2 1 (by decide), World.cell?_setCell_same' _ _ _ (by rw [n _ _ 0 1 (by decide)]; exact h1)]
  · exact World.cell?_setCell_same' _ _ _ (by rw [n _ _ 1 2 (by decide), n _ _ 0 2 (by decide)]; exact h2)
set_option maxRecDepth 100000 in
set_option maxHeartbeats 4000000 in
theorem command_text (s : ByteArray) (w : World) (hs : s.size ≤ 65536) (hm : Sc.many (Sc.wants (Sc.headW s.data.toList)) = 0) :
    Calls Tryz.prog 19 #[.string s] w (CmdText s.data.toList w) := by
  obtain ⟨k, word, hk, hi, hx, hw, hy⟩ := index_two s
  obtain ⟨rest, hrest⟩ : ∃ rest : ByteArray, ⟨(Sc.trim (Sc.tailW s.data.toList)).toArray⟩ = rest := ⟨_, rfl⟩
  have hrl : rest.data.toList = Sc.trim (Sc.tailW s.data.toList) := by rw [← hrest]
  have hwz : word.size ≤ 65536 := by rw [← hx]; simp; omega
  have hrz : rest.size ≤ 65536 := by
    rw [← bytes_size, hrl, ← hy]
    refine Nat.le_trans (Sc.trim_len _) ?_
    rw [bytes_size]; simp; omega
  have hyz : (s.extract k s.size).size ≤ 65536 := by simp; omega
  have HX := Lib.hid hx
  have HY := Lib.hid hy
  have HR := Lib.hid hrest
  have HRL := Lib.hid hrl
  have HWL := Lib.hid hw
  have HM : Hid (Sc.many (Sc.wants word.data.toList) = 0) := by show _ = _; rw [hw]; exact hm
  have HY2 : Hid (s.size = k → ByteArray.empty.data.toList = Sc.tailW s.data.toList) := fun h => by
    rw [← hy, ← h]; simp
  clear hx hy hrest hrl hw hm
  have hi' : Lib.indexAny s.data.toList [32, 9, 13] = (k : Int) ∨ (Lib.indexAny s.data.toList [32, 9, 13] = -1 ∧ s.size = k ∧ s = word) := by
    rcases hi with h | ⟨h1, h2⟩
    · exact .inl h
    · exact .inr ⟨h1, h2.symm, by rw [← HX.out, h2]; simp⟩
  clear hi
  rcases hi' with hi | ⟨hi, rfl, rfl⟩
  · have HI := Lib.hid hi
    have tok1 : True := trivial
    clear hi
    go_enter Tryz.func19, Tryz.ntmps19
    go_wp2_with (first
      | (go_at_call 78; refine (indexAny_any s _ (by omega)).mono ?_; rintro e w1 ⟨rfl, hb1⟩; rw [HI.out]; obtain ⟨hc1, hf1⟩ := bcell hb1; have hz1 : w.heap.size < w1.heap.size := (by have := hb1.size; simp at this; omega))
      | (go_at_call 79; have _t := tok1; (try rw [HX.out]); refine (clone_any _ _ (by omega)).mono ?_; rintro e w2 ⟨rfl, hb2⟩; clear tok1 _t; obtain ⟨hc2, hf2⟩ := bcell hb2; have hz2 := hb2.size)
      | (go_at_call 77; refine (trim_any _ _ (by first | omega | decide)).mono ?_; rintro e w3 ⟨rfl, hb3⟩; (first | rw [HY.out, HR.out] | rw [HY2.out trivial, HR.out]); obtain ⟨hc3, hf3⟩ := bcell hb3; have hz3 : w2.heap.size < w3.heap.size := (by have := hb3.size; simp at this; omega))
      | (go_at_call 81; refine (wants_any _ _).mono ?_; rintro e w' ⟨rfl, rfl⟩)
      | (go_at_call 80; refine (many_any _ _).mono ?_; rintro e w' ⟨rfl, rfl⟩; rw [HM.out])
      | (go_at_call 79; refine (clone_any _ _ (by omega)).mono ?_; rintro e w4 ⟨rfl, hb4⟩; obtain ⟨hc4, hf4⟩ := bcell hb4; have hz4 := hb4.size))
    have hN := set_far (b := w2.heap.size) (i := 1) (v := .string rest) (keep (keep (alloc_old (keep (keep (heap_alloc_new w (.cells #[.string ⟨#[]⟩, .string ⟨#[]⟩, .slice none 0 0] 52)) hb1) hb2) (.cells #[.string word, .string ⟨#[]⟩, .slice none 0 0] 52)) hb3) hb4) (by omega)
    have hB := set_block (i := 1) (keep (keep (heap_alloc_new w2 (.cells #[.string word, .string ⟨#[]⟩, .slice none 0 0] 52)) hb3) hb4) (.string rest)
    have hbW : Below w.heap.size w (w4.setCell ⟨w2.heap.size, 1, none⟩ (.string rest)) := by
      have h1 : Below w.heap.size w w1 := ((Below.refl _ w).alloc (Nat.le_refl _) _).trans (hb1.mono (by simp))
      have h2 := h1.trans (hb2.mono h1.size)
      have h3 := (h2.alloc h2.size _).trans (hb3.mono (by have := h2.size; simp; omega))
      exact (h3.trans (hb4.mono h3.size)).setCell (by have := h2.size; simp; omega) _
    have hne : w.heap.size < w2.heap.size := by omega
    obtain ⟨W, hW⟩ : ∃ W, w4.setCell ⟨w2.heap.size, 1, none⟩ (.string rest) = W := ⟨_, rfl⟩
    rw [hW] at hN hB hbW ⊢
    have d0 : W.cell? ⟨w2.heap.size, 0, none⟩ = some (.string word) := by rw [cell_of_row W _ 0 _ _ _ hB]; rfl
    have d1 : W.cell? ⟨w2.heap.size, 1, none⟩ = some (.string rest) := by rw [cell_of_row W _ 1 _ _ _ hB]; rfl
    have d2 : W.cell? ⟨w2.heap.size, 2, none⟩ = some (.slice none 0 0) := by rw [cell_of_row W _ 2 _ _ _ hB]; rfl
    have r0 : W.cell? ⟨w.heap.size, 0, none⟩ = some (.string ⟨#[]⟩) := by rw [cell_of_row W _ 0 _ _ _ hN]; rfl
    have r1 : W.cell? ⟨w.heap.size, 1, none⟩ = some (.string ⟨#[]⟩) := by rw [cell_of_row W _ 1 _ _ _ hN]; rfl
    have r2 : W.cell? ⟨w.heap.size, 2, none⟩ = some (.slice none 0 0) := by rw [cell_of_row W _ 2 _ _ _ hN]; rfl
    have g0 := block_frozen hN 0
    have g1 := block_frozen hN 1
    have g2 := block_frozen hN 2
    have hlN := lt_of hN
    have hlB := lt_of hB
    clear hW hN hB hc1 hf1 hc2 hf2 hc3 hf3 hc4 hf4 hz1 hz2 hz3 hz4 hb1 hb2 hb3 hb4
    go_region_with ((go_at_call 70; refine (isCommand_any word rest none 0 0 [] _ (ReadsI.nil _) (by decide) (by omega)).mono ?_; rintro e w5 ⟨rfl, hb5⟩; have x0 := cell_keep hb5 d0; have x1 := cell_keep hb5 d1; have x2 := cell_keep hb5 d2; have y0 := cell_keep hb5 r0; have y1 := cell_keep hb5 r1; have y2 := cell_keep hb5 r2; have k0 := frozen_keep hb5 r0 g0; have k1 := frozen_keep hb5 r1 g1; have k2 := frozen_keep hb5 r2 g2))
    all_goals
      go_wp2
      obtain ⟨q0, q1, q2⟩ := three_set w5 w.heap.size (.string word) (.string rest) (.slice none 0 0) (by rw [y0]; rfl) (by rw [y1]; rfl) (by rw [y2]; rfl)
      refine bodyPost_ret (v := .tuple #[.agg #[.string word, .string rest, .slice none 0 0], .bool (Sc.isCommand ⟨word.data.toList, rest.data.toList, []⟩)]) (by simp [results, Tryz.results19, go_sem, q0, q1, q2]) rfl ?_
      have hb6 : Below w.heap.size w w5 := (by first | exact hbW.trans (hb5.mono hbW.size) | exact hbW.drew.trans (hb5.mono hbW.size))
      refine text_end HWL.out HR.out ?_
      first
        | exact ((hb6.setCell (Nat.le_refl _) _).setCell (Nat.le_refl _) _).setCell (Nat.le_refl _) _
        | exact below_drewN' (((hb6.setCell (Nat.le_refl _) _).setCell (Nat.le_refl _) _).setCell (Nat.le_refl _) _) 1
  · have HI := Lib.hid hi
    have tok1 : True := trivial
    clear hi
    go_enter Tryz.func19, Tryz.ntmps19
    go_wp2_with (first
      | (go_at_call 78; refine (indexAny_any s _ (by omega)).mono ?_; rintro e w1 ⟨rfl, hb1⟩; rw [HI.out]; obtain ⟨hc1, hf1⟩ := bcell hb1; have hz1 : w.heap.size < w1.heap.size := (by have := hb1.size; simp at this; omega))
      | (go_at_call 79; have _t := tok1; (try rw [HX.out]); refine (clone_any _ _ (by omega)).mono ?_; rintro e w2 ⟨rfl, hb2⟩; clear tok1 _t; obtain ⟨hc2, hf2⟩ := bcell hb2; have hz2 := hb2.size)
      | (go_at_call 77; refine (trim_any _ _ (by first | omega | decide)).mono ?_; rintro e w3 ⟨rfl, hb3⟩; (first | rw [HY.out, HR.out] | rw [HY2.out trivial, HR.out]); obtain ⟨hc3, hf3⟩ := bcell hb3; have hz3 : w2.heap.size < w3.heap.size := (by have := hb3.size; simp at this; omega))
      | (go_at_call 81; refine (wants_any _ _).mono ?_; rintro e w' ⟨rfl, rfl⟩)
      | (go_at_call 80; refine (many_any _ _).mono ?_; rintro e w' ⟨rfl, rfl⟩; rw [HM.out])
      | (go_at_call 79; refine (clone_any _ _ (by omega)).mono ?_; rintro e w4 ⟨rfl, hb4⟩; obtain ⟨hc4, hf4⟩ := bcell hb4; have hz4 := hb4.size))
    have hN := set_far (b := w2.heap.size) (i := 1) (v := .string rest) (keep (keep (alloc_old (keep (keep (heap_alloc_new w (.cells #[.string ⟨#[]⟩, .string ⟨#[]⟩, .slice none 0 0] 52)) hb1) hb2) (.cells #[.string s, .string ⟨#[]⟩, .slice none 0 0] 52)) hb3) hb4) (by omega)
    have hB := set_block (i := 1) (keep (keep (heap_alloc_new w2 (.cells #[.string s, .string ⟨#[]⟩, .slice none 0 0] 52)) hb3) hb4) (.string rest)
    have hbW : Below w.heap.size w (w4.setCell ⟨w2.heap.size, 1, none⟩ (.string rest)) := by
      have h1 : Below w.heap.size w w1 := ((Below.refl _ w).alloc (Nat.le_refl _) _).trans (hb1.mono (by simp))
      have h2 := h1.trans (hb2.mono h1.size)
      have h3 := (h2.alloc h2.size _).trans (hb3.mono (by have := h2.size; simp; omega))
      exact (h3.trans (hb4.mono h3.size)).setCell (by have := h2.size; simp; omega) _
    have hne : w.heap.size < w2.heap.size := by omega
    obtain ⟨W, hW⟩ : ∃ W, w4.setCell ⟨w2.heap.size, 1, none⟩ (.string rest) = W := ⟨_, rfl⟩
    rw [hW] at hN hB hbW ⊢
    have d0 : W.cell? ⟨w2.heap.size, 0, none⟩ = some (.string s) := by rw [cell_of_row W _ 0 _ _ _ hB]; rfl
    have d1 : W.cell? ⟨w2.heap.size, 1, none⟩ = some (.string rest) := by rw [cell_of_row W _ 1 _ _ _ hB]; rfl
    have d2 : W.cell? ⟨w2.heap.size, 2, none⟩ = some (.slice none 0 0) := by rw [cell_of_row W _ 2 _ _ _ hB]; rfl
    have r0 : W.cell? ⟨w.heap.size, 0, none⟩ = some (.string ⟨#[]⟩) := by rw [cell_of_row W _ 0 _ _ _ hN]; rfl
    have r1 : W.cell? ⟨w.heap.size, 1, none⟩ = some (.string ⟨#[]⟩) := by rw [cell_of_row W _ 1 _ _ _ hN]; rfl
    have r2 : W.cell? ⟨w.heap.size, 2, none⟩ = some (.slice none 0 0) := by rw [cell_of_row W _ 2 _ _ _ hN]; rfl
    have g0 := block_frozen hN 0
    have g1 := block_frozen hN 1
    have g2 := block_frozen hN 2
    have hlN := lt_of hN
    have hlB := lt_of hB
    clear hW hN hB hc1 hf1 hc2 hf2 hc3 hf3 hc4 hf4 hz1 hz2 hz3 hz4 hb1 hb2 hb3 hb4
    go_region_with ((go_at_call 70; refine (isCommand_any s rest none 0 0 [] _ (ReadsI.nil _) (by decide) (by omega)).mono ?_; rintro e w5 ⟨rfl, hb5⟩; have x0 := cell_keep hb5 d0; have x1 := cell_keep hb5 d1; have x2 := cell_keep hb5 d2; have y0 := cell_keep hb5 r0; have y1 := cell_keep hb5 r1; have y2 := cell_keep hb5 r2; have k0 := frozen_keep hb5 r0 g0; have k1 := frozen_keep hb5 r1 g1; have k2 := frozen_keep hb5 r2 g2))
    all_goals
      go_wp2
      obtain ⟨q0, q1, q2⟩ := three_set w5 w.heap.size (.string s) (.string rest) (.slice none 0 0) (by rw [y0]; rfl) (by rw [y1]; rfl) (by rw [y2]; rfl)
      refine bodyPost_ret (v := .tuple #[.agg #[.string s, .string rest, .slice none 0 0], .bool (Sc.isCommand ⟨s.data.toList, rest.data.toList, []⟩)]) (by simp [results, Tryz.results19, go_sem, q0, q1, q2]) rfl ?_
      have hb6 : Below w.heap.size w w5 := (by first | exact hbW.trans (hb5.mono hbW.size) | exact hbW.drew.trans (hb5.mono hbW.size))
      refine text_end HWL.out HR.out ?_
      first
        | exact ((hb6.setCell (Nat.le_refl _) _).setCell (Nat.le_refl _) _).setCell (Nat.le_refl _) _
        | exact below_drewN' (((hb6.setCell (Nat.le_refl _) _).setCell (Nat.le_refl _) _).setCell (Nat.le_refl _) _) 1
end Go.Proofs.YtinobikikineiabGreatDoor
