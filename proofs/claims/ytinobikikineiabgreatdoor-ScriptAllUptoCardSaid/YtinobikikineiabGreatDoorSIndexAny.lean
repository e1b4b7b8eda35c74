/- The walk of strings.IndexAny at the blanks, whatever the text; of the closure that FieldsFunc is given; the pieces. Conditions: the text's size. -/
import Derived.Test.YtinobikikineiabGreatDoorSIndexRune2
import Derived.Test.YtinobikikineiabGreatDoorSFields
import Derived.Test.YtinobikikineiabGreatDoorSText
import Derived.Lib.OthersKept
import Derived.Shelf.Strings.FieldsFuncGrows
import Derived.Shelf.Strings.IndexAnyAll
namespace Go.Proofs.YtinobikikineiabGreatDoor
open Go.RowKit Go.Shelf Go.Lib

theorem zero256 : (Tryz.prog.info? 170).map (fun i => (i.zero, i.size)) = some (some (.agg (Array.replicate 256 (.bool false))), 256) := by kernel_rfl
theorem indexAny_long (s : ByteArray) (w : World) (h8 : 8 < s.size) (hs : s.size < 4294967281) :
    Calls Tryz.prog 78 #[.string s, .string ⟨#[32, 9, 13]⟩] w fun e w' => e = .returned (.int .i64 (Lib.indexAny s.data.toList [32, 9, 13])) ∧ Below w.heap.size w w' :=
  (Tryz.strings_IndexAny_long (zero_of_info zero256).1 s ⟨#[32, 9, 13]⟩ w (by decide) h8 hs (by decide) (ascii_of_all (by decide))).mono fun _ _ ⟨h1, h2⟩ =>
    ⟨h1, by rw [h2]; exact ((Below.refl _ w).alloc (Nat.le_refl _) _).alloc (by simp) _⟩

theorem noAny_step {s : ByteArray} {i wd : Nat} (h : Lib.NoAny s.data.toList [32, 9, 13] i) (hb : ∀ k, i ≤ k → k < i + wd → ∀ hk : k < s.size, Lx.isBlank s[k] = false) : Lib.NoAny s.data.toList [32, 9, 13] (i + wd) := by
  intro j b hj hjb
  rcases Nat.lt_or_ge j i with hji | hji
  · exact h j b hji hjb
  · have hlt := (List.getElem?_eq_some_iff.1 hjb).1
    rw [bytes_size] at hlt
    rw [bytes_get s j hlt] at hjb
    rw [← Option.some.inj hjb, Sc.set_blank]
    exact hb j hji hj hlt

set_option maxRecDepth 1000000 in
set_option maxHeartbeats 8000000 in
theorem indexAny_short (s : ByteArray) (w : World) (h8 : s.size ≤ 8) :
    Calls Tryz.prog 78 #[.string s, .string ⟨#[32, 9, 13]⟩] w fun e w' => e = .returned (.int .i64 (Lib.indexAny s.data.toList [32, 9, 13])) ∧ Below w.heap.size w w' := by
  have h8z : decide ((8 : Int) < (s.size : Int)) = false := decide_eq_false (by omega)
  go_enter Tryz.func78, Tryz.ntmps78
  go_wp2_with (go_at_call 128; refine (Tryz.strings_shouldUseASCIISet _ _).mono ?_; rintro e w' ⟨rfl, hw⟩; rw [hw, h8z])
  go_loopw [9, 10] (fun _ _ wx => ∃ i : Nat, i ≤ s.size ∧ wx.heap[w.heap.size]? = some (.stringIter s i) ∧ Below w.heap.size w wx ∧ Lib.NoAny s.data.toList [32, 9, 13] i) (fun _ _ wx => s.size - wx.iterPos w.heap.size)
  case atStart => exact ⟨0, Nat.zero_le _, World.iter_heap w s 0, (Below.refl _ w).alloc (Nat.le_refl _) _, Lib.NoAny.zero _ _⟩
  case round =>
    obtain ⟨i, hi, hit, hbw, hno⟩ := hrel
    have HN := Lib.hid hno
    have HI := Lib.hid hit
    clear hno
    have hpos : wr.iterPos w.heap.size = i := by unfold World.iterPos; rw [hit]
    by_cases hlt : i < s.size
    · have hnx := fun ty => run_next_any_at (P := Tryz.prog) wr w.heap.size s i ty hit hlt
      obtain ⟨hT, hF⟩ := rune_bytes s i hlt
      have hle := Lib.rune_le s i
      obtain ⟨r, hr⟩ : ∃ r, (Utf8.decode s i).1 = r := ⟨_, rfl⟩
      obtain ⟨wd, hwd⟩ : ∃ wd, (Utf8.decode s i).2 = wd := ⟨_, rfl⟩
      have hpair : Utf8.decode s i = (r, wd) := by rw [← hr, ← hwd]
      rw [hpair] at hT hF hle
      simp only [hr, hwd] at hnx
      have hzi := iterAt_heap wr w.heap.size s i (i + wd) hit
      have hbi : Below w.heap.size w (wr.iterAt w.heap.size s (i + wd)) := below_iterAt hbw (Nat.le_refl _) s (i + wd)
      have HZ := Lib.hid hzi
      have HP := Lib.hid hpos
      clear hit hzi hr hwd hpair hpos
      obtain ⟨W, hW⟩ : ∃ W, wr.iterAt w.heap.size s (i + wd) = W := ⟨_, rfl⟩
      rw [hW] at hbi HZ
      simp only [hW] at hnx
      clear hW
      cases hb : isBl r with
      | true =>
        obtain ⟨hd, hbl⟩ := hT hb
        have HB := Lib.hid hb
        have HBl := Lib.hid hbl
        clear hT hF hb hd hbl
        go_wp2_with (go_at_call 127; refine (indexRune_any r hle _).mono ?_; rintro e w1 ⟨z, rfl, hz, hb1⟩; rw [HB.out] at hz; have hz0 : (0 : Int) ≤ z := of_decide_eq_true hz; clear hz)
        go_ret
        exact ⟨by rw [Lib.indexAny_hit HN.out (bytes_get s i hlt) (by rw [Sc.set_blank]; exact HBl.out)]; rfl, hbi.trans (hb1.mono hbi.size)⟩
      | false =>
        obtain ⟨hw1, hw2, hw3⟩ := hF hb
        have HB := Lib.hid hb
        have H3 := Lib.hid hw3
        clear hT hF hb hw3
        have hw2' : i + wd ≤ s.size := hw2
        have hw1' : 1 ≤ wd := hw1
        clear hw1 hw2
        go_wp2_with (go_at_call 127; refine (indexRune_any r hle _).mono ?_; rintro e w1 ⟨z, rfl, hz, hb1⟩; rw [HB.out] at hz; have hz0 : ¬ (0 : Int) ≤ z := of_decide_eq_false hz; clear hz)
        go_roundw
        case rel => exact ⟨i + wd, hw2', (hb1.block _ (Array.getElem?_eq_some_iff.1 HZ.out).1).trans HZ.out, hbi.trans (hb1.mono hbi.size), noAny_step HN.out H3.out⟩
        case measure =>
          rw [HP.out]
          have : w1.iterPos w.heap.size = i + wd := by unfold World.iterPos; rw [(hb1.block _ (Array.getElem?_eq_some_iff.1 HZ.out).1).trans HZ.out]
          rw [this]; omega
    · obtain rfl : i = s.size := by omega
      have hnx := fun ty => run_next_end_at (P := Tryz.prog) wr w.heap.size s s.size ty hit (Nat.lt_irrefl _)
      clear hit hpos
      go_wp2_with fail
      go_ret
      exact ⟨by rw [Lib.indexAny_none (by rw [bytes_size]; exact HN.out)]; rfl, hbw⟩
theorem indexAny_any (s : ByteArray) (w : World) (hs : s.size < 4294967281) :
    Calls Tryz.prog 78 #[.string s, .string ⟨#[32, 9, 13]⟩] w fun e w' => e = .returned (.int .i64 (Lib.indexAny s.data.toList [32, 9, 13])) ∧ Below w.heap.size w w' := by
  by_cases h : 8 < s.size
  · exact indexAny_long s w h hs
  · exact indexAny_short s w (by omega)

/-- The closure that FieldsFunc is given. -/
theorem isBl_closure (w : World) : PredGrows Tryz.prog 83 #[] isBl w := by
  intro W x hx _
  show Calls Tryz.prog 83 #[.int .i32 (x : Int)] W _
  have hcr : ∀ W : World, Calls Tryz.prog 84 #[.string ⟨#[32, 9, 13]⟩, .int .i32 (x : Int)] W fun e w' => e = .returned (.bool (isBl x)) ∧ Below W.heap.size W w' := by
    intro W
    go_enter Tryz.func84, Tryz.ntmps84
    go_wp2_with (go_at_call 127; refine (indexRune_any x hx _).mono ?_; rintro e w1 ⟨z, rfl, hz, hb1⟩; have HZ := Lib.hid hz; clear hz)
    go_ret
    exact ⟨by rw [← HZ.out]; rfl, hb1⟩
  go_enter Tryz.func83, Tryz.ntmps83
  go_wp2_with (go_at_call 84; refine (hcr _).mono ?_; rintro e w1 ⟨rfl, hb1⟩)
  go_ret
  exact ⟨rfl, hb1⟩
theorem fields_any (s : ByteArray) (w : World) (hs : s.size ≤ 4294967296) :
    Calls Tryz.prog 82 #[.string s, .func (.func 83) #[] #[]] w fun e w' => ∃ (g : Nat) (xs : List ByteArray) (cs : Array Value), e = .returned (.slice (some ⟨g, 0, none⟩) xs.length xs.length) ∧ Below w.heap.size w w' ∧
      xs.map (·.data.toList) = Sc.fields s.data.toList ∧ w'.heap[g]? = some (.cells cs 9 (0, 0)) ∧ ∀ (j : Nat) (x : ByteArray), xs[j]? = some x → cs[j]? = some (.string x) := by
  refine (Any.strings_FieldsFunc_grows Tryz.lays229 83 #[] (enters_of Tryz.func83 (by kernel_rfl) rfl) isBl s w hs (isBl_closure w) (by kernel_rfl) (by kernel_rfl)).mono ?_
  rintro e w' ⟨g, rfl, _, hown, hb⟩
  obtain ⟨_, ⟨hv, _⟩ | ⟨g', cap, cur, hv, _, hh, _, _, _, ht⟩⟩ := hown
  · cases hv
  · injection hv with h1 _ _
    injection h1 with h1
    injection h1 with h1 _ _
    subst h1
    refine ⟨g, Lib.goFieldsP isBl s, cur, rfl, hb, goFields_eq s, hh, fun j x hx => ?_⟩
    have hj := (List.getElem?_eq_some_iff.1 hx).1
    rw [← Array.getElem?_toList]
    have h2 : ((Lib.goFieldsP isBl s).map Value.string)[j]? = some (.string x) := by rw [List.getElem?_map, hx]; rfl
    rw [← ht, List.getElem?_take_of_lt (by omega)] at h2
    exact h2
end Go.Proofs.YtinobikikineiabGreatDoor
