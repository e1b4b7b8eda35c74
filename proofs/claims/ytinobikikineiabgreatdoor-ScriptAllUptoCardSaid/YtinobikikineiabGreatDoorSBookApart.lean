/- The walk of the Book's Apart: it returns true. Conditions: only lists of numbers were kept, each in a block of its own, short ones. -/
import Derived.Test.YtinobikikineiabGreatDoorSBookGrow
import Derived.Test.YtinobikikineiabGreatDoorSBookNil
namespace Go.Proofs.YtinobikikineiabGreatDoor
open Go.RowKit Go.Shelf

theorem BookAt.drewN {W : World} {base B : Nat} {I X : Value} {us vs : List Value} {ls : List (List Int)} (h : BookAt W base B I X us vs ls) (m : Nat) : BookAt (W.drewN m) base B I X us vs ls := ⟨h.blk, h.lu, h.lv, h.oi, h.ox, h.sep, h.ru, h.rv, h.apart, h.low⟩
theorem BookAt.below {W W' : World} {base B : Nat} {I X : Value} {us vs : List Value} {ls : List (List Int)} (h : BookAt W base B I X us vs ls) (hb : Below W.heap.size W W') : BookAt W' base B I X us vs ls :=
  ⟨(hb.block B (lt_of_cells h.blk)).trans h.blk, h.lu, h.lv, own_below h.oi hb, own_below h.ox hb, h.sep, fun j l hj => by obtain ⟨u, a, b⟩ := h.ru j l hj; exact ⟨u, a, own_below b hb⟩, fun j l hj => by obtain ⟨u, a, b⟩ := h.rv j l hj; exact ⟨u, a, own_below b hb⟩, h.apart, h.low⟩
/-- What the grown lists are. -/
def grown (ls : List (List Int)) : List (List Int) := ls.mapIdx fun q l => marks q 0 (l.length + 96)
theorem grown_get (ls : List (List Int)) (i : Nat) : (grown ls)[i]? = (ls[i]?).map fun l => marks i 0 (l.length + 96) := by simp [grown]
theorem grown_length (ls : List (List Int)) : (grown ls).length = ls.length := by simp [grown]
theorem marked_grown {ls : List (List Int)} (hn : ∀ l ∈ ls, l.length ≤ 1000) : Marked (grown ls) := by
  intro j l hj
  rw [grown_get] at hj
  cases h : ls[j]? with
  | none => rw [h] at hj; cases hj
  | some m =>
    rw [h] at hj
    obtain rfl := Option.some.inj hj
    have := hn m (List.mem_of_getElem? h)
    exact ⟨by rw [marks_length], by rw [marks_length]; omega⟩
theorem marked_upto {ls : List (List Int)} (hn : ∀ l ∈ ls, l.length ≤ 1000) : Marked (upto ls ls.length) := by
  intro j l hj
  rw [upto_get] at hj
  cases h : ls[j]? with
  | none => rw [h] at hj; cases hj
  | some m =>
    rw [h] at hj
    have hjl := (List.getElem?_eq_some_iff.1 h).1
    have := hn m (List.mem_of_getElem? h)
    simp only [Option.map_some, if_pos hjl] at hj
    obtain rfl := Option.some.inj hj
    exact ⟨by rw [marks_length], by rw [marks_length]; omega⟩
theorem upto_short {ls : List (List Int)} (hn : ∀ l ∈ ls, l.length ≤ 1000) : ∀ l ∈ upto ls ls.length, l.length ≤ 1000 := by
  intro l hl
  obtain ⟨j, hj⟩ := List.getElem?_of_mem hl
  rw [upto_get] at hj
  cases h : ls[j]? with
  | none => rw [h] at hj; cases hj
  | some m =>
    rw [h] at hj
    have := hn m (List.mem_of_getElem? h)
    have hjl := (List.getElem?_eq_some_iff.1 h).1
    simp only [Option.map_some, if_pos hjl] at hj
    obtain rfl := Option.some.inj hj
    rw [marks_length]; exact this
theorem GrowR.grown {base B S : Nat} {I : Value} {us : List Value} {ls : List (List Int)} {out : Value} {gs : List Value} {W : World} (h : GrowR base B S I us ls out ls.length gs W) : ∀ (j : Nat) (l : List Int), (grown ls)[j]? = some l → ∃ u, gs[j]? = some u ∧ OwnI W 0 u l := by
  intro j l hj
  rw [grown_get] at hj
  cases hm : ls[j]? with
  | none => rw [hm] at hj; cases hj
  | some m =>
    rw [hm] at hj
    obtain rfl := Option.some.inj hj
    obtain ⟨g, h1, h2⟩ := h.rg j m (List.getElem?_eq_some_iff.1 hm).1 hm
    exact ⟨g, h1, h2.low (Nat.zero_le _)⟩

set_option maxRecDepth 100000 in
set_option maxHeartbeats 8000000 in
theorem apart_any (base B : Nat) (I X : Value) (us vs : List Value) (ls : List (List Int)) (W : World) (h : BookAt W base B I X us vs ls) (hl : ls.length ≤ 400) (hn : ∀ l ∈ ls, l.length ≤ 1000) (hbs : base ≤ W.heap.size) :
    Calls Tryz.prog 11 #[.pointer (some ⟨B, 0, none⟩)] W fun e w' => e = .returned (.bool true) ∧ Below B W w' := by
  obtain ⟨N, hN⟩ : ∃ N, ls.length = N := ⟨_, rfl⟩
  have hul : Hid ((upto ls ls.length).length = N) := by show _ = _; rw [upto_length, hN]
  have hgl : Hid ((grown (upto ls ls.length)).length = N) := by show _ = _; rw [grown_length, upto_length, hN]
  have HMU := Lib.hid (marked_upto hn)
  have HUS := Lib.hid (upto_short hn)
  have HMG := Lib.hid (marked_grown (upto_short hn))
  have HI : ∃ A0 c0, I = .slice A0 N c0 := by have := h.oi; rw [hN] at this; exact own_slice this
  obtain ⟨A0, c0, rfl⟩ := HI
  have H := Lib.hid h
  have HN := Lib.hid hn
  have hl' : N ≤ 400 := by omega
  have HL := Lib.hid hl
  have HNE := Lib.hid hN
  have hBs := lt_of_cells h.blk
  have tok1 : True := trivial
  clear h hn hl hN
  go_enter Tryz.func11, Tryz.ntmps11
  go_wp2_with (first
    | (go_at_call 26; refine (still_any base B (.slice A0 N c0) X us vs ls _ H.out HL.out HN.out).mono ?_; rintro e w1 ⟨rfl, m, rfl⟩; have HB := Lib.hid (H.out.drewN m).lists)
    | (go_at_call 27; refine (stillTokens_nil B _ (HB.out.nils 2 (by decide) (by decide))).mono ?_; rintro e w9 ⟨rfl, rfl⟩)
    | (go_at_call 28; refine (stillTexts_nil B _ (HB.out.nils 4 (by decide) (by decide))).mono ?_; rintro e w9 ⟨rfl, rfl⟩)
    | (go_at_call 29; refine (stillBools_nil B _ (HB.out.nils 6 (by decide) (by decide))).mono ?_; rintro e w9 ⟨rfl, rfl⟩)
    | (go_at_call 30; refine (stillSteps_nil B _ (HB.out.nils 8 (by decide) (by decide))).mono ?_; rintro e w9 ⟨rfl, rfl⟩)
    | (go_at_call 31; refine (stillEdges_nil B _ (HB.out.nils 10 (by decide) (by decide))).mono ?_; rintro e w9 ⟨rfl, rfl⟩)
    | (go_at_call 32; refine (stillNodes_nil B _ (HB.out.nils 12 (by decide) (by decide))).mono ?_; rintro e w9 ⟨rfl, rfl⟩)
    | (go_at_call 33; refine (stillPairs_nil B _ (HB.out.nils 14 (by decide) (by decide))).mono ?_; rintro e w9 ⟨rfl, rfl⟩)
    | (go_at_call 34; refine (stillRows_nil B _ (HB.out.nils 16 (by decide) (by decide))).mono ?_; rintro e w9 ⟨rfl, rfl⟩)
    | (go_at_call 35; refine (stillLines_nil B _ (HB.out.nils 18 (by decide) (by decide))).mono ?_; rintro e w9 ⟨rfl, rfl⟩)
    | (go_at_call 36; refine (stillWalks_nil B _ (HB.out.nils 20 (by decide) (by decide))).mono ?_; rintro e w9 ⟨rfl, rfl⟩)
    | (go_at_call 37; refine (put_any base B (.slice A0 N c0) us ls _ HB.out HL.out HN.out).mono ?_; rintro e w2 ⟨rfl, hu2, hb2⟩; have HU2 := Lib.hid hu2; have hs2 := hb2.size; clear hu2)
    | (go_at_call 38; refine (putTokens_nil B _ (HU2.out.nils 2 (by decide) (by decide))).mono ?_; rintro e w9 ⟨rfl, rfl⟩)
    | (go_at_call 39; refine (putTexts_nil B _ (HU2.out.nils 4 (by decide) (by decide))).mono ?_; rintro e w9 ⟨rfl, rfl⟩)
    | (go_at_call 40; refine (putBools_nil B _ (HU2.out.nils 6 (by decide) (by decide))).mono ?_; rintro e w9 ⟨rfl, rfl⟩)
    | (go_at_call 41; refine (putSteps_nil B _ (HU2.out.nils 8 (by decide) (by decide))).mono ?_; rintro e w9 ⟨rfl, rfl⟩)
    | (go_at_call 42; refine (putEdges_nil B _ (HU2.out.nils 10 (by decide) (by decide))).mono ?_; rintro e w9 ⟨rfl, rfl⟩)
    | (go_at_call 43; refine (putNodes_nil B _ (HU2.out.nils 12 (by decide) (by decide))).mono ?_; rintro e w9 ⟨rfl, rfl⟩)
    | (go_at_call 44; refine (putPairs_nil B _ (HU2.out.nils 14 (by decide) (by decide))).mono ?_; rintro e w9 ⟨rfl, rfl⟩)
    | (go_at_call 45; refine (putRows_nil B _ (HU2.out.nils 16 (by decide) (by decide))).mono ?_; rintro e w9 ⟨rfl, rfl⟩)
    | (go_at_call 46; refine (putLines_nil B _ (HU2.out.nils 18 (by decide) (by decide))).mono ?_; rintro e w9 ⟨rfl, rfl⟩)
    | (go_at_call 47; refine (putWalks_nil B _ (HU2.out.nils 20 (by decide) (by decide))).mono ?_; rintro e w9 ⟨rfl, rfl⟩)
    | (go_at_call 48; refine (grow_any base B (.slice A0 N c0) us (upto ls ls.length) _ HU2.out (by rw [hul.out]; exact hl') HUS.out HMU.out (by simp at hs2; omega)).mono ?_; rintro e w3 ⟨A3, c3, gs, rfl, hg3, hb3⟩; rw [hul.out]; have HG3 := Lib.hid hg3; have hs3 := hb3.size; clear hg3)
    | (go_at_call 49; refine (growTokens_nil B _ (HG3.out.bu.nils 2 (by decide) (by decide))).mono ?_; rintro e w9 ⟨rfl, rfl⟩)
    | (go_at_call 50; refine (growTexts_nil B _ (HG3.out.bu.nils 4 (by decide) (by decide))).mono ?_; rintro e w9 ⟨rfl, rfl⟩)
    | (go_at_call 51; refine (growBools_nil B _ (HG3.out.bu.nils 6 (by decide) (by decide))).mono ?_; rintro e w9 ⟨rfl, rfl⟩)
    | (go_at_call 52; refine (growSteps_nil B _ (HG3.out.bu.nils 8 (by decide) (by decide))).mono ?_; rintro e w9 ⟨rfl, rfl⟩)
    | (go_at_call 53; refine (growEdges_nil B _ (HG3.out.bu.nils 10 (by decide) (by decide))).mono ?_; rintro e w9 ⟨rfl, rfl⟩)
    | (go_at_call 54; refine (growNodes_nil B _ (HG3.out.bu.nils 12 (by decide) (by decide))).mono ?_; rintro e w9 ⟨rfl, rfl⟩)
    | (go_at_call 55; refine (growPairs_nil B _ (HG3.out.bu.nils 14 (by decide) (by decide))).mono ?_; rintro e w9 ⟨rfl, rfl⟩)
    | (go_at_call 56; refine (growRows_nil B _ (HG3.out.bu.nils 16 (by decide) (by decide))).mono ?_; rintro e w9 ⟨rfl, rfl⟩)
    | (go_at_call 57; refine (growLines_nil B _ (HG3.out.bu.nils 18 (by decide) (by decide))).mono ?_; rintro e w9 ⟨rfl, rfl⟩)
    | (go_at_call 58; refine (growWalks_nil B _ (HG3.out.bu.nils 20 (by decide) (by decide))).mono ?_; rintro e w9 ⟨rfl, rfl⟩)
    | (go_at_call 59; have _t := tok1; refine (marked_any 0 N c3 A3 gs (grown (upto ls ls.length)) _ (own_base (by have := HG3.out.row; rw [hul.out] at this; exact this) (Nat.zero_le _)) hgl.out hl' HG3.out.grown HMG.out).mono ?_; rintro e w4 ⟨rfl, hb4⟩; have HB4 := Lib.hid (HG3.out.bu.below hb4); have q4 := HB4.out.cell; have hs4 := hb4.size; clear _t tok1)
    | (go_at_call 59; refine (marked_any 0 N c0 A0 us (upto ls ls.length) _ (own_base (by have := HB4.out.oi; rw [hul.out] at this; exact this) (Nat.zero_le _)) hul.out hl' (fun j l hj => by obtain ⟨u, a, b⟩ := HB4.out.ru j l hj; exact ⟨u, a, b.low (Nat.zero_le _)⟩) HMU.out).mono ?_; rintro e w5 ⟨rfl, hb5⟩; have HB5 := Lib.hid (HB4.out.below hb5); have hs5 := hb5.size;
        have q12 := HB5.out.nils 2 (by decide) (by decide); have q14 := HB5.out.nils 4 (by decide) (by decide); have q16 := HB5.out.nils 6 (by decide) (by decide); have q18 := HB5.out.nils 8 (by decide) (by decide); have q20 := HB5.out.nils 10 (by decide) (by decide); have q22 := HB5.out.nils 12 (by decide) (by decide); have q24 := HB5.out.nils 14 (by decide) (by decide); have q26 := HB5.out.nils 16 (by decide) (by decide); have q28 := HB5.out.nils 18 (by decide) (by decide); have q30 := HB5.out.nils 20 (by decide) (by decide))
    | (go_at_call 60; refine (markedTokens_nil _).mono ?_; rintro e w9 ⟨rfl, rfl⟩)
    | (go_at_call 61; refine (markedTexts_nil _).mono ?_; rintro e w9 ⟨rfl, rfl⟩)
    | (go_at_call 62; refine (markedBools_nil _).mono ?_; rintro e w9 ⟨rfl, rfl⟩)
    | (go_at_call 63; refine (markedSteps_nil _).mono ?_; rintro e w9 ⟨rfl, rfl⟩)
    | (go_at_call 64; refine (markedEdges_nil _).mono ?_; rintro e w9 ⟨rfl, rfl⟩)
    | (go_at_call 65; refine (markedNodes_nil _).mono ?_; rintro e w9 ⟨rfl, rfl⟩)
    | (go_at_call 66; refine (markedPairs_nil _).mono ?_; rintro e w9 ⟨rfl, rfl⟩)
    | (go_at_call 67; refine (markedRows_nil _).mono ?_; rintro e w9 ⟨rfl, rfl⟩)
    | (go_at_call 68; refine (markedLines_nil _).mono ?_; rintro e w9 ⟨rfl, rfl⟩)
    | (go_at_call 69; refine (markedWalks_nil _).mono ?_; rintro e w9 ⟨rfl, rfl⟩))
  go_ret
  have k2 : Below B W w2 := (below_drewN' (Below.refl B W) _).trans hb2
  have k3 : Below B W w3 := k2.trans hb3
  have k4 : Below B W w4 := k3.trans (hb4.mono (by simp at hs2; omega))
  exact ⟨rfl, k4.trans (hb5.mono (by simp at hs2; omega))⟩
end Go.Proofs.YtinobikikineiabGreatDoor
