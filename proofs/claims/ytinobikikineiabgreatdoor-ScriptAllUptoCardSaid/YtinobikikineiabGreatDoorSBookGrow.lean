/- The walk of the Book's grow: each list of numbers grows by its marks, one at a time and then many. Conditions: the lists are short, lie apart and are marked. -/
import Derived.Test.YtinobikikineiabGreatDoorSBookPut
namespace Go.Proofs.YtinobikikineiabGreatDoor
open Go.RowKit Go.Shelf

/-- What was grown so far. -/
structure GrowR (base B S : Nat) (I : Value) (us : List Value) (ls : List (List Int)) (out : Value) (j : Nat) (gs : List Value) (W : World) : Prop where
  bu : BookU W base B I us ls
  row : W.ownsRow S 50 1 out j gs
  rg : ∀ (q : Nat) (l : List Int), q < j → ls[q]? = some l → ∃ g, gs[q]? = some g ∧ OwnI W base g (marks q 0 (l.length + 96))
  blk : ∀ (q : Nat) (x : Value), gs[q]? = some x → ∀ b, x.ownBlock = some b → (∃ u, us[q]? = some u ∧ u.ownBlock = some b) ∨ S ≤ b
theorem GrowR.below {base B S j : Nat} {I out : Value} {us gs : List Value} {ls : List (List Int)} {W W' : World} (h : GrowR base B S I us ls out j gs W) (hb : Below W.heap.size W W') : GrowR base B S I us ls out j gs W' :=
  ⟨h.bu.below hb, own_below h.row hb, fun q l hq hl => by obtain ⟨g, h1, h2⟩ := h.rg q l hq hl; exact ⟨g, h1, own_below h2 hb⟩, h.blk⟩
theorem GrowR.drew {base B S j : Nat} {I out : Value} {us gs : List Value} {ls : List (List Int)} {W : World} (h : GrowR base B S I us ls out j gs W) : GrowR base B S I us ls out j gs W.drew := ⟨h.bu.drew, h.row, h.rg, h.blk⟩
/-- A row of lists keeps under an append to numbers. -/
theorem lists_kept {W W' : World} {base base' n m : Nat} {v o : Value} {xs ys : List Value} (h : W.ownsRow base 50 1 o m ys) (hown : W.ownsRow base' 3 1 v n xs) (hg : W.grownBy W' v.ownBlock) : W'.ownsRow base 50 1 o m ys := by
  obtain ⟨hl, h0 | ⟨g, cap, cur, rfl, hbase, hh, h⟩⟩ := h
  · exact ⟨hl, .inl h0⟩
  · refine ⟨hl, .inr ⟨g, cap, cur, rfl, hbase, (hg.block g (lt_of_cells hh) (fun e => ?_)).trans hh, h⟩⟩
    obtain ⟨_, ⟨rfl, _⟩ | ⟨g2, cap2, cur2, rfl, _, hh2, _⟩⟩ := hown
    · cases e
    · simp only [Value.ownBlock, Option.some.injEq] at e
      subst e
      rw [hh] at hh2
      injection hh2 with hh2
      injection hh2 with _ ht _
      exact absurd ht (by decide)
/-- An append of numbers to the list that grows. -/
theorem GrowR.app {base B S S1 j n : Nat} {I out v uj : Value} {us gs : List Value} {ls : List (List Int)} {xs : List Value} {lj : List Int} {W W' : World} (h : GrowR base B S I us ls out j gs W) (hown : W.ownsRow base 3 1 v n xs) (hg : W.grownBy W' v.ownBlock)
    (hkeep : ∀ base' u k ys, k ≤ n → W.ownsRow base' 3 1 u k ys → W'.ownsRow base' 3 1 u k ys) (hlj : ls[j]? = some lj) (huj : us[j]? = some uj) (hn : lj.length ≤ n) (hSS : S ≤ S1)
    (hus : ∀ u ∈ us, ∀ b, u.ownBlock = some b → b < S) (hgs : ∀ x ∈ gs, ∀ b, x.ownBlock = some b → b < S1) (hv : v.ownBlock = uj.ownBlock ∨ ∃ b, v.ownBlock = some b ∧ S1 ≤ b) : GrowR base B S I us ls out j gs W' := by
  obtain ⟨⟨⟨X, b0⟩, b1, b2, b3, b4, b5⟩, h1, h2, h3⟩ := h
  have hbl : ∀ b, v.ownBlock = some b → base ≤ b := fun b hb => (own_lt hown b hb).1
  have gsl : gs.length = j := by simpa using h1.1
  refine ⟨⟨⟨X, (hg.block B (lt_of_cells b0) (fun e => by have := hbl B e.symm; omega)).trans b0⟩, b1, lists_kept b2 hown hg, fun i l hi => ?_, b4, b5⟩, lists_kept h1 hown hg, fun q l hq hl => ?_, h3⟩
  · obtain ⟨u, hu, ho⟩ := b3 i l hi
    refine ⟨u, hu, ?_⟩
    by_cases hij : i = j
    · subst hij
      rw [hlj] at hi
      obtain rfl := Option.some.inj hi
      exact hkeep _ _ _ _ hn ho
    · refine own_far ho hg (fun b hb hvb => ?_)
      rcases hv with e | ⟨b', e, hb'⟩
      · rw [e] at hvb
        exact b4.two hij hu huj b hb hvb
      · rw [hvb] at e
        injection e with e
        have := hus u (List.mem_of_getElem? hu) b hb
        omega
  · obtain ⟨g, hgq, ho⟩ := h2 q l hq hl
    refine ⟨g, hgq, own_far ho hg (fun b hb hvb => ?_)⟩
    have hb1 := hgs g (List.mem_of_getElem? hgq) b hb
    rcases hv with e | ⟨b', e, hb'⟩
    · rw [e] at hvb
      rcases h3 q g hgq b hb with ⟨u, hu, hub⟩ | hS
      · exact b4.two (by omega : q ≠ j) hu huj b hub hvb
      · have := hus uj (List.mem_of_getElem? huj) b hvb
        omega
    · rw [hvb] at e
      injection e with e
      omega
/-- The grown list goes behind the others. -/
theorem GrowR.next {base B S S1 j : Nat} {I out out' r uj : Value} {us gs : List Value} {ls : List (List Int)} {lj : List Int} {W W' : World} (h : GrowR base B S I us ls out j gs W) (hlj : ls[j]? = some lj) (huj : us[j]? = some uj)
    (hr : OwnI W base r (marks j 0 (lj.length + 96))) (hv : r.ownBlock = uj.ownBlock ∨ ∃ b, r.ownBlock = some b ∧ S1 ≤ b) (hSS : S ≤ S1) (hI : ∀ b, I.ownBlock = some b → b < S)
    (hown : W'.ownsRow S 50 1 out' (j + 1) (gs ++ [r])) (hg : W.grownBy W' out.ownBlock) (hBS : B < S) : GrowR base B S I us ls out' (j + 1) (gs ++ [r]) W' := by
  have hk : KeepT W W' := (KeepT.refl W).app h.row hg
  obtain ⟨⟨⟨X, b0⟩, b1, b2, b3, b4, b5⟩, h1, h2, h3⟩ := h
  have hob : ∀ b, out.ownBlock = some b → S ≤ b := fun b hb => (own_lt h1 b hb).1
  have gsl : gs.length = j := by simpa using h1.1
  refine ⟨⟨⟨X, (hg.block B (lt_of_cells b0) (fun e => by have := hob B e.symm; omega)).trans b0⟩, b1, own_far b2 hg (fun b hb hob' => by have := hI b hb; have := hob b hob'; omega), fun i l hi => ?_, b4, b5⟩, hown, fun q l hq hl => ?_, fun q x hx b hb => ?_⟩
  · obtain ⟨u, hu, ho⟩ := b3 i l hi
    exact ⟨u, hu, ho.keepT hk⟩
  · by_cases hqj : q < j
    · obtain ⟨g, hgq, ho⟩ := h2 q l hqj hl
      exact ⟨g, by rw [List.getElem?_append_left (by omega)]; exact hgq, ho.keepT hk⟩
    · obtain rfl : q = j := by omega
      rw [hlj] at hl
      obtain rfl := Option.some.inj hl
      exact ⟨r, by rw [List.getElem?_append_right (by omega), gsl, Nat.sub_self]; rfl, hr.keepT hk⟩
  · rw [List.getElem?_append] at hx
    split at hx
    · exact h3 q x hx b hb
    · have hql : q - gs.length = 0 := by have := (List.getElem?_eq_some_iff.1 hx).1; simp at this; omega
      rw [hql] at hx
      obtain rfl : r = x := Option.some.inj hx
      obtain rfl : q = j := by omega
      rcases hv with e | ⟨b', e, hb'⟩
      · exact .inl ⟨uj, huj, by rw [← e]; exact hb⟩
      · rw [hb] at e
        injection e with e
        exact .inr (by omega)
/-- What the outer loop holds (kept shut). -/
def GrowAt (w : World) (base B S : Nat) (I : Value) (us : List Value) (ls : List (List Int)) (out i : Value) (wr : World) : Prop :=
  ∃ (j : Nat) (gs : List Value) (A : Option Addr) (cap : Nat), j ≤ ls.length ∧ i = .int .i64 j ∧ out = .slice A j cap ∧ GrowR base B S I us ls (.slice A j cap) j gs wr ∧ Below B w wr ∧ S ≤ wr.heap.size
/-- The inner one. -/
def GrowIn (w : World) (base B S S1 : Nat) (I : Value) (us : List Value) (ls : List (List Int)) (out : Value) (j : Nat) (gs : List Value) (uj : Value) (n : Nat) (l k : Value) (wr : World) : Prop :=
  ∃ (q : Nat) (A : Option Addr) (cap : Nat), q ≤ 16 ∧ k = .int .i64 q ∧ l = .slice A (n + q) cap ∧ OwnI wr base (.slice A (n + q) cap) (marks j 0 (n + q)) ∧ ((Value.slice A (n + q) cap).ownBlock = uj.ownBlock ∨ ∃ b, (Value.slice A (n + q) cap).ownBlock = some b ∧ S1 ≤ b) ∧
    GrowR base B S I us ls out j gs wr ∧ Below B w wr ∧ S1 ≤ wr.heap.size

set_option maxRecDepth 100000 in
set_option maxHeartbeats 4000000 in
theorem grow_any (base B : Nat) (I : Value) (us : List Value) (ls : List (List Int)) (W : World) (h : BookU W base B I us ls) (hl : ls.length ≤ 400) (hn : ∀ l ∈ ls, l.length ≤ 1000) (hm : Marked ls) (hbs : base ≤ W.heap.size) :
    Calls Tryz.prog 48 #[.pointer (some ⟨B, 0, none⟩)] W fun e w' => ∃ (A : Option Addr) (c : Nat) (gs : List Value), e = .returned (.slice A ls.length c) ∧ GrowR base B W.heap.size I us ls (.slice A ls.length c) ls.length gs w' ∧ Below B W w' := by
  obtain ⟨i0, ii, iz0, iz1, iz2⟩ := info_parts infoInt
  obtain ⟨j0, ji, jz0, jz1, jz2⟩ := info_parts infoList
  obtain ⟨N, hN⟩ : ∃ N, ls.length = N := ⟨_, rfl⟩
  have hI := h.oi
  rw [hN] at hI hl ⊢
  obtain ⟨A0, c0, rfl⟩ := own_slice hI
  have H := Lib.hid h
  have HNN := Lib.hid hn
  have HN := Lib.hid hN
  have HM := Lib.hid hm
  have p0 := h.cell
  have hBw := (by obtain ⟨X, h0⟩ := h.blk; exact lt_of_cells h0 : B < W.heap.size)
  have hus : ∀ u ∈ us, ∀ b, u.ownBlock = some b → b < W.heap.size := fun u hu b hb => by
    obtain ⟨q, hq⟩ := List.getElem?_of_mem hu
    obtain ⟨y, h1, h2⟩ := h.ru q _ (List.getElem?_eq_getElem (by rw [← h.lu]; exact (List.getElem?_eq_some_iff.1 hq).1))
    rw [hq] at h1
    obtain rfl := Option.some.inj h1
    exact (h2.lt b hb).2
  have hIb : ∀ b, (Value.slice A0 N c0).ownBlock = some b → b < W.heap.size := fun b hb => (own_lt hI b hb).2
  have HUS := Lib.hid hus
  have HIB := Lib.hid hIb
  have hlow := h.low
  clear h hn hN hI hm hus hIb
  go_enter Tryz.func48, Tryz.ntmps48
  go_wp2_with fail
  go_loopw [3, 4] (fun out i wr => GrowAt W base B W.heap.size (.slice A0 N c0) us ls out i wr) (fun _ i _ => N - (intOf i).toNat)
  case atStart => exact ⟨0, [], none, 0, Nat.zero_le _, rfl, rfl, ⟨H.out, World.ownsRow_nil _ _ _ _, fun q l hq _ => absurd hq (by omega), fun q x hx => by simp at hx⟩, Below.refl _ _, Nat.le_refl _⟩
  case round =>
    obtain ⟨j, gs, Ao, co, hj, rfl, rfl, hR, hbw, hSw⟩ := hrel
    rw [HN.out] at hj
    have r0 := hR.bu.cell
    clear p0
    by_cases hlt : j < N
    · have hrow := hR.bu.oi
      rw [HN.out] at hrow
      obtain ⟨g, u, rfl, _, hu, z0⟩ := row_cell hrow j hlt
      obtain ⟨l, hlk⟩ : ∃ l, ls[j]? = some l := ⟨_, List.getElem?_eq_getElem (by rw [HN.out]; exact hlt)⟩
      have hll := HNN.out l (List.mem_of_getElem? hlk)
      obtain ⟨u', hu', ou⟩ := hR.bu.ru j l hlk
      obtain rfl : u = u' := by rw [hu] at hu'; exact Option.some.inj hu'
      obtain ⟨Au, cu, rfl⟩ := ou.slice
      have hmk := (HM.out j l hlk).1
      have HLK := Lib.hid hlk
      have HUJ := Lib.hid hu
      have HR := Lib.hid hR
      have HOU := Lib.hid ou
      have HMK := Lib.hid hmk
      clear hrow hu hu' hlk hR ou hmk
      have hgs : ∀ x ∈ gs, ∀ b, x.ownBlock = some b → b < wr.heap.size := fun x hx b hb => by
        obtain ⟨q, hq⟩ := List.getElem?_of_mem hx
        have hql := (List.getElem?_eq_some_iff.1 hq).1
        have hgl : gs.length = j := by simpa using HR.out.row.1
        obtain ⟨l', hl'⟩ : ∃ l', ls[q]? = some l' := ⟨_, List.getElem?_eq_getElem (by rw [HN.out]; omega)⟩
        obtain ⟨y, h1, h2⟩ := HR.out.rg q l' (by omega) hl'
        rw [hq] at h1
        obtain rfl := Option.some.inj h1
        exact (h2.lt b hb).2
      have HGS := Lib.hid hgs
      obtain ⟨w1, hw1⟩ : ∃ w1, w1 = wr := ⟨_, rfl⟩
      subst hw1
      clear hgs
      go_wp2_with fail
      go_loopw [5, 6] (fun l' k wr => GrowIn W base B W.heap.size w1.heap.size (.slice (some ⟨g, 0, none⟩) N c0) us ls (.slice Ao j co) j gs (.slice Au l.length cu) l.length l' k wr) (fun _ k _ => 16 - (intOf k).toNat)
      case atStart => exact ⟨0, Au, cu, by omega, rfl, rfl, by show OwnI w1 base (.slice Au l.length cu) (marks j 0 l.length); rw [← HMK.out]; exact HOU.out, .inl rfl, HR.out, hbw, Nat.le_refl _⟩
      case round =>
        obtain ⟨q, A, cap, hq, rfl, rfl, hown, hblk, hR, hbq, hS1⟩ := hrel
        obtain ⟨p, hp⟩ : ∃ p, l.length + q = p := ⟨_, rfl⟩
        rw [hp] at hown hblk ⊢
        have hpz : p ≤ 1016 := by omega
        have HPP := Lib.hid hp
        have hlp : l.length ≤ p := by omega
        have hown' := hown
        unfold OwnI at hown'
        rw [marks_length] at hown'
        have HRq := Lib.hid hR
        have HBlk := Lib.hid hblk
        clear hp hown hblk hR z0 r0
        by_cases hlq : q < 16
        · go_wp2_with (first
            | (go_at_call 102; refine (markInts_any j p 1 (by omega) (by omega) (by omega) _).mono ?_; rintro e w2 ⟨A2, c2, rfl, hb2, ho2⟩;
                obtain ⟨g2, rfl, _, _, _⟩ := ho2.cell 0 _ (marks_get j p 1 0 (by omega));
                have hc2 := Lib.hid (ho2.cells (g := g2) rfl);
                have hown2 := own_below hown' hb2; have hs2 := hb2.size)
            | (at_builtin; refine wpList_append_far _ rfl _ _ 50 rfl base 3 i0 _ 8 Tryz.underlying50 ii iz0 iz1 iz2 rfl (.slice A p cap) p ((marks j 0 p).map (Value.int .i64)) rfl hown2 ⟨g2, 0, none⟩ 1 c2 ((marks j p 1).map (Value.int .i64)) rfl (by rw [List.length_map, marks_length]) hc2.out (fun u hu => by obtain ⟨z, _, rfl⟩ := List.mem_map.1 hu; rfl) (by decide) (by unfold maxLen; omega) (by omega) (by omega) ?_;
                intro v4 w4 hown4 hg4 hbk4 hkeep4; obtain ⟨A4, c4, rfl⟩ := own_slice hown4))
          have hR4 := (HRq.out.below hb2).app hown2 hg4 hkeep4 HLK.out HUJ.out hlp hSw HUS.out HGS.out HBlk.out
          have hs4 := hg4.size
          go_roundw
          case rel =>
            refine ⟨q + 1, A4, c4, by omega, by go_num, by rw [← HPP.out]; rfl, ?_, ?_, hR4, below_append (hbq.trans (hb2.mono (by omega))) hown2 (by omega) (by omega) hg4, by omega⟩
            · unfold OwnI
              rw [marks_length, ← Nat.add_assoc, HPP.out, marks_add, List.map_append, Nat.zero_add]
              exact hown4
            · rw [← Nat.add_assoc, HPP.out]
              rcases hbk4 with e | ⟨b, e, hb⟩
              · rw [e]; exact HBlk.out
              · exact .inr ⟨b, e, by omega⟩
          case measure => simp [intOf]; omega
        · obtain rfl : q = 16 := by omega
          have hj400 : j ≤ 400 := by omega
          go_wp2_with (first
            | (go_at_call 102; refine (markInts_any j p 80 (by omega) (by omega) (by omega) _).mono ?_; rintro e w2 ⟨A2, c2, rfl, hb2, ho2⟩;
                obtain ⟨g2, rfl, _, _, _⟩ := ho2.cell 0 _ (marks_get j p 80 0 (by omega));
                have hc2 := Lib.hid (ho2.cells (g := g2) rfl);
                have hown2 := own_below hown' hb2; have hs2 := hb2.size)
            | (at_builtin; refine wpList_append_far _ rfl _ _ 50 rfl base 3 i0 _ 8 Tryz.underlying50 ii iz0 iz1 iz2 rfl (.slice A p cap) p ((marks j 0 p).map (Value.int .i64)) rfl hown2 ⟨g2, 0, none⟩ 80 c2 ((marks j p 80).map (Value.int .i64)) rfl (by rw [List.length_map, marks_length]) hc2.out (fun u hu => by obtain ⟨z, _, rfl⟩ := List.mem_map.1 hu; rfl) (by decide) (by unfold maxLen; omega) (by omega) (by omega) ?_;
                intro v4 w4 hown4 hg4 hbk4 hkeep4; obtain ⟨A4, c4, rfl⟩ := own_slice hown4;
                have hs4 := hg4.size;
                have hR4 := ((HRq.out.below hb2).app hown2 hg4 hkeep4 HLK.out HUJ.out hlp hSw HUS.out HGS.out HBlk.out).below ((Below.refl _ _).alloc (Nat.le_refl _) (.cells #[.slice A4 (p + 80) c4] 50)))
            | (at_builtin; refine wpList_append_far _ rfl _ _ 25 rfl W.heap.size 50 j0 _ 24 Tryz.underlying25 ji jz0 jz1 jz2 rfl (.slice Ao j co) j gs rfl hR4.row ⟨w4.heap.size, 0, none⟩ 1 1 [.slice A4 (p + 80) c4] rfl rfl (new_cells w4 [.slice A4 (p + 80) c4] 50) (fun u hu => by rw [List.mem_singleton] at hu; subst hu; rfl) (by decide) (by unfold maxLen; omega) (by omega) (by simp; omega) ?_;
                intro v5 w5 hown5 hg5 hbk5 hkeep5; obtain ⟨A5, c5, rfl⟩ := own_slice hown5))
          have hs5 := hg5.size
          go_roundw
          case rel =>
            have hb4 : Below B W w4 := below_append (hbq.trans (hb2.mono (by omega))) hown2 (by omega) (by omega) hg4
            refine ⟨j + 1, gs ++ [.slice A4 (p + 80) c4], A5, c5, by rw [HN.out]; omega, by go_num, rfl, ?_, below_append (hb4.alloc (by omega) _) hR4.row (by omega) (by simp; omega) hg5, by simp at hs5; omega⟩
            refine hR4.next (S1 := w1.heap.size) HLK.out HUJ.out ?_ ?_ hSw HIB.out hown5 hg5 hBw
            · have hm : marks j 0 (l.length + 96) = marks j 0 p ++ marks j p 80 := by
                rw [show l.length + 96 = p + 80 by have := HPP.out; omega, marks_add, Nat.zero_add]
              unfold OwnI
              rw [hm, List.length_append, marks_length, marks_length, List.map_append]
              exact hown4.alloc _
            · rcases hbk4 with e | ⟨b, e, hb⟩
              · rw [e]; exact HBlk.out
              · exact .inr ⟨b, e, by omega⟩
          case measure => simp [intOf]; omega
    · obtain rfl : j = N := by omega
      go_wp2_with fail
      go_ret
      exact ⟨Ao, co, gs, rfl, by assumption, hbw⟩
end Go.Proofs.YtinobikikineiabGreatDoor
