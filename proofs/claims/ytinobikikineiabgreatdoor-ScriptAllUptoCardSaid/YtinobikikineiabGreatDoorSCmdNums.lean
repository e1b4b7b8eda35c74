/- The walk of script's command where the word wants numbers. Conditions: the line's size; the error variables lie as the program lays them. -/
import Derived.Test.YtinobikikineiabGreatDoorSCommand
namespace Go.Proofs.YtinobikikineiabGreatDoor
open Go.RowKit Go.Shelf

namespace Sc
theorem cutsB_sizes (l : List UInt8) : (cutsB l).length ≤ l.length + 1 ∧ ∀ p ∈ cutsB l, p.length ≤ l.length := by
  induction l with
  | nil => exact ⟨Nat.le_refl _, fun p hp => by simp [cutsB] at hp; subst hp; exact Nat.le_refl _⟩
  | cons c t ih =>
    obtain ⟨h1, h2⟩ := ih
    by_cases hc : blank c = true
    · rw [cutsB_blank c t hc]
      refine ⟨by simp only [List.length_cons]; omega, fun p hp => ?_⟩
      rcases List.mem_cons.1 hp with rfl | hp
      · exact Nat.zero_le _
      · have := h2 p hp; rw [List.length_cons]; omega
    · obtain ⟨p, ps, hp⟩ : ∃ p ps, cutsB t = p :: ps := by
        cases hh : cutsB t with
        | nil => exact absurd hh (cutsB_ne t)
        | cons q qs => exact ⟨q, qs, rfl⟩
      rw [cutsB_other c t p ps (by simpa using hc) hp]
      rw [hp] at h1 h2
      refine ⟨by simp only [List.length_cons] at h1 ⊢; omega, fun q hq => ?_⟩
      rcases List.mem_cons.1 hq with rfl | hq
      · have := h2 p (by simp); simp only [List.length_cons]; omega
      · have := h2 q (by simp [hq]); rw [List.length_cons]; omega
theorem fields_sizes (l : List UInt8) : (fields l).length ≤ l.length + 1 ∧ ∀ p ∈ fields l, p.length ≤ l.length := by
  obtain ⟨h1, h2⟩ := cutsB_sizes l
  exact ⟨Nat.le_trans (List.length_filter_le _ _) h1, fun p hp => h2 p (List.mem_filter.1 hp).1⟩
/-- The values of words. -/
def vals (xs : List (List UInt8)) : List Int := xs.map fun x => (Lx.numVal x : Int)
theorem numbers_all (xs : List (List UInt8)) (h : ∀ x ∈ xs, Lx.numCode x = 0) : numbers xs = some (vals xs) := by
  induction xs with
  | nil => rfl
  | cons x xs ih =>
    simp only [numbers]
    rw [if_pos (h x (by simp)), ih (fun y hy => h y (by simp [hy]))]
    rfl
theorem numbers_not (xs : List (List UInt8)) (x : List UInt8) (hx : x ∈ xs) (h : Lx.numCode x ≠ 0) : numbers xs = none := by
  induction xs with
  | nil => cases hx
  | cons y xs ih =>
    simp only [numbers]
    split
    · rename_i h0
      rcases List.mem_cons.1 hx with rfl | hx
      · exact absurd h0 h
      · rw [ih hx]; rfl
    · rfl
end Sc

theorem infoInt : (Tryz.prog.info? 3).map (fun i => (i.zero, i.size, i.bytes)) = some (some (.int .i64 0), 1, 8) := by kernel_rfl
/-- A row of numbers. -/
def OwnI (w : World) (base : Nat) (v : Value) (l : List Int) : Prop := w.ownsRow base 3 1 v l.length (l.map (Value.int .i64))
theorem OwnI.reads {w : World} {base : Nat} {v : Value} {l : List Int} (h : OwnI w base v l) : ReadsI w v l := by
  obtain ⟨_, ⟨rfl, hn⟩ | ⟨g, cap, cur, rfl, _, hh, hc, _, hsz, ht⟩⟩ := h
  · have : l = [] := List.eq_nil_of_length_eq_zero hn
    subst this
    exact ReadsI.nil w
  · refine ⟨some ⟨g, 0, none⟩, cap, rfl, hc, fun _ => ⟨g, 0, rfl, fun j z hz => ?_⟩⟩
    have hj := (List.getElem?_eq_some_iff.1 hz).1
    have h2 : (l.map (Value.int .i64))[j]? = some (.int .i64 z) := by rw [List.getElem?_map, hz]; rfl
    rw [← ht, List.getElem?_take_of_lt (by omega)] at h2
    rw [Nat.zero_add, cell_of_row w g j cur _ _ hh, ← Array.getElem?_toList]
    exact h2
/-- How it ends. -/
def CmdNums (l : List UInt8) (w : World) (e : Ending) (w' : World) : Prop :=
  Below w.heap.size w w' ∧ ((Sc.numbers (Sc.fields (Sc.trim (Sc.tailW l))) = none ∧ ∃ v0 v1 : ByteArray, e = .returned (.tuple #[.agg #[.string v0, .string v1, .slice none 0 0], .bool false])) ∨
    ∃ ns A n c, Sc.numbers (Sc.fields (Sc.trim (Sc.tailW l))) = some ns ∧ e = .returned (.tuple #[.agg #[.string ⟨(Sc.headW l).toArray⟩, .string ⟨#[]⟩, .slice A n c], .bool (Sc.isCommand ⟨Sc.headW l, [], ns⟩)]) ∧ OwnI w' w.heap.size (.slice A n c) ns)

/-- What the loop over the words holds at a round's head (kept shut). -/
def NumsAt (w : World) (B g bs : Nat) (cs : Array Value) (word : ByteArray) (xs : List ByteArray) (i : Value) (wr : World) : Prop :=
  ∃ (k : Nat) (A : Option Addr) (c : Nat), k ≤ xs.length ∧ i = .int .i64 k ∧ (∀ x ∈ xs.take k, Lx.numCode x.data.toList = 0) ∧
    wr.heap[B]? = some (.cells #[.string word, .string ⟨#[]⟩, .slice A k c] 52 (0, 0)) ∧
    wr.heap[w.heap.size]? = some (.cells #[.string ⟨#[]⟩, .string ⟨#[]⟩, .slice none 0 0] 52 (0, 0)) ∧
    wr.heap[g]? = some (.cells cs 9 (0, 0)) ∧
    wr.ownsRow bs 3 1 (.slice A k c) k ((Sc.vals ((xs.take k).map (·.data.toList))).map (Value.int .i64)) ∧ Below w.heap.size w wr ∧ bs ≤ wr.heap.size
theorem vals_len (l : List (List UInt8)) : (Sc.vals l).length = l.length := List.length_map ..
theorem vals_snoc (xs : List ByteArray) (k : Nat) (x : ByteArray) (h : xs[k]? = some x) : (Sc.vals ((xs.take (k + 1)).map (·.data.toList))).map (Value.int .i64) = (Sc.vals ((xs.take k).map (·.data.toList))).map (Value.int .i64) ++ [.int .i64 (Lx.numVal x.data.toList : Int)] := by
  rw [List.take_add_one, h]
  simp [Sc.vals]
theorem codes_snoc {xs : List ByteArray} {k : Nat} {x : ByteArray} (h : xs[k]? = some x) (hp : ∀ x ∈ xs.take k, Lx.numCode x.data.toList = 0) (hx : Lx.numCode x.data.toList = 0) : ∀ x ∈ xs.take (k + 1), Lx.numCode x.data.toList = 0 := by
  intro y hy
  rw [List.take_add_one, h] at hy
  rcases List.mem_append.1 hy with hy | hy
  · exact hp y hy
  · simp at hy; subst hy; exact hx
theorem own_base {w : World} {base base' : Nat} {e : TypeId} {size n : Nat} {v : Value} {xs : List Value} (h : w.ownsRow base e size v n xs) (hb : base' ≤ base) : w.ownsRow base' e size v n xs := by
  obtain ⟨hl, h0 | ⟨g, cap, cur, rfl, hbase, h⟩⟩ := h
  · exact ⟨hl, .inl h0⟩
  · exact ⟨hl, .inr ⟨g, cap, cur, rfl, by omega, h⟩⟩
theorem nums_end {l : List UInt8} {word : ByteArray} {ns : List Int} {A : Option Addr} {n c : Nat} {w W' : World} (hw : word.data.toList = Sc.headW l) (hn : Sc.numbers (Sc.fields (Sc.trim (Sc.tailW l))) = some ns) (hb : Below w.heap.size w W') (ho : OwnI W' w.heap.size (.slice A n c) ns) :
    CmdNums l w (.returned (.tuple #[.agg #[.string word, .string ⟨#[]⟩, .slice A n c], .bool (Sc.isCommand ⟨word.data.toList, [], ns⟩)])) W' := by
  have h1 : word = ⟨(Sc.headW l).toArray⟩ := by rw [← hw, bytes_mk]
  refine ⟨hb, .inr ⟨ns, A, n, c, hn, ?_, ho⟩⟩
  rw [hw, h1]
theorem own_later {w w' : World} {base : Nat} {v : Value} {l : List Int} (h : OwnI w base v l) (hb : Below w.heap.size w.drew w') : OwnI w' base v l := own_below (w := w.drew) h hb
/-- Behind an append to the numbers. -/
theorem nums_step {wr w2 : World} {bs k : Nat} {v : Value} {xs : List Value} {o c : Obj} {b : Nat} (hown : wr.ownsRow bs 3 1 v k xs) (hg : (wr.alloc o).grownBy w2 v.ownBlock) (hb : b < bs) (h : wr.heap[b]? = some c) : w2.heap[b]? = some c :=
  (hg.block b (by simp; have := lt_of h; omega) (fun e => by have := (own_lt hown _ e.symm).1; omega)).trans (alloc_old h _)
-- the walk
set_option maxRecDepth 100000 in
set_option maxHeartbeats 8000000 in
theorem command_nums (s : ByteArray) (E : Errs) (w : World) (hE : Laid E two w) (hs : s.size ≤ 65536) (hm : Sc.many (Sc.wants (Sc.headW s.data.toList)) ≠ 0) :
    Calls Tryz.prog 19 #[.string s] w (CmdNums s.data.toList w) := by
  obtain ⟨i0, ii, iz0, iz1, iz2⟩ := info_parts infoInt
  obtain ⟨k, word, hk, hi, hx, hw, hy⟩ := index_two s
  obtain ⟨rest, hrest⟩ : ∃ rest : ByteArray, ⟨(Sc.trim (Sc.tailW s.data.toList)).toArray⟩ = rest := ⟨_, rfl⟩
  have hrl : rest.data.toList = Sc.trim (Sc.tailW s.data.toList) := by rw [← hrest]
  have hwz : word.size ≤ 65536 := by rw [← hx]; simp; omega
  have hrz : rest.size ≤ 65536 := by
    rw [← bytes_size, hrl, ← hy]
    refine Nat.le_trans (Sc.trim_len _) ?_
    rw [bytes_size]; simp; omega
  have hyz : (s.extract k s.size).size ≤ 65536 := by simp; omega
  have HX := Lib.hid hx
  have HY := Lib.hid hy
  have HR := Lib.hid hrest
  have HRL := Lib.hid hrl
  have HWL := Lib.hid hw
  obtain ⟨m, hm2⟩ : ∃ m, Sc.many (Sc.wants word.data.toList) = m := ⟨_, rfl⟩
  have hm0 : ((m : Int) == 0) = false := by rw [hw] at hm2; rw [beq_eq_false_iff_ne]; omega
  have HM := Lib.hid hm2
  have hi' : Lib.indexAny s.data.toList [32, 9, 13] = (k : Int) ∨ (Lib.indexAny s.data.toList [32, 9, 13] = -1 ∧ s.size = k ∧ s = word) := by
    rcases hi with h | ⟨h1, h2⟩
    · exact .inl h
    · exact .inr ⟨h1, h2.symm, by rw [← HX.out, h2]; simp⟩
  have HY2 : Hid (s.size = k → ByteArray.empty.data.toList = Sc.tailW s.data.toList) := fun h => by
    rw [← hy, ← h]; simp
  clear hx hy hrest hrl hw hm hm2 hi
  rcases hi' with hi | ⟨hi, rfl, rfl⟩
  · have HI := Lib.hid hi
    clear hi
    go_enter Tryz.func19, Tryz.ntmps19
    go_wp2_with (first
      | (go_at_call 78; refine (indexAny_any s _ (by omega)).mono ?_; rintro e w1 ⟨rfl, hb1⟩; rw [HI.out]; obtain ⟨hc1, hf1⟩ := bcell hb1; have hz1 : w.heap.size < w1.heap.size := (by have := hb1.size; simp at this; omega))
      | (go_at_call 79; (try rw [HX.out]); refine (clone_any _ _ (by omega)).mono ?_; rintro e w2 ⟨rfl, hb2⟩; obtain ⟨hc2, hf2⟩ := bcell hb2; have hz2 := hb2.size)
      | (go_at_call 77; refine (trim_any _ _ (by first | omega | decide)).mono ?_; rintro e w3 ⟨rfl, hb3⟩; (first | rw [HY.out, HR.out] | rw [HY2.out trivial, HR.out]); obtain ⟨hc3, hf3⟩ := bcell hb3; have hz3 : w2.heap.size < w3.heap.size := (by have := hb3.size; simp at this; omega))
      | (go_at_call 81; refine (wants_any _ _).mono ?_; rintro e w' ⟨rfl, rfl⟩)
      | (go_at_call 80; refine (many_any _ _).mono ?_; rintro e w' ⟨rfl, rfl⟩; rw [HM.out])
      | (go_at_call 82; refine (fields_any rest _ (by omega)).mono ?_; rintro e w4 ⟨g, xs, cs, rfl, hb4, hxs, hgs, hcs⟩))
    have hN := keep (keep (alloc_old (keep (keep (heap_alloc_new w (.cells #[.string ⟨#[]⟩, .string ⟨#[]⟩, .slice none 0 0] 52)) hb1) hb2) (.cells #[.string word, .string ⟨#[]⟩, .slice none 0 0] 52)) hb3) hb4
    have hB := keep (keep (heap_alloc_new w2 (.cells #[.string word, .string ⟨#[]⟩, .slice none 0 0] 52)) hb3) hb4
    have hbW : Below w.heap.size w w4 := by
      have h1 : Below w.heap.size w w1 := ((Below.refl _ w).alloc (Nat.le_refl _) _).trans (hb1.mono (by simp))
      have h2 := h1.trans (hb2.mono h1.size)
      have h3 := (h2.alloc h2.size _).trans (hb3.mono (by have := h2.size; simp; omega))
      exact h3.trans (hb4.mono h3.size)
    have hlB := lt_of hB
    have hlg := lt_of hgs
    have hlN := lt_of hN
    obtain ⟨B, hBe⟩ : ∃ B, w2.heap.size = B := ⟨_, rfl⟩
    have hNB : w.heap.size < B := by omega
    have HXS : Hid (xs.map (·.data.toList) = Sc.fields (Sc.trim (Sc.tailW s.data.toList))) := by show _ = _; rw [hxs, HRL.out]
    have HCS := Lib.hid hcs
    have HNN := Lib.hid hN
    have HGS := Lib.hid hgs
    have HSZ : Hid (xs.length ≤ 65537 ∧ ∀ x ∈ xs, x.size ≤ 65536) := by
      obtain ⟨f1, f2⟩ := Sc.fields_sizes rest.data.toList
      rw [← hxs] at f1 f2
      rw [List.length_map, bytes_size] at f1
      refine ⟨by omega, fun x hx => ?_⟩
      have := f2 x.data.toList (List.mem_map_of_mem hx)
      rw [bytes_size, bytes_size] at this
      omega
    rw [hBe] at hB hlB ⊢
    have HBB := Lib.hid hB
    obtain ⟨hxl, _⟩ := HSZ.out
    clear hN hB hgs hcs hxs hBe hc1 hf1 hc2 hf2 hc3 hf3 hz1 hz2 hz3 hb1 hb2 hb3 hb4
    go_loopw [40] (fun i wr => NumsAt w B g w4.heap.size cs word xs i wr) (fun i _ => xs.length - (intOf i).toNat)
    case atStart => exact ⟨0, none, 0, Nat.zero_le _, rfl, fun x hx => by simp at hx, HBB.out, HNN.out, HGS.out, World.ownsRow_nil _ _ _ _, hbW, Nat.le_refl _⟩
    case round =>
      obtain ⟨j, A, c, hj, rfl, hp, hB, hN, hG, hown, hbw, hzr⟩ := hrel
      have HP := Lib.hid hp
      have HB := Lib.hid hB
      have HN := Lib.hid hN
      have HG := Lib.hid hG
      have d0 : wr.cell? ⟨B, 0, none⟩ = some (.string word) := by rw [cell_of_row wr _ 0 _ _ _ hB]; rfl
      have d1 : wr.cell? ⟨B, 1, none⟩ = some (.string ⟨#[]⟩) := by rw [cell_of_row wr _ 1 _ _ _ hB]; rfl
      have d2 : wr.cell? ⟨B, 2, none⟩ = some (.slice A j c) := by rw [cell_of_row wr _ 2 _ _ _ hB]; rfl
      have r0 : wr.cell? ⟨w.heap.size, 0, none⟩ = some (.string ⟨#[]⟩) := by rw [cell_of_row wr _ 0 _ _ _ hN]; rfl
      have r1 : wr.cell? ⟨w.heap.size, 1, none⟩ = some (.string ⟨#[]⟩) := by rw [cell_of_row wr _ 1 _ _ _ hN]; rfl
      have r2 : wr.cell? ⟨w.heap.size, 2, none⟩ = some (.slice none 0 0) := by rw [cell_of_row wr _ 2 _ _ _ hN]; rfl
      have g0 := block_frozen hN 0
      have g1 := block_frozen hN 1
      have g2 := block_frozen hN 2
      clear hp hB hN hG
      by_cases hlt : j < xs.length
      · obtain ⟨x, hx⟩ : ∃ x, xs[j]? = some x := ⟨_, List.getElem?_eq_getElem hlt⟩
        have hxz := HSZ.out.2 x (List.mem_of_getElem? hx)
        have a0 : wr.cell? ⟨g, j, none⟩ = some (.string x) := by rw [cell_of_row wr _ j _ _ _ HG.out]; exact HCS.out j x hx
        have HJ := Lib.hid hx
        clear hx
        by_cases hn : Lx.numCode x.data.toList = 0
        · have HC := Lib.hid hn
          have HVS := Lib.hid (vals_snoc xs j x HJ.out)
          clear hn
          go_wp2_with (first
            | (go_at_call 85; refine (number_ok x E _ (hE.below hbw) (by unfold maxLen; omega) HC.out).mono ?_; rintro e w' ⟨rfl, rfl⟩)
            | (at_builtin; refine wpList_append_own _ rfl _ _ 50 rfl w4.heap.size 3 i0 _ 1 8 Tryz.underlying50 ii iz0 iz1 iz2 rfl (by decide) _ _ _ rfl (hown.alloc _) ⟨wr.heap.size, 0, none⟩ 1 1 [.int .i64 (Lx.numVal x.data.toList : Int)] rfl rfl (new_cells wr [.int .i64 (Lx.numVal x.data.toList : Int)] 3) (fun u hu => by rw [List.mem_singleton] at hu; subst hu; rfl) (by unfold maxLen; omega) (by omega) (by simp; omega) ?_; intro v2 w5 hown2 hg2 _; obtain ⟨A2, c2, rfl⟩ := own_slice hown2; have hB5 := Lib.hid (nums_step hown hg2 hlB HB.out); have e2 : w5.cell? ⟨B, 2, none⟩ = some (.slice A j c) := (by rw [cell_of_row w5 _ 2 _ _ _ hB5.out]; rfl); have k2 := block_frozen hB5.out 2))
          go_roundw
          case rel =>
            have hg5 := nums_step hown hg2 hlg HG.out
            have hN5 := nums_step hown hg2 hlN HN.out
            have hsz := hg2.size
            simp at hsz
            exact ⟨j + 1, A2, c2, by omega, by go_num, codes_snoc HJ.out HP.out HC.out, set_block hB5.out _, set_far hN5 (by omega), set_far hg5 (by
              intro e
              subst e
              have := HB.out
              rw [HG.out] at this
              injection this with this
              injection this with _ ht _
              exact absurd ht (by decide)), own_keep (by rw [HVS.out]; exact hown2) fun q cs t hq hh => set_far hh (by omega), (below_append (hbw.alloc hbw.size _) (hown.alloc _) hbW.size (by have := hbw.size; simp; omega) hg2).setCell (by show w.heap.size ≤ B; omega) _, by simp [World.setCell]; omega⟩
          case measure => simp [intOf]; omega
        · have HC := Lib.hid hn
          clear hn
          go_wp2_with (first
            | (go_at_call 85; refine (number_no x E _ (hE.below hbw) (by unfold maxLen; omega) HC.out).mono ?_; rintro e w5 ⟨b, rfl, hb5, _, _⟩; have y0 := cell_keep hb5 r0; have y1 := cell_keep hb5 r1; have y2 := cell_keep hb5 r2; have k0 := frozen_keep hb5 r0 g0; have k1 := frozen_keep hb5 r1 g1; have k2 := frozen_keep hb5 r2 g2))
          obtain ⟨q0, q1, q2⟩ := three_set w5 w.heap.size (.string ⟨#[]⟩) (.string ⟨#[]⟩) (.slice none 0 0) (by rw [y0]; rfl) (by rw [y1]; rfl) (by rw [y2]; rfl)
          refine bodyPost_ret (v := .tuple #[.agg #[.string ⟨#[]⟩, .string ⟨#[]⟩, .slice none 0 0], .bool false]) (by simp [results, Tryz.results19, go_sem, q0, q1, q2]) rfl ?_
          have hb6 : Below w.heap.size w w5 := hbw.trans (hb5.mono hbw.size)
          refine ⟨((hb6.setCell (Nat.le_refl _) _).setCell (Nat.le_refl _) _).setCell (Nat.le_refl _) _, .inl ⟨?_, _, _, rfl⟩⟩
          rw [← HXS.out]
          exact Sc.numbers_not _ x.data.toList (List.mem_map_of_mem (List.mem_of_getElem? HJ.out)) HC.out
      · obtain rfl : j = xs.length := by omega
        have hal : ∀ x ∈ xs, Lx.numCode x.data.toList = 0 := by have := HP.out; rwa [List.take_length] at this
        obtain ⟨ns, hns⟩ : ∃ ns, Sc.vals (xs.map (·.data.toList)) = ns := ⟨_, rfl⟩
        have HNS : Hid (Sc.numbers (Sc.fields (Sc.trim (Sc.tailW s.data.toList))) = some ns) := by
          show _ = _
          rw [← HXS.out, ← hns]
          exact Sc.numbers_all _ (fun y hy => by
            obtain ⟨x, hx, rfl⟩ := List.mem_map.1 hy
            exact hal x hx)
        have hnl : ns.length = xs.length := by rw [← hns, vals_len, List.length_map]
        have hownI : OwnI wr w4.heap.size (.slice A xs.length c) ns := by
          unfold OwnI
          rw [hnl, ← hns]
          have := hown
          rwa [List.take_length] at this
        have HO := Lib.hid hownI
        have HRd := Lib.hid hownI.reads
        have HAl := Lib.hid hns
        clear hal hns hownI hown
        have hltB := lt_of HB.out
        have hltN := lt_of HN.out
        go_wp2_with fail
        go_region_with ((go_at_call 70; refine (isCommand_any word ⟨#[]⟩ A xs.length c ns _ (by exact HRd.out) (by unfold maxLen; omega) (by decide)).mono ?_; rintro e w5 ⟨rfl, hb5⟩; have x0 := cell_keep hb5 d0; have x1 := cell_keep hb5 d1; have x2 := cell_keep hb5 d2; have y0 := cell_keep hb5 r0; have y1 := cell_keep hb5 r1; have y2 := cell_keep hb5 r2; have k0 := frozen_keep hb5 r0 g0; have k1 := frozen_keep hb5 r1 g1; have k2 := frozen_keep hb5 r2 g2))
        all_goals
          go_wp2
          obtain ⟨q0, q1, q2⟩ := three_set w5 w.heap.size (.string word) (.string ⟨#[]⟩) (.slice A xs.length c) (by rw [y0]; rfl) (by rw [y1]; rfl) (by rw [y2]; rfl)
          refine bodyPost_ret (v := .tuple #[.agg #[.string word, .string ⟨#[]⟩, .slice A xs.length c], .bool (Sc.isCommand ⟨word.data.toList, [], ns⟩)]) (by simp [results, Tryz.results19, go_sem, q0, q1, q2]) rfl ?_
          have hb6 : Below w.heap.size w w5 := (by first | exact hbw.trans (hb5.mono hbw.size) | exact hbw.drew.trans (hb5.mono hbw.size))
          have ho6 : OwnI w5 w4.heap.size (.slice A xs.length c) ns := own_later HO.out hb5
          refine nums_end HWL.out HNS.out ?_ ?_
          · first
              | exact ((hb6.setCell (Nat.le_refl _) _).setCell (Nat.le_refl _) _).setCell (Nat.le_refl _) _
              | exact below_drewN' (((hb6.setCell (Nat.le_refl _) _).setCell (Nat.le_refl _) _).setCell (Nat.le_refl _) _) 1
          · exact own_base (own_keep ho6 fun q cs t hq hh => set_far (set_far (set_far hh (by omega)) (by omega)) (by omega)) hbW.size
  · have HI := Lib.hid hi
    clear hi
    go_enter Tryz.func19, Tryz.ntmps19
    go_wp2_with (first
      | (go_at_call 78; refine (indexAny_any s _ (by omega)).mono ?_; rintro e w1 ⟨rfl, hb1⟩; rw [HI.out]; obtain ⟨hc1, hf1⟩ := bcell hb1; have hz1 : w.heap.size < w1.heap.size := (by have := hb1.size; simp at this; omega))
      | (go_at_call 79; (try rw [HX.out]); refine (clone_any _ _ (by omega)).mono ?_; rintro e w2 ⟨rfl, hb2⟩; obtain ⟨hc2, hf2⟩ := bcell hb2; have hz2 := hb2.size)
      | (go_at_call 77; refine (trim_any _ _ (by first | omega | decide)).mono ?_; rintro e w3 ⟨rfl, hb3⟩; (first | rw [HY.out, HR.out] | rw [HY2.out trivial, HR.out]); obtain ⟨hc3, hf3⟩ := bcell hb3; have hz3 : w2.heap.size < w3.heap.size := (by have := hb3.size; simp at this; omega))
      | (go_at_call 81; refine (wants_any _ _).mono ?_; rintro e w' ⟨rfl, rfl⟩)
      | (go_at_call 80; refine (many_any _ _).mono ?_; rintro e w' ⟨rfl, rfl⟩; rw [HM.out])
      | (go_at_call 82; refine (fields_any rest _ (by omega)).mono ?_; rintro e w4 ⟨g, xs, cs, rfl, hb4, hxs, hgs, hcs⟩))
    have hN := keep (keep (alloc_old (keep (keep (heap_alloc_new w (.cells #[.string ⟨#[]⟩, .string ⟨#[]⟩, .slice none 0 0] 52)) hb1) hb2) (.cells #[.string s, .string ⟨#[]⟩, .slice none 0 0] 52)) hb3) hb4
    have hB := keep (keep (heap_alloc_new w2 (.cells #[.string s, .string ⟨#[]⟩, .slice none 0 0] 52)) hb3) hb4
    have hbW : Below w.heap.size w w4 := by
      have h1 : Below w.heap.size w w1 := ((Below.refl _ w).alloc (Nat.le_refl _) _).trans (hb1.mono (by simp))
      have h2 := h1.trans (hb2.mono h1.size)
      have h3 := (h2.alloc h2.size _).trans (hb3.mono (by have := h2.size; simp; omega))
      exact h3.trans (hb4.mono h3.size)
    have hlB := lt_of hB
    have hlg := lt_of hgs
    have hlN := lt_of hN
    obtain ⟨B, hBe⟩ : ∃ B, w2.heap.size = B := ⟨_, rfl⟩
    have hNB : w.heap.size < B := by omega
    have HXS : Hid (xs.map (·.data.toList) = Sc.fields (Sc.trim (Sc.tailW s.data.toList))) := by show _ = _; rw [hxs, HRL.out]
    have HCS := Lib.hid hcs
    have HNN := Lib.hid hN
    have HGS := Lib.hid hgs
    have HSZ : Hid (xs.length ≤ 65537 ∧ ∀ x ∈ xs, x.size ≤ 65536) := by
      obtain ⟨f1, f2⟩ := Sc.fields_sizes rest.data.toList
      rw [← hxs] at f1 f2
      rw [List.length_map, bytes_size] at f1
      refine ⟨by omega, fun x hx => ?_⟩
      have := f2 x.data.toList (List.mem_map_of_mem hx)
      rw [bytes_size, bytes_size] at this
      omega
    rw [hBe] at hB hlB ⊢
    have HBB := Lib.hid hB
    obtain ⟨hxl, _⟩ := HSZ.out
    clear hN hB hgs hcs hxs hBe hc1 hf1 hc2 hf2 hc3 hf3 hz1 hz2 hz3 hb1 hb2 hb3 hb4
    go_loopw [40] (fun i wr => NumsAt w B g w4.heap.size cs s xs i wr) (fun i _ => xs.length - (intOf i).toNat)
    case atStart => exact ⟨0, none, 0, Nat.zero_le _, rfl, fun x hx => by simp at hx, HBB.out, HNN.out, HGS.out, World.ownsRow_nil _ _ _ _, hbW, Nat.le_refl _⟩
    case round =>
      obtain ⟨j, A, c, hj, rfl, hp, hB, hN, hG, hown, hbw, hzr⟩ := hrel
      have HP := Lib.hid hp
      have HB := Lib.hid hB
      have HN := Lib.hid hN
      have HG := Lib.hid hG
      have d0 : wr.cell? ⟨B, 0, none⟩ = some (.string s) := by rw [cell_of_row wr _ 0 _ _ _ hB]; rfl
      have d1 : wr.cell? ⟨B, 1, none⟩ = some (.string ⟨#[]⟩) := by rw [cell_of_row wr _ 1 _ _ _ hB]; rfl
      have d2 : wr.cell? ⟨B, 2, none⟩ = some (.slice A j c) := by rw [cell_of_row wr _ 2 _ _ _ hB]; rfl
      have r0 : wr.cell? ⟨w.heap.size, 0, none⟩ = some (.string ⟨#[]⟩) := by rw [cell_of_row wr _ 0 _ _ _ hN]; rfl
      have r1 : wr.cell? ⟨w.heap.size, 1, none⟩ = some (.string ⟨#[]⟩) := by rw [cell_of_row wr _ 1 _ _ _ hN]; rfl
      have r2 : wr.cell? ⟨w.heap.size, 2, none⟩ = some (.slice none 0 0) := by rw [cell_of_row wr _ 2 _ _ _ hN]; rfl
      have g0 := block_frozen hN 0
      have g1 := block_frozen hN 1
      have g2 := block_frozen hN 2
      clear hp hB hN hG
      by_cases hlt : j < xs.length
      · obtain ⟨x, hx⟩ : ∃ x, xs[j]? = some x := ⟨_, List.getElem?_eq_getElem hlt⟩
        have hxz := HSZ.out.2 x (List.mem_of_getElem? hx)
        have a0 : wr.cell? ⟨g, j, none⟩ = some (.string x) := by rw [cell_of_row wr _ j _ _ _ HG.out]; exact HCS.out j x hx
        have HJ := Lib.hid hx
        clear hx
        by_cases hn : Lx.numCode x.data.toList = 0
        · have HC := Lib.hid hn
          have HVS := Lib.hid (vals_snoc xs j x HJ.out)
          clear hn
          go_wp2_with (first
            | (go_at_call 85; refine (number_ok x E _ (hE.below hbw) (by unfold maxLen; omega) HC.out).mono ?_; rintro e w' ⟨rfl, rfl⟩)
            | (at_builtin; refine wpList_append_own _ rfl _ _ 50 rfl w4.heap.size 3 i0 _ 1 8 Tryz.underlying50 ii iz0 iz1 iz2 rfl (by decide) _ _ _ rfl (hown.alloc _) ⟨wr.heap.size, 0, none⟩ 1 1 [.int .i64 (Lx.numVal x.data.toList : Int)] rfl rfl (new_cells wr [.int .i64 (Lx.numVal x.data.toList : Int)] 3) (fun u hu => by rw [List.mem_singleton] at hu; subst hu; rfl) (by unfold maxLen; omega) (by omega) (by simp; omega) ?_; intro v2 w5 hown2 hg2 _; obtain ⟨A2, c2, rfl⟩ := own_slice hown2; have hB5 := Lib.hid (nums_step hown hg2 hlB HB.out); have e2 : w5.cell? ⟨B, 2, none⟩ = some (.slice A j c) := (by rw [cell_of_row w5 _ 2 _ _ _ hB5.out]; rfl); have k2 := block_frozen hB5.out 2))
          go_roundw
          case rel =>
            have hg5 := nums_step hown hg2 hlg HG.out
            have hN5 := nums_step hown hg2 hlN HN.out
            have hsz := hg2.size
            simp at hsz
            exact ⟨j + 1, A2, c2, by omega, by go_num, codes_snoc HJ.out HP.out HC.out, set_block hB5.out _, set_far hN5 (by omega), set_far hg5 (by
              intro e
              subst e
              have := HB.out
              rw [HG.out] at this
              injection this with this
              injection this with _ ht _
              exact absurd ht (by decide)), own_keep (by rw [HVS.out]; exact hown2) fun q cs t hq hh => set_far hh (by omega), (below_append (hbw.alloc hbw.size _) (hown.alloc _) hbW.size (by have := hbw.size; simp; omega) hg2).setCell (by show w.heap.size ≤ B; omega) _, by simp [World.setCell]; omega⟩
          case measure => simp [intOf]; omega
        · have HC := Lib.hid hn
          clear hn
          go_wp2_with (first
            | (go_at_call 85; refine (number_no x E _ (hE.below hbw) (by unfold maxLen; omega) HC.out).mono ?_; rintro e w5 ⟨b, rfl, hb5, _, _⟩; have y0 := cell_keep hb5 r0; have y1 := cell_keep hb5 r1; have y2 := cell_keep hb5 r2; have k0 := frozen_keep hb5 r0 g0; have k1 := frozen_keep hb5 r1 g1; have k2 := frozen_keep hb5 r2 g2))
          obtain ⟨q0, q1, q2⟩ := three_set w5 w.heap.size (.string ⟨#[]⟩) (.string ⟨#[]⟩) (.slice none 0 0) (by rw [y0]; rfl) (by rw [y1]; rfl) (by rw [y2]; rfl)
          refine bodyPost_ret (v := .tuple #[.agg #[.string ⟨#[]⟩, .string ⟨#[]⟩, .slice none 0 0], .bool false]) (by simp [results, Tryz.results19, go_sem, q0, q1, q2]) rfl ?_
          have hb6 : Below w.heap.size w w5 := hbw.trans (hb5.mono hbw.size)
          refine ⟨((hb6.setCell (Nat.le_refl _) _).setCell (Nat.le_refl _) _).setCell (Nat.le_refl _) _, .inl ⟨?_, _, _, rfl⟩⟩
          rw [← HXS.out]
          exact Sc.numbers_not _ x.data.toList (List.mem_map_of_mem (List.mem_of_getElem? HJ.out)) HC.out
      · obtain rfl : j = xs.length := by omega
        have hal : ∀ x ∈ xs, Lx.numCode x.data.toList = 0 := by have := HP.out; rwa [List.take_length] at this
        obtain ⟨ns, hns⟩ : ∃ ns, Sc.vals (xs.map (·.data.toList)) = ns := ⟨_, rfl⟩
        have HNS : Hid (Sc.numbers (Sc.fields (Sc.trim (Sc.tailW s.data.toList))) = some ns) := by
          show _ = _
          rw [← HXS.out, ← hns]
          exact Sc.numbers_all _ (fun y hy => by
            obtain ⟨x, hx, rfl⟩ := List.mem_map.1 hy
            exact hal x hx)
        have hnl : ns.length = xs.length := by rw [← hns, vals_len, List.length_map]
        have hownI : OwnI wr w4.heap.size (.slice A xs.length c) ns := by
          unfold OwnI
          rw [hnl, ← hns]
          have := hown
          rwa [List.take_length] at this
        have HO := Lib.hid hownI
        have HRd := Lib.hid hownI.reads
        have HAl := Lib.hid hns
        clear hal hns hownI hown
        have hltB := lt_of HB.out
        have hltN := lt_of HN.out
        go_wp2_with fail
        go_region_with ((go_at_call 70; refine (isCommand_any s ⟨#[]⟩ A xs.length c ns _ (by exact HRd.out) (by unfold maxLen; omega) (by decide)).mono ?_; rintro e w5 ⟨rfl, hb5⟩; have x0 := cell_keep hb5 d0; have x1 := cell_keep hb5 d1; have x2 := cell_keep hb5 d2; have y0 := cell_keep hb5 r0; have y1 := cell_keep hb5 r1; have y2 := cell_keep hb5 r2; have k0 := frozen_keep hb5 r0 g0; have k1 := frozen_keep hb5 r1 g1; have k2 := frozen_keep hb5 r2 g2))
        all_goals
          go_wp2
          obtain ⟨q0, q1, q2⟩ := three_set w5 w.heap.size (.string s) (.string ⟨#[]⟩) (.slice A xs.length c) (by rw [y0]; rfl) (by rw [y1]; rfl) (by rw [y2]; rfl)
          refine bodyPost_ret (v := .tuple #[.agg #[.string s, .string ⟨#[]⟩, .slice A xs.length c], .bool (Sc.isCommand ⟨s.data.toList, [], ns⟩)]) (by simp [results, Tryz.results19, go_sem, q0, q1, q2]) rfl ?_
          have hb6 : Below w.heap.size w w5 := (by first | exact hbw.trans (hb5.mono hbw.size) | exact hbw.drew.trans (hb5.mono hbw.size))
          have ho6 : OwnI w5 w4.heap.size (.slice A xs.length c) ns := own_later HO.out hb5
          refine nums_end HWL.out HNS.out ?_ ?_
          · first
              | exact ((hb6.setCell (Nat.le_refl _) _).setCell (Nat.le_refl _) _).setCell (Nat.le_refl _) _
              | exact below_drewN' (((hb6.setCell (Nat.le_refl _) _).setCell (Nat.le_refl _) _).setCell (Nat.le_refl _) _) 1
          · exact own_base (own_keep ho6 fun q cs t hq hh => set_far (set_far (set_far hh (by omega)) (by omega)) (by omega)) hbW.size
end Go.Proofs.YtinobikikineiabGreatDoor
