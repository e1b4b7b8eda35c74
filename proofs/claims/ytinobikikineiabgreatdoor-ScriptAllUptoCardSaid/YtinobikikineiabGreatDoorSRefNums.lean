/- The walk of the document's own command where the word wants numbers. Conditions: the line's size. -/
import Derived.Test.YtinobikikineiabGreatDoorSRefCmd
namespace Go.Proofs.YtinobikikineiabGreatDoor
open Go.RowKit Go.Shelf

namespace Sc
/-- What the loop over the words holds: 'ns' has been read, 'x' is left. -/
def NumsIn (r x : List UInt8) (ns : List Int) : Prop := Bare x ∧ ns.length + x.length ≤ r.length ∧ numbers (fields r) = (numbers (fields x)).map fun t => ns ++ t
theorem numsIn_zero (r : List UInt8) (h : Bare r) : NumsIn r r [] := ⟨h, by simp, by cases numbers (fields r) <;> rfl⟩
theorem headW_pos {x : List UInt8} {c : UInt8} {t : List UInt8} (hx : x = c :: t) (hc : blank c = false) : 0 < (headW x).length := by
  cases hh : headW x with
  | nil => exact absurd hh (headW_ne x c t hx hc)
  | cons a b => simp
theorem numsIn_step {r x : List UInt8} {ns : List Int} (h : NumsIn r x ns) (hx : x ≠ []) (hc : Lx.numCode (headW x) = 0) :
    NumsIn r (trim (tailW x)) (ns ++ [(Lx.numVal (headW x) : Int)]) ∧ (trim (tailW x)).length < x.length := by
  obtain ⟨h1, h2, h3⟩ := h
  obtain ⟨c, t, e⟩ := List.exists_cons_of_ne_nil hx
  have hb := h1.1 c (by rw [e]; rfl)
  have hp := headW_pos e hb
  have hl := congrArg List.length (head_tail x)
  rw [List.length_append] at hl
  have ht := trim_len (tailW x)
  refine ⟨⟨bare_trim _, by rw [List.length_append, List.length_singleton]; omega, ?_⟩, by omega⟩
  rw [h3, fields_cut x c t e hb]
  simp only [numbers]
  rw [if_pos hc]
  cases numbers (fields (trim (tailW x))) <;> simp
theorem numsIn_bad {r x : List UInt8} {ns : List Int} (h : NumsIn r x ns) (hx : x ≠ []) (hc : Lx.numCode (headW x) ≠ 0) : numbers (fields r) = none := by
  obtain ⟨h1, h2, h3⟩ := h
  obtain ⟨c, t, e⟩ := List.exists_cons_of_ne_nil hx
  rw [h3, fields_cut x c t e (h1.1 c (by rw [e]; rfl))]
  simp only [numbers]
  rw [if_neg hc]
  rfl
theorem numsIn_end {r : List UInt8} {ns : List Int} (h : NumsIn r [] ns) : numbers (fields r) = some ns := by
  have := h.2.2
  rw [fields_nil] at this
  simpa [numbers] using this
end Sc

/-- What the loop holds at a round's head (kept shut). -/
def RefNums (w : World) (word rest : ByteArray) (v : Value) (wr : World) : Prop :=
  ∃ (x : ByteArray) (ns : List Int) (A : Option Addr) (c : Nat), v = .string x ∧ x.size ≤ 65536 ∧ ns.length ≤ 65536 ∧ Sc.NumsIn rest.data.toList x.data.toList ns ∧
    wr.heap[w.heap.size + 1]? = some (.cells #[.string word, .string ⟨#[]⟩, .slice A ns.length c] 52 (0, 0)) ∧
    wr.heap[w.heap.size]? = some (.cells #[.string ⟨#[]⟩, .string ⟨#[]⟩, .slice none 0 0] 52 (0, 0)) ∧
    wr.ownsRow (w.heap.size + 2) 3 1 (.slice A ns.length c) ns.length (ns.map (Value.int .i64)) ∧ Below w.heap.size w wr ∧ w.heap.size + 2 ≤ wr.heap.size
theorem refNums_end {l : List UInt8} {word : ByteArray} {ns : List Int} {A : Option Addr} {c : Nat} {w W' : World} (hw : word.data.toList = Sc.headW l) (hn : Sc.numbers (Sc.fields (Sc.trim (Sc.tailW l))) = some ns) (hk : Sc.wants (Sc.headW l) = 4 ∨ Sc.wants (Sc.headW l) = 5)
    (hb : Below w.heap.size w W') (ho : OwnI W' w.heap.size (.slice A ns.length c) ns) (b : Bool) (hbb : b = decide (ns.length = Sc.many (Sc.wants (Sc.headW l)))) :
    RefCmdEnds l w (.returned (.tuple #[.agg #[.string word, .string ⟨#[]⟩, .slice A ns.length c], .bool b])) W' := by
  have hm : Sc.many (Sc.wants (Sc.headW l)) ≠ 0 := by rcases hk with h | h <;> rw [h] <;> decide
  have hc := Sc.command_num l hm
  rw [hn] at hc
  simp only [] at hc
  rw [Sc.isCommand_num _ _ hk (Sc.numbers_range _ _ hn), ← hbb] at hc
  cases b with
  | true =>
    rw [if_pos rfl] at hc
    exact ⟨hb, .inl ⟨_, A, _, c, hc, by rw [← hw, bytes_mk], ho⟩⟩
  | false =>
    rw [if_neg (by decide)] at hc
    exact ⟨hb, .inr ⟨hc, _, _, _, _, _, rfl⟩⟩
theorem str_empty {x : ByteArray} (h : x.toList = []) : x.data.toList = [] := by rw [← ByteArray.toList_eq]; exact h

set_option maxRecDepth 100000 in
set_option maxHeartbeats 8000000 in
theorem refCommand_nums (s : ByteArray) (w : World) (hs : s.size ≤ 65536) (hk : Sc.wants (Sc.headW s.data.toList) = 4 ∨ Sc.wants (Sc.headW s.data.toList) = 5) :
    Calls Tryz.prog 22 #[.string s] w (RefCmdEnds s.data.toList w) := by
  obtain ⟨i0, ii, iz0, iz1, iz2⟩ := info_parts infoInt
  obtain ⟨word, hwd⟩ : ∃ word : ByteArray, ⟨(Sc.headW s.data.toList).toArray⟩ = word := ⟨_, rfl⟩
  obtain ⟨rest, hrs⟩ : ∃ rest : ByteArray, ⟨(Sc.trim (Sc.tailW s.data.toList)).toArray⟩ = rest := ⟨_, rfl⟩
  have hwl : word.data.toList = Sc.headW s.data.toList := by rw [← hwd]
  have hrl : rest.data.toList = Sc.trim (Sc.tailW s.data.toList) := by rw [← hrs]
  have hrz : rest.size ≤ 65536 := by
    rw [← bytes_size, hrl]
    have h1 := Sc.trim_len (Sc.tailW s.data.toList)
    have h2 := congrArg List.length (Sc.head_tail s.data.toList)
    rw [List.length_append, bytes_size] at h2
    omega
  have HW := Lib.hid hwd
  have HR := Lib.hid hrs
  have HWL := Lib.hid hwl
  have HRL := Lib.hid hrl
  have HK := Lib.hid hk
  have hsm : s.size ≤ maxLen := by unfold maxLen; omega
  have HB0 : Hid (Sc.NumsIn rest.data.toList rest.data.toList []) := Sc.numsIn_zero _ (by rw [hrl]; exact Sc.bare_trim _)
  obtain ⟨rw', hrw⟩ : ∃ v : ByteArray, refW (Sc.wants word.data.toList) = v := ⟨_, rfl⟩
  have HRW := Lib.hid hrw
  have hrwz : rw'.size = Sc.many (Sc.wants (Sc.headW s.data.toList)) ∧ rw'.size ≤ 3 := by
    rw [← hrw, hwl]
    rcases hk with h | h <;> rw [h] <;> decide
  have HSZ := Lib.hid hrwz.1
  have hrw3 := hrwz.2
  have t0 : rw'.toList.isEmpty = false := by rw [ByteArray.toList_eq, ← hrw, hwl]; rcases hk with h | h <;> rw [h] <;> rfl
  have t1 : (rw'.toList == [45]) = false := by rw [ByteArray.toList_eq, ← hrw, hwl]; rcases hk with h | h <;> rw [h] <;> rfl
  have t2 : (rw'.toList == [116]) = false := by rw [ByteArray.toList_eq, ← hrw, hwl]; rcases hk with h | h <;> rw [h] <;> rfl
  have t3 : (rw'.toList == [107]) = false := by rw [ByteArray.toList_eq, ← hrw, hwl]; rcases hk with h | h <;> rw [h] <;> rfl
  have t0' : rw'.toList ≠ [] := by intro e; rw [e] at t0; cases t0
  clear hwd hrs hwl hrl hk hrw hrwz
  go_enter Tryz.func22, Tryz.ntmps22
  go_wp2_with (first
    | (go_at_call 87; refine (refCut_any s _ hsm).mono ?_; rintro e w1 ⟨rfl, m, hw1⟩; rw [HW.out, HR.out]; have hN1 : w1.heap[w.heap.size]? = some (.cells #[.string ⟨#[]⟩, .string ⟨#[]⟩, .slice none 0 0] 52 (0, 0)) := (by rw [hw1]; exact heap_alloc_new w _); have hz1 : w1.heap.size = w.heap.size + 1 := (by rw [hw1]; simp); have hbw1 : Below w.heap.size w w1 := (by rw [hw1]; exact below_drewN' ((Below.refl _ w).alloc (Nat.le_refl _) _) m); clear hw1)
    | (go_at_call 88; refine (refWants_any word _).mono ?_; rintro e w' ⟨rfl, rfl⟩; rw [HRW.out]))
  go_loopw [5] (fun v wr => RefNums w word rest v wr) (fun v _ => strLen v)
  case atStart => exact ⟨rest, [], none, 0, rfl, hrz, Nat.zero_le _, HB0.out, alloc_at _ _ _ hz1.symm, alloc_old hN1 _, World.ownsRow_nil _ _ _ _, hbw1.alloc (by omega) _, by simp; omega⟩
  case round =>
    obtain ⟨x, ns, A, c, rfl, hx, hns, hin, hB, hN, hown, hbw, hzr⟩ := hrel
    have HIN := Lib.hid hin
    have HBB := Lib.hid hB
    have HN := Lib.hid hN
    have d0 : wr.cell? ⟨w.heap.size + 1, 0, none⟩ = some (.string word) := by rw [cell_of_row wr _ 0 _ _ _ hB]; rfl
    have d1 : wr.cell? ⟨w.heap.size + 1, 1, none⟩ = some (.string ⟨#[]⟩) := by rw [cell_of_row wr _ 1 _ _ _ hB]; rfl
    have d2 : wr.cell? ⟨w.heap.size + 1, 2, none⟩ = some (.slice A ns.length c) := by rw [cell_of_row wr _ 2 _ _ _ hB]; rfl
    have r0 : wr.cell? ⟨w.heap.size, 0, none⟩ = some (.string ⟨#[]⟩) := by rw [cell_of_row wr _ 0 _ _ _ hN]; rfl
    have r1 : wr.cell? ⟨w.heap.size, 1, none⟩ = some (.string ⟨#[]⟩) := by rw [cell_of_row wr _ 1 _ _ _ hN]; rfl
    have r2 : wr.cell? ⟨w.heap.size, 2, none⟩ = some (.slice none 0 0) := by rw [cell_of_row wr _ 2 _ _ _ hN]; rfl
    have g0 := block_frozen hN 0
    have g1 := block_frozen hN 1
    have g2 := block_frozen hN 2
    have k2 := block_frozen hB 2
    have hlN := lt_of hN
    have hlB := lt_of hB
    clear hin hB hN hN1 hbw1
    by_cases hne : x.data.toList = []
    · have e1 : x.toList = [] := by rw [ByteArray.toList_eq]; exact hne
      have e2 : x.toList.isEmpty = true := by rw [e1]; rfl
      have HEnd : Hid (Sc.numbers (Sc.fields (Sc.trim (Sc.tailW s.data.toList))) = some ns) := by
        show _ = _
        have := HIN.out
        rw [hne] at this
        rw [← HRL.out]
        exact Sc.numsIn_end this
      clear hne
      cases hq : decide (ns.length = rw'.size) with
      | true =>
        have hq1 : ((ns.length : Int) == (rw'.size : Int)) = true := by rw [beq_iff_eq]; have := of_decide_eq_true hq; omega
        have HQ : Hid (true = decide (ns.length = Sc.many (Sc.wants (Sc.headW s.data.toList)))) := by show _ = _; rw [← HSZ.out, hq]
        clear hq
        go_wp2_with fail
        go_region_with (fail)
        all_goals
          go_wp2
          obtain ⟨q0, q1, q2⟩ := three_set wr w.heap.size (.string word) (.string ⟨#[]⟩) (.slice A ns.length c) (by rw [r0]; rfl) (by rw [r1]; rfl) (by rw [r2]; rfl)
          refine bodyPost_ret (v := .tuple #[.agg #[.string word, .string ⟨#[]⟩, .slice A ns.length c], .bool true]) (by simp [results, Tryz.results22, go_sem, q0, q1, q2]) rfl ?_
          refine refNums_end HWL.out HEnd.out HK.out ?_ ?_ true HQ.out
          · (first
              | exact ((hbw.setCell (Nat.le_refl _) _).setCell (Nat.le_refl _) _).setCell (Nat.le_refl _) _
              | exact below_drewN' (((hbw.setCell (Nat.le_refl _) _).setCell (Nat.le_refl _) _).setCell (Nat.le_refl _) _) 1)
          · exact own_base (own_keep hown fun k cs t hk hh => set_far (set_far (set_far hh (by omega)) (by omega)) (by omega)) (by omega)
      | false =>
        have hq1 : ((ns.length : Int) == (rw'.size : Int)) = false := by rw [beq_eq_false_iff_ne]; have := of_decide_eq_false hq; omega
        have HQ : Hid (false = decide (ns.length = Sc.many (Sc.wants (Sc.headW s.data.toList)))) := by show _ = _; rw [← HSZ.out, hq]
        clear hq
        go_wp2_with fail
        go_region_with (fail)
        all_goals
          go_wp2
          obtain ⟨q0, q1, q2⟩ := three_set wr w.heap.size (.string word) (.string ⟨#[]⟩) (.slice A ns.length c) (by rw [r0]; rfl) (by rw [r1]; rfl) (by rw [r2]; rfl)
          refine bodyPost_ret (v := .tuple #[.agg #[.string word, .string ⟨#[]⟩, .slice A ns.length c], .bool false]) (by simp [results, Tryz.results22, go_sem, q0, q1, q2]) rfl ?_
          refine refNums_end HWL.out HEnd.out HK.out ?_ ?_ false HQ.out
          · (first
              | exact ((hbw.setCell (Nat.le_refl _) _).setCell (Nat.le_refl _) _).setCell (Nat.le_refl _) _
              | exact below_drewN' (((hbw.setCell (Nat.le_refl _) _).setCell (Nat.le_refl _) _).setCell (Nat.le_refl _) _) 1)
          · exact own_base (own_keep hown fun k cs t hk hh => set_far (set_far (set_far hh (by omega)) (by omega)) (by omega)) (by omega)
    · have e1 : x.toList ≠ [] := by rw [ByteArray.toList_eq]; exact hne
      have e2 : x.toList.isEmpty = false := by rw [ByteArray.toList_eq]; simpa using hne
      have HNE := Lib.hid hne
      have hxm : x.size ≤ maxLen := by unfold maxLen; omega
      obtain ⟨wd, hwd⟩ : ∃ wd : ByteArray, ⟨(Sc.headW x.data.toList).toArray⟩ = wd := ⟨_, rfl⟩
      obtain ⟨x2, hx2⟩ : ∃ x2 : ByteArray, ⟨(Sc.trim (Sc.tailW x.data.toList)).toArray⟩ = x2 := ⟨_, rfl⟩
      have hwdl : wd.data.toList = Sc.headW x.data.toList := by rw [← hwd]
      have hx2l : x2.data.toList = Sc.trim (Sc.tailW x.data.toList) := by rw [← hx2]
      have hwdm : wd.size ≤ maxLen := by
        have h2 := congrArg List.length (Sc.head_tail x.data.toList)
        rw [List.length_append, bytes_size, ← hwdl, bytes_size] at h2
        unfold maxLen; omega
      have HWD := Lib.hid hwd
      have HX2 := Lib.hid hx2
      have HWDL := Lib.hid hwdl
      have HX2L := Lib.hid hx2l
      clear hne hwd hx2 hwdl hx2l
      by_cases hn : Lx.numCode wd.data.toList = 0
      · have HS : Hid (Sc.NumsIn rest.data.toList x2.data.toList (ns ++ [(Lx.numVal wd.data.toList : Int)]) ∧ x2.size < x.size) := by
          show _ ∧ _
          rw [HWDL.out] at hn
          have := Sc.numsIn_step HIN.out HNE.out hn
          rw [← HX2L.out, ← HWDL.out, bytes_size, bytes_size] at this
          exact this
        have hx2z := HS.out.2
        have hnsz : ns.length + 1 ≤ 65536 := by
          have := HS.out.1.2.1
          rw [List.length_append, List.length_singleton, bytes_size, bytes_size] at this
          omega
        have HNC := Lib.hid hn
        clear hn
        go_wp2_with (first
          | (go_at_call 87; refine (refCut_any x _ hxm).mono ?_; rintro e w2 ⟨rfl, m2, hw2⟩; rw [HWD.out, HX2.out];
              have hB2 := Lib.hid (show w2.heap[w.heap.size + 1]? = some (.cells #[.string word, .string ⟨#[]⟩, .slice A ns.length c] 52 (0, 0)) by rw [hw2]; exact HBB.out);
              have hN2 := Lib.hid (show w2.heap[w.heap.size]? = some (.cells #[.string ⟨#[]⟩, .string ⟨#[]⟩, .slice none 0 0] 52 (0, 0)) by rw [hw2]; exact HN.out);
              have b2 : w2.cell? ⟨w.heap.size + 1, 2, none⟩ = some (.slice A ns.length c) := (by rw [cell_of_row w2 _ 2 _ _ _ hB2.out]; rfl);
              have kk2 := block_frozen hB2.out 2; have hlB2 := lt_of hB2.out;
              have hown2 : w2.ownsRow (w.heap.size + 2) 3 1 (.slice A ns.length c) ns.length (ns.map (Value.int .i64)) := (by rw [hw2]; exact hown);
              have hbw2 : Below w.heap.size w w2 := (by rw [hw2]; exact below_drewN' hbw m2); have hz2 : w.heap.size + 2 ≤ w2.heap.size := (by rw [hw2]; simpa using hzr); clear hw2)
          | (go_at_call 89; refine (refNumber_any wd _ hwdm).mono ?_; rintro e w' ⟨rfl, rfl⟩; rw [HNC.out])
          | (at_builtin; refine wpList_append_own _ rfl _ _ 50 rfl (w.heap.size + 2) 3 i0 _ 1 8 Tryz.underlying50 ii iz0 iz1 iz2 rfl (by decide) _ _ _ rfl (hown2.alloc _) ⟨w2.heap.size, 0, none⟩ 1 1 [.int .i64 (Lx.numVal wd.data.toList : Int)] rfl rfl (new_cells w2 [.int .i64 (Lx.numVal wd.data.toList : Int)] 3) (fun u hu => by rw [List.mem_singleton] at hu; subst hu; rfl) (by unfold maxLen; omega) (by omega) (by simp; omega) ?_; intro v2 w5 hown5 hg5 _; obtain ⟨A2, c2, rfl⟩ := own_slice hown5;
              have hB5 := Lib.hid (nums_step hown2 hg5 (by omega) hB2.out); have e5 : w5.cell? ⟨w.heap.size + 1, 2, none⟩ = some (.slice A ns.length c) := (by rw [cell_of_row w5 _ 2 _ _ _ hB5.out]; rfl); have k5 := block_frozen hB5.out 2))
        go_roundw
        case rel =>
          have hN5 := nums_step hown2 hg5 (show w.heap.size < w.heap.size + 2 by omega) hN2.out
          have hsz := hg5.size
          simp at hsz
          refine ⟨x2, ns ++ [(Lx.numVal wd.data.toList : Int)], A2, c2, rfl, by omega, by rw [List.length_append]; simp; omega, HS.out.1, ?_, set_far hN5 (by omega), ?_, (below_append (hbw2.alloc hbw2.size _) (hown2.alloc _) (by omega) (by simp; omega) hg5).setCell (by show w.heap.size ≤ w.heap.size + 1; omega) _, by simp [World.setCell]; omega⟩
          · rw [List.length_append]; exact set_block hB5.out _
          · rw [List.length_append, List.map_append]; exact own_keep hown5 fun q cs t hq hh => set_far hh (by omega)
        case measure => simp [strLen]; omega
      · have HF : Hid (Sc.command s.data.toList = none) := by
          show _ = _
          rw [HWDL.out] at hn
          have h0 := Sc.numsIn_bad HIN.out HNE.out hn
          rw [HRL.out] at h0
          rw [Sc.command_num _ (by rcases HK.out with h | h <;> rw [h] <;> decide), h0]
        obtain ⟨cd, hcd⟩ : ∃ cd, Lx.numCode wd.data.toList = cd := ⟨_, rfl⟩
        have HCD := Lib.hid hcd
        have hcd0 : ((cd : Int) != 0) = true := by rw [bne_iff_ne]; rw [hcd] at hn; omega
        clear hn hcd
        go_wp2_with (first
          | (go_at_call 87; refine (refCut_any x _ hxm).mono ?_; rintro e w2 ⟨rfl, m2, hw2⟩; rw [HWD.out, HX2.out];
              have hB2 := Lib.hid (show w2.heap[w.heap.size + 1]? = some (.cells #[.string word, .string ⟨#[]⟩, .slice A ns.length c] 52 (0, 0)) by rw [hw2]; exact HBB.out);
              have hN2 := Lib.hid (show w2.heap[w.heap.size]? = some (.cells #[.string ⟨#[]⟩, .string ⟨#[]⟩, .slice none 0 0] 52 (0, 0)) by rw [hw2]; exact HN.out);
              have b0 : w2.cell? ⟨w.heap.size + 1, 0, none⟩ = some (.string word) := (by rw [cell_of_row w2 _ 0 _ _ _ hB2.out]; rfl);
              have b1 : w2.cell? ⟨w.heap.size + 1, 1, none⟩ = some (.string ⟨#[]⟩) := (by rw [cell_of_row w2 _ 1 _ _ _ hB2.out]; rfl);
              have b2 : w2.cell? ⟨w.heap.size + 1, 2, none⟩ = some (.slice A ns.length c) := (by rw [cell_of_row w2 _ 2 _ _ _ hB2.out]; rfl);
              have y0 := cell_of_row w2 w.heap.size 0 _ _ _ hN2.out; have y1 := cell_of_row w2 w.heap.size 1 _ _ _ hN2.out; have y2 := cell_of_row w2 w.heap.size 2 _ _ _ hN2.out;
              have h0 := block_frozen hN2.out 0; have h1 := block_frozen hN2.out 1; have h2 := block_frozen hN2.out 2;
              have hbw2 : Below w.heap.size w w2 := (by rw [hw2]; exact below_drewN' hbw m2); clear hw2)
          | (go_at_call 89; refine (refNumber_any wd _ hwdm).mono ?_; rintro e w' ⟨rfl, rfl⟩; rw [HCD.out]))
        obtain ⟨q0, q1, q2⟩ := three_set w2 w.heap.size (.string word) (.string ⟨#[]⟩) (.slice A ns.length c) (by rw [y0]; rfl) (by rw [y1]; rfl) (by rw [y2]; rfl)
        refine bodyPost_ret (v := .tuple #[.agg #[.string word, .string ⟨#[]⟩, .slice A ns.length c], .bool false]) (by simp [results, Tryz.results22, go_sem, q0, q1, q2]) rfl ?_
        exact refCmd_no HF.out (((hbw2.setCell (Nat.le_refl _) _).setCell (Nat.le_refl _) _).setCell (Nat.le_refl _) _)
/-- The document's command, whatever the line. -/
theorem refCommand_any (s : ByteArray) (w : World) (hs : s.size ≤ 65536) (hno : ∀ d ∈ s.data.toList, d ≠ 10) :
    Calls Tryz.prog 22 #[.string s] w (RefCmdEnds s.data.toList w) := by
  by_cases hm : Sc.many (Sc.wants (Sc.headW s.data.toList)) = 0
  · exact refCommand_text s w hs hno hm
  · refine refCommand_nums s w hs ?_
    have h5 := Sc.wants_le (Sc.headW s.data.toList)
    unfold Sc.many at hm
    split at hm
    · exact .inr (by assumption)
    · split at hm
      · exact .inl (by assumption)
      · exact absurd rfl hm
end Go.Proofs.YtinobikikineiabGreatDoor
