/- The walk of the document's own Line. Conditions: the texts' sizes. -/
import Derived.Test.YtinobikikineiabGreatDoorSDigits
import Derived.Test.YtinobikikineiabGreatDoorSRef
import Derived.Test.YtinobikikineiabGreatDoorSIsCmd
namespace Go.Proofs.YtinobikikineiabGreatDoor
open Go.RowKit Go.Shelf

/-- How the document's Line ends. -/
def RefLineEnds (c : Sc.Cmd) (w : World) (e : Ending) (w' : World) : Prop :=
  Below w.heap.size w w' ∧ ((Sc.isCommand c = true ∧ e = .returned (.tuple #[.string ⟨(Sc.lineOf c).toArray⟩, .bool true])) ∨ (Sc.isCommand c = false ∧ ∃ v : ByteArray, e = .returned (.tuple #[.string v, .bool false])))
namespace Sc
theorem is_zero {c : Cmd} (h : wants c.word = 0) : isCommand c = false := by unfold isCommand; rw [h]; rfl
theorem is_one {c : Cmd} (h : wants c.word = 1) : isCommand c = (c.text.isEmpty && c.nums.isEmpty) := by
  unfold isCommand areNumbers isText
  rw [h]
  cases c.nums <;> cases c.text <;> simp [many]
theorem is_two {c : Cmd} (h : wants c.word = 2) : isCommand c = (!c.text.isEmpty && decide (c.text = trim c.text) && !c.text.contains 10 && c.nums.isEmpty) := by
  unfold isCommand areNumbers isText
  rw [h]
  cases c.nums <;> simp [many]
theorem is_three {c : Cmd} (h : wants c.word = 3) : isCommand c = ((decide (c.text = strongL) || decide (c.text = branchingL)) && c.nums.isEmpty) := by
  unfold isCommand areNumbers isText
  rw [h]
  cases c.nums <;> simp [many]
theorem is_num {c : Cmd} (h : wants c.word = 4 ∨ wants c.word = 5) : isCommand c = (c.text.isEmpty && decide (c.nums.length = many (wants c.word)) && c.nums.all fun n => decide (0 ≤ n) && decide (n ≤ 1073741824)) := by
  unfold isCommand areNumbers isText
  rcases h with h | h <;> rw [h] <;> simp [Bool.and_assoc]
theorem line_none (w : List UInt8) : lineOf ⟨w, [], []⟩ = w := by rw [line_eq]; simp [tailN]
theorem line_text (w t : List UInt8) (h : t.isEmpty = false) : lineOf ⟨w, t, []⟩ = w ++ [32] ++ t := by rw [line_eq]; simp [tailN, h]
theorem line_nums (w : List UInt8) (l : List Int) : lineOf ⟨w, [], l⟩ = w ++ tailN l := by rw [line_eq]; simp
theorem tailN_snoc (l : List Int) (j : Nat) (z : Int) (h : l[j]? = some z) : tailN (l.take (j + 1)) = tailN (l.take j) ++ (32 :: digits z) := by
  unfold tailN
  rw [List.take_add_one, h]
  simp
end Sc
theorem refLine_yes {word text : ByteArray} {l : List Int} {w w' : World} {v : ByteArray} (hc : Sc.isCommand ⟨word.data.toList, text.data.toList, l⟩ = true) (hv : v.data.toList = Sc.lineOf ⟨word.data.toList, text.data.toList, l⟩) (hb : Below w.heap.size w w') :
    RefLineEnds ⟨word.data.toList, text.data.toList, l⟩ w (.returned (.tuple #[.string v, .bool true])) w' := ⟨hb, .inl ⟨hc, by rw [← hv, bytes_mk]⟩⟩
theorem refLine_no {word text : ByteArray} {l : List Int} {w w' : World} {v : ByteArray} (hc : Sc.isCommand ⟨word.data.toList, text.data.toList, l⟩ = false) (hb : Below w.heap.size w w') :
    RefLineEnds ⟨word.data.toList, text.data.toList, l⟩ w (.returned (.tuple #[.string v, .bool false])) w' := ⟨hb, .inr ⟨hc, v, rfl⟩⟩

/-- What the loop over the numbers holds (kept shut). -/
def RefLineAt (word : ByteArray) (l : List Int) (W : World) (v i : Value) (wr : World) : Prop :=
  ∃ (j : Nat) (x : ByteArray), j ≤ l.length ∧ i = .int .i64 j ∧ v = .string x ∧ x.data.toList = word.data.toList ++ Sc.tailN (l.take j) ∧ (∀ z ∈ l.take j, 0 ≤ z ∧ z ≤ 1073741824) ∧ Below W.heap.size W wr
set_option maxRecDepth 100000 in
set_option maxHeartbeats 8000000 in
theorem refLine_num (word text : ByteArray) (A : Option Addr) (n c : Nat) (l : List Int) (w : World) (hr : ReadsI w (.slice A n c) l) (hn : n ≤ maxLen) (hw : word.size ≤ 140737488355328) (hk : Sc.wants word.data.toList = 4 ∨ Sc.wants word.data.toList = 5) :
    Calls Tryz.prog 74 #[.agg #[.string word, .string text, .slice A n c]] w (RefLineEnds ⟨word.data.toList, text.data.toList, l⟩ w) := by
  have HIS := Lib.hid (Sc.is_num (c := ⟨word.data.toList, text.data.toList, l⟩) hk)
  obtain ⟨W, hW⟩ : ∃ W, w.alloc (.cells #[.string word, .string text, .slice A n c] 52) = W := ⟨_, rfl⟩
  have hb : Below w.heap.size w W := by rw [← hW]; exact (Below.refl _ _).alloc (Nat.le_refl _) _
  have q0 : W.cell? ⟨w.heap.size, 0, none⟩ = some (.string word) := by rw [← hW]; exact cmd_cells w _ _ _ 0 _ rfl
  have q1 : W.cell? ⟨w.heap.size, 1, none⟩ = some (.string text) := by rw [← hW]; exact cmd_cells w _ _ _ 1 _ rfl
  have q2 : W.cell? ⟨w.heap.size, 2, none⟩ = some (.slice A n c) := by rw [← hW]; exact cmd_cells w _ _ _ 2 _ rfl
  have hwz : w.heap.size < W.heap.size := by rw [← hW]; simp
  have hR := Lib.hid (hr.below hb)
  have HL := Lib.hid hr.len
  obtain ⟨rv, hrv⟩ : ∃ v : ByteArray, refW (Sc.wants word.data.toList) = v := ⟨_, rfl⟩
  have HRW := Lib.hid hrv
  have hrz : rv.size = Sc.many (Sc.wants word.data.toList) ∧ rv.size ≤ 3 := by rw [← hrv]; rcases hk with h | h <;> rw [h] <;> decide
  have HRZ := Lib.hid hrz.1
  have hrv3 := hrz.2
  have t0 : rv.toList.isEmpty = false := by rw [ByteArray.toList_eq, ← hrv]; rcases hk with h | h <;> rw [h] <;> rfl
  have t1 : (rv.toList == [45]) = false := by rw [ByteArray.toList_eq, ← hrv]; rcases hk with h | h <;> rw [h] <;> rfl
  have t2 : (rv.toList == [116]) = false := by rw [ByteArray.toList_eq, ← hrv]; rcases hk with h | h <;> rw [h] <;> rfl
  have t3 : (rv.toList == [107]) = false := by rw [ByteArray.toList_eq, ← hrv]; rcases hk with h | h <;> rw [h] <;> rfl
  have t0' : rv.toList ≠ [] := by intro e; rw [e] at t0; cases t0
  have hemp := empty_list text
  unfold maxLen at hn
  clear hk hrv hrz hr
  cases he : text.data.toList.isEmpty with
  | false =>
    have e1 : text.toList ≠ [] := by rw [hemp]; simpa using he
    have e2 : text.toList.isEmpty = false := by rw [hemp]; exact he
    have HF : Hid (Sc.isCommand ⟨word.data.toList, text.data.toList, l⟩ = false) := by show _ = _; rw [HIS.out, he]; rfl
    clear he hemp
    go_enter Tryz.func74, Tryz.ntmps74
    go_wp2_with (first | (go_at_call 88; refine (refWants_any word _).mono ?_; rintro e w' ⟨rfl, rfl⟩; rw [HRW.out]))
    go_ret2
    exact refLine_no HF.out hb
  | true =>
    have e1 : text.toList = [] := by rw [hemp]; simpa using he
    have e2 : text.toList.isEmpty = true := by rw [e1]; rfl
    by_cases hnn : n = rv.size
    · have hq : ((n : Int) != (rv.size : Int)) = false := by rw [hnn]; simp
      have HE : Hid (text.data.toList = []) := by show _ = _; simpa using he
      have HIS2 : Hid (Sc.isCommand ⟨word.data.toList, text.data.toList, l⟩ = l.all fun n => decide (0 ≤ n) && decide (n ≤ 1073741824)) := by
        show _ = _
        rw [HIS.out, he]
        simp only []
        rw [decide_eq_true (by rw [HL.out, hnn, HRZ.out])]
        rfl
      have hn3 : n ≤ 3 := by omega
      clear he hemp hnn
      go_enter Tryz.func74, Tryz.ntmps74
      go_wp2_with (first | (go_at_call 88; refine (refWants_any word _).mono ?_; rintro e w' ⟨rfl, rfl⟩; rw [HRW.out]))
      go_loopw [6, 7] (fun v i wr => RefLineAt word l W v i wr) (fun _ i _ => n - (intOf i).toNat)
      case atStart => exact ⟨0, word, Nat.zero_le _, rfl, rfl, by simp [Sc.tailN], fun z hz => by simp at hz, Below.refl _ _⟩
      case round =>
        obtain ⟨j, x, hj, rfl, rfl, hx, hall, hbw⟩ := hrel
        have hxz : x.size ≤ 140737488355500 := by
          have h2 := congrArg List.length hx
          have h3 := Sc.tailN_len (l.take j) hall
          rw [List.length_append, bytes_size, bytes_size] at h2
          rw [List.length_take] at h3
          have := HL.out
          omega
        have HX := Lib.hid hx
        have HA := Lib.hid hall
        have y2 := (hbw.cell (p := ⟨w.heap.size, 2, none⟩) hwz).trans q2
        clear hx hall
        by_cases hlt : j < n
        · obtain ⟨b, off, z, rfl, hz, a0⟩ := hR.out.cell j hlt
          have b0 : wr.cell? ⟨b, off + j, none⟩ = some (.int .i64 z) := (hbw.cell (p := ⟨b, off + j, none⟩) (cell_lt a0)).trans a0
          by_cases hzr : 0 ≤ z ∧ z ≤ 1073741824
          · obtain ⟨hz0, hz1⟩ := hzr
            have hz2 : ¬ z < 0 := by omega
            have hz3 : ¬ 1073741824 < z := by omega
            have HS := Lib.hid (Sc.tailN_snoc l j z hz)
            have HZ := Lib.hid hz
            have hdl := Sc.digits_len z hz0 hz1
            obtain ⟨dg, hdg⟩ : ∃ dg : ByteArray, ⟨(Sc.digits z).toArray⟩ = dg := ⟨_, rfl⟩
            have hdgl : dg.data.toList = Sc.digits z := by rw [← hdg]
            have hdz : dg.size ≤ 20 := by rw [← bytes_size, hdgl]; exact hdl
            have HDG := Lib.hid hdg
            have HDL := Lib.hid hdgl
            clear hz a0 hdg hdgl hdl
            go_wp2_with (first
              | (go_at_call 118; refine (refDigits_any z hz0 hz1 _).mono ?_; rintro e w3 ⟨rfl, hb3⟩; rw [HDG.out]))
            go_roundw
            case rel => exact ⟨j + 1, _, by have := HL.out; omega, by go_num, rfl, by rw [HS.out, ← HDL.out]; simp [HX.out], fun y hy => by
              rw [List.take_add_one, HZ.out] at hy
              rcases List.mem_append.1 hy with hy | hy
              · exact HA.out y hy
              · simp at hy; subst hy; exact ⟨hz0, hz1⟩, hbw.trans (hb3.mono hbw.size)⟩
            case measure => simp [intOf]; omega
          · have HF : Hid (Sc.isCommand ⟨word.data.toList, text.data.toList, l⟩ = false) := by
              show _ = _
              rw [HIS2.out, List.all_eq_false]
              exact ⟨z, List.mem_of_getElem? hz, by simp; omega⟩
            have hw2 : z < 0 ∨ (¬ z < 0 ∧ 1073741824 < z) := by omega
            clear hz a0 hzr
            rcases hw2 with h1 | ⟨h1, h2⟩
            all_goals
              go_wp2_with fail
              go_ret2
              exact refLine_no HF.out (hb.trans (hbw.mono hb.size))
        · have hje : l.take j = l := List.take_of_length_le (by have := HL.out; omega)
          have HF : Hid (Sc.isCommand ⟨word.data.toList, text.data.toList, l⟩ = true) := by
            show _ = _
            rw [HIS2.out, List.all_eq_true]
            rw [hje] at HA
            intro z hz
            obtain ⟨h1, h2⟩ := HA.out z hz
            simp [h1, h2]
          have HV : Hid (x.data.toList = Sc.lineOf ⟨word.data.toList, text.data.toList, l⟩) := by
            show _ = _
            rw [HX.out, hje, HE.out, Sc.line_nums]
          clear hje
          go_wp2_with fail
          go_ret2
          exact refLine_yes HF.out HV.out (hb.trans (hbw.mono hb.size))
    · have hq : ((n : Int) != (rv.size : Int)) = true := by rw [bne_iff_ne]; omega
      have HF : Hid (Sc.isCommand ⟨word.data.toList, text.data.toList, l⟩ = false) := by
        show _ = _
        rw [HIS.out, he]
        simp only []
        rw [decide_eq_false (by rw [HL.out, ← HRZ.out]; exact hnn)]
        rfl
      clear he hemp hnn
      go_enter Tryz.func74, Tryz.ntmps74
      go_wp2_with (first | (go_at_call 88; refine (refWants_any word _).mono ?_; rintro e w' ⟨rfl, rfl⟩; rw [HRW.out]))
      go_ret2
      exact refLine_no HF.out hb
end Go.Proofs.YtinobikikineiabGreatDoor
