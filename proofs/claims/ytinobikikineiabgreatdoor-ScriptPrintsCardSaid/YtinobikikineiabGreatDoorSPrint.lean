/- The walk of script's Print: a list of commands as the plain function writes it. Conditions: the error variables and the table of strconv lie as the program lays them; the texts' sizes. -/
import Derived.Test.YtinobikikineiabGreatDoorSLine
import Derived.Test.YtinobikikineiabGreatDoorSAlive
namespace Go.Proofs.YtinobikikineiabGreatDoor
open Go.RowKit Go.Shelf

theorem writeString_any (B b : Nat) (bs : List Value) (s : ByteArray) (w : World) (h : Lib.IsBuilder 103 5 B b bs w) (hlen : bs.length + s.size ≤ 140737488355328) (hBw : B ≤ w.heap.size) :
    Calls Tryz.prog 72 #[.pointer (some ⟨b, 0, none⟩), .string s] w fun e w' => e = .returned (.tuple #[.int .i64 s.size, .nilIface]) ∧ (Lib.BuilderAt 103 5 B b (.pointer (some ⟨b, 0, none⟩)) (bs ++ Lib.strCells s) w' ∧ Below B w w') :=
  Any.Builder_WriteString { Tryz.lays156 with } Tryz.Builder_Extra_156 B b bs s w h hlen hBw
theorem builder_below {T e : TypeId} {B b : Nat} {bs : List Value} {w w' : World} (h : Lib.IsBuilder T e B b bs w) (hb : Below w.heap.size w w') : Lib.IsBuilder T e B b bs w' := by
  have key : ∀ p, Lib.BuilderAt T e B b p bs w → Lib.BuilderAt T e B b p bs w' := fun p ⟨h1, v, h2, h3, h4⟩ => ⟨h1, v, (hb.block b (lt_of h2)).trans h2, own_below h3 hb, h4⟩
  exact h.imp (key _) (key _)

namespace Sc
def lens (l : List Cmd) : Nat := (l.map fun c => (lineOf c).length + 1).sum
theorem lens_snoc (l : List Cmd) (j : Nat) (c : Cmd) (h : l[j]? = some c) : lens (l.take (j + 1)) = lens (l.take j) + ((lineOf c).length + 1) := by
  unfold lens
  rw [List.take_add_one, h]
  simp
theorem lens_le (l : List Cmd) (j : Nat) : lens (l.take j) ≤ lens l := by
  unfold lens
  conv => rhs; rw [← List.take_append_drop j l]
  rw [List.map_append, List.sum_append]
  omega
theorem textOf_snoc (l : List Cmd) (j : Nat) (c : Cmd) (h : l[j]? = some c) : textOf (l.take (j + 1)) = textOf (l.take j) ++ (lineOf c ++ [10]) := by
  unfold textOf
  rw [List.take_add_one, h]
  simp
theorem all_snoc {l : List Cmd} {j : Nat} {c : Cmd} (h : l[j]? = some c) (hp : ∀ x ∈ l.take j, isCommand x = true) (hc : isCommand c = true) : ∀ x ∈ l.take (j + 1), isCommand x = true := by
  intro x hx
  rw [List.take_add_one, h] at hx
  rcases List.mem_append.1 hx with hx | hx
  · exact hp x hx
  · simp at hx; subst hx; exact hc
theorem print_not {l : List Cmd} (hl : l.length ≤ 1000) {c : Cmd} (hm : c ∈ l) (hc : isCommand c = false) : print l = .error 19 := by
  unfold print
  rw [if_neg (by omega), if_neg]
  intro h
  have := List.all_eq_true.1 h c hm
  rw [hc] at this
  cases this
theorem print_all {l : List Cmd} (hl : l.length ≤ 1000) (hc : ∀ c ∈ l, isCommand c = true) : print l = if 65536 < lens l then .error 2 else .ok (textOf l) := by
  unfold print
  rw [if_neg (by omega), if_pos (List.all_eq_true.2 hc)]
  rfl
end Sc

/-- How Print ends. -/
def PrintEnds (cs : List Sc.Cmd) (E : Errs) (w : World) (e : Ending) (w' : World) : Prop :=
  Below w.heap.size w w' ∧ ((∃ t, Sc.print cs = .ok t ∧ e = .returned (.tuple #[.string ⟨t.toArray⟩, .nilIface])) ∨
    (∃ k v, Sc.print cs = .error k ∧ (k = 2 ∨ k = 19) ∧ e = .returned (.tuple #[.string ⟨#[]⟩, v]) ∧ IsFault w.heap.size w' v scriptB 0 0 (E.val k)))
/-- Lists of commands whose texts fit. -/
def Fit (cs : List Sc.Cmd) : Prop := ∀ c ∈ cs, c.text.length ≤ 140737488355328 ∧ c.nums.length ≤ maxLen
theorem print_end {cs : List Sc.Cmd} {E : Errs} {w w2 : World} {k : Nat} (h : Sc.print cs = .error k) (hk : k = 2 ∨ k = 19) (hb : Below w.heap.size w w2) :
    PrintEnds cs E w (.returned (.tuple #[.string ⟨#[]⟩, .iface 72 (.pointer (some ⟨w2.heap.size, 0, none⟩))])) (w2.alloc (.cells #[.string scriptB, .int .i64 0, .int .i64 0, E.val k] 75)) :=
  ⟨hb.alloc hb.size _, .inr ⟨k, _, h, hk, rfl, w2.heap.size, hb.size, rfl, heap_alloc_new w2 _⟩⟩

/-- What the first loop holds at a round's head (kept shut). -/
def PrintOne (w : World) (cs : List Sc.Cmd) (nv i : Value) (wr : World) : Prop :=
  ∃ j : Nat, j ≤ cs.length ∧ i = .int .i64 j ∧ nv = .int .i64 (Sc.lens (cs.take j) : Nat) ∧ (∀ x ∈ cs.take j, Sc.isCommand x = true) ∧ Sc.lens (cs.take j) ≤ j * 140737488355500 ∧ Below w.heap.size w wr
/-- The second one. -/
def PrintTwo (w : World) (cs : List Sc.Cmd) (B : Nat) (i : Value) (wr : World) : Prop :=
  ∃ j : Nat, j ≤ cs.length ∧ i = .int .i64 j ∧ Lib.IsBuilder 103 5 B B (Lib.byteCells (Sc.textOf (cs.take j))) wr ∧ Below w.heap.size w wr ∧ B ≤ wr.heap.size

set_option maxRecDepth 100000 in
set_option maxHeartbeats 8000000 in
theorem print_any (A : Option Addr) (n c : Nat) (cs : List Sc.Cmd) (E : Errs) (w : World) (hE : Laid E three w) (htab : Tab w) (hr : ReadsC w (.slice A n c) cs) (hf : Fit cs) (hn : n ≤ maxLen) :
    Calls Tryz.prog 13 #[.slice A n c] w (PrintEnds cs E w) := by
  unfold maxLen at hn
  have hl := hr.len
  by_cases hbig : 1000 < n
  · have HP : Hid (Sc.print cs = .error 2) := by show _ = _; unfold Sc.print; rw [if_pos (by omega)]
    have hg2 := hE.cell 2 (by simp)
    have hg2' : w.cell? ⟨0, 0, none⟩ = some (E.val 2) := hg2
    go_enter Tryz.func13, Tryz.ntmps13
    go_wp2_with (first | (go_at_call 17; refine (new_any _ _ _ _).mono ?_; rintro e w1 ⟨rfl, rfl⟩))
    go_ret2
    exact print_end HP.out (.inl rfl) (Below.refl _ _)
  · have hn1 : n ≤ 1000 := by omega
    have HF := Lib.hid hf
    have HL := Lib.hid hl
    clear hf hbig
    go_enter Tryz.func13, Tryz.ntmps13
    go_wp2_with fail
    go_loopw [4, 17] (fun nv i wr => PrintOne w cs nv i wr) (fun _ i _ => n - (intOf i).toNat)
    case atStart => exact ⟨0, Nat.zero_le _, rfl, rfl, fun x hx => by simp at hx, by simp [Sc.lens], Below.refl _ _⟩
    case round =>
      obtain ⟨j, hj, rfl, rfl, hall, hle, hbw⟩ := hrel
      have HA := Lib.hid hall
      have HLe := Lib.hid hle
      clear hall hle
      by_cases hlt : j < n
      · obtain ⟨b, off, d, B1, m1, rfl, hd, a0, a1, a2, hR⟩ := hr.cell j hlt
        have hbl := cell_lt a0
        have x0 := (hbw.cell (p := ⟨b, off + j * 3, none⟩) hbl).trans a0
        have x1 := (hbw.cell (p := ⟨b, off + j * 3 + 1, none⟩) hbl).trans a1
        have x2 := (hbw.cell (p := ⟨b, off + j * 3 + 2, none⟩) hbl).trans a2
        obtain ⟨hft, hfn⟩ := HF.out d (List.mem_of_getElem? hd)
        have hRw : Hid (ReadsI wr (.slice B1 d.nums.length m1) d.nums) := hR.below hbw
        have hdt : (⟨d.text.toArray⟩ : ByteArray).size ≤ 140737488355328 := by simp [ByteArray.size]; exact hft
        have HD := Lib.hid hd
        clear a0 a1 a2 hd hR
        cases hc : Sc.isCommand d with
        | false =>
          have HP : Hid (Sc.print cs = .error 19) := Sc.print_not (by have := HL.out; omega) (List.mem_of_getElem? HD.out) hc
          have HC : Hid (Sc.isCommand ⟨(⟨d.word.toArray⟩ : ByteArray).data.toList, (⟨d.text.toArray⟩ : ByteArray).data.toList, d.nums⟩ = false) := hc
          clear hc
          go_wp2_with (first
            | (go_at_call 70; refine (isCommand_any _ _ B1 _ m1 d.nums _ (hRw.out.alloc _) (by unfold maxLen at hfn ⊢; omega) (by omega)).mono ?_; rintro e w2 ⟨rfl, hb2⟩; rw [HC.out]; have hbw2 : Below w.heap.size w w2 := (hbw.alloc hbw.size _).trans (hb2.mono (by simp; have := hbw.size; omega)); have hg19 : w2.cell? ⟨1, 0, none⟩ = some (E.val 19) := (hE.below hbw2).cell 19 (by simp))
            | (go_at_call 17; refine (new_any _ _ _ _).mono ?_; rintro e w3 ⟨rfl, rfl⟩))
          go_ret2
          exact print_end HP.out (.inr rfl) hbw2
        | true =>
          have HP2 := Lib.hid (Sc.lens_snoc cs j d HD.out)
          have HAL := Lib.hid (Sc.all_snoc HD.out HA.out hc)
          have hll := Sc.line_len hc
          have hsum : Sc.lens (cs.take j) ≤ 200000000000000000 := by have := HLe.out; have := HL.out; omega
          obtain ⟨L, hL⟩ : ∃ L : ByteArray, ⟨(Sc.lineOf ⟨(⟨d.word.toArray⟩ : ByteArray).data.toList, (⟨d.text.toArray⟩ : ByteArray).data.toList, d.nums⟩).toArray⟩ = L := ⟨_, rfl⟩
          have hLs : L.size = (Sc.lineOf d).length := by rw [← hL]; simp [ByteArray.size]
          have hLz : L.size ≤ 140737488355456 := by rw [hLs]; omega
          have HLL := Lib.hid hL
          have HLS := Lib.hid hLs
          have HC : Hid (Sc.isCommand ⟨(⟨d.word.toArray⟩ : ByteArray).data.toList, (⟨d.text.toArray⟩ : ByteArray).data.toList, d.nums⟩ = true) := hc
          clear hc hL hLs hll
          go_wp2_with (first
            | (go_at_call 70; refine (isCommand_any _ _ B1 _ m1 d.nums _ (hRw.out.alloc _) (by unfold maxLen at hfn ⊢; omega) (by omega)).mono ?_; rintro e w2 ⟨rfl, hb2⟩; rw [HC.out]; have hbw2 : Below w.heap.size w w2 := (hbw.alloc hbw.size _).trans (hb2.mono (by simp; have := hbw.size; omega));
                have hN2 := (hb2.block _ (by simp)).trans (heap_alloc_new wr (.cells #[.string ⟨d.word.toArray⟩, .string ⟨d.text.toArray⟩, .slice B1 d.nums.length m1] 52));
                have y0 : w2.cell? ⟨wr.heap.size, 0, none⟩ = some (.string ⟨d.word.toArray⟩) := (by rw [cell_of_row w2 _ 0 _ _ _ hN2]; rfl); have y1 : w2.cell? ⟨wr.heap.size, 1, none⟩ = some (.string ⟨d.text.toArray⟩) := (by rw [cell_of_row w2 _ 1 _ _ _ hN2]; rfl); have y2 : w2.cell? ⟨wr.heap.size, 2, none⟩ = some (.slice B1 d.nums.length m1) := (by rw [cell_of_row w2 _ 2 _ _ _ hN2]; rfl))
            | (go_at_call 71; refine (line_any _ _ B1 _ m1 d.nums _ ((hRw.out.alloc _).below hb2) HC.out hdt (htab.below hbw2)).mono ?_; rintro e w3 ⟨rfl, hb3⟩; rw [HLL.out]; have hbw3 : Below w.heap.size w w3 := hbw2.trans (hb3.mono hbw2.size)))
          go_roundw
          case rel => exact ⟨j + 1, by have := HL.out; omega, by go_num, by rw [HP2.out, ← HLS.out]; go_num, HAL.out, by rw [HP2.out, ← HLS.out]; have := HLe.out; omega, hbw3⟩
          case measure => simp [intOf]; omega
      · have hje : cs.take j = cs := List.take_of_length_le (by have := HL.out; omega)
        have HPA := Lib.hid (Sc.print_all (l := cs) (by have := HL.out; omega) (by rw [hje] at HA; exact HA.out))
        have hsum : Sc.lens (cs.take j) ≤ 200000000000000000 := by have := HLe.out; have := HL.out; omega
        obtain ⟨T, hT⟩ : ∃ T, Sc.lens (cs.take j) = T := ⟨_, rfl⟩
        have hTT : Hid (Sc.lens cs = T) := by show _ = _; rw [← hT, hje]
        have hAll : Hid (∀ x ∈ cs, Sc.isCommand x = true) := by rw [hje] at HA; exact HA
        rw [hT] at hsum ⊢
        clear hT hje
        by_cases hbig : 65536 < T
        · have HP : Hid (Sc.print cs = .error 2) := by show _ = _; rw [HPA.out, hTT.out, if_pos hbig]
          have hg2 : wr.cell? ⟨0, 0, none⟩ = some (E.val 2) := (hE.below hbw).cell 2 (by simp)
          go_wp2_with (first | (go_at_call 17; refine (new_any _ _ _ _).mono ?_; rintro e w3 ⟨rfl, rfl⟩))
          go_ret2
          exact print_end HP.out (.inl rfl) hbw
        · have HP : Hid (Sc.print cs = .ok (Sc.textOf cs)) := by show _ = _; rw [HPA.out, hTT.out, if_neg hbig]
          have hT2 : T ≤ 65536 := by omega
          clear hbig
          obtain ⟨w1, hw1⟩ : ∃ w1, w1 = wr := ⟨_, rfl⟩
          subst hw1
          go_wp2_with fail
          go_loopw [39] (fun i wr => PrintTwo w cs w1.heap.size i wr) (fun i _ => n - (intOf i).toNat)
          case atStart => exact ⟨0, Nat.zero_le _, rfl, Lib.fresh_isBuilder _ _ w1, hbw.alloc hbw.size _, by simp⟩
          case round =>
            obtain ⟨q, hq, rfl, hbu, hbq, hzq⟩ := hrel
            have HBU := Lib.hid hbu
            clear hbu
            by_cases hqt : q < n
            · obtain ⟨b, off, d, B1, m1, rfl, hd, a0, a1, a2, hR⟩ := hr.cell q hqt
              have hbl := cell_lt a0
              have x0 := (hbq.cell (p := ⟨b, off + q * 3, none⟩) hbl).trans a0
              have x1 := (hbq.cell (p := ⟨b, off + q * 3 + 1, none⟩) hbl).trans a1
              have x2 := (hbq.cell (p := ⟨b, off + q * 3 + 2, none⟩) hbl).trans a2
              have hc := hAll.out d (List.mem_of_getElem? hd)
              obtain ⟨hft, hfn⟩ := HF.out d (List.mem_of_getElem? hd)
              have HTS := Lib.hid (Sc.textOf_snoc cs q d hd)
              have hlen : Sc.lens (cs.take q) + ((Sc.lineOf d).length + 1) ≤ 65536 := by
                rw [← Sc.lens_snoc cs q d hd]
                have h1 := Sc.lens_le cs (q + 1)
                rw [hTT.out] at h1
                omega
              have htl : (Sc.textOf (cs.take q)).length = Sc.lens (cs.take q) := Sc.text_len _
              obtain ⟨L, hL⟩ : ∃ L : ByteArray, ⟨(Sc.lineOf ⟨(⟨d.word.toArray⟩ : ByteArray).data.toList, (⟨d.text.toArray⟩ : ByteArray).data.toList, d.nums⟩).toArray⟩ = L := ⟨_, rfl⟩
              have hLl : L.data.toList = Sc.lineOf d := by rw [← hL]
              have hLz : L.size ≤ 65536 := by rw [← bytes_size, hLl]; omega
              have z1 : (⟨#[10]⟩ : ByteArray).size = 1 := rfl
              have hsz : (Lib.byteCells (Sc.textOf (cs.take q))).length + (L ++ ⟨#[10]⟩).size ≤ 140737488355328 := by
                rw [Lib.byteCells_length, htl, ByteArray.size_append, z1, ← bytes_size L, hLl]
                omega
              have hnext : Lib.byteCells (Sc.textOf (cs.take q)) ++ Lib.strCells (L ++ ⟨#[10]⟩) = Lib.byteCells (Sc.textOf (cs.take (q + 1))) := by
                rw [HTS.out, Lib.byteCells_append, Lib.strCells_eq]
                congr 2
                rw [← hLl]
                simp
              have hdt : (⟨d.text.toArray⟩ : ByteArray).size ≤ 140737488355328 := by simp [ByteArray.size]; exact hft
              have HLL := Lib.hid hL
              have HNX := Lib.hid hnext
              have HSZ := Lib.hid hsz
              have HC : Hid (Sc.isCommand ⟨(⟨d.word.toArray⟩ : ByteArray).data.toList, (⟨d.text.toArray⟩ : ByteArray).data.toList, d.nums⟩ = true) := hc
              have hRq : Hid (ReadsI wr (.slice B1 d.nums.length m1) d.nums) := hR.below hbq
              clear a0 a1 a2 hd hR hc hlen htl hL hLl hsz hnext z1 hft hfn
              go_wp2_with (first
                | (go_at_call 71; refine (line_any _ _ B1 _ m1 d.nums _ (hRq.out.alloc _) HC.out hdt ((htab.below hbq).below ((Below.refl _ wr).alloc (Nat.le_refl _) _))).mono ?_; rintro e w3 ⟨rfl, hb3⟩; rw [HLL.out]; have hbq3 : Below w.heap.size w w3 := (hbq.alloc hbq.size _).trans (hb3.mono (by simp; have := hbq.size; omega)); have hbu3 := builder_below (builder_below HBU.out ((Below.refl _ wr).alloc (Nat.le_refl _) _)) hb3; have hz3 : w1.heap.size ≤ w3.heap.size := (by have := hb3.size; simp at this; omega))
                | (go_at_call 72; refine (writeString_any w1.heap.size w1.heap.size _ _ _ hbu3 HSZ.out hz3).mono ?_; rintro e w4 ⟨rfl, hbu4, hb4⟩))
              go_roundw
              case rel => exact ⟨q + 1, by have := HL.out; omega, by go_num, .inr (by rw [← HNX.out]; exact hbu4), hbq3.trans (hb4.mono hbw.size), Nat.le_trans hz3 hb4.size⟩
              case measure => simp [intOf]; omega
            · have hqe : cs.take q = cs := List.take_of_length_le (by have := HL.out; omega)
              have HB2 : Hid (Lib.IsBuilder 103 5 w1.heap.size w1.heap.size (Lib.byteCells (Sc.textOf cs)) wr) := by have := HBU.out; rw [hqe] at this; exact this
              clear hqe
              go_wp2_with (first
                | (go_at_call 73; refine (Tryz.Builder_String_any w1.heap.size w1.heap.size (Sc.textOf cs) _ HB2.out hzq).mono ?_; rintro e w4 ⟨rfl, hb4⟩))
              go_ret2
              exact ⟨hbq.trans (hb4.mono hbw.size), .inl ⟨_, HP.out, rfl⟩⟩
end Go.Proofs.YtinobikikineiabGreatDoor
