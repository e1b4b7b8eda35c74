/- The walk of the document's own Print; an append of a long string's bytes. Conditions: the texts' sizes. -/
import Derived.Test.YtinobikikineiabGreatDoorSRefLineT
import Derived.Test.YtinobikikineiabGreatDoorSPrint
import Derived.Lib.AppendStr
import Derived.Deep.DeepAppendWide
namespace Go.Proofs.YtinobikikineiabGreatDoor
open Go.RowKit Go.Shelf

/-- An append of a string's bytes to a row of bytes of the call's own, up to what growslice itself allows. -/
theorem append_bytes {P : Program} {w : World} {base n : Nat} {t u ty e : TypeId} {i : TypeInfo} {v : Value} {xs : List Value} {s : ByteArray} (ht : P.underlying t = some (.slice e)) (hu : P.underlying u = some .string) (hi : P.info? e = some i)
    (iz : i.zero = some (.int .u8 0)) (i1 : i.size = 1) (i2 : i.bytes = 1) (hown : w.ownsRow base e 1 v n xs) (hb : base ≤ w.heap.size) (hfit : (n + s.size) + (n + s.size) / 4 + 192 ≤ 281474976710656) :
    ∃ v' w', (Builtin.append_ #[t, u] ty #[v, .string s]).run P w = .ok v' w' ∧ w'.ownsRow base e 1 v' (n + s.size) (xs ++ Lib.strCells s) ∧ w.grownBy w' v.ownBlock := by
  by_cases hsm : n + s.size ≤ 140737488355328
  · obtain ⟨v', w', h1, h2, h3, _⟩ := Lib.run_append_own_string w base t u ty e i ht hu hi iz i1 i2 v n xs hown s (by unfold maxLen; omega) hsm hb
    exact ⟨v', w', h1, h2, h3⟩
  have hmax : n + s.size ≤ maxLen := by unfold maxLen; omega
  have hxl : xs.length = n := by simpa using hown.1
  have hsl := Lib.strCells_length s
  have hlen : (xs ++ Lib.strCells s).length = (n + s.size) * 1 := by rw [List.length_append, hxl, hsl, Nat.mul_one]
  have new : ∀ old : Nat, (w.drew.alloc (.cells ((xs ++ Lib.strCells s).toArray ++ Builtin.zeroCells (Value.int .u8 0).cells (grownCap w (n + s.size) old e - (n + s.size))) e)).ownsRow base e 1
      (.slice (some ⟨w.heap.size, 0, none⟩) (n + s.size) (grownCap w (n + s.size) old e)) (n + s.size) (xs ++ Lib.strCells s) := fun old => by
    have hge := grownCap_ge w (n + s.size) old e
    refine ⟨hlen, .inr ⟨w.heap.size, _, _, rfl, hb, heap_alloc_new w.drew _, hge, grownCap_le_maxLen w (n + s.size) old e hmax, ?_, ?_⟩⟩
    · have hz1 : (Value.int IntKind.u8 0).cells.size = 1 := rfl
      rw [Array.size_append, List.size_toArray, size_zeroCells, hz1, hlen]
      omega
    · rw [Array.toList_append, ← hlen]
      exact List.take_left
  have keep : ∀ (r : Option Nat) (c : Array Value), w.grownBy (w.drew.alloc (.cells c e)) r := fun r c => ⟨rfl, rfl, rfl, by simp, fun k hk _ => _root_.Go.heap_alloc_old _ _ hk⟩
  rcases hown.2 with ⟨rfl, rfl⟩ | ⟨g, cap, cur, rfl, hbg, hg, hnc, hcm, hcs, htk⟩
  · obtain rfl : xs = [] := List.eq_nil_of_length_eq_zero hxl
    have hr := run_append_nil_string (P := P) w t u ty e i (.int .u8 0) ht hu hi iz s (by omega) (by omega) (by rw [i2]; omega)
    have hc : (s.data.map fun b => Value.int .u8 b.toNat) = ([] ++ Lib.strCells s).toArray := by
      apply Array.ext'
      simp [Lib.strCells]
    rw [hc] at hr
    have h2 := new 0
    rw [Nat.zero_add] at h2 ⊢
    exact ⟨_, _, hr, h2, keep _ _⟩
  · by_cases hroom : n + s.size ≤ cap
    · have hcs' : cur.size = cap := by simpa using hcs
      refine ⟨_, _, Lib.run_append_room_string (P := P) w t u ty e i ht hu hi i1 g n cap cur hg s hroom (by omega), ⟨hlen, .inr ⟨g, cap, _, rfl, hbg, setRow_heap w g cur _ e _ hg, hroom, hcm, ?_, ?_⟩⟩, ⟨rfl, rfl, rfl, by simp, fun k _ hk => setRow_other w g k _ (fun e => hk (by rw [e]; rfl))⟩⟩
      · rw [List.size_toArray, List.length_append, List.length_append, List.length_take, List.length_drop, Array.length_toList, hsl]
        omega
      · have ht' : cur.toList.take n = xs := by simpa using htk
        rw [ht', ← hlen]
        exact List.take_left
    · have hr := Lib.run_append_grow_string (P := P) w t u ty e i (.int .u8 0) ht hu hi iz ⟨g, 0, none⟩ n cap xs (by rw [i1]; simpa using hxl) (hown.cells (g := g) rfl) s (by omega) (by omega) (by rw [i2]; exact growslice_fits_wide (by omega) (by omega))
      have h2 := new cap
      rw [← List.append_toArray] at h2
      exact ⟨_, _, hr, h2, by rw [List.append_toArray]; exact keep _ _⟩
theorem wpList_append_bytes {P : Program} (w : World) {ops : Array Oper} {rest : List Oper} {o : Oper} {a : Act} {Q : Exit → Act → World → Prop} (hgd : o.guard = none) (sl x : Operand) (t u : TypeId)
    (ho : o.op = .call { callee := .builtin .append, args := #[sl, x], argTypes := #[t, u] })
    (base : Nat) (e : TypeId) (i : TypeInfo) (ht : P.underlying t = some (.slice e)) (hu : P.underlying u = some .string) (hi : P.info? e = some i) (iz : i.zero = some (.int .u8 0)) (i1 : i.size = 1) (i2 : i.bytes = 1)
    (v : Value) (n : Nat) (xs : List Value) (hs : a.eval sl = v) (hown : w.ownsRow base e 1 v n xs) (s : ByteArray) (hx : a.eval x = .string s) (hb : base ≤ w.heap.size) (hfit : (n + s.size) + (n + s.size) / 4 + 192 ≤ 281474976710656)
    (h : ∀ v' w', w'.ownsRow base e 1 v' (n + s.size) (xs ++ Lib.strCells s) → w.grownBy w' v.ownBlock → wpList P ops Q rest (a.put o.dst v') w') : wpList P ops Q (o :: rest) a w := by
  refine wpList_plain hgd fun K hK => ?_
  obtain ⟨v', w', hr, h2, h3⟩ := append_bytes (ty := o.type) ht hu hi iz i1 i2 hown hb hfit
  unfold Oper.wp execOp
  simp only [ho, resolve, invoke, builtin, Sem.run_bind, Sem.run_pure, Result.andThen_ok, List.map_toArray, List.map_cons, List.map_nil, hs, hx, hr]
  exact hK _ _ (h v' w' h2 h3)

/-- How the document's Print ends. -/
def RefPrintEnds (cs : List Sc.Cmd) (w : World) (e : Ending) (w' : World) : Prop :=
  Below w.heap.size w w' ∧ ((∃ t, Sc.print cs = .ok t ∧ e = .returned (.tuple #[.string ⟨t.toArray⟩, .int .i64 0])) ∨
    (∃ k : Nat, Sc.print cs = .error k ∧ (k = 2 ∨ k = 19) ∧ e = .returned (.tuple #[.string ⟨#[]⟩, .int .i64 k])))
/-- Lists of commands whose words fit. -/
def FitW (cs : List Sc.Cmd) : Prop := ∀ c ∈ cs, c.word.length ≤ 140737488355328
/-- What the loop holds at a round's head (kept shut). -/
def RefPrintAt (w : World) (cs : List Sc.Cmd) (b long i : Value) (wr : World) : Prop :=
  ∃ (j : Nat) (bs : List UInt8) (A : Option Addr) (cap : Nat) (lg : Bool), j ≤ cs.length ∧ i = .int .i64 j ∧ b = .slice A bs.length cap ∧ long = .bool lg ∧ wr.ownsRow w.heap.size 5 1 (.slice A bs.length cap) bs.length (Lib.byteCells bs) ∧
    (lg = false → bs = Sc.textOf (cs.take j) ∧ bs.length ≤ 65536) ∧ (lg = true → 65536 < Sc.lens (cs.take j)) ∧ (∀ x ∈ cs.take j, Sc.isCommand x = true) ∧ Below w.heap.size w wr
theorem own_bytes {w : World} {base n : Nat} {A : Option Addr} {cap : Nat} {l m : List UInt8} {s : ByteArray} (h : w.ownsRow base 5 1 (.slice A n cap) n (Lib.byteCells l ++ Lib.strCells s)) (hm : m = l ++ s.data.toList) (hn : n = m.length) :
    w.ownsRow base 5 1 (.slice A m.length cap) m.length (Lib.byteCells m) := by
  subst hn
  rw [hm, Lib.byteCells_append]
  rw [hm] at h
  rwa [Lib.strCells_eq] at h

set_option maxRecDepth 100000 in
set_option maxHeartbeats 8000000 in
theorem refPrint_any (A : Option Addr) (n c : Nat) (cs : List Sc.Cmd) (w : World) (hr : ReadsC w (.slice A n c) cs) (hf : Fit cs) (hfw : FitW cs) (hn : n ≤ maxLen) :
    Calls Tryz.prog 14 #[.slice A n c] w (RefPrintEnds cs w) := by
  obtain ⟨i0, ii, iz0, iz1, iz2⟩ := info_parts infoByte
  unfold maxLen at hn
  have hl := hr.len
  by_cases hbig : 1000 < n
  · have HP : Hid (Sc.print cs = .error 2) := by show _ = _; unfold Sc.print; rw [if_pos (by omega)]
    go_enter Tryz.func14, Tryz.ntmps14
    go_wp2_with fail
    go_ret2
    exact ⟨Below.refl _ _, .inr ⟨2, HP.out, .inl rfl, rfl⟩⟩
  · have hn1 : n ≤ 1000 := by omega
    have HF := Lib.hid hf
    have HFW := Lib.hid hfw
    have HL := Lib.hid hl
    have hl' : cs.length = n := hl
    clear hf hfw hbig hl
    go_enter Tryz.func14, Tryz.ntmps14
    go_wp2_with fail
    go_loopw [4, 5, 6] (fun b long i wr => RefPrintAt w cs b long i wr) (fun _ _ i _ => n - (intOf i).toNat)
    case atStart => exact ⟨0, [], none, 0, false, Nat.zero_le _, rfl, rfl, rfl, World.ownsRow_nil _ _ _ _, fun _ => ⟨rfl, Nat.zero_le _⟩, fun h => absurd h (by decide), fun x hx => by simp at hx, Below.refl _ _⟩
    case round =>
      obtain ⟨j, bs, B0, cap0, lg, hj, rfl, rfl, rfl, hown, hlo, hhi, hall, hbw⟩ := hrel
      rw [hl'] at hj
      have HLo := Lib.hid hlo
      have HHi := Lib.hid hhi
      have HA := Lib.hid hall
      clear hlo hhi hall
      by_cases hlt : j < n
      · obtain ⟨b, off, d, B1, m1, rfl, hd, a0, a1, a2, hR⟩ := hr.cell j hlt
        have hbl := cell_lt a0
        have x0 := (hbw.cell (p := ⟨b, off + j * 3, none⟩) hbl).trans a0
        have x1 := (hbw.cell (p := ⟨b, off + j * 3 + 1, none⟩) hbl).trans a1
        have x2 := (hbw.cell (p := ⟨b, off + j * 3 + 2, none⟩) hbl).trans a2
        obtain ⟨hft, hfn⟩ := HF.out d (List.mem_of_getElem? hd)
        have hRw : Hid (ReadsI wr (.slice B1 d.nums.length m1) d.nums) := hR.below hbw
        have hdt : Hid ((⟨d.text.toArray⟩ : ByteArray).size ≤ 140737488355328) := by show _ ≤ _; simp [ByteArray.size]; exact hft
        have hdw : Hid ((⟨d.word.toArray⟩ : ByteArray).size ≤ 140737488355328) := by show _ ≤ _; simp [ByteArray.size]; exact HFW.out d (List.mem_of_getElem? hd)
        have HFN := Lib.hid hfn
        have HD := Lib.hid hd
        clear a0 a1 a2 hd hR hfn
        cases hc : Sc.isCommand d with
        | false =>
          have HP : Hid (Sc.print cs = .error 19) := Sc.print_not (by have := HL.out; omega) (List.mem_of_getElem? HD.out) hc
          have HC : Hid (Sc.isCommand ⟨(⟨d.word.toArray⟩ : ByteArray).data.toList, (⟨d.text.toArray⟩ : ByteArray).data.toList, d.nums⟩ = false) := hc
          clear hc hft
          go_wp2_with (first
            | (go_at_call 74; refine (refLine_any _ _ B1 _ m1 d.nums _ hRw.out HFN.out hdw.out hdt.out).mono ?_; rintro e w3 ⟨hb3, h3⟩; obtain ⟨_, v3, rfl⟩ := h3.resolve_left (fun h4 => absurd (HC.out.symm.trans h4.1) (by decide)); have hbw3 : Below w.heap.size w w3 := hbw.trans (hb3.mono hbw.size); clear hb3))
          go_ret2
          exact ⟨hbw3, .inr ⟨19, HP.out, .inr rfl, rfl⟩⟩
        | true =>
          have HP2 := Lib.hid (Sc.lens_snoc cs j d HD.out)
          have HT2 := Lib.hid (Sc.textOf_snoc cs j d HD.out)
          have HAL := Lib.hid (Sc.all_snoc HD.out HA.out hc)
          have hll := Sc.line_len hc
          obtain ⟨L, hL⟩ : ∃ L : ByteArray, ⟨(Sc.lineOf ⟨(⟨d.word.toArray⟩ : ByteArray).data.toList, (⟨d.text.toArray⟩ : ByteArray).data.toList, d.nums⟩).toArray⟩ = L := ⟨_, rfl⟩
          have hLl : L.data.toList = Sc.lineOf d := by rw [← hL]
          have hLs : L.size = (Sc.lineOf d).length := by rw [← hL]; simp [ByteArray.size]
          have hLz : L.size ≤ 140737488355456 := by rw [hLs]; omega
          have HLL := Lib.hid hL
          have HLS := Lib.hid hLs
          have HLl := Lib.hid hLl
          have HC : Hid (Sc.isCommand ⟨(⟨d.word.toArray⟩ : ByteArray).data.toList, (⟨d.text.toArray⟩ : ByteArray).data.toList, d.nums⟩ = true) := hc
          clear hc hL hLs hll hLl hft
          cases lg with
          | true =>
            have hlens := Lib.hid (HHi.out rfl)
            go_wp2_with (first
              | (go_at_call 74; refine (refLine_any _ _ B1 _ m1 d.nums _ hRw.out HFN.out hdw.out hdt.out).mono ?_; rintro e w3 ⟨hb3, h3⟩; obtain ⟨_, rfl⟩ := h3.resolve_right (fun h4 => absurd (HC.out.symm.trans h4.1) (by decide)); rw [HLL.out]; have hbw3 : Below w.heap.size w w3 := hbw.trans (hb3.mono hbw.size); have hown3 := own_below hown hb3; clear hb3))
            go_roundw
            case rel => exact ⟨j + 1, bs, B0, cap0, true, by have := HL.out; omega, by go_num, rfl, rfl, hown3, fun h => absurd h (by decide), fun _ => by rw [HP2.out]; have := hlens.out; omega, HAL.out, hbw3⟩
            case measure => simp [intOf]; omega
          | false =>
            obtain ⟨hbs, hbz⟩ := HLo.out rfl
            have HBS := Lib.hid hbs
            clear hbs
            obtain ⟨m, hm⟩ : ∃ m : List UInt8, bs ++ L.data.toList = m := ⟨_, rfl⟩
            have hml : m.length = bs.length + L.size := by rw [← hm, List.length_append, bytes_size]
            obtain ⟨m2, hm2⟩ : ∃ m2 : List UInt8, m ++ [10] = m2 := ⟨_, rfl⟩
            have hml2 : m2.length = m.length + 1 := by rw [← hm2]; simp
            have HM2 : Hid (m2 = Sc.textOf (cs.take (j + 1))) := by
              show _ = _
              rw [HT2.out, ← hm2, ← hm, HBS.out, HLl.out, List.append_assoc]
            have HML : Hid (m2.length = Sc.lens (cs.take (j + 1))) := by rw [show m2 = _ from HM2.out]; exact Sc.text_len _
            have HM := Lib.hid hm.symm
            have HM' : Hid (Lib.byteCells m ++ [Value.int .u8 10] = Lib.byteCells m2) := by show _ = _; rw [← hm2, Lib.byteCells_append]; rfl
            have HN := Lib.hid hml
            have HN2 := Lib.hid hml2
            have hmz : m.length ≤ 140737488420992 := by omega
            clear hm hm2 hml hml2
            go_wp2_with (first
              | (go_at_call 74; refine (refLine_any _ _ B1 _ m1 d.nums _ hRw.out HFN.out hdw.out hdt.out).mono ?_; rintro e w3 ⟨hb3, h3⟩; obtain ⟨_, rfl⟩ := h3.resolve_right (fun h4 => absurd (HC.out.symm.trans h4.1) (by decide)); rw [HLL.out]; have hbw3 : Below w.heap.size w w3 := hbw.trans (hb3.mono hbw.size); have hown3 := own_below hown hb3; clear hb3)
              | (at_builtin; have _t := hown3; refine wpList_append_bytes _ rfl _ _ 101 9 rfl w.heap.size 5 i0 Tryz.underlying101 Tryz.underlying9 ii iz0 iz1 iz2 _ _ _ rfl hown3 L rfl hbw3.size (by omega) ?_; intro v4 w4 hown4 hg4; have hbw4 := below_append hbw3 hown3 (Nat.le_refl _) hbw3.size hg4; obtain ⟨A4, cap4, rfl⟩ := own_slice hown4; have hown5 := own_bytes hown4 HM.out HN.out.symm; rw [← HN.out]; clear _t hown3 hown4 hg4 hbw3)
              | (at_builtin; refine wpList_append_own_wide _ rfl _ _ 101 rfl w.heap.size 5 i0 _ 1 1 Tryz.underlying101 ii iz0 iz1 iz2 rfl (by decide) _ _ _ rfl (hown5.alloc _) ⟨w4.heap.size, 0, none⟩ 1 1 [.int .u8 10] rfl rfl (new_cells w4 [.int .u8 10] 5) (fun u hu => by rw [List.mem_singleton] at hu; subst hu; rfl) (by unfold maxLen; omega) (by omega) (by have := hbw4.size; simp; omega) ?_; intro v6 w6 hown6 hg6 _; have hbw6 := below_append (hbw4.alloc hbw4.size _) (hown5.alloc _) (Nat.le_refl _) (by have := hbw4.size; simp; omega) hg6; obtain ⟨A6, cap6, rfl⟩ := own_slice hown6; rw [HM'.out, ← HN2.out] at hown6; rw [← HN2.out]))
            go_roundw
            case rel => exact ⟨j + 1, m2, A6, cap6, decide ((65536 : Int) < (m2.length : Nat)), by have := HL.out; omega, by go_num, rfl, rfl, hown6, fun h => ⟨HM2.out, by have := of_decide_eq_false h; omega⟩, fun h => by rw [← HML.out]; have := of_decide_eq_true h; omega, HAL.out, hbw6⟩
            case measure => simp [intOf]; omega
      · have hje : cs.take j = cs := List.take_of_length_le (by have := HL.out; omega)
        have HPA := Lib.hid (Sc.print_all (l := cs) (by have := HL.out; omega) (by rw [hje] at HA; exact HA.out))
        cases lg with
        | true =>
          have HP : Hid (Sc.print cs = .error 2) := by show _ = _; rw [HPA.out, if_pos (by have := HHi.out rfl; rwa [hje] at this)]
          clear hje
          go_wp2_with fail
          go_ret2
          exact ⟨hbw, .inr ⟨2, HP.out, .inl rfl, rfl⟩⟩
        | false =>
          obtain ⟨hbs, hbz⟩ := HLo.out rfl
          rw [hje] at hbs
          have HP : Hid (Sc.print cs = .ok bs) := by
            show _ = _
            rw [HPA.out, if_neg ?_, ← hbs]
            have : bs.length = Sc.lens cs := by rw [hbs]; exact Sc.text_len _
            omega
          have hcv := conv_own hown rfl
          clear hje hbs
          go_wp2_with fail
          go_ret2
          exact ⟨hbw, .inl ⟨bs, HP.out, rfl⟩⟩
end Go.Proofs.YtinobikikineiabGreatDoor
