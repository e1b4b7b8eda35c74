/- The walk of lexis's 'line': the words of a line, or the first error's fault. -/
import Derived.Test.YtinobikikineiaaDoorMem
import Derived.WalkMore
namespace Go.Proofs.YtinobikikineiaaDoor
open Go.RowKit

theorem infoTok : (Tryd.prog.info? 29).map (fun i => (i.zero, i.size, i.bytes)) = some (some (.agg #[.int .i64 0, .string ⟨#[]⟩, .int .i64 0, .int .i64 0]), 4, 40) := by kernel_rfl

theorem byte_beq (c : UInt8) (n : Nat) (hn : n < 256 := by decide) : ((c.toNat : Int) == (n : Int)) = (c == n.toUInt8) := by
  rw [Bool.eq_iff_iff]
  simp only [beq_iff_eq]
  constructor
  · intro h
    apply UInt8.toNat_inj.1
    have : n.toUInt8.toNat = n := by simp; omega
    omega
  · intro h
    have : n.toUInt8.toNat = n := by simp; omega
    rw [h, this]

/-- How 'line' ends. -/
def LineEnds (no : Nat) (l : List UInt8) (E : Errs) (w : World) (e : Ending) (w' : World) : Prop :=
  Below w.heap.size w w' ∧
  ((∃ ts v, Lx.lineToks no l = .ok ts ∧ e = .returned (.tuple #[v, .nilIface]) ∧ Reads4 w' v (ts.map Lx.Tok.v) ∧ (ts = [] → v = .slice none 0 0)) ∨
   (∃ c col v, Lx.lineToks no l = .error (c, no, col) ∧ (c = 2 ∨ c = 4) ∧ e = .returned (.tuple #[.slice none 0 0, v]) ∧ IsFault w.heap.size w' v lexisB no col (E.val c)))

theorem LineEnds_ok (no : Nat) (l : List UInt8) (ts : List Lx.Tok) (h : Lx.rest no 0 l = .ok ts) : Lx.lineToks no l = .ok (Lx.closeLine no l.length ts) := by
  rw [Lx.lineToks_eq, h]

set_option maxRecDepth 100000 in
set_option maxHeartbeats 2000000 in
theorem line_any (s : ByteArray) (no : Nat) (E : Errs) (w : World) (hE : Laid E two w) (hs : s.size ≤ 65536) (_hno : no ≤ 100000) :
    Calls Tryd.prog 32 #[.string s, .int .i64 (no : Int)] w (LineEnds no s.data.toList E w) := by
  obtain ⟨i0, hi, hz0, hz1', hz2⟩ := info_parts infoTok
  go_enter Tryd.func32, Tryd.ntmps32
  go_wp2_with fail
  go_step3
  go_wp2_with fail
  go_step3
  go_wp2_with fail
  go_loopw [6, 7] (fun v i wr => ∃ (k : Nat) (ts : List Lx.Tok) (A : Option Addr) (cap : Nat), k ≤ s.size ∧ i = .int .i64 k ∧ v = .slice A ts.length cap ∧ (ts = [] → A = none ∧ cap = 0) ∧ wr.ownsRow w.heap.size 29 4 v ts.length (flat (ts.map Lx.Tok.v)) ∧ Below w.heap.size w wr ∧ ts.length ≤ k ∧
      Lx.prep ts (Lx.rest no k (s.data.toList.drop k)) = Lx.rest no 0 s.data.toList)
    (fun _ i _ => s.size - (intOf i).toNat)
  case atStart => exact ⟨0, [], none, 0, Nat.zero_le _, rfl, rfl, fun _ => ⟨rfl, rfl⟩, World.ownsRow_nil _ _ _ _, Below.refl _ _, Nat.le_refl _, by simp⟩
  case round =>
    obtain ⟨k, ts, A, cap, hk, rfl, rfl, hnil, hown, hbw, htk, hp⟩ := hrel
    have HP := Lib.hid hp
    have HNil := Lib.hid hnil
    clear hp hnil
    by_cases hlt : k < s.size
    · have HD := Lib.hid (bytes_drop s k hlt)
      by_cases hbl : Lx.isBlank s[k] = true
      · have HN : Hid (Lx.rest no k (s.data.toList.drop k) = Lx.rest no (k + 1) (s.data.toList.drop (k + 1))) := by rw [HD.out]; exact Lx.rest_blank _ _ _ _ hbl
        have hor : s[k] = 32 ∨ s[k] = 9 ∨ s[k] = 13 := by
          simp only [Lx.isBlank, Bool.or_eq_true, beq_iff_eq] at hbl
          rcases hbl with (h | h) | h <;> simp [h]
        have h32 : ((s[k].toNat : Int) == 32) = (s[k] == 32) := byte_beq _ 32
        have h9 : ((s[k].toNat : Int) == 9) = (s[k] == 9) := byte_beq _ 9
        have h13 : ((s[k].toNat : Int) == 13) = (s[k] == 13) := byte_beq _ 13
        clear hbl
        have hor' : (((s[k].toNat : Int) == 32) = true ∧ ((s[k].toNat : Int) == 9) = false ∧ ((s[k].toNat : Int) == 13) = false) ∨ (((s[k].toNat : Int) == 32) = false ∧ ((s[k].toNat : Int) == 9) = true ∧ ((s[k].toNat : Int) == 13) = false) ∨ (((s[k].toNat : Int) == 32) = false ∧ ((s[k].toNat : Int) == 9) = false ∧ ((s[k].toNat : Int) == 13) = true) := by
          rw [h32, h9, h13]
          rcases hor with e | e | e <;> rw [e] <;> decide
        clear h32 h9 h13 hor
        rcases hor' with ⟨t1, t2, t3⟩ | ⟨t1, t2, t3⟩ | ⟨t1, t2, t3⟩
        all_goals
          go_wp2
          go_roundw
          case rel => exact ⟨k + 1, ts, A, cap, by omega, by go_num, rfl, HNil.out, hown, hbw, by omega, by rw [← HN.out]; exact HP.out⟩
          case measure => simp [intOf]; omega
      · have h32 : ((s[k].toNat : Int) == 32) = (s[k] == 32) := byte_beq _ 32
        have h9 : ((s[k].toNat : Int) == 9) = (s[k] == 9) := byte_beq _ 9
        have h13 : ((s[k].toNat : Int) == 13) = (s[k] == 13) := byte_beq _ 13
        have h35 : ((s[k].toNat : Int) == 35) = (s[k] == 35) := byte_beq _ 35
        have hbl : Lx.isBlank s[k] = false := by simpa using hbl
        have hbl' := hbl
        simp only [Lx.isBlank, Bool.or_eq_false_iff] at hbl
        rw [hbl.1.1] at h32
        rw [hbl.1.2] at h9
        rw [hbl.2] at h13
        clear hbl
        have HB := Lib.hid hbl'
        clear hbl'
        cases hh : (s[k] == 35) with
        | true =>
          rw [hh] at h35
          have HF : Hid (Lx.rest no 0 s.data.toList = .ok ts) := by
            have := HP.out
            rw [HD.out, Lx.rest_hash _ _ _ _ (by simpa using hh), Lx.prep_ok, List.append_nil] at this
            exact this.symm
          clear hh
          by_cases hts : ts = []
          · subst hts
            obtain ⟨hA, hcap⟩ := HNil.out rfl
            subst hA
            subst hcap
            go_wp2
            (try rw [Exit.noGoto_ret])
            go_ret2
            refine ⟨hbw, .inl ⟨[], _, LineEnds_ok _ _ _ HF.out, rfl, Reads4.of_own hown, fun _ => rfl⟩⟩
          · have hpos : 0 < ts.length := List.length_pos_iff.2 hts
            have hcl : Lx.closeLine no s.data.toList.length ts = ts ++ [Lx.endTok no s.size] := by unfold Lx.closeLine; rw [if_neg (by simpa using hts), bytes_size]
            have HC := Lib.hid hcl
            clear hcl hts
            go_wp2_with (at_builtin; refine wpList_append_own _ rfl _ _ 22 rfl w.heap.size 29 i0 _ 4 40 Tryd.underlying22 hi hz0 hz1' hz2 rfl (by decide) _ _ _ rfl (hown.alloc _) ⟨wr.heap.size, 0, none⟩ 1 1 (TokV.cells ⟨1, ⟨#[10]⟩, no, (s.size : Int) + 1⟩) rfl rfl (new_cells wr (TokV.cells ⟨1, ⟨#[10]⟩, no, (s.size : Int) + 1⟩) 29) (tok_one _) (by unfold maxLen; omega) (by omega) (by have := hbw.size; simp; omega) ?_; intro v2 w2 hown2 hg2 _)
            (try rw [Exit.noGoto_ret])
            go_ret2
            have hbw2 := below_append (hbw.alloc hbw.size _) (hown.alloc _) (Nat.le_refl _) (by have := hbw.size; simp; omega) hg2
            refine ⟨hbw2, .inl ⟨ts ++ [Lx.endTok no s.size], v2, by rw [LineEnds_ok _ _ _ HF.out, HC.out], rfl, Reads4.of_own (base := w.heap.size) (e := 29) ?_, fun h => by simp at h⟩⟩
            rw [List.map_append, flat_append, List.length_append, List.length_map]
            exact hown2
        | false =>
          rw [hh] at h35
          have hne : s[k] ≠ 35 := by simpa using hh
          have hxs : (s.extract k s.size).data.toList = s.data.toList.drop k := by
            simp only [ByteArray.data_extract, Array.toList_extract, List.extract_eq_take_drop]
            exact List.take_of_length_le (by simp)
          have hxz : (s.extract k s.size).size = s.size - k := by simp
          cases hw : Lx.word (s.data.toList.drop k) with
          | error c =>
            have HW : Hid (Lx.word (s.extract k s.size).data.toList = .error c) := by rw [hxs]; exact hw
            have HF : Hid (Lx.lineToks no s.data.toList = .error (c, no, k + 1)) := by
              have := HP.out
              rw [HD.out, Lx.rest_bad _ _ _ _ c HB.out hne (by rw [← HD.out]; exact hw), Lx.prep_error] at this
              show _ = _
              rw [Lx.lineToks_eq, ← this]
            clear hw hh hne hxs
            go_wp2_with (first
              | (go_at_call 51; refine (next_err _ E _ (hE.below hbw) ?_ ?_ c HW.out).mono ?_; (simp; omega); (simp; omega); rintro e w1 ⟨rfl, hb, hc2⟩; obtain ⟨hc1, hf1⟩ := bcell hb; have hz1 := hb.size)
              | (go_at_call 52; refine (at_any _ _ _ _ _ _).mono ?_; rintro e w2 ⟨rfl, rfl⟩))
            (try rw [Exit.noGoto_ret])
            go_ret2
            have hb1 : Below w.heap.size w w1 := hbw.trans (hb.mono hbw.size)
            refine ⟨(hb1.alloc hb1.size _).alloc (by have := hb1.size; simp; omega) _, .inr ⟨c, k + 1, _, HF.out, hc2, rfl, w1.heap.size + 1, by have := hb1.size; omega, rfl, ?_⟩⟩
            have := heap_alloc_new (w1.alloc (.cells #[.int .i64 0, .string ⟨#[]⟩, .int .i64 0, .int .i64 0] 29)) (.cells #[.string lexisB, .int .i64 (no : Int), .int .i64 ((k + 1 : Nat) : Int), E.val c] 44)
            rw [World.size_alloc] at this
            exact this
          | ok kw =>
            obtain ⟨kd, tx⟩ := kw
            have hwl := Lx.word_len hw
            rw [List.length_drop, bytes_size] at hwl
            have HW : Hid (Lx.word (s.extract k s.size).data.toList = .ok (kd, tx)) := by rw [hxs]; exact hw
            have HF : Hid (Lx.prep (ts ++ [⟨kd, tx, no, k + 1⟩]) (Lx.rest no (k + tx.length) (s.data.toList.drop (k + tx.length))) = Lx.rest no 0 s.data.toList) := by
              have := HP.out
              rw [HD.out, Lx.rest_word _ _ _ _ kd tx HB.out hne (by rw [← HD.out]; exact hw), Lx.prep_prep, ← HD.out, List.drop_drop] at this
              exact this
            have hl1 := hwl.1
            have hl2 := hwl.2.1
            clear hw hh hne hxs hwl
            go_wp2_with (first
              | (go_at_call 51; refine (next_ok _ E _ (hE.below hbw) ?_ ?_ kd tx HW.out).mono ?_; (simp; omega); (simp; omega); rintro e w1 ⟨rfl, hb⟩; obtain ⟨hc1, hf1⟩ := bcell hb; have hz1 := hb.size; have hown1 := own_below hown hb)
              | (at_builtin; refine wpList_append_own _ rfl _ _ 22 rfl w.heap.size 29 i0 _ 4 40 Tryd.underlying22 hi hz0 hz1' hz2 rfl (by decide) _ _ _ rfl ((hown1.alloc _).alloc _) ⟨w1.heap.size + 1, 0, none⟩ 1 1 (TokV.cells ⟨kd, ⟨tx.toArray⟩, no, (k : Int) + 1⟩) rfl rfl (new_cells2 w1 (.cells (TokV.cells ⟨kd, ⟨tx.toArray⟩, no, (k : Int) + 1⟩).toArray 29) (TokV.cells ⟨kd, ⟨tx.toArray⟩, no, (k : Int) + 1⟩) 29) (tok_one _) (by unfold maxLen; omega) (by omega) (by have := hbw.size; simp; omega) ?_; intro v2 w2 hown2 hg2 _; have ht2 : w2.cell? ⟨w1.heap.size, 1, none⟩ = some (.string ⟨tx.toArray⟩) := app_cell hown1 _ _ _ hg2 1))
            go_roundw
            case rel =>
              obtain ⟨A2, cap2, hv2⟩ := own_slice hown2
              have hb1 : Below w.heap.size w w1 := hbw.trans (hb.mono hbw.size)
              have hb2 := below_append ((hb1.alloc hb1.size _).alloc (by have := hb1.size; simp; omega) _) ((hown1.alloc _).alloc _) (Nat.le_refl _) (by have := hb1.size; simp; omega) hg2
              exact ⟨k + tx.length, ts ++ [⟨kd, tx, no, k + 1⟩], A2, cap2, by omega, by go_num, by rw [List.length_append]; exact hv2, fun h => by simp at h,
                by rw [List.map_append, flat_append, List.length_append]; exact hown2, hb2, by rw [List.length_append]; simp; omega, HF.out⟩
            case measure => simp [intOf]; omega
    · have HF : Hid (Lx.rest no 0 s.data.toList = .ok ts) := by
        have := HP.out
        rw [List.drop_of_length_le (by rw [bytes_size]; omega), Lx.rest_nil, Lx.prep_ok, List.append_nil] at this
        exact this.symm
      by_cases hts : ts = []
      · subst hts
        obtain ⟨hA, hcap⟩ := HNil.out rfl
        subst hA
        subst hcap
        go_wp2
        (try rw [Exit.noGoto_ret])
        go_ret2
        refine ⟨hbw, .inl ⟨[], _, LineEnds_ok _ _ _ HF.out, rfl, Reads4.of_own hown, fun _ => rfl⟩⟩
      · have hpos : 0 < ts.length := List.length_pos_iff.2 hts
        have hcl : Lx.closeLine no s.data.toList.length ts = ts ++ [Lx.endTok no s.size] := by unfold Lx.closeLine; rw [if_neg (by simpa using hts), bytes_size]
        have HC := Lib.hid hcl
        clear hcl hts
        go_wp2_with (at_builtin; refine wpList_append_own _ rfl _ _ 22 rfl w.heap.size 29 i0 _ 4 40 Tryd.underlying22 hi hz0 hz1' hz2 rfl (by decide) _ _ _ rfl (hown.alloc _) ⟨wr.heap.size, 0, none⟩ 1 1 (TokV.cells ⟨1, ⟨#[10]⟩, no, (s.size : Int) + 1⟩) rfl rfl (new_cells wr (TokV.cells ⟨1, ⟨#[10]⟩, no, (s.size : Int) + 1⟩) 29) (tok_one _) (by unfold maxLen; omega) (by omega) (by have := hbw.size; simp; omega) ?_; intro v2 w2 hown2 hg2 _)
        (try rw [Exit.noGoto_ret])
        go_ret2
        have hbw2 := below_append (hbw.alloc hbw.size _) (hown.alloc _) (Nat.le_refl _) (by have := hbw.size; simp; omega) hg2
        refine ⟨hbw2, .inl ⟨ts ++ [Lx.endTok no s.size], v2, by rw [LineEnds_ok _ _ _ HF.out, HC.out], rfl, Reads4.of_own (base := w.heap.size) (e := 29) ?_, fun h => by simp at h⟩⟩
        rw [List.map_append, flat_append, List.length_append, List.length_map]
        exact hown2

theorem line_nil (s : ByteArray) (no : Nat) (E : Errs) (w : World) (hE : Laid E two w) (hs : s.size ≤ 65536) (hno : no ≤ 100000) (h : Lx.lineToks no s.data.toList = .ok []) :
    Calls Tryd.prog 32 #[.string s, .int .i64 (no : Int)] w fun e w' => e = .returned (.tuple #[.slice none 0 0, .nilIface]) ∧ Below w.heap.size w w' :=
  (line_any s no E w hE hs hno).mono fun e w' hv => by
    rcases hv with ⟨hb, ⟨ts, v, h1, h2, _, h3⟩ | ⟨c, col, v, h1, _⟩⟩
    · rw [h] at h1; injection h1 with h1
      rw [h3 h1.symm] at h2; exact ⟨h2, hb⟩
    · rw [h] at h1; cases h1
theorem line_ok (s : ByteArray) (no : Nat) (E : Errs) (w : World) (hE : Laid E two w) (hs : s.size ≤ 65536) (hno : no ≤ 100000) (ts : List Lx.Tok) (hne : ts ≠ []) (h : Lx.lineToks no s.data.toList = .ok ts) :
    Calls Tryd.prog 32 #[.string s, .int .i64 (no : Int)] w fun e w' => ∃ b off c, e = .returned (.tuple #[.slice (some ⟨b, off, none⟩) ts.length c, .nilIface]) ∧ Below w.heap.size w w' ∧
      ∀ j u, (flat (ts.map Lx.Tok.v))[j]? = some u → w'.cell? ⟨b, off + j, none⟩ = some u :=
  (line_any s no E w hE hs hno).mono fun e w' hv => by
    rcases hv with ⟨hb, ⟨ts', v, h1, h2, ⟨A, c, hv, _, h3⟩, _⟩ | ⟨c, col, v, h1, _⟩⟩
    · rw [h] at h1; injection h1 with h1; subst h1
      obtain ⟨b, off, rfl, hc⟩ := h3 (by simpa using hne)
      rw [List.length_map] at hv
      exact ⟨b, off, c, by rw [h2, hv], hb, hc⟩
    · rw [h] at h1; cases h1
theorem line_err (s : ByteArray) (no : Nat) (E : Errs) (w : World) (hE : Laid E two w) (hs : s.size ≤ 65536) (hno : no ≤ 100000) (c line col : Nat) (h : Lx.lineToks no s.data.toList = .error (c, line, col)) :
    Calls Tryd.prog 32 #[.string s, .int .i64 (no : Int)] w fun e w' => ∃ b, e = .returned (.tuple #[.slice none 0 0, .iface 41 (.pointer (some ⟨b, 0, none⟩))]) ∧ Below w.heap.size w w' ∧ w.heap.size ≤ b ∧
      w'.heap[b]? = some (.cells #[.string lexisB, .int .i64 (line : Int), .int .i64 (col : Int), E.val c] 44 (0, 0)) ∧ (c = 2 ∨ c = 4) :=
  (line_any s no E w hE hs hno).mono fun e w' hv => by
    rcases hv with ⟨hb, ⟨ts', v, h1, _⟩ | ⟨c', col', v, h1, hc, h2, b, hB, hv, hh⟩⟩
    · rw [h] at h1; cases h1
    · rw [h] at h1; injection h1 with h1; injection h1 with h3 h4; injection h4 with h4 h5
      subst h3; subst h4; subst h5
      exact ⟨b, by rw [h2, hv], hb, hB, hh, hc⟩
end Go.Proofs.YtinobikikineiaaDoor
