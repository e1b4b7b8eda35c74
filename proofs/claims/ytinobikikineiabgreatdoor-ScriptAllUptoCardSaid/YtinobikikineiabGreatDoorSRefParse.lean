/- The walk of the document's own Parse: a script as the plain function reads it. Conditions: the text's size. -/
import Derived.Test.YtinobikikineiabGreatDoorSRefNums
import Derived.Test.YtinobikikineiabGreatDoorSRefPlain
import Derived.Test.YtinobikikineiabGreatDoorSParse
namespace Go.Proofs.YtinobikikineiabGreatDoor
open Go.RowKit Go.Shelf

/-- How the document's Parse ends. -/
def RefParseEnds (l : List UInt8) (w : World) (e : Ending) (w' : World) : Prop :=
  Below w.heap.size w w' ∧
  ((∃ cs A c, Sc.parse l = .ok cs ∧ e = .returned (.tuple #[.slice A cs.length c, refErr 0 0 0 ⟨#[]⟩]) ∧ OwnC w' w.heap.size (.slice A cs.length c) cs) ∨
   (∃ c line col : Nat, Sc.parse l = .error (c, line, col) ∧ e = .returned (.tuple #[.slice none 0 0, refErr (c : Int) (line : Int) (col : Int) (scriptB ++ ⟨#[32]⟩)])))
theorem refCommand_ok (s : ByteArray) (w : World) (hs : s.size ≤ 65536) (hno : ∀ d ∈ s.data.toList, d ≠ 10) (c : Sc.Cmd) (h : Sc.command s.data.toList = some c) :
    Calls Tryz.prog 22 #[.string s] w fun e w' => ∃ A n k, e = .returned (.tuple #[.agg #[.string ⟨c.word.toArray⟩, .string ⟨c.text.toArray⟩, .slice A n k], .bool true]) ∧ Below w.heap.size w w' ∧ OwnI w' w.heap.size (.slice A n k) c.nums :=
  (refCommand_any s w hs hno).mono fun e w' ⟨hb, hv⟩ => by
    rcases hv with ⟨c', A, n, k, h1, h2, h3⟩ | ⟨h1, _⟩
    · rw [h] at h1; injection h1 with h1; subst h1; exact ⟨A, n, k, h2, hb, h3⟩
    · rw [h] at h1; cases h1
theorem refCommand_none (s : ByteArray) (w : World) (hs : s.size ≤ 65536) (hno : ∀ d ∈ s.data.toList, d ≠ 10) (h : Sc.command s.data.toList = none) :
    Calls Tryz.prog 22 #[.string s] w fun e w' => ∃ (v0 v1 : ByteArray) (A : Option Addr) (n k : Nat), e = .returned (.tuple #[.agg #[.string v0, .string v1, .slice A n k], .bool false]) ∧ Below w.heap.size w w' :=
  (refCommand_any s w hs hno).mono fun e w' ⟨hb, hv⟩ => by
    rcases hv with ⟨c', A, n, k, h1, h2, h3⟩ | ⟨_, v0, v1, A, n, k, h2⟩
    · rw [h] at h1; cases h1
    · exact ⟨v0, v1, A, n, k, h2, hb⟩

theorem zero_four {w wr : World} (hbw : Below w.heap.size w wr) (v0 v1 v2 v3 : Value) : Below w.heap.size w ((((wr.setCell ⟨w.heap.size, 0, none⟩ v0).setCell ⟨w.heap.size, 1, none⟩ v1).setCell ⟨w.heap.size, 2, none⟩ v2).setCell ⟨w.heap.size, 3, none⟩ v3) :=
  (((hbw.setCell (Nat.le_refl _) _).setCell (Nat.le_refl _) _).setCell (Nat.le_refl _) _).setCell (Nat.le_refl _) _

set_option maxRecDepth 100000 in
set_option maxHeartbeats 1000000 in
theorem refParse_long (s : ByteArray) (w : World) (hs : 65536 < Sc.size s.data.toList) (hsm : s.size ≤ 281474976710656) :
    Calls Tryz.prog 7 #[.string s] w (RefParseEnds s.data.toList w) := by
  have HS : Hid (Sc.parse s.data.toList = .error (2, 0, 0)) := by show _ = _; unfold Sc.parse; rw [if_pos hs]
  rcases last_ways s with ⟨h0, hz⟩ | ⟨h0, h1, hz⟩ | ⟨h0, h1, hz⟩
  · omega
  all_goals
    rw [hz] at hs
    clear hz
    first
      | (have h2 : ((s[s.size - 1].toNat : Int) != 10) = false := by rw [h1]; rfl)
      | (have hlt : s.size - 1 < s.size := by omega
         have hs3 : (65536 : Int) < (s.size : Int) + 1 := by omega
         clear hs
         have h2 : ((s[s.size - 1].toNat : Int) != 10) = true := by (simp only [bne_iff_ne]; exact fun e => h1 (UInt8.toNat_inj.1 (by show s[s.size - 1].toNat = 10; omega)))
         clear h1)
    go_enter Tryz.func7, Tryz.ntmps7
    go_wp2_with (first
      | (go_at_call 15; refine (bad_any scriptB _ _ (by decide)).mono ?_; rintro e w2 ⟨rfl, hb2⟩;
          have hN2 : w2.heap[w.heap.size]? = some (.cells #[.int .i64 0, .int .i64 0, .int .i64 0, .string ⟨#[]⟩] 44 (0, 0)) := (hb2.block _ (by simp)).trans (heap_alloc_new w _);
          have c0 := cell_of_row w2 w.heap.size 0 _ _ _ hN2; have c1 := cell_of_row w2 w.heap.size 1 _ _ _ hN2; have c2 := cell_of_row w2 w.heap.size 2 _ _ _ hN2; have c3 := cell_of_row w2 w.heap.size 3 _ _ _ hN2; have g0 := block_frozen hN2 0; have g1 := block_frozen hN2 1; have g2 := block_frozen hN2 2; have g3 := block_frozen hN2 3;
          have hbw2 : Below w.heap.size w w2 := ((Below.refl _ w).alloc (Nat.le_refl _) _).trans (hb2.mono (by simp))))
    obtain ⟨q0, q1, q2, q3⟩ := four_set w2 w.heap.size (.int .i64 (2 : Int)) (.int .i64 0) (.int .i64 0) (.string (scriptB ++ ⟨#[32]⟩)) (by rw [c0]; rfl) (by rw [c1]; rfl) (by rw [c2]; rfl) (by rw [c3]; rfl)
    refine bodyPost_ret (v := .tuple #[.slice none 0 0, refErr (2 : Int) 0 0 (scriptB ++ ⟨#[32]⟩)]) (by simp [results, Tryz.results7, go_sem, q0, q1, q2, q3]) rfl ?_
    exact ⟨zero_four hbw2 _ _ _ _, .inr ⟨2, 0, 0, HS.out, rfl⟩⟩

/-- What the loop holds at a round's head (kept shut). -/
def RefPAt (s : ByteArray) (w : World) (v li fr i : Value) (wr : World) : Prop :=
  ∃ (k line f : Nat) (cs : List Sc.Cmd) (A : Option Addr) (cap : Nat), k ≤ s.size + 1 ∧ i = .int .i64 k ∧ li = .int .i64 line ∧ fr = .int .i64 f ∧ v = .slice A cs.length cap ∧ f ≤ s.size + 1 ∧ line ≤ k + 1 ∧ cs.length ≤ 1000 ∧
    OwnC wr (w.heap.size + 1) (.slice A cs.length cap) cs ∧ Below w.heap.size w wr ∧ wr.heap[w.heap.size]? = some (.cells #[.int .i64 0, .int .i64 0, .int .i64 0, .string ⟨#[]⟩] 44 (0, 0)) ∧ Sc.RefIn s.data.toList f k line cs

set_option maxRecDepth 100000 in
set_option maxHeartbeats 1000000 in
theorem refParse_empty (w : World) : Calls Tryz.prog 7 #[.string ⟨#[]⟩] w (RefParseEnds [] w) := by
  have hp := Lib.hid (show Sc.parse [] = .ok [] by rfl)
  have htt : Sc.trim [] = [] := by rfl
  have hE : (⟨#[]⟩ : ByteArray).size = 0 := rfl
  go_enter Tryz.func7, Tryz.ntmps7
  go_wp2_with fail
  refine wp_loop_rounds 2 ?_
  rw [rounds_succ]
  go_wp2_with (first | (go_at_call 21; refine (refTrim_any _ _ ?hx).mono ?_; (case hx => (unfold maxLen; simp)); rintro e w' ⟨rfl, rfl⟩))
  rw [rounds_succ]
  go_wp2_with fail
  refine bodyPost_ret (v := .tuple #[.slice none 0 0, refErr 0 0 0 ⟨#[]⟩]) (by simp [results, Tryz.results7, go_sem]) rfl ?_
  exact ⟨(Below.refl _ _).alloc (Nat.le_refl _) _, .inl ⟨[], none, 0, hp.out, rfl, OwnC.nil _ _⟩⟩
theorem idle_ways (tr : ByteArray) (l : List UInt8) (h : tr.data.toList = l) : (Sc.idle l = true ∧ tr.toList = [] ∧ tr.toList.isEmpty = true) ∨
    (Sc.idle l = true ∧ tr.toList ≠ [] ∧ tr.toList.isEmpty = false ∧ ∃ h : 0 < tr.size, ((tr[0].toNat : Int) != 35) = false) ∨ (Sc.idle l = false ∧ tr.toList ≠ [] ∧ tr.toList.isEmpty = false ∧ ∃ h : 0 < tr.size, ((tr[0].toNat : Int) != 35) = true) := by
  have e : tr.toList = l := by rw [ByteArray.toList_eq, h]
  cases l with
  | nil => exact .inl ⟨rfl, e, by rw [e]; rfl⟩
  | cons c t =>
    have hz : 0 < tr.size := by rw [← bytes_size, h]; simp
    have h0 : tr[0] = c := by
      have := bytes_get tr 0 hz
      rw [h] at this
      exact (Option.some.inj this).symm
    have e1 : tr.toList ≠ [] := by rw [e]; simp
    have e2 : tr.toList.isEmpty = false := by rw [e]; rfl
    by_cases hc : c = 35
    · subst hc
      exact .inr (.inl ⟨rfl, e1, e2, hz, by rw [h0]; rfl⟩)
    · refine .inr (.inr ⟨by simp [Sc.idle, hc], e1, e2, hz, ?_⟩)
      rw [h0, bne_iff_ne]
      exact fun e => hc (UInt8.toNat_inj.1 (by show c.toNat = 35; omega))

set_option maxRecDepth 100000 in
set_option maxHeartbeats 8000000 in
theorem refParse_loop (s : ByteArray) (w : World) (hs : ¬ 65536 < Sc.size s.data.toList) :
    Calls Tryz.prog 7 #[.string s] w (RefParseEnds s.data.toList w) := by
  obtain ⟨i0, hi, hz0, hz1, hz2'⟩ := info_parts infoCmd
  have HP : Hid (Sc.parse s.data.toList = Sc.from' 1 0 (Lx.cuts s.data.toList)) := by show _ = _; unfold Sc.parse; rw [if_neg hs]
  rcases last_ways s with ⟨h0, hz⟩ | ⟨h0, h1, hz⟩ | ⟨h0, h1, hz⟩
  · have he : s = ⟨#[]⟩ := by
      have : s.data.toList = [] := List.eq_nil_of_length_eq_zero (by rw [bytes_size]; exact h0)
      rw [← bytes_mk s, this]
    subst he
    exact refParse_empty w
  all_goals
    rw [hz] at hs
    have hsz : s.size ≤ 65536 := by omega
    clear hz
    first
      | (have hlt0 : s.size - 1 < s.size := by omega
         have hs3 : (s.size : Int) ≤ 70000 := by omega
         have hs4 : decide ((65536 : Int) < (s.size : Int) + 1) = false := by rw [decide_eq_false_iff_not]; omega
         have h2 : ((s[s.size - 1].toNat : Int) != 10) = true := by (simp only [bne_iff_ne]; exact fun e => h1 (UInt8.toNat_inj.1 (by show s[s.size - 1].toNat = 10; omega)))
         clear h1 hs)
      | (have h2 : ((s[s.size - 1].toNat : Int) != 10) = false := by rw [h1]; rfl
         clear hs)
      | clear hs
    go_enter Tryz.func7, Tryz.ntmps7
    go_wp2_with fail
    go_loopw [5, 6, 7, 8] (fun v li fr i wr => RefPAt s w v li fr i wr) (fun _ _ _ i _ => s.size + 1 - (intOf i).toNat)
    case atStart => exact ⟨0, 1, 0, [], none, 0, Nat.zero_le _, rfl, rfl, rfl, rfl, Nat.zero_le _, Nat.le_refl _, Nat.zero_le _, OwnC.nil _ _, (Below.refl _ _).alloc (Nat.le_refl _) _, heap_alloc_new w _, Sc.refIn_zero _⟩
    case round =>
      obtain ⟨k, line, f, cs, A, cap, hk, rfl, rfl, rfl, rfl, hf, hln, hcl, hown, hbw, hres, hin⟩ := hrel
      have HI := Lib.hid hin
      have HR := Lib.hid hres
      clear hin hres
      have hzr := hbw.size
      have hlN := lt_of HR.out
      by_cases hgt : s.size < k
      · have HEnd : Hid (Sc.parse s.data.toList = .ok cs) := by
          show _ = _
          have := HI.out.2 (by rw [bytes_size]; omega)
          rw [mores_ok, List.append_nil] at this
          rw [HP.out, ← this]
        have c0 := cell_of_row wr w.heap.size 0 _ _ _ HR.out
        have c1 := cell_of_row wr w.heap.size 1 _ _ _ HR.out
        have c2 := cell_of_row wr w.heap.size 2 _ _ _ HR.out
        have c3 := cell_of_row wr w.heap.size 3 _ _ _ HR.out
        have g0 := block_frozen HR.out 0
        have g1 := block_frozen HR.out 1
        have g2 := block_frozen HR.out 2
        have g3 := block_frozen HR.out 3
        go_wp2_with fail
        obtain ⟨q0, q1, q2, q3⟩ := four_set wr w.heap.size (.int .i64 0) (.int .i64 0) (.int .i64 0) (.string ⟨#[]⟩) (by rw [c0]; rfl) (by rw [c1]; rfl) (by rw [c2]; rfl) (by rw [c3]; rfl)
        refine bodyPost_ret (v := .tuple #[.slice A cs.length cap, refErr 0 0 0 ⟨#[]⟩]) (by simp [results, Tryz.results7, go_sem, q0, q1, q2, q3]) rfl ?_
        exact ⟨zero_four hbw _ _ _ _, .inl ⟨cs, A, cap, HEnd.out, rfl, (hown.keep fun b _ _ hb hh => set_far (set_far (set_far (set_far hh (by omega)) (by omega)) (by omega)) (by omega)).low (by omega)⟩⟩
      · by_cases hnl : k = s.size ∨ ∃ h : k < s.size, s[k] = 10
        · obtain ⟨ps, hp1, hno, hfk, hnext⟩ := Sc.refIn_piece HI.out (by rw [bytes_size]; omega) (by
            rcases hnl with h | ⟨h, hc⟩
            · exact .inl (by rw [bytes_size]; exact h)
            · exact .inr (by rw [bytes_get s k h, hc]))
          have hway : (decide (k < s.size) = false ∧ ¬ k < s.size) ∨ ∃ h : k < s.size, ((s[k].toNat : Int) != 10) = false := by
            rcases hnl with h | ⟨h, hc⟩
            · exact .inl ⟨by rw [decide_eq_false_iff_not]; omega, by omega⟩
            · exact .inr ⟨h, by rw [hc]; rfl⟩
          have hexl : (s.extract f k).data.toList = (s.data.toList.drop f).take (k - f) := extract_mid s f k
          obtain ⟨p, hp⟩ : ∃ p, (s.data.toList.drop f).take (k - f) = p := ⟨_, rfl⟩
          rw [hp] at hp1 hno hexl
          obtain ⟨tr, htr⟩ : ∃ tr : ByteArray, ⟨(Sc.trim p).toArray⟩ = tr := ⟨_, rfl⟩
          have htrl : tr.data.toList = Sc.trim p := by rw [← htr]
          have hexm : (s.extract f k).size ≤ maxLen := by unfold maxLen; simp; omega
          have htz : tr.size ≤ 65536 := by
            rw [← bytes_size, htrl]
            refine Nat.le_trans (Sc.trim_len p) ?_
            rw [← hp, List.length_take, List.length_drop, bytes_size]; omega
          have HTR := Lib.hid htr
          have HTL := Lib.hid htrl
          have HP1 := Lib.hid hp1
          have HNO := Lib.hid hno
          have HNext := Lib.hid hnext
          have HEX := Lib.hid hexl
          have hle : (k : Int) ≤ (s.size : Int) := by omega
          clear hnl hp htr htrl hp1 hno hnext hexl
          rcases idle_ways tr _ HTL.out with ⟨hi1, e1, e2⟩ | ⟨hi1, e1, e2, hz, h35⟩ | ⟨hi1, e1, e2, hz, h35⟩
          · skip
            have HN : Hid (Sc.RefIn s.data.toList (k + 1) (k + 1) (line + 1) cs) := HNext.out cs (line + 1) (Sc.refIn_idle HP1.out hi1)
            clear hi1
            rcases hway with ⟨hd, hd2⟩ | ⟨hlt, h10⟩
            all_goals
              go_wp2_with (first | (go_at_call 21; refine (refTrim_any _ _ ?hx).mono ?_; (case hx => with_reducible exact hexm); rintro e w' ⟨rfl, rfl⟩; rw [HEX.out, HTR.out]))
              (try go_roundw)
              (try (case rel => exact ⟨k + 1, line + 1, k + 1, cs, A, cap, by omega, by go_num, by go_num, by go_num, rfl, by omega, by omega, hcl, hown, hbw, HR.out, HN.out⟩))
              (try (case measure => simp [intOf]; omega))
          · skip
            have HN : Hid (Sc.RefIn s.data.toList (k + 1) (k + 1) (line + 1) cs) := HNext.out cs (line + 1) (Sc.refIn_idle HP1.out hi1)
            clear hi1
            rcases hway with ⟨hd, hd2⟩ | ⟨hlt, h10⟩
            all_goals
              go_wp2_with (first | (go_at_call 21; refine (refTrim_any _ _ ?hx).mono ?_; (case hx => with_reducible exact hexm); rintro e w' ⟨rfl, rfl⟩; rw [HEX.out, HTR.out]))
              (try go_roundw)
              (try (case rel => exact ⟨k + 1, line + 1, k + 1, cs, A, cap, by omega, by go_num, by go_num, by go_num, rfl, by omega, by omega, hcl, hown, hbw, HR.out, HN.out⟩))
              (try (case measure => simp [intOf]; omega))
          · have HNT : Hid (∀ d ∈ tr.data.toList, d ≠ 10) := by
              show ∀ d ∈ tr.data.toList, d ≠ 10
              rw [HTL.out]
              intro d hd
              exact HNO.out d (Sc.mem_trim hd)
            cases hc : Sc.command (Sc.trim p) with
            | none =>
              have HEnd : Hid (Sc.parse s.data.toList = .error (19, line, 0)) := HP.out.trans (Sc.refIn_none HP1.out hi1 hc)
              have HC : Hid (Sc.command tr.data.toList = none) := by show _ = _; rw [HTL.out, hc]
              clear hi1 hc
              rcases hway with ⟨hd, hd2⟩ | ⟨hlt, h10⟩
              all_goals
                go_wp2_with (first
                  | (go_at_call 21; refine (refTrim_any _ _ ?hx).mono ?_; (case hx => with_reducible exact hexm); rintro e w' ⟨rfl, rfl⟩; rw [HEX.out, HTR.out])
                  | (go_at_call 22; refine (refCommand_none tr _ htz HNT.out HC.out).mono ?_; rintro e w2 ⟨v0, v1, B, m, kc, rfl, hb2⟩)
                  | (go_at_call 23; refine (badAt_any scriptB _ _ _ _ (by decide)).mono ?_; rintro e w4 ⟨rfl, hb4⟩; have hN4 : w4.heap[w.heap.size]? = some (.cells #[.int .i64 0, .int .i64 0, .int .i64 0, .string ⟨#[]⟩] 44 (0, 0)) := (hb4.block _ (by have := hb2.size; simp; omega)).trans (alloc_old ((hb2.block _ hlN).trans HR.out) _); have c0 := cell_of_row w4 w.heap.size 0 _ _ _ hN4; have c1 := cell_of_row w4 w.heap.size 1 _ _ _ hN4; have c2 := cell_of_row w4 w.heap.size 2 _ _ _ hN4; have c3 := cell_of_row w4 w.heap.size 3 _ _ _ hN4; have g0 := block_frozen hN4 0; have g1 := block_frozen hN4 1; have g2 := block_frozen hN4 2; have g3 := block_frozen hN4 3; have hbw4 : Below w.heap.size w w4 := (hbw.trans (hb2.mono hbw.size)).alloc (by have := hb2.size; omega) _ |>.trans (hb4.mono (by have := hb2.size; simp; omega))))
                (try obtain ⟨q0, q1, q2, q3⟩ := four_set w4 w.heap.size (.int .i64 (19 : Int)) (.int .i64 (line : Int)) (.int .i64 0) (.string (scriptB ++ ⟨#[32]⟩)) (by rw [c0]; rfl) (by rw [c1]; rfl) (by rw [c2]; rfl) (by rw [c3]; rfl))
                (try refine bodyPost_ret (v := .tuple #[.slice none 0 0, refErr (19 : Int) (line : Int) 0 (scriptB ++ ⟨#[32]⟩)]) (by simp [results, Tryz.results7, go_sem, q0, q1, q2, q3]) rfl ?_)
                (try exact ⟨zero_four hbw4 _ _ _ _, .inr ⟨19, line, 0, HEnd.out, rfl⟩⟩)
            | some c =>
              have HC : Hid (Sc.command tr.data.toList = some c) := by show _ = _; rw [HTL.out, hc]
              by_cases hfull : cs.length = 1000
              · have HEnd : Hid (Sc.parse s.data.toList = .error (2, line, 0)) := HP.out.trans (Sc.refIn_full HP1.out hi1 hc (by omega))
                have h1000 : (1000 : Int) ≤ (cs.length : Int) := by omega
                clear hi1 hc hfull
                rcases hway with ⟨hd, hd2⟩ | ⟨hlt, h10⟩
                all_goals
                  go_wp2_with (first
                    | (go_at_call 21; refine (refTrim_any _ _ ?hx).mono ?_; (case hx => with_reducible exact hexm); rintro e w' ⟨rfl, rfl⟩; rw [HEX.out, HTR.out])
                    | (go_at_call 22; refine (refCommand_ok tr _ htz HNT.out c HC.out).mono ?_; rintro e w2 ⟨B, m, kc, rfl, hb2, hrow2⟩)
                    | (go_at_call 23; refine (badAt_any scriptB _ _ _ _ (by decide)).mono ?_; rintro e w4 ⟨rfl, hb4⟩; have hN4 : w4.heap[w.heap.size]? = some (.cells #[.int .i64 0, .int .i64 0, .int .i64 0, .string ⟨#[]⟩] 44 (0, 0)) := (hb4.block _ (by have := hb2.size; simp; omega)).trans (alloc_old ((hb2.block _ hlN).trans HR.out) _); have c0 := cell_of_row w4 w.heap.size 0 _ _ _ hN4; have c1 := cell_of_row w4 w.heap.size 1 _ _ _ hN4; have c2 := cell_of_row w4 w.heap.size 2 _ _ _ hN4; have c3 := cell_of_row w4 w.heap.size 3 _ _ _ hN4; have g0 := block_frozen hN4 0; have g1 := block_frozen hN4 1; have g2 := block_frozen hN4 2; have g3 := block_frozen hN4 3; have hbw4 : Below w.heap.size w w4 := (hbw.trans (hb2.mono hbw.size)).alloc (by have := hb2.size; omega) _ |>.trans (hb4.mono (by have := hb2.size; simp; omega))))
                  (try obtain ⟨q0, q1, q2, q3⟩ := four_set w4 w.heap.size (.int .i64 (2 : Int)) (.int .i64 (line : Int)) (.int .i64 0) (.string (scriptB ++ ⟨#[32]⟩)) (by rw [c0]; rfl) (by rw [c1]; rfl) (by rw [c2]; rfl) (by rw [c3]; rfl))
                  (try refine bodyPost_ret (v := .tuple #[.slice none 0 0, refErr (2 : Int) (line : Int) 0 (scriptB ++ ⟨#[32]⟩)]) (by simp [results, Tryz.results7, go_sem, q0, q1, q2, q3]) rfl ?_)
                  (try exact ⟨zero_four hbw4 _ _ _ _, .inr ⟨2, line, 0, HEnd.out, rfl⟩⟩)
              · have hl3 : cs.length < 1000 := by omega
                have h1000 : ¬ (1000 : Int) ≤ (cs.length : Int) := by omega
                have HN : Hid (Sc.RefIn s.data.toList (k + 1) (k + 1) (line + 1) (cs ++ [c])) := HNext.out (cs ++ [c]) (line + 1) (Sc.refIn_some HP1.out hi1 hc hl3)
                clear hi1 hc hfull hcl
                obtain ⟨us, hu0, hus1, hus2⟩ := hown
                have HUS := Lib.hid hus2
                clear hus2
                rcases hway with ⟨hd, hd2⟩ | ⟨hlt, h10⟩
                all_goals
                  go_wp2_with (first
                    | (go_at_call 21; refine (refTrim_any _ _ ?hx).mono ?_; (case hx => with_reducible exact hexm); rintro e w' ⟨rfl, rfl⟩; rw [HEX.out, HTR.out])
                    | (go_at_call 22; refine (refCommand_ok tr _ htz HNT.out c HC.out).mono ?_; rintro e w2 ⟨B, m, kc, rfl, hb2, hrow2⟩;
                        have HRow := Lib.hid hrow2; clear hrow2;
                        have hf2 : ∀ k o, wr.heap[k]? = some o → w2.heap[k]? = some o := (fun k o hk => (hb2.block k (lt_of_cells hk)).trans hk);
                        have hown2 := own_keep hus1 (fun k cs t _ hh => hf2 k _ hh); have hs2 := hb2.size)
                    | (at_builtin; refine wpList_append_own _ rfl _ _ 38 rfl (w.heap.size + 1) 52 i0 _ 3 56 Tryz.underlying38 hi hz0 hz1 hz2' rfl (by decide) _ _ _ rfl ((hown2.alloc _).alloc _) ⟨w2.heap.size + 1, 0, none⟩ 1 1 (cmdCells c (.slice B m kc)) rfl rfl (new_cells2 w2 _ (cmdCells c (.slice B m kc)) _) (cmd_oneCell c B m kc) (by unfold maxLen; omega) (by omega) (by simp; omega) ?_; intro v3 w3 hown3 hg3 _; obtain ⟨A3, cap3, rfl⟩ := own_slice hown3))
                  (try go_roundw)
                  (try (case rel =>
                    have HA := far_app ((hown2.alloc _).alloc _) hg3
                    have hs3 := hg3.size
                    simp only [World.size_alloc] at hs3
                    have hB2 : Below w.heap.size w w2 := hbw.trans (hb2.mono hbw.size)
                    have hB3 := below_append ((hB2.alloc hB2.size _).alloc (by simp; omega) _) ((hown2.alloc _).alloc _) (by omega) (by simp; omega) hg3
                    have hOut := OwnC.append (W := (w2.alloc _).alloc _) (cs := cs) (c := c) hu0 ((hown2.alloc _).alloc _) (fun j c' hj => by obtain ⟨u, h3, h4⟩ := HUS.out j c' hj; exact ⟨u, h3, h4.keep fun b _ _ hh => alloc_old (alloc_old (hf2 b _ hh) _) _⟩) (((HRow.out.row).low (by omega)).keep fun b _ _ hh => alloc_old (alloc_old hh _) _) hown3 hg3
                    exact ⟨k + 1, line + 1, k + 1, cs ++ [c], A3, cap3, by omega, by go_num, by go_num, by go_num, by rw [List.length_append]; rfl, by omega, by omega, by rw [List.length_append]; simp; omega, by rw [List.length_append]; exact hOut, hB3, HA _ _ (alloc_old (alloc_old (hf2 _ _ HR.out) _) _) (.inl (by omega)), HN.out⟩))
                  (try (case measure => simp [intOf]; omega))
        · have hlt : k < s.size := by
            rcases Nat.lt_or_ge k s.size with h | h
            · exact h
            · exact absurd (.inl (by omega)) hnl
          have h10 : ((s[k].toNat : Int) != 10) = true := by
            simp only [bne_iff_ne]
            exact fun e => hnl (.inr ⟨hlt, UInt8.toNat_inj.1 (by show s[k].toNat = 10; omega)⟩)
          have HN : Hid (Sc.RefIn s.data.toList f (k + 1) line cs) := Sc.refIn_step HI.out (by rw [bytes_size]; exact hlt) (by
            rw [bytes_get s k hlt]
            intro e
            exact hnl (.inr ⟨hlt, Option.some.inj e⟩))
          clear hnl
          go_wp2
          go_roundw
          (try (case rel => exact ⟨k + 1, line, f, cs, A, cap, by omega, by go_num, rfl, rfl, rfl, hf, by omega, hcl, hown, hbw, HR.out, HN.out⟩))
          (try (case measure => simp [intOf]; omega))
theorem refParse_any (s : ByteArray) (w : World) (hsm : s.size ≤ 281474976710656) : Calls Tryz.prog 7 #[.string s] w (RefParseEnds s.data.toList w) := by
  by_cases h : 65536 < Sc.size s.data.toList
  · exact refParse_long s w h hsm
  · exact refParse_loop s w h
end Go.Proofs.YtinobikikineiabGreatDoor
