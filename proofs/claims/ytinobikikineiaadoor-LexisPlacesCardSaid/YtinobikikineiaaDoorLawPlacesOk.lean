/- The walk of the law LexisPlaces where the text is read. Condition: the first four error variables lie as the program lays them. -/
import Derived.Test.YtinobikikineiaaDoorLawPlaces
namespace Go.Proofs.YtinobikikineiaaDoor
open Go.RowKit Go.Shelf

set_option maxRecDepth 100000 in
set_option maxHeartbeats 4000000 in
theorem places_ok (s : ByteArray) (E : Errs) (w : World) (hE : Laid E four w) (hs : s.size ≤ 60000) (ts : List Lx.Tok) (h : Lx.scan s.data.toList = .ok ts) :
    Calls Tryd.prog 6 #[.string s] w fun e w' => e = .returned (.bool true) ∧ Below w.heap.size w w' := by
  have h2 : Lx.scan ((⟨#[35, 32, 120, 10]⟩ : ByteArray) ++ s).data.toList = .ok (ts.map Lx.Tok.on) := by
    have := Lx.scan_ahead _ (by rw [bytes_size]; exact hs)
    rw [h] at this
    simpa [Lx.ahead, Lx.shift] using this
  have hwf := (Lx.scan_wf _ _ h).2.2
  rw [bytes_size] at hwf
  have hst := Lib.hid (Lx.scan_stands _ _ h)
  have HH := Lib.hid h
  have H2 := Lib.hid h2
  have hlen : (ts.map Lx.Tok.on).length = ts.length := List.length_map ..
  have HLen := Lib.hid hlen
  clear h h2 hlen
  have hsz : ((⟨#[35, 32, 120, 10]⟩ : ByteArray) ++ s).size ≤ 70000 := by rw [ByteArray.size_append]; show 4 + s.size ≤ 70000; omega
  have aN := assertNil
  go_enter Tryd.func6, Tryd.ntmps6
  go_wp2_with (first
    | (go_at_call 11; refine (scan_good _ E _ ?hE ts ?h).mono ?_; (case h => with_reducible exact HH.out); (case hE => exact hE.two_of_four); rintro e w1 ⟨A, c, rfl, hb1, hr⟩)
    | (go_at_call 11; refine (scan_good _ E _ ?hE (ts.map Lx.Tok.on) ?h).mono ?_; (case h => with_reducible exact H2.out); (case hE => exact hE.two_of_four.below hb1); rintro e w2 ⟨A2, c2, rfl, hb2, hr2⟩; rw [HLen.out] at hr2 ⊢))
  have hb12 := hb1.trans (hb2.mono hb1.size)
  have hr' := hr.below hb2
  go_loopw [11, 12, 13, 14] (fun fr ln i _ wr => ∃ k f n m : Nat, k ≤ ts.length ∧ fr = .int .i64 f ∧ ln = .int .i64 n ∧ i = .int .i64 k ∧ wr = w2.drewN m ∧ Lx.AtStart s.data.toList f n ∧ ∀ t ∈ ts.drop k, n ≤ t.line) (fun _ _ i _ _ => ts.length - (intOf i).toNat)
  case atStart =>
    refine ⟨0, 0, 1, 0, Nat.zero_le _, rfl, rfl, rfl, rfl, Lx.atStart_zero _, fun t ht => ?_⟩
    exact (Lx.stands_line (hst.out.1 t (List.mem_of_mem_drop ht))).2.1
  case round =>
    obtain ⟨k, f, n, m, hk, rfl, rfl, rfl, rfl, hat, hrest⟩ := hrel
    have HAT := Lib.hid hat
    have HREST := Lib.hid hrest
    clear hat hrest
    by_cases hlt : k < ts.length
    · obtain ⟨b, off, t, rfl, ht, a0, a1, a2, a3⟩ := reads4_cell hr' k hlt
      obtain ⟨u, hu, rfl⟩ := tok_at ts k t ht
      obtain ⟨b', off', t', rfl, ht', d0, d1, d2, d3⟩ := reads4_cell hr2 k hlt
      obtain ⟨u', hu', rfl⟩ := tok_at _ k t' ht'
      obtain rfl : u' = u.on := by
        rw [List.getElem?_map, hu] at hu'
        exact (Option.some.inj hu').symm
      have b0 : w2.cell? ⟨b, off + k * 4, none⟩ = some (.int .i64 (u.kind : Int)) := a0
      have b1 : w2.cell? ⟨b, off + k * 4 + 1, none⟩ = some (.string ⟨u.text.toArray⟩) := a1
      have b2 : w2.cell? ⟨b, off + k * 4 + 2, none⟩ = some (.int .i64 (u.line : Int)) := a2
      have b3 : w2.cell? ⟨b, off + k * 4 + 3, none⟩ = some (.int .i64 (u.col : Int)) := a3
      have e2 : w2.cell? ⟨b', off' + k * 4 + 2, none⟩ = some (.int .i64 ((u.line : Int) + 1)) := d2
      have e3 : w2.cell? ⟨b', off' + k * 4 + 3, none⟩ = some (.int .i64 (u.col : Int)) := d3
      have hmem : u ∈ ts := List.mem_of_getElem? hu
      have hstu := hst.out.1 u hmem
      obtain ⟨l1, l2, l3, l4⟩ := Lx.stands_line hstu
      rw [bytes_size] at l1 l4
      have HST := Lib.hid hstu
      have hnu : n ≤ u.line := HREST.out u (by
        rw [List.drop_eq_getElem_cons hlt]
        rw [List.getElem?_eq_getElem hlt] at hu
        rw [Option.some.inj hu]
        exact List.mem_cons_self ..)
      have HU := Lib.hid hu
      clear a0 a1 a2 a3 d0 d1 d2 d3 ht ht' hu hu' hstu hmem
      go_wp2_with fail
      go_loop [11, 12] (fun fr ln => ∃ f' n' : Nat, f' ≤ s.size ∧ fr = .int .i64 f' ∧ ln = .int .i64 n' ∧ n' ≤ u.line ∧ Lx.InLine s.data.toList f' n' ∧ (n' = u.line → Lx.AtStart s.data.toList f' n')) (fun fr _ => s.size - (intOf fr).toNat)
      case atStart => exact ⟨f, n, by have := HAT.out.2.1; rw [bytes_size] at this; exact this, rfl, rfl, hnu, HAT.out.inLine, fun _ => HAT.out⟩
      case round =>
        obtain ⟨f', n', hf', rfl, rfl, hn', hin, hend⟩ := hrel
        have HIN := Lib.hid hin
        have HEND := Lib.hid hend
        clear hin hend
        by_cases hln : n' < u.line
        · by_cases hfs : f' < s.size
          · by_cases hc : s[f'] = 10
            · have hcb : ((s[f'].toNat : Int) == 10) = true := by rw [hc]; rfl
              have HC := Lib.hid hc
              clear hc
              go_wp2_with fail
              go_round
              case rel =>
                have hi : s.data.toList[f']? = some 10 := by rw [bytes_get s f' hfs, HC.out]
                have := Lx.inLine_nl HIN.out hi
                exact ⟨f' + 1, n' + 1, by omega, by go_num, by go_num, by omega, this.inLine, fun _ => this⟩
              case measure => simp [intOf]; omega
            · have hcb : ((s[f'].toNat : Int) == 10) = false := (byte_beq s[f'] 10).trans (by simpa using hc)
              have HC := Lib.hid hc
              clear hc
              go_wp2_with fail
              go_round
              case rel =>
                have := Lx.inLine_other HIN.out (bytes_get s f' hfs) HC.out
                exact ⟨f' + 1, n', by omega, by go_num, rfl, hn', this, fun e => by omega⟩
              case measure => simp [intOf]; omega
          · exfalso
            have := Lx.inLine_end HIN.out (by rw [bytes_size]; omega) HST.out
            omega
        · obtain rfl : n' = u.line := by omega
          have hat := HEND.out rfl
          obtain ⟨g1, g2, g3⟩ := Lx.at_word hat HST.out
          have hwr : IntKind.i64.wrap ((u.line : Int) + 1) = (u.line : Int) + 1 := IntWalk.i64_in _ (by omega)
          have hneg : decide ((f' : Int) + (u.col : Int) - 1 < 0) = false := by simp; omega
          rw [bytes_size] at g2 g3
          go_wp2_with fail
          go_quiet (fail)
          have hnext : ∀ t ∈ ts.drop (k + 1), u.line ≤ t.line := by
            intro t ht
            have hd : ts.drop k = u :: ts.drop (k + 1) := by
              have hu := HU.out
              rw [List.drop_eq_getElem_cons hlt]
              rw [List.getElem?_eq_getElem hlt] at hu
              rw [Option.some.inj hu]
            have hp := List.Pairwise.sublist (List.drop_sublist k ts) hst.out.2
            rw [hd, List.pairwise_cons] at hp
            exact hp.1 t ht
          have HNEXT := Lib.hid hnext
          have HAT2 := Lib.hid hat
          clear hnext hat
          by_cases hk1 : u.kind = 1
          · have t1 : ((u.kind : Int) == 1) = true := by simp [hk1]
            clear hk1 g3
            go_wp2_with fail
            go_roundw
            case rel => exact ⟨k + 1, f', u.line, _, by omega, rfl, rfl, by go_num, rfl, HAT2.out, HNEXT.out⟩
            case measure => simp [intOf]; omega
          · have t1 : ((u.kind : Int) == 1) = false := by simp; omega
            obtain ⟨g4, g5⟩ := g3 hk1
            clear hk1 g3
            obtain ⟨p, hp⟩ : ∃ p : Nat, f' + u.col - 1 = p := ⟨_, rfl⟩
            rw [hp] at g4 g5
            have hpi : (f' : Int) + (u.col : Int) - 1 = (p : Int) := by omega
            have hw2 : IntKind.i64.wrap ((p : Int) + (u.text.length : Int)) = (p : Int) + (u.text.length : Int) := IntWalk.i64_in _ (by omega)
            have hgt : decide ((s.size : Int) < (p : Int) + (u.text.length : Int)) = false := by simp; omega
            have htn : ((p : Int) + (u.text.length : Int)).toNat = p + u.text.length := by omega
            have hx : s.extract p (p + u.text.length) = ⟨u.text.toArray⟩ := by
              apply ByteArray.ext
              apply Array.ext'
              simp only [ByteArray.data_extract, Array.toList_extract, List.extract]
              rw [Nat.add_sub_cancel_left]
              exact g5
            have hq1 : (p : Int) ≤ (p : Int) + (u.text.length : Int) := by omega
            have hq2 : (p : Int) + (u.text.length : Int) ≤ (s.size : Int) := by omega
            clear g5
            go_wp2_with fail
            go_quiet (fail)
            go_wp2_with fail
            go_roundw
            case rel => exact ⟨k + 1, f', u.line, _, by omega, rfl, rfl, by go_num, rfl, HAT2.out, HNEXT.out⟩
            case measure => simp [intOf]; omega
    · go_wp2_with (first
        | (go_at_call 12; refine (alive_any E _ ?hE).mono ?_; (case hE => exact (hE.two_of_four.below (below_drewN' hb12 m))); rintro e w3 ⟨rfl, hb3⟩))
      go_ret
      exact ⟨rfl, (below_drewN' hb12 m).trans (hb3.mono hb12.size)⟩
/-- LexisPlaces returns true. -/
theorem places_true (s : ByteArray) (E : Errs) (w : World) (hE : Laid E four w) :
    Calls Tryd.prog 6 #[.string s] w fun e w' => e = .returned (.bool true) ∧ Below w.heap.size w w' := by
  by_cases hs : s.size ≤ 60000
  · cases h : Lx.scan s.data.toList with
    | error b =>
      obtain ⟨c, line, col⟩ := b
      exact places_err s E w hE hs c line col (Lx.scan_code h) h
    | ok ts => exact places_ok s E w hE hs ts h
  · exact places_long s E w hE (by omega)
end Go.Proofs.YtinobikikineiaaDoor
