/- The walk of the law LexisBlanks: for every text it returns true. Condition: the two error variables lie as the program lays them. -/
import Derived.Test.YtinobikikineiaaDoorAlive
import Derived.Test.YtinobikikineiaaDoorSame
namespace Go.Proofs.YtinobikikineiaaDoor
open Go.RowKit Go.Shelf

namespace Lx
theorem spaced_snoc (ts : List Tok) (k : Nat) (t : Tok) (h : ts[k]? = some t) : spaced (ts.take (k + 1)) = spaced (ts.take k) ++ (if t.kind = 1 then [13, 35, 32, 40, 10, 32, 10] else [32, 9] ++ t.text ++ [13, 32]) := by
  rw [List.take_add_one, h, spaced_append]
  simp [spaced]
theorem spaced_le (ts : List Tok) (k : Nat) : (spaced (ts.take k)).length ≤ (spaced ts).length := by
  have : spaced ts = spaced (ts.take k) ++ spaced (ts.drop k) := by rw [← spaced_append, List.take_append_drop]
  rw [this, List.length_append]; omega
end Lx

theorem tok_at (ts : List Lx.Tok) (k : Nat) (t : TokV) (h : (ts.map Lx.Tok.v)[k]? = some t) : ∃ u, ts[k]? = some u ∧ t = u.v := by
  rw [List.getElem?_map] at h
  cases hu : ts[k]? with
  | none => rw [hu] at h; cases h
  | some u => rw [hu] at h; exact ⟨u, rfl, (Option.some.inj h).symm⟩

theorem like_v {a b : List Lx.Tok} (h : Lx.Like a b) : (a.map Lx.Tok.v).map (fun t => (t.kind, t.text)) = (b.map Lx.Tok.v).map (fun t => (t.kind, t.text)) := by
  have h1 := congrArg (List.map (fun p : Nat × List UInt8 => ((p.1 : Int), (⟨p.2.toArray⟩ : ByteArray)))) h
  rw [List.map_map, List.map_map] at h1 ⊢
  exact h1
theorem below_drewN' {B : Nat} {a w : World} (h : Below B a w) (n : Nat) : Below B a (w.drewN n) := ⟨h.os, h.tape, h.output, h.size, h.block⟩
set_option maxHeartbeats 1000000 in
theorem blanks_err (s : ByteArray) (E : Errs) (w : World) (hE : Laid E two w) (b : Lx.Bad) (h : Lx.scan s.data.toList = .error b) :
    Calls Tryd.prog 3 #[.string s] w fun e w' => e = .returned (.bool true) ∧ Below w.heap.size w w' := by
  obtain ⟨c, line, col⟩ := b
  have HH := Lib.hid h
  clear h
  go_enter Tryd.func3, Tryd.ntmps3
  go_wp2_with (first
    | (go_at_call 11; refine (scan_bad s E _ hE c line col HH.out).mono ?_; rintro e w1 ⟨b, rfl, hb1, _, _, _⟩)
    | (go_at_call 12; refine (alive_any E _ (hE.below hb1)).mono ?_; rintro e w2 ⟨rfl, hb2⟩))
  go_ret
  exact ⟨rfl, hb1.trans (hb2.mono hb1.size)⟩

set_option maxHeartbeats 1000000 in
theorem blanks_long (s : ByteArray) (E : Errs) (w : World) (hE : Laid E two w) (ts : List Lx.Tok) (h : Lx.scan s.data.toList = .ok ts) (hs : 4000 < s.size) :
    Calls Tryd.prog 3 #[.string s] w fun e w' => e = .returned (.bool true) ∧ Below w.heap.size w w' := by
  have HH := Lib.hid h
  clear h
  go_enter Tryd.func3, Tryd.ntmps3
  go_wp2_with (first
    | (go_at_call 11; refine (scan_good s E _ hE ts HH.out).mono ?_; rintro e w1 ⟨A, c, rfl, hb1, _⟩)
    | (go_at_call 12; refine (alive_any E _ (hE.below hb1)).mono ?_; rintro e w2 ⟨rfl, hb2⟩))
  go_ret
  exact ⟨rfl, hb1.trans (hb2.mono hb1.size)⟩

set_option maxRecDepth 100000 in
set_option maxHeartbeats 2000000 in
theorem blanks_ok (s : ByteArray) (E : Errs) (w : World) (hE : Laid E two w) (ts : List Lx.Tok) (h : Lx.scan s.data.toList = .ok ts) (hs : s.size ≤ 4000) :
    Calls Tryd.prog 3 #[.string s] w fun e w' => e = .returned (.bool true) ∧ Below w.heap.size w w' := by
  have hwf := Lx.scan_wf _ _ h
  rw [bytes_size] at hwf
  obtain ⟨ms, hms, hlike⟩ := Lx.blanks_law _ _ h (by rw [bytes_size]; exact hs)
  have hlen : ms.length = ts.length := by
    have := congrArg List.length hlike
    simpa using this.symm
  have htl := hwf.2.2
  have hsp := hwf.2.1
  have HH := Lib.hid h
  have HM := Lib.hid hms
  have HK := Lib.hid hlike
  have HLen := Lib.hid hlen
  clear h hms hlike hwf hlen
  go_enter Tryd.func3, Tryd.ntmps3
  go_wp2_with (first
    | (go_at_call 11; refine (scan_good s E _ hE ts HH.out).mono ?_; rintro e w1 ⟨A, c, rfl, hb1, hr⟩))
  go_loop [5, 6] (fun u i => ∃ (k : Nat) (x : ByteArray), k ≤ ts.length ∧ i = .int .i64 k ∧ u = .string x ∧ x.data.toList = [9, 10, 32, 35, 32, 255, 32, 39, 10] ++ Lx.spaced (ts.take k)) (fun _ i => ts.length - (intOf i).toNat)
  case atStart => exact ⟨0, _, Nat.zero_le _, rfl, rfl, rfl⟩
  case round =>
    obtain ⟨k, x, hk, rfl, rfl, hx⟩ := hrel
    have hxl : x.size ≤ 48009 := by
      have h1 := Lx.spaced_le ts k
      rw [← bytes_size, hx, List.length_append]
      simp only [List.length_cons, List.length_nil]
      omega
    have HX := Lib.hid hx
    clear hx
    by_cases hlt : k < ts.length
    · obtain ⟨b, off, t, rfl, ht, a0, a1, a2, a3⟩ := reads4_cell hr k hlt
      obtain ⟨u, hu, rfl⟩ := tok_at ts k t ht
      have b0 : w1.cell? ⟨b, off + k * 4, none⟩ = some (.int .i64 (u.kind : Int)) := a0
      have b1 : w1.cell? ⟨b, off + k * 4 + 1, none⟩ = some (.string ⟨u.text.toArray⟩) := a1
      have HS := Lib.hid (Lx.spaced_snoc ts k u hu)
      clear a0 a1 a2 a3 ht hu
      by_cases hk1 : u.kind = 1
      · have HK1 := Lib.hid hk1
        have t1 : ((u.kind : Int) == 1) = true := by simp [hk1]
        clear hk1
        go_wp2
        go_round
        case rel => exact ⟨k + 1, _, by omega, by go_num, rfl, by rw [HS.out, if_pos HK1.out]; simp [HX.out]⟩
        case measure => simp [intOf]; omega
      · have HK1 := Lib.hid hk1
        have t1 : ((u.kind : Int) == 1) = false := by simp; omega
        have hul : u.text.length ≤ 48000 := by
          have h1 := Lx.spaced_le ts (k + 1)
          rw [HS.out, if_neg hk1] at h1
          simp only [List.length_append, List.length_cons, List.length_nil] at h1
          omega
        clear hk1
        go_wp2
        go_round
        case rel => exact ⟨k + 1, _, by omega, by go_num, rfl, by rw [HS.out, if_neg HK1.out]; simp [HX.out]⟩
        case measure => simp [intOf]; omega
    · have HM2 : Hid (Lx.scan x.data.toList = .ok ms) := by
        have e : x.data.toList = Lx.spacedAll ts := by rw [HX.out, List.take_of_length_le (by omega)]; rfl
        show _ = _
        rw [e]; exact HM.out
      have HL2 : Hid ((ts.map Lx.Tok.v).map (fun t => (t.kind, t.text)) = (ms.map Lx.Tok.v).map (fun t => (t.kind, t.text))) := like_v HK.out
      go_wp2_with (first
        | (go_at_call 11; refine (scan_good x E _ (hE.below hb1) ms HM2.out).mono ?_; rintro e w2 ⟨A2, c2, rfl, hb2, hr2⟩; rw [HLen.out] at hr2 ⊢)
        | (go_at_call 12; refine (alive_any E _ ((hE.below hb1).below hb2)).mono ?_; rintro e w3 ⟨rfl, hb3⟩)
        | (go_at_call 13; refine (like_true _ _ _ _ _ _ _ _ ((hr.below hb2).below hb3) (hr2.below hb3) ?_ HL2.out).mono ?_; (unfold maxLen; omega); rintro e w4 ⟨rfl, m, rfl⟩))
      go_ret
      exact ⟨rfl, below_drewN' ((hb1.trans (hb2.mono hb1.size)).trans (hb3.mono (Nat.le_trans hb1.size hb2.size))) m⟩
/-- LexisBlanks returns true. -/
theorem blanks_true (s : ByteArray) (E : Errs) (w : World) (hE : Laid E two w) :
    Calls Tryd.prog 3 #[.string s] w fun e w' => e = .returned (.bool true) ∧ Below w.heap.size w w' := by
  cases h : Lx.scan s.data.toList with
  | error b => exact blanks_err s E w hE b h
  | ok ts =>
    by_cases hs : s.size ≤ 4000
    · exact blanks_ok s E w hE ts h hs
    · exact blanks_long s E w hE ts h (by omega)
end Go.Proofs.YtinobikikineiaaDoor
