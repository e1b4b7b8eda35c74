/- The walk of the law ScriptPrints: for every list it returns true. Conditions: the error variables and the table of strconv lie as the program lays them; the texts' sizes. -/
import Derived.Test.YtinobikikineiabGreatDoorSRefPrint
import Derived.Test.YtinobikikineiabGreatDoorSLent
import Derived.Test.YtinobikikineiabGreatDoorSCode
namespace Go.Proofs.YtinobikikineiabGreatDoor
open Go.RowKit Go.Shelf

/-- A list of commands whose numbers were lent, by its rows. -/
structure LentC (W : World) (base : Nat) (v : Value) (cs : List Sc.Cmd) (us : List Value) : Prop where
  len : us.length = cs.length
  own : W.ownsRow base 52 3 v cs.length (flatC cs us)
  rows : ∀ (j : Nat) (c : Sc.Cmd), cs[j]? = some c → ∃ u : Value, us[j]? = some u ∧ LentI W base u c.nums
theorem LentI.low {W : World} {base base' : Nat} {u : Value} {l : List Int} (h : LentI W base u l) (hb : base' ≤ base) : LentI W base' u l := by
  obtain ⟨g, cap, cur, h1, h2, h3, h4⟩ := h
  exact ⟨g, cap, cur, h1, h2, by omega, h4⟩
theorem LentI.below {W W' : World} {base : Nat} {u : Value} {l : List Int} (h : LentI W base u l) (hb : Below W.heap.size W W') : LentI W' base u l := h.keep fun b _ _ hh => (hb.block b (lt_of_cells hh)).trans hh
theorem LentI.one {W : World} {base : Nat} {u : Value} {l : List Int} (h : LentI W base u l) : u.oneCell' = true := h.row.one
theorem LentC.keep {W W' : World} {base : Nat} {v : Value} {cs : List Sc.Cmd} {us : List Value} (h : LentC W base v cs us) (hk : ∀ (b : Nat) (cs : Array Value) (t : TypeId), base ≤ b → W.heap[b]? = some (.cells cs t (0, 0)) → W'.heap[b]? = some (.cells cs t (0, 0))) : LentC W' base v cs us :=
  ⟨h.len, own_keep h.own fun k cs t hb hc => hk k cs t hb hc, fun j r hj => by
    obtain ⟨u, h3, h4⟩ := h.rows j r hj
    exact ⟨u, h3, h4.keep fun b cs hb hc => hk b cs _ hb hc⟩⟩
theorem LentC.below {W W' : World} {base : Nat} {v : Value} {cs : List Sc.Cmd} {us : List Value} (h : LentC W base v cs us) (hb : Below W.heap.size W W') : LentC W' base v cs us :=
  h.keep fun b _ _ _ hh => (hb.block b (lt_of_cells hh)).trans hh
theorem LentC.owns {W : World} {base : Nat} {v : Value} {cs : List Sc.Cmd} {us : List Value} (h : LentC W base v cs us) : OwnC W base v cs :=
  ⟨us, h.len, h.own, fun j c hj => by obtain ⟨u, h1, h2⟩ := h.rows j c hj; exact ⟨u, h1, h2.row⟩⟩
theorem LentC.snoc {W W2 : World} {base : Nat} {v v2 u : Value} {cs : List Sc.Cmd} {c : Sc.Cmd} {us : List Value} (h : LentC W base v cs us) (hr : LentI W base u c.nums)
    (hown : W2.ownsRow base 52 3 v2 (cs.length + 1) (flatC cs us ++ cmdCells c u)) (hg : W.grownBy W2 v.ownBlock) : LentC W2 base v2 (cs ++ [c]) (us ++ [u]) := by
  have hk := ints_kept h.own hg
  refine ⟨by rw [List.length_append, List.length_append, h.len]; rfl, by rw [List.length_append, flatC_snoc _ _ _ _ h.len]; exact hown, fun j d hj => ?_⟩
  rw [List.getElem?_append] at hj
  split at hj
  · obtain ⟨x, hx1, hx2⟩ := h.rows j d hj
    exact ⟨x, by rw [List.getElem?_append_left (by rw [h.len]; assumption)]; exact hx1, hx2.keep fun b cs _ hh => hk b cs hh⟩
  · rename_i hlt
    have hjj : j - cs.length = 0 := by have := (List.getElem?_eq_some_iff.1 hj).1; simp at this; omega
    rw [hjj] at hj
    have hd : c = d := Option.some.inj hj
    subst hd
    exact ⟨u, by rw [List.getElem?_append_right (by rw [h.len]; omega), h.len, hjj]; rfl, hr.keep fun b cs _ hh => hk b cs hh⟩
/-- The cells of one of its commands. -/
theorem LentC.cell {W : World} {base n cap : Nat} {A : Option Addr} {cs : List Sc.Cmd} {us : List Value} (h : LentC W base (.slice A n cap) cs us) (j : Nat) (hj : j < n) :
    ∃ g d B m, A = some ⟨g, 0, none⟩ ∧ cs[j]? = some d ∧ W.cell? ⟨g, j * 3 + 2, none⟩ = some (.slice B d.nums.length m) ∧ LentI W base (.slice B d.nums.length m) d.nums := by
  obtain ⟨hl, ⟨hv, hn⟩ | ⟨g, cap', cur, hv, hg, hh, hc, _, hsz, ht⟩⟩ := h.own
  · injection hv with _ h2 _; omega
  · injection hv with h1 h2 h3
    subst h1; subst h2
    have hd : cs[j]? = some cs[j] := List.getElem?_eq_getElem hj
    obtain ⟨u, hu, hr⟩ := h.rows j _ hd
    have hr' := hr
    obtain ⟨g', k, cur', rfl, _⟩ := hr
    refine ⟨g, cs[j], _, k, rfl, hd, ?_, hr'⟩
    have hi := flatC_at cs us h.len j _ _ hd hu 2 (by omega)
    rw [cell_of_row W g (j * 3 + 2) cur _ _ hh, ← Array.getElem?_toList, ← List.getElem?_take_of_lt (j := cs.length * 3) (by omega), ht, hi]
    rfl

theorem block_set2 {W : World} {k : Nat} {a b c : Value} {t : TypeId} (h : W.heap[k]? = some (.cells #[a, b, c] t (0, 0))) (u : Value) : (W.setCell ⟨k, 2, none⟩ u).heap[k]? = some (.cells #[a, b, u] t (0, 0)) := by
  simp [World.setCell, Array.getElem?_modify, h]
theorem below_set {N D i : Nat} {w W : World} (h : Below N w W) (_ : N ≤ W.heap.size) (hD : N ≤ D) (u : Value) : Below N w (W.setCell ⟨D, i, none⟩ u) :=
  ⟨h.os, h.tape, h.output, by simpa [World.setCell] using h.size, fun k hk => by rw [← h.block k hk]; exact Below.heap_setCell W ⟨D, i, none⟩ u k (show k ≠ D by omega)⟩

set_option maxHeartbeats 1000000 in
theorem prints_many (A : Option Addr) (n c : Nat) (E : Errs) (w : World) (hE : Laid E three w) (h : 1200 < n) (hn : n ≤ maxLen) :
    Calls Tryz.prog 4 #[.slice A n c] w fun e w' => e = .returned (.bool true) ∧ Below w.heap.size w w' := by
  unfold maxLen at hn
  go_enter Tryz.func4, Tryz.ntmps4
  go_wp2_with (first
    | (go_at_call 5; refine (alive3 E _ hE).mono ?_; rintro e w2 ⟨rfl, hb2⟩))
  go_ret
  exact ⟨rfl, hb2⟩

/-- Lists whose numbers can be lent. -/
def FitN (cs : List Sc.Cmd) : Prop := ∀ c ∈ cs, c.nums.length * 8 ≤ 140737488351232
/-- The loop that copies (kept shut). -/
def CopyAt (w : World) (cs : List Sc.Cmd) (m i : Value) (wr : World) : Prop :=
  ∃ (j : Nat) (us : List Value) (A : Option Addr) (cap : Nat), j ≤ cs.length ∧ i = .int .i64 j ∧ m = .slice A j cap ∧ LentC wr w.heap.size (.slice A j cap) (cs.take j) us ∧ Below w.heap.size w wr

theorem refPrint_ok (A : Option Addr) (n c : Nat) (cs : List Sc.Cmd) (w : World) (hr : ReadsC w (.slice A n c) cs) (hf : Fit cs) (hfw : FitW cs) (hn : n ≤ maxLen) (t : List UInt8) (h : Sc.print cs = .ok t) :
    Calls Tryz.prog 14 #[.slice A n c] w fun e w' => e = .returned (.tuple #[.string ⟨t.toArray⟩, .int .i64 0]) ∧ Below w.heap.size w w' :=
  (refPrint_any A n c cs w hr hf hfw hn).mono fun e w' ⟨hb, hv⟩ => by
    rcases hv with ⟨t', h1, h2⟩ | ⟨k, h1, _⟩
    · rw [h] at h1; injection h1 with h1; subst h1; exact ⟨h2, hb⟩
    · rw [h] at h1; cases h1
theorem refPrint_err (A : Option Addr) (n c : Nat) (cs : List Sc.Cmd) (w : World) (hr : ReadsC w (.slice A n c) cs) (hf : Fit cs) (hfw : FitW cs) (hn : n ≤ maxLen) (k : Nat) (h : Sc.print cs = .error k) :
    Calls Tryz.prog 14 #[.slice A n c] w fun e w' => e = .returned (.tuple #[.string ⟨#[]⟩, .int .i64 k]) ∧ Below w.heap.size w w' :=
  (refPrint_any A n c cs w hr hf hfw hn).mono fun e w' ⟨hb, hv⟩ => by
    rcases hv with ⟨t', h1, h2⟩ | ⟨k', h1, _, h2⟩
    · rw [h] at h1; cases h1
    · rw [h] at h1; injection h1 with h1; subst h1; exact ⟨h2, hb⟩
theorem printGood (A : Option Addr) (n c : Nat) (cs : List Sc.Cmd) (E : Errs) (w : World) (hE : Laid E three w) (htab : Tab w) (hr : ReadsC w (.slice A n c) cs) (hf : Fit cs) (hn : n ≤ maxLen) (t : List UInt8) (h : Sc.print cs = .ok t) :
    Calls Tryz.prog 13 #[.slice A n c] w fun e w' => e = .returned (.tuple #[.string ⟨t.toArray⟩, .nilIface]) ∧ Below w.heap.size w w' :=
  (print_any A n c cs E w hE htab hr hf hn).mono fun e w' ⟨hb, hv⟩ => by
    rcases hv with ⟨t', h1, h2⟩ | ⟨k, v, h1, _⟩
    · rw [h] at h1; injection h1 with h1; subst h1; exact ⟨h2, hb⟩
    · rw [h] at h1; cases h1
theorem printBad (A : Option Addr) (n c : Nat) (cs : List Sc.Cmd) (E : Errs) (w : World) (hE : Laid E three w) (htab : Tab w) (hr : ReadsC w (.slice A n c) cs) (hf : Fit cs) (hn : n ≤ maxLen) (k : Nat) (h : Sc.print cs = .error k) :
    Calls Tryz.prog 13 #[.slice A n c] w fun e w' => ∃ b, e = .returned (.tuple #[.string ⟨#[]⟩, .iface 72 (.pointer (some ⟨b, 0, none⟩))]) ∧ Below w.heap.size w w' ∧
      w'.heap[b]? = some (.cells #[.string scriptB, .int .i64 0, .int .i64 0, E.val k] 75 (0, 0)) ∧ (k = 2 ∨ k = 19) :=
  (print_any A n c cs E w hE htab hr hf hn).mono fun e w' ⟨hb, hv⟩ => by
    rcases hv with ⟨t', h1, h2⟩ | ⟨k', v, h1, hk, h2, b, _, h3, h4⟩
    · rw [h] at h1; cases h1
    · rw [h] at h1; injection h1 with h1; subst h1; exact ⟨b, by rw [h2, h3], hb, h4, hk⟩

set_option maxRecDepth 100000 in
set_option maxHeartbeats 8000000 in
theorem prints_ok (A : Option Addr) (n c : Nat) (cs : List Sc.Cmd) (E : Errs) (w : World) (hE : Laid E nineteen w) (htab : Tab w) (hr : ReadsC w (.slice A n c) cs) (hf : Fit cs) (hfw : FitW cs) (hfn : FitN cs) (hn : n ≤ 1200) (t : List UInt8) (hp : Sc.print cs = .ok t) :
    Calls Tryz.prog 4 #[.slice A n c] w fun e w' => e = .returned (.bool true) ∧ Below w.heap.size w w' := by
  obtain ⟨i0, hi, hz0, hz1, hz2'⟩ := info_parts infoCmd
  have hnm : n ≤ maxLen := by unfold maxLen; omega
  have HF := Lib.hid hf
  have HFW := Lib.hid hfw
  have HFN := Lib.hid hfn
  have HP := Lib.hid hp
  have HL := Lib.hid hr.len
  have hl' : cs.length = n := hr.len
  clear hf hfw hfn hp
  go_enter Tryz.func4, Tryz.ntmps4
  go_wp2_with fail
  go_loopw [3, 4] (fun m i wr => CopyAt w cs m i wr) (fun _ i _ => n - (intOf i).toNat)
  case atStart => exact ⟨0, [], none, 0, Nat.zero_le _, rfl, rfl, ⟨rfl, World.ownsRow_nil _ _ _ _, fun j c h => by simp at h⟩, Below.refl _ _⟩
  case round =>
    obtain ⟨j, us, B0, cap0, hj, rfl, rfl, hlent, hbw⟩ := hrel
    rw [hl'] at hj
    by_cases hlt : j < n
    · obtain ⟨b, off, d, B1, m1, rfl, hd, a0, a1, a2, hR⟩ := hr.cell j hlt
      have hbl := cell_lt a0
      have x0 := (hbw.cell (p := ⟨b, off + j * 3, none⟩) hbl).trans a0
      have x1 := (hbw.cell (p := ⟨b, off + j * 3 + 1, none⟩) hbl).trans a1
      have x2 := (hbw.cell (p := ⟨b, off + j * 3 + 2, none⟩) hbl).trans a2
      have hRw : Hid (ReadsI wr (.slice B1 d.nums.length m1) d.nums) := hR.below hbw
      have hdn := Lib.hid (HFN.out d (List.mem_of_getElem? hd))
      have hjl : Hid ((cs.take j).length = j) := by show _ = _; rw [List.length_take]; omega
      have HT : Hid (cs.take (j + 1) = cs.take j ++ [d]) := by show _ = _; rw [List.take_add_one, hd]; rfl
      have y2 : (wr.alloc (.cells #[.string ⟨d.word.toArray⟩, .string ⟨d.text.toArray⟩, .slice B1 d.nums.length m1] 52)).cell? ⟨b, off + j * 3 + 2, none⟩ = some (.slice B1 d.nums.length m1) := (((Below.refl wr.heap.size wr).alloc (Nat.le_refl _) _).cell (p := ⟨b, off + j * 3 + 2, none⟩) (cell_lt x0)).trans x2
      have HLent := Lib.hid hlent
      clear a0 a1 a2 hd hR hlent
      go_wp2_with (first
        | (go_at_call 12; refine (lent_any B1 _ m1 d.nums _ (hRw.out.alloc _) hdn.out).mono ?_; rintro e w3 ⟨A3, cap3, rfl, hb3, hlent3⟩;
            have hN3 := (hb3.block _ (by simp)).trans (heap_alloc_new wr (.cells #[.string ⟨d.word.toArray⟩, .string ⟨d.text.toArray⟩, .slice B1 d.nums.length m1] 52));
            have hS := block_set2 hN3 (.slice A3 d.nums.length cap3);
            have f3 := block_frozen hN3 2; have c3 : w3.cell? ⟨wr.heap.size, 2, none⟩ = some (.slice B1 d.nums.length m1) := (by rw [cell_of_row w3 _ 2 _ _ _ hN3]; rfl);
            have s0 : (w3.setCell ⟨wr.heap.size, 2, none⟩ (.slice A3 d.nums.length cap3)).cell? ⟨wr.heap.size, 0, none⟩ = some (.string ⟨d.word.toArray⟩) := (by rw [cell_of_row _ _ 0 _ _ _ hS]; rfl); have s1 : (w3.setCell ⟨wr.heap.size, 2, none⟩ (.slice A3 d.nums.length cap3)).cell? ⟨wr.heap.size, 1, none⟩ = some (.string ⟨d.text.toArray⟩) := (by rw [cell_of_row _ _ 1 _ _ _ hS]; rfl); have s2 : (w3.setCell ⟨wr.heap.size, 2, none⟩ (.slice A3 d.nums.length cap3)).cell? ⟨wr.heap.size, 2, none⟩ = some (.slice A3 d.nums.length cap3) := (by rw [cell_of_row _ _ 2 _ _ _ hS]; rfl);
            have hsz3 : (w3.setCell ⟨wr.heap.size, 2, none⟩ (.slice A3 d.nums.length cap3)).heap.size = w3.heap.size := (by simp [World.setCell]);
            have hz3 : wr.heap.size ≤ w3.heap.size := (by have := hb3.size; simp at this; omega);
            have hb34 : Below (wr.heap.size) wr (w3.setCell ⟨wr.heap.size, 2, none⟩ (.slice A3 d.nums.length cap3)) := below_set (((Below.refl _ wr).alloc (Nat.le_refl _) _).trans (hb3.mono (by simp))) hz3 (Nat.le_refl _) _;
            have hL4 : LentI (w3.setCell ⟨wr.heap.size, 2, none⟩ (.slice A3 d.nums.length cap3)) w.heap.size (.slice A3 d.nums.length cap3) d.nums := (hlent3.keep fun b cs hb hh => (Below.heap_setCell w3 ⟨wr.heap.size, 2, none⟩ _ b (show b ≠ wr.heap.size by simp at hb; omega)).trans hh).low (by have := hbw.size; simp; omega);
            have hnew := new_cells (w3.setCell ⟨wr.heap.size, 2, none⟩ (.slice A3 d.nums.length cap3)) (cmdCells d (.slice A3 d.nums.length cap3)) 52;
            rw [hsz3] at hnew;
            have HNew := Lib.hid hnew;
            have hb4 : Below w.heap.size w (w3.setCell ⟨wr.heap.size, 2, none⟩ (.slice A3 d.nums.length cap3)) := hbw.trans (hb34.mono hbw.size);
            have hlc := (HLent.out.below hb34).below ((Below.refl _ (w3.setCell ⟨wr.heap.size, 2, none⟩ (.slice A3 d.nums.length cap3))).alloc (Nat.le_refl _) (.cells (cmdCells d (.slice A3 d.nums.length cap3)).toArray 52));
            have hown3 := hlc.own; rw [hjl.out] at hown3;
            have hbase : w.heap.size ≤ w3.heap.size := Nat.le_trans hbw.size hz3;
            have HSz := Lib.hid hsz3;
            clear hN3 hlent3 hb3 hS hnew hsz3)
        | (at_builtin; refine wpList_append_own _ rfl _ _ 38 rfl w.heap.size 52 i0 _ 3 56 Tryz.underlying38 hi hz0 hz1 hz2' rfl (by decide) _ _ _ rfl hown3 ⟨w3.heap.size, 0, none⟩ 1 1 (cmdCells d (.slice A3 d.nums.length cap3)) rfl rfl HNew.out (fun u hu => by simp only [cmdCells, List.mem_cons, List.not_mem_nil, or_false] at hu; rcases hu with rfl | rfl | rfl <;> rfl) (by unfold maxLen; omega) (by omega) (by rw [World.size_alloc, HSz.out]; omega) ?_; intro v5 w5 hown5 hg5 _;
            have hb5 := below_append (hb4.alloc (by rw [HSz.out]; exact hbase) _) hown3 (Nat.le_refl _) (by rw [World.size_alloc, HSz.out]; omega) hg5;
            have hlc5 := hlc.snoc (hL4.below ((Below.refl _ _).alloc (Nat.le_refl _) _)) (by rw [hjl.out]; exact hown5) hg5; obtain ⟨A5, cap5, rfl⟩ := own_slice hown5; clear hown5 hg5 hown3))
      go_roundw
      case rel => exact ⟨j + 1, _, A5, cap5, by have := HL.out; omega, by go_num, rfl, by rw [HT.out]; exact hlc5, hb5⟩
      case measure => simp [intOf]; omega
    · obtain rfl : j = n := by omega
      have hjt : cs.take j = cs := List.take_of_length_le (by omega)
      rw [hjt] at hlent
      have HLent := Lib.hid hlent
      have hrm := Lib.hid hlent.owns.reads
      have hrl := Lib.hid (hr.below hbw)
      obtain ⟨w1, hw1⟩ : ∃ w1, w1 = wr := ⟨_, rfl⟩
      subst hw1
      clear hjt hlent hlt
      have tokP : True := trivial
      go_wp2_with (first
        | (go_at_call 13; refine (printGood _ _ _ cs E _ ?hE ?ht ?hr ?hf ?hn t ?h).mono ?_; (case h => with_reducible exact HP.out); (case hr => with_reducible exact hrm.out); (case hE => exact (hE.below hbw).three_of); (case ht => exact htab.below hbw); (case hf => exact HF.out); (case hn => exact hnm); rintro e w2 ⟨rfl, hb2⟩)
        | (go_at_call 14; refine (refPrint_ok _ _ _ cs _ ?hr ?hf ?hfw ?hn t ?h).mono ?_; (case h => with_reducible exact HP.out); (case hr => exact hrl.out.below hb2); (case hf => exact HF.out); (case hfw => exact HFW.out); (case hn => exact hnm); rintro e w3 ⟨rfl, hb3⟩))
      have hz13 : w1.heap.size ≤ w3.heap.size := Nat.le_trans hb2.size hb3.size
      have hbW : Below w1.heap.size w1 (w3.alloc (.cells #[.int .i64 0, .int .i64 0, .int .i64 0, .string ⟨#[]⟩] 44)) := (hb2.trans (hb3.mono hb2.size)).alloc hz13 _
      have hEE : (w3.alloc (.cells #[.int .i64 0, .int .i64 0, .int .i64 0, .string ⟨#[]⟩] 44)).heap[w3.heap.size]? = some (.cells #[.int .i64 0, .int .i64 0, .int .i64 0, .string ⟨#[]⟩] 44 (0, 0)) := heap_alloc_new w3 _
      have HEE := Lib.hid hEE
      have hlW := Lib.hid (HLent.out.below hbW)
      have hrW := Lib.hid (hrl.out.below hbW)
      clear hEE
      go_loopw [11] (fun i wr => ∃ k m : Nat, k ≤ j ∧ i = .int .i64 k ∧ wr = (w3.alloc (.cells #[.int .i64 0, .int .i64 0, .int .i64 0, .string ⟨#[]⟩] 44)).drewN m) (fun i _ => j - (intOf i).toNat)
      case atStart => exact ⟨0, 0, Nat.zero_le _, rfl, rfl⟩
      case round =>
        obtain ⟨k, m, hk, rfl, hwr⟩ := hrel
        by_cases hlt : k < j
        · obtain ⟨g, d, B, mm, rfl, hd, z0, hz⟩ := hlW.out.cell k hlt
          obtain ⟨b, off, d', B1, m1, rfl, hd', a0, a1, a2, hR⟩ := hrW.out.cell k hlt
          obtain rfl : d = d' := by rw [hd] at hd'; exact Option.some.inj hd'
          have y2 : wr.cell? ⟨g, k * 3 + 2, none⟩ = some (.slice B d.nums.length mm) := by rw [hwr]; exact z0
          have x2 : wr.cell? ⟨b, off + k * 3 + 2, none⟩ = some (.slice B1 d.nums.length m1) := by rw [hwr]; exact a2
          have X := Lib.hid (show LentI wr w.heap.size (.slice B d.nums.length mm) d.nums by rw [hwr]; exact hz)
          have Y := Lib.hid (show ReadsI wr (.slice B1 d.nums.length m1) d.nums by rw [hwr]; exact hR)
          have hdl := Lib.hid (show d.nums.length ≤ 140737488355328 by have := HFN.out d (List.mem_of_getElem? hd); omega)
          have HW := Lib.hid hwr
          clear hd hd' z0 hz a0 a1 a2 hR hwr
          go_wp2_with fail
          go_quiet ((go_at_call 16; exact Calls.quiet_of (stays_any _ _ _ _ _ _ _ _ X.out Y.out hdl.out)))
          go_wp2_with fail
          go_roundw
          case rel => exact ⟨k + 1, _, by omega, by go_num, by rw [HW.out, World.drewN_drewN]⟩
          case measure => simp [intOf]; omega
        · have hbwr : Below w1.heap.size w1 wr := by rw [hwr]; exact below_drewN' hbW m
          have hEw : Hid (wr.heap[w3.heap.size]? = some (.cells #[.int .i64 0, .int .i64 0, .int .i64 0, .string ⟨#[]⟩] 44 (0, 0))) := by show _ = _; rw [hwr]; exact HEE.out
          have hbww : Below w.heap.size w wr := hbw.trans (hbwr.mono hbw.size)
          have hmr := Lib.hid (HLent.out.below hbwr).owns.reads
          have hlr := Lib.hid (hrl.out.below hbwr)
          have tokF : True := trivial
          clear hwr
          go_wp2_with (first
            | (go_at_call 5; refine (alive_any E _ (hE.below hbww)).mono ?_; rintro e w5 ⟨rfl, hb5⟩;
                have hEw5 := (hb5.block _ (lt_of hEw.out)).trans hEw.out;
                have e0 : w5.cell? ⟨w3.heap.size, 0, none⟩ = some (.int .i64 0) := (by rw [cell_of_row w5 _ 0 _ _ _ hEw5]; rfl);
                have e1 : w5.cell? ⟨w3.heap.size, 1, none⟩ = some (.int .i64 0) := (by rw [cell_of_row w5 _ 1 _ _ _ hEw5]; rfl);
                have e2 : w5.cell? ⟨w3.heap.size, 2, none⟩ = some (.int .i64 0) := (by rw [cell_of_row w5 _ 2 _ _ _ hEw5]; rfl);
                have e3 : w5.cell? ⟨w3.heap.size, 3, none⟩ = some (.string ⟨#[]⟩) := (by rw [cell_of_row w5 _ 3 _ _ _ hEw5]; rfl);
                have hbw5 : Below w.heap.size w w5 := hbww.trans (hb5.mono hbww.size); clear hEw5)
            | (go_at_call 8; refine (told_nil _ _ _ _).mono ?_; rintro e w6 ⟨rfl, hb6⟩)
            | (go_at_call 9; refine (sameCmds_true _ _ _ _ _ cs _ ((hlr.out.below hb5).below hb6) ((hmr.out.below hb5).below hb6) hnm (fun x hx => (HF.out x hx).2)).mono ?_; rintro e w7 ⟨rfl, m7, rfl⟩))
          go_ret
          exact ⟨rfl, below_drewN' (hbw5.trans (hb6.mono hbw5.size)) m7⟩

set_option maxRecDepth 100000 in
set_option maxHeartbeats 8000000 in
theorem prints_no (A : Option Addr) (n c : Nat) (cs : List Sc.Cmd) (E : Errs) (w : World) (hE : Laid E nineteen w) (htab : Tab w) (hr : ReadsC w (.slice A n c) cs) (hf : Fit cs) (hfw : FitW cs) (hfn : FitN cs) (hn : n ≤ 1200) (q : Nat) (hp : Sc.print cs = .error q) (hq : q = 2 ∨ q = 19) :
    Calls Tryz.prog 4 #[.slice A n c] w fun e w' => e = .returned (.bool true) ∧ Below w.heap.size w w' := by
  obtain ⟨i0, hi, hz0, hz1, hz2'⟩ := info_parts infoCmd
  have hnm : n ≤ maxLen := by unfold maxLen; omega
  have HF := Lib.hid hf
  have HFW := Lib.hid hfw
  have HFN := Lib.hid hfn
  have HP := Lib.hid hp
  have HL := Lib.hid hr.len
  have hl' : cs.length = n := hr.len
  have HQ := Lib.hid hq
  have hq0 : ((q : Int) != 0) = true := by rw [bne_iff_ne]; omega
  clear hf hfw hfn hp hq
  go_enter Tryz.func4, Tryz.ntmps4
  go_wp2_with fail
  go_loopw [3, 4] (fun m i wr => CopyAt w cs m i wr) (fun _ i _ => n - (intOf i).toNat)
  case atStart => exact ⟨0, [], none, 0, Nat.zero_le _, rfl, rfl, ⟨rfl, World.ownsRow_nil _ _ _ _, fun j c h => by simp at h⟩, Below.refl _ _⟩
  case round =>
    obtain ⟨j, us, B0, cap0, hj, rfl, rfl, hlent, hbw⟩ := hrel
    rw [hl'] at hj
    by_cases hlt : j < n
    · obtain ⟨b, off, d, B1, m1, rfl, hd, a0, a1, a2, hR⟩ := hr.cell j hlt
      have hbl := cell_lt a0
      have x0 := (hbw.cell (p := ⟨b, off + j * 3, none⟩) hbl).trans a0
      have x1 := (hbw.cell (p := ⟨b, off + j * 3 + 1, none⟩) hbl).trans a1
      have x2 := (hbw.cell (p := ⟨b, off + j * 3 + 2, none⟩) hbl).trans a2
      have hRw : Hid (ReadsI wr (.slice B1 d.nums.length m1) d.nums) := hR.below hbw
      have hdn := Lib.hid (HFN.out d (List.mem_of_getElem? hd))
      have hjl : Hid ((cs.take j).length = j) := by show _ = _; rw [List.length_take]; omega
      have HT : Hid (cs.take (j + 1) = cs.take j ++ [d]) := by show _ = _; rw [List.take_add_one, hd]; rfl
      have y2 : (wr.alloc (.cells #[.string ⟨d.word.toArray⟩, .string ⟨d.text.toArray⟩, .slice B1 d.nums.length m1] 52)).cell? ⟨b, off + j * 3 + 2, none⟩ = some (.slice B1 d.nums.length m1) := (((Below.refl wr.heap.size wr).alloc (Nat.le_refl _) _).cell (p := ⟨b, off + j * 3 + 2, none⟩) (cell_lt x0)).trans x2
      have HLent := Lib.hid hlent
      clear a0 a1 a2 hd hR hlent
      go_wp2_with (first
        | (go_at_call 12; refine (lent_any B1 _ m1 d.nums _ (hRw.out.alloc _) hdn.out).mono ?_; rintro e w3 ⟨A3, cap3, rfl, hb3, hlent3⟩;
            have hN3 := (hb3.block _ (by simp)).trans (heap_alloc_new wr (.cells #[.string ⟨d.word.toArray⟩, .string ⟨d.text.toArray⟩, .slice B1 d.nums.length m1] 52));
            have hS := block_set2 hN3 (.slice A3 d.nums.length cap3);
            have f3 := block_frozen hN3 2; have c3 : w3.cell? ⟨wr.heap.size, 2, none⟩ = some (.slice B1 d.nums.length m1) := (by rw [cell_of_row w3 _ 2 _ _ _ hN3]; rfl);
            have s0 : (w3.setCell ⟨wr.heap.size, 2, none⟩ (.slice A3 d.nums.length cap3)).cell? ⟨wr.heap.size, 0, none⟩ = some (.string ⟨d.word.toArray⟩) := (by rw [cell_of_row _ _ 0 _ _ _ hS]; rfl); have s1 : (w3.setCell ⟨wr.heap.size, 2, none⟩ (.slice A3 d.nums.length cap3)).cell? ⟨wr.heap.size, 1, none⟩ = some (.string ⟨d.text.toArray⟩) := (by rw [cell_of_row _ _ 1 _ _ _ hS]; rfl); have s2 : (w3.setCell ⟨wr.heap.size, 2, none⟩ (.slice A3 d.nums.length cap3)).cell? ⟨wr.heap.size, 2, none⟩ = some (.slice A3 d.nums.length cap3) := (by rw [cell_of_row _ _ 2 _ _ _ hS]; rfl);
            have hsz3 : (w3.setCell ⟨wr.heap.size, 2, none⟩ (.slice A3 d.nums.length cap3)).heap.size = w3.heap.size := (by simp [World.setCell]);
            have hz3 : wr.heap.size ≤ w3.heap.size := (by have := hb3.size; simp at this; omega);
            have hb34 : Below (wr.heap.size) wr (w3.setCell ⟨wr.heap.size, 2, none⟩ (.slice A3 d.nums.length cap3)) := below_set (((Below.refl _ wr).alloc (Nat.le_refl _) _).trans (hb3.mono (by simp))) hz3 (Nat.le_refl _) _;
            have hL4 : LentI (w3.setCell ⟨wr.heap.size, 2, none⟩ (.slice A3 d.nums.length cap3)) w.heap.size (.slice A3 d.nums.length cap3) d.nums := (hlent3.keep fun b cs hb hh => (Below.heap_setCell w3 ⟨wr.heap.size, 2, none⟩ _ b (show b ≠ wr.heap.size by simp at hb; omega)).trans hh).low (by have := hbw.size; simp; omega);
            have hnew := new_cells (w3.setCell ⟨wr.heap.size, 2, none⟩ (.slice A3 d.nums.length cap3)) (cmdCells d (.slice A3 d.nums.length cap3)) 52;
            rw [hsz3] at hnew;
            have HNew := Lib.hid hnew;
            have hb4 : Below w.heap.size w (w3.setCell ⟨wr.heap.size, 2, none⟩ (.slice A3 d.nums.length cap3)) := hbw.trans (hb34.mono hbw.size);
            have hlc := (HLent.out.below hb34).below ((Below.refl _ (w3.setCell ⟨wr.heap.size, 2, none⟩ (.slice A3 d.nums.length cap3))).alloc (Nat.le_refl _) (.cells (cmdCells d (.slice A3 d.nums.length cap3)).toArray 52));
            have hown3 := hlc.own; rw [hjl.out] at hown3;
            have hbase : w.heap.size ≤ w3.heap.size := Nat.le_trans hbw.size hz3;
            have HSz := Lib.hid hsz3;
            clear hN3 hlent3 hb3 hS hnew hsz3)
        | (at_builtin; refine wpList_append_own _ rfl _ _ 38 rfl w.heap.size 52 i0 _ 3 56 Tryz.underlying38 hi hz0 hz1 hz2' rfl (by decide) _ _ _ rfl hown3 ⟨w3.heap.size, 0, none⟩ 1 1 (cmdCells d (.slice A3 d.nums.length cap3)) rfl rfl HNew.out (fun u hu => by simp only [cmdCells, List.mem_cons, List.not_mem_nil, or_false] at hu; rcases hu with rfl | rfl | rfl <;> rfl) (by unfold maxLen; omega) (by omega) (by rw [World.size_alloc, HSz.out]; omega) ?_; intro v5 w5 hown5 hg5 _;
            have hb5 := below_append (hb4.alloc (by rw [HSz.out]; exact hbase) _) hown3 (Nat.le_refl _) (by rw [World.size_alloc, HSz.out]; omega) hg5;
            have hlc5 := hlc.snoc (hL4.below ((Below.refl _ _).alloc (Nat.le_refl _) _)) (by rw [hjl.out]; exact hown5) hg5; obtain ⟨A5, cap5, rfl⟩ := own_slice hown5; clear hown5 hg5 hown3))
      go_roundw
      case rel => exact ⟨j + 1, _, A5, cap5, by have := HL.out; omega, by go_num, rfl, by rw [HT.out]; exact hlc5, hb5⟩
      case measure => simp [intOf]; omega
    · obtain rfl : j = n := by omega
      have hjt : cs.take j = cs := List.take_of_length_le (by omega)
      rw [hjt] at hlent
      have HLent := Lib.hid hlent
      have hrm := Lib.hid hlent.owns.reads
      have hrl := Lib.hid (hr.below hbw)
      obtain ⟨w1, hw1⟩ : ∃ w1, w1 = wr := ⟨_, rfl⟩
      subst hw1
      clear hjt hlent hlt
      have tokP : True := trivial
      go_wp2_with (first
        | (go_at_call 13; refine (printBad _ _ _ cs E _ ?hE ?ht ?hr ?hf ?hn q ?h).mono ?_; (case h => with_reducible exact HP.out); (case hr => with_reducible exact hrm.out); (case hE => exact (hE.below hbw).three_of); (case ht => exact htab.below hbw); (case hf => exact HF.out); (case hn => exact hnm); rintro e w2 ⟨p2, rfl, hb2, hp2, _⟩; have HP2 := Lib.hid hp2; clear hp2)
        | (go_at_call 14; refine (refPrint_err _ _ _ cs _ ?hr ?hf ?hfw ?hn q ?h).mono ?_; (case h => with_reducible exact HP.out); (case hr => exact hrl.out.below hb2); (case hf => exact HF.out); (case hfw => exact HFW.out); (case hn => exact hnm); rintro e w3 ⟨rfl, hb3⟩)
        | (go_at_call 15; refine (bad_any scriptB q _ (by decide)).mono ?_; rintro e w4 ⟨rfl, hb4⟩; have hK4 := (hb4.block _ (by simp)).trans (heap_alloc_new w3 (.cells #[.int .i64 0, .int .i64 0, .int .i64 0, .string ⟨#[]⟩] 44)); have q0 := cell_of_row w4 _ 0 _ _ _ hK4; have q1 := cell_of_row w4 _ 1 _ _ _ hK4; have q2 := cell_of_row w4 _ 2 _ _ _ hK4; have q3 := cell_of_row w4 _ 3 _ _ _ hK4; simp only [List.getElem?_toArray, List.getElem?_cons_zero, List.getElem?_cons_succ] at q0 q1 q2 q3; have f0 := block_frozen hK4 0; have f1 := block_frozen hK4 1; have f2 := block_frozen hK4 2; have f3 := block_frozen hK4 3; have HK4 := Lib.hid hK4; clear hK4))
      have hb20 : Below w2.heap.size w2 w4 := (hb3.alloc hb3.size _).trans (hb4.mono (by have := hb3.size; simp; omega))
      have hb21 := below_set (i := 0) hb20 hb20.size hb3.size (.int .i64 (q : Int))
      have hb22 := below_set (i := 1) hb21 hb21.size hb3.size (.int .i64 0)
      have hb23 := below_set (i := 2) hb22 hb22.size hb3.size (.int .i64 0)
      have hb24 := below_set (i := 3) hb23 hb23.size hb3.size (.string (scriptB ++ ⟨#[32]⟩))
      have hc0 : (q : Int) ≠ 0 := by have := HQ.out; omega
      clear hb20 hb21 hb22 hb23 q0 q1 q2 q3 f0 f1 f2 f3
      have hz13 : w1.heap.size ≤ w3.heap.size := Nat.le_trans hb2.size hb3.size
      have hbW : Below w1.heap.size w1 ((((w4.setCell ⟨w3.heap.size, 0, none⟩ (.int .i64 (q : Int))).setCell ⟨w3.heap.size, 1, none⟩ (.int .i64 0)).setCell ⟨w3.heap.size, 2, none⟩ (.int .i64 0)).setCell ⟨w3.heap.size, 3, none⟩ (.string (scriptB ++ ⟨#[32]⟩))) := hb2.trans (hb24.mono hb2.size)
      have hEE : ((((w4.setCell ⟨w3.heap.size, 0, none⟩ (.int .i64 (q : Int))).setCell ⟨w3.heap.size, 1, none⟩ (.int .i64 0)).setCell ⟨w3.heap.size, 2, none⟩ (.int .i64 0)).setCell ⟨w3.heap.size, 3, none⟩ (.string (scriptB ++ ⟨#[32]⟩))).heap[w3.heap.size]? = some (.cells #[.int .i64 (q : Int), .int .i64 0, .int .i64 0, .string (scriptB ++ ⟨#[32]⟩)] 44 (0, 0)) := set_block (set_block (set_block (set_block HK4.out _) _) _) _
      have HEE := Lib.hid hEE
      have hlW := Lib.hid (HLent.out.below hbW)
      have hrW := Lib.hid (hrl.out.below hbW)
      clear hEE
      go_loopw [11] (fun i wr => ∃ k m : Nat, k ≤ j ∧ i = .int .i64 k ∧ wr = ((((w4.setCell ⟨w3.heap.size, 0, none⟩ (.int .i64 (q : Int))).setCell ⟨w3.heap.size, 1, none⟩ (.int .i64 0)).setCell ⟨w3.heap.size, 2, none⟩ (.int .i64 0)).setCell ⟨w3.heap.size, 3, none⟩ (.string (scriptB ++ ⟨#[32]⟩))).drewN m) (fun i _ => j - (intOf i).toNat)
      case atStart => exact ⟨0, 0, Nat.zero_le _, rfl, rfl⟩
      case round =>
        obtain ⟨k, m, hk, rfl, hwr⟩ := hrel
        by_cases hlt : k < j
        · obtain ⟨g, d, B, mm, rfl, hd, z0, hz⟩ := hlW.out.cell k hlt
          obtain ⟨b, off, d', B1, m1, rfl, hd', a0, a1, a2, hR⟩ := hrW.out.cell k hlt
          obtain rfl : d = d' := by rw [hd] at hd'; exact Option.some.inj hd'
          have y2 : wr.cell? ⟨g, k * 3 + 2, none⟩ = some (.slice B d.nums.length mm) := by rw [hwr]; exact z0
          have x2 : wr.cell? ⟨b, off + k * 3 + 2, none⟩ = some (.slice B1 d.nums.length m1) := by rw [hwr]; exact a2
          have X := Lib.hid (show LentI wr w.heap.size (.slice B d.nums.length mm) d.nums by rw [hwr]; exact hz)
          have Y := Lib.hid (show ReadsI wr (.slice B1 d.nums.length m1) d.nums by rw [hwr]; exact hR)
          have hdl := Lib.hid (show d.nums.length ≤ 140737488355328 by have := HFN.out d (List.mem_of_getElem? hd); omega)
          have HW := Lib.hid hwr
          clear hd hd' z0 hz a0 a1 a2 hR hwr
          go_wp2_with fail
          go_quiet ((go_at_call 16; exact Calls.quiet_of (stays_any _ _ _ _ _ _ _ _ X.out Y.out hdl.out)))
          go_wp2_with fail
          go_roundw
          case rel => exact ⟨k + 1, _, by omega, by go_num, by rw [HW.out, World.drewN_drewN]⟩
          case measure => simp [intOf]; omega
        · have hbwr : Below w1.heap.size w1 wr := by rw [hwr]; exact below_drewN' hbW m
          have hEw : Hid (wr.heap[w3.heap.size]? = some (.cells #[.int .i64 (q : Int), .int .i64 0, .int .i64 0, .string (scriptB ++ ⟨#[32]⟩)] 44 (0, 0))) := by show _ = _; rw [hwr]; exact HEE.out
          have hbww : Below w.heap.size w wr := hbw.trans (hbwr.mono hbw.size)
          have hmr := Lib.hid (HLent.out.below hbwr).owns.reads
          have hlr := Lib.hid (hrl.out.below hbwr)
          have hPw : Hid (wr.heap[p2]? = some (.cells #[.string scriptB, .int .i64 0, .int .i64 0, E.val q] 75 (0, 0))) := by show _ = _; rw [hwr]; exact (hb24.block p2 (lt_of HP2.out)).trans HP2.out
          clear hwr
          go_wp2_with (first
            | (go_at_call 5; refine (alive_any E _ (hE.below hbww)).mono ?_; rintro e w5 ⟨rfl, hb5⟩;
                have hEw5 := (hb5.block _ (lt_of hEw.out)).trans hEw.out;
                have e0 : w5.cell? ⟨w3.heap.size, 0, none⟩ = some (.int .i64 (q : Int)) := (by rw [cell_of_row w5 _ 0 _ _ _ hEw5]; rfl);
                have e1 : w5.cell? ⟨w3.heap.size, 1, none⟩ = some (.int .i64 0) := (by rw [cell_of_row w5 _ 1 _ _ _ hEw5]; rfl);
                have e2 : w5.cell? ⟨w3.heap.size, 2, none⟩ = some (.int .i64 0) := (by rw [cell_of_row w5 _ 2 _ _ _ hEw5]; rfl);
                have e3 : w5.cell? ⟨w3.heap.size, 3, none⟩ = some (.string (scriptB ++ ⟨#[32]⟩)) := (by rw [cell_of_row w5 _ 3 _ _ _ hEw5]; rfl);
                have hbw5 : Below w.heap.size w w5 := hbww.trans (hb5.mono hbww.size); clear hEw5)
            | (go_at_call 8; refine (told_fault E nineteen p2 q 0 0 scriptB (codeF_any E p2 q HQ.out) (codeB_any E q HQ.out) hc0 (by decide) _ (hE.below hbw5) (cell_of_row _ _ 0 _ _ _ ((hb5.block _ (lt_of hPw.out)).trans hPw.out)) (cell_of_row _ _ 1 _ _ _ ((hb5.block _ (lt_of hPw.out)).trans hPw.out)) (cell_of_row _ _ 2 _ _ _ ((hb5.block _ (lt_of hPw.out)).trans hPw.out)) (cell_of_row _ _ 3 _ _ _ ((hb5.block _ (lt_of hPw.out)).trans hPw.out))).mono ?_; rintro e w6 ⟨rfl, hb6⟩)
            | (go_at_call 9; refine (sameCmds_true _ _ _ _ _ cs _ ((hlr.out.below hb5).below hb6) ((hmr.out.below hb5).below hb6) hnm (fun x hx => (HF.out x hx).2)).mono ?_; rintro e w7 ⟨rfl, m7, rfl⟩))
          go_ret
          exact ⟨rfl, below_drewN' (hbw5.trans (hb6.mono hbw5.size)) m7⟩

theorem Sc.print_code {cs : List Sc.Cmd} {k : Nat} (h : Sc.print cs = .error k) : k = 2 ∨ k = 19 := by
  unfold Sc.print at h
  repeat' split at h
  all_goals first
    | (injection h with h; omega)
    | cases h
/-- ScriptPrints returns true. -/
theorem prints_true (A : Option Addr) (n c : Nat) (cs : List Sc.Cmd) (E : Errs) (w : World) (hE : Laid E nineteen w) (htab : Tab w) (hr : ReadsC w (.slice A n c) cs) (hf : Fit cs) (hfw : FitW cs) (hfn : FitN cs) (hn : n ≤ maxLen) :
    Calls Tryz.prog 4 #[.slice A n c] w fun e w' => e = .returned (.bool true) ∧ Below w.heap.size w w' := by
  by_cases h : 1200 < n
  · exact prints_many A n c E w hE.three_of h hn
  · cases hp : Sc.print cs with
    | ok t => exact prints_ok A n c cs E w hE htab hr hf hfw hfn (by omega) t hp
    | error k => exact prints_no A n c cs E w hE htab hr hf hfw hfn (by omega) k hp (Sc.print_code hp)
end Go.Proofs.YtinobikikineiabGreatDoor
