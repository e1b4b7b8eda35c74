/- The walk of the document's own Scan: the words of a text, or the first error, as the plain function says. No conditions. -/
import Derived.Test.YtinobikikineiaaDoorRefNumber
import Derived.Test.YtinobikikineiaaDoorTold
import Derived.Test.YtinobikikineiaaDoorAlive
import Derived.Test.YtinobikikineiaaDoorPlainScan
import Derived.Test.YtinobikikineiaaDoorPlainCode
namespace Go.Proofs.YtinobikikineiaaDoor
open Go.RowKit

namespace Lx
theorem while_stop (p : UInt8 → Bool) (l : List UInt8) (k j : Nat) (hk : k ≤ j) (hj : j ≤ l.length) (h : ∀ i c, k ≤ i → i < j → l[i]? = some c → p c = true) (he : ∀ c, l[j]? = some c → p c = false) : (l.drop k).takeWhile p = (l.drop k).take (j - k) := by
  have e : l.drop k = (l.drop k).take (j - k) ++ l.drop j := by
    conv => lhs; rw [← List.take_append_drop (j - k) (l.drop k)]
    rw [List.drop_drop]; congr 2; omega
  conv => lhs; rw [e]
  rw [List.takeWhile_append_of_pos]
  · have : (l.drop j).takeWhile p = [] := by
      cases hd : l.drop j with
      | nil => rfl
      | cons c t =>
        have : l[j]? = some c := by
          have := congrArg List.head? hd
          rwa [List.head?_drop] at this
        rw [List.takeWhile_cons, if_neg (by simp [he c this])]
    rw [this, List.append_nil]
  · intro c hc
    obtain ⟨i, hi⟩ := List.getElem?_of_mem hc
    have hlt := (List.getElem?_eq_some_iff.1 hi).1
    rw [List.length_take, List.length_drop] at hlt
    rw [List.getElem?_take_of_lt (by omega), List.getElem?_drop] at hi
    exact h (k + i) c (by omega) (by omega) hi
theorem run_stop_at (l : List UInt8) (k j : Nat) (hk : k ≤ j) (hj : j ≤ l.length) (h : ∀ i c, k ≤ i → i < j → l[i]? = some c → inRun c = true) (he : ∀ c, l[j]? = some c → inRun c = false) : run (l.drop k) = (l.drop k).take (j - k) := while_stop inRun l k j hk hj h he
theorem remark_stop (l : List UInt8) (k j : Nat) (hk : k ≤ j) (hj : j ≤ l.length) (h : ∀ i c, k ≤ i → i < j → l[i]? = some c → c ≠ 10) (he : ∀ c, l[j]? = some c → c = 10) : remark (l.drop k) = j - k := by
  unfold remark
  rw [while_stop (· != 10) l k j hk hj (fun i c a b d => by simpa using h i c a b d) (fun c hc => by simpa using he c hc), List.length_take, List.length_drop]
  omega
theorem next_all {p : UInt8 → Prop} {l : List UInt8} {k j : Nat} {x : UInt8} (h : ∀ i c, k ≤ i → i < j → l[i]? = some c → p c) (hx : l[j]? = some x) (hp : p x) : ∀ i c, k ≤ i → i < j + 1 → l[i]? = some c → p c := by
  intro i c a b d
  rcases Nat.lt_or_ge i j with hi | hi
  · exact h i c a hi d
  · obtain rfl : i = j := by omega
    rw [hx] at d
    rw [← Option.some.inj d]; exact hp
/-- What has been read and what is left give the whole. -/
def Left (l : List UInt8) (ts : List Tok) (line fr : Nat) (some : Bool) (k : Nat) : Prop :=
  (k ≤ l.length → fr ≤ k ∧ prep ts (tailFrom line (k - fr) some (l.drop k)) = scanLines 1 (cuts l)) ∧ (l.length < k → .ok ts = scanLines 1 (cuts l))
theorem Left.start (l : List UInt8) : Left l [] 1 0 false 0 := ⟨fun _ => ⟨Nat.le_refl _, by rw [scan_tail]; simp⟩, fun h => by omega⟩
def endIf (some : Bool) (line col : Nat) : List Tok := if some then [endTok line col] else []
theorem Left.nl {l : List UInt8} {ts : List Tok} {line fr k : Nat} {some : Bool} (h : Left l ts line fr some k) (hk : k < l.length) (hc : l[k]? = .some 10) : Left l (ts ++ endIf some line (k - fr)) (line + 1) (k + 1) false (k + 1) := by
  obtain ⟨h1, h2⟩ := h.1 (by omega)
  refine ⟨fun _ => ⟨Nat.le_refl _, ?_⟩, fun h => by omega⟩
  rw [← h2]
  have e : l.drop k = 10 :: l.drop (k + 1) := by
    have := (List.getElem?_eq_some_iff.1 hc).2
    rw [← this, ← List.drop_eq_getElem_cons hk]
  rw [e, tail_nl, prep_prep, Nat.sub_self]
  rfl
theorem Left.last {l : List UInt8} {ts : List Tok} {line fr k : Nat} {some : Bool} (h : Left l ts line fr some k) (hk : k = l.length) : Left l (ts ++ endIf some line (k - fr)) (line + 1) (k + 1) false (k + 1) := by
  obtain ⟨h1, h2⟩ := h.1 (by omega)
  refine ⟨fun h => by omega, fun _ => ?_⟩
  rw [← h2, List.drop_of_length_le (by omega), tail_nil, prep_ok]
  rfl
theorem Left.done {l : List UInt8} {ts : List Tok} {line fr k : Nat} {some : Bool} (h : Left l ts line fr some k) (hk : l.length < k) : scanLines 1 (cuts l) = .ok ts := (h.2 hk).symm
theorem drop_at {l : List UInt8} {k : Nat} {c : UInt8} (hc : l[k]? = some c) : l.drop k = c :: l.drop (k + 1) := by
  obtain ⟨hk, h⟩ := List.getElem?_eq_some_iff.1 hc
  rw [← h, ← List.drop_eq_getElem_cons hk]
theorem Left.blank {l : List UInt8} {ts : List Tok} {line fr k : Nat} {some : Bool} {c : UInt8} (h : Left l ts line fr some k) (hc : l[k]? = .some c) (hb : isBlank c = true) : Left l ts line fr some (k + 1) := by
  have hk := (List.getElem?_eq_some_iff.1 hc).1
  obtain ⟨h1, h2⟩ := h.1 (by omega)
  refine ⟨fun _ => ⟨by omega, ?_⟩, fun h => by omega⟩
  rw [← h2, drop_at hc, tail_blank _ _ _ _ _ hb]
  congr 2; omega
theorem Left.hash {l : List UInt8} {ts : List Tok} {line fr k j : Nat} {some : Bool} (h : Left l ts line fr some k) (hc : l[k]? = .some 35) (hj : remark (l.drop k) = j - k) (hkj : k ≤ j) (hjl : j ≤ l.length) : Left l ts line fr some j := by
  obtain ⟨h1, h2⟩ := h.1 (by omega)
  refine ⟨fun _ => ⟨by omega, ?_⟩, fun h => by omega⟩
  have hd := drop_at hc
  have := tail_hash line (k - fr) some 35 (l.drop (k + 1)) rfl
  rw [← hd, hj, List.drop_drop] at this
  rw [← h2, this]
  congr 2
  · omega
  · congr 1; omega
theorem Left.word {l : List UInt8} {ts : List Tok} {line fr k : Nat} {some : Bool} {c : UInt8} {kd : Nat} {w : List UInt8} (h : Left l ts line fr some k) (hc : l[k]? = .some c) (h0 : c ≠ 10) (h1 : isBlank c = false) (h2 : c ≠ 35) (hw : Lx.word (l.drop k) = .ok (kd, w)) :
    Left l (ts ++ [⟨kd, w, line, k - fr + 1⟩]) line fr true (k + w.length) := by
  have hk := (List.getElem?_eq_some_iff.1 hc).1
  obtain ⟨h3, h4⟩ := h.1 (by omega)
  have hl := (word_len hw).2.1
  rw [List.length_drop] at hl
  refine ⟨fun _ => ⟨by omega, ?_⟩, fun h => by omega⟩
  rw [drop_at hc] at hw
  rw [← h4, drop_at hc, tail_word _ _ _ _ _ kd w h0 h1 h2 hw, prep_prep, ← drop_at hc, List.drop_drop]
  congr 2; omega
theorem Left.bad {l : List UInt8} {ts : List Tok} {line fr k : Nat} {some : Bool} {c : UInt8} {e : Nat} (h : Left l ts line fr some k) (hc : l[k]? = .some c) (h0 : c ≠ 10) (h1 : isBlank c = false) (h2 : c ≠ 35) (hw : Lx.word (l.drop k) = .error e) :
    scanLines 1 (cuts l) = .error (e, line, k - fr + 1) := by
  have hk := (List.getElem?_eq_some_iff.1 hc).1
  obtain ⟨h3, h4⟩ := h.1 (by omega)
  rw [drop_at hc] at hw
  rw [← h4, drop_at hc, tail_bad _ _ _ _ _ e h0 h1 h2 hw]; rfl
end Lx

/-- How the document's Scan ends. -/
def RefScanEnds (l : List UInt8) (w : World) (e : Ending) (w' : World) : Prop :=
  Below w.heap.size w w' ∧
  ((∃ ts A c, Lx.scan l = .ok ts ∧ e = .returned (.tuple #[.slice A ts.length c, refErr 0 0 0 ⟨#[]⟩]) ∧ Reads4 w' (.slice A ts.length c) (ts.map Lx.Tok.v)) ∨
   (∃ c line col, Lx.scan l = .error (c, line, col) ∧ e = .returned (.tuple #[.slice none 0 0, refErr (c : Int) (line : Int) (col : Int) (lexisB ++ ⟨#[32]⟩)])))

set_option maxHeartbeats 1000000 in
theorem refScan_long (s : ByteArray) (w : World) (hs : 65536 < s.size) :
    Calls Tryd.prog 17 #[.string s] w (RefScanEnds s.data.toList w) := by
  have HS : Hid (Lx.scan s.data.toList = .error (2, 0, 0)) := by show _ = _; unfold Lx.scan; rw [if_pos (by rw [bytes_size]; exact hs)]
  go_enter Tryd.func17, Tryd.ntmps17
  go_wp2_with (first | (go_at_call 24; refine (bad_any lexisB _ _ (by decide)).mono ?_; rintro e w2 ⟨rfl, hb2⟩; obtain ⟨hc2, hf2⟩ := bcell hb2; have hz2 : w.heap.size < w2.heap.size := (by have := hb2.size; simp at this; omega)))
  obtain ⟨q0, q1, q2, q3⟩ := four_set w2 w.heap.size (.int .i64 2) (.int .i64 0) (.int .i64 0) (.string (lexisB ++ ⟨#[32]⟩)) (by rw [hc2 _ _ (by simp)]; simp) (by rw [hc2 _ _ (by simp)]; simp) (by rw [hc2 _ _ (by simp)]; simp) (by rw [hc2 _ _ (by simp)]; simp)
  refine bodyPost_ret (v := .tuple #[.slice none 0 0, refErr 2 0 0 (lexisB ++ ⟨#[32]⟩)]) (by simp [results, Tryd.results17, go_sem, q0, q1, q2, q3]) rfl ?_
  have hb' : Below w.heap.size w w2 := ((Below.refl _ w).alloc (Nat.le_refl _) _).trans (hb2.mono (by simp))
  exact ⟨(((hb'.setCell (Nat.le_refl _) _).setCell (Nat.le_refl _) _).setCell (Nat.le_refl _) _).setCell (Nat.le_refl _) _, .inr ⟨2, 0, 0, HS.out, rfl⟩⟩

theorem far_set {W : World} {b i k : Nat} {v : Value} {o : Obj} (h : W.heap[k]? = some o) (hk : k ≠ b) : (W.setCell ⟨b, i, none⟩ v).heap[k]? = some o := (Below.heap_setCell W ⟨b, i, none⟩ v k hk).trans h
theorem keep_app {wr w2 : World} {N k : Nat} {e : TypeId} {size n : Nat} {v : Value} {xs : List Value} {o c : Obj} (hown : wr.ownsRow (N + 1) e size v n xs) (hg : (wr.alloc o).grownBy w2 v.ownBlock) (hk : k ≤ N) (h : wr.heap[k]? = some c) : w2.heap[k]? = some c := by
  have hlt := (Array.getElem?_eq_some_iff.1 h).1
  exact (hg.block k (by simp; omega) (fun e => by have := (own_lt hown _ e.symm).1; omega)).trans ((Below.heap_alloc _ _ _ hlt).trans h)
theorem endTok_v {line k f : Nat} (h : f ≤ k) : (Lx.endTok line (k - f)).v = ⟨1, ⟨#[10]⟩, line, (k : Int) - (f : Int) + 1⟩ := by
  unfold Lx.Tok.v Lx.endTok
  congr 1
  simp only []
  omega
theorem refScan_bad {s : ByteArray} {w wr w2 : World} {c line k f : Nat} {v0 v1 v2 v3 : Value} (hbw : Below w.heap.size w wr) (hb2 : Below wr.heap.size wr w2) (hs : s.size ≤ 65536) (h : Lx.scanLines 1 (Lx.cuts s.data.toList) = .error (c, line, k - f + 1)) (hf : f ≤ k) :
    RefScanEnds s.data.toList w (.returned (.tuple #[.slice none 0 0, refErr (c : Int) (line : Int) ((k : Int) - (f : Int) + 1) (lexisB ++ ⟨#[32]⟩)])) ((((w2.setCell ⟨w.heap.size, 0, none⟩ v0).setCell ⟨w.heap.size, 1, none⟩ v1).setCell ⟨w.heap.size, 2, none⟩ v2).setCell ⟨w.heap.size, 3, none⟩ v3) := by
  have hb := hbw.trans (hb2.mono hbw.size)
  refine ⟨(((hb.setCell (Nat.le_refl _) _).setCell (Nat.le_refl _) _).setCell (Nat.le_refl _) _).setCell (Nat.le_refl _) _, .inr ⟨c, line, k - f + 1, ?_, ?_⟩⟩
  · unfold Lx.scan
    rw [if_neg (by rw [bytes_size]; omega), h]
  · have : ((k - f + 1 : Nat) : Int) = (k : Int) - (f : Int) + 1 := by omega
    rw [this]

theorem word_v {kd line k f : Nat} {tx : List UInt8} {x : ByteArray} {i : Int} (h : f ≤ k) (hi : i = (kd : Int)) (hx : x = ⟨tx.toArray⟩) : (Lx.Tok.mk kd tx line (k - f + 1)).v = ⟨i, x, line, (k : Int) - (f : Int) + 1⟩ := by
  subst hi hx
  unfold Lx.Tok.v
  congr 1
  simp only []
  omega
theorem b32 (c : UInt8) : ((c.toNat : Int) == 32) = (c == 32) := byte_beq c 32
theorem b9 (c : UInt8) : ((c.toNat : Int) == 9) = (c == 9) := byte_beq c 9
theorem b13 (c : UInt8) : ((c.toNat : Int) == 13) = (c == 13) := byte_beq c 13
theorem b10 (c : UInt8) : ((c.toNat : Int) == 10) = (c == 10) := byte_beq c 10
theorem b95 (c : UInt8) : ((c.toNat : Int) == 95) = (c == 95) := byte_beq c 95
theorem extract_mid (s : ByteArray) (k j : Nat) : (s.extract k j).data.toList = (s.data.toList.drop k).take (j - k) := by
  simp only [ByteArray.data_extract, Array.toList_extract, List.extract_eq_take_drop]
theorem extract_one (s : ByteArray) (k : Nat) (h : k < s.size) : s.extract k (k + 1) = ⟨[s[k]].toArray⟩ := by
  rw [← bytes_mk (s.extract k (k + 1)), extract_mid, bytes_drop s k h, show k + 1 - k = 1 by omega]
  rfl
theorem digit_letter {c : UInt8} (h : Lx.isDigit c = true) : (Lx.isSmall c || Lx.isGreat c) = false := by
  simp only [Lx.isDigit, Bool.and_eq_true, decide_eq_true_eq] at h
  simp only [Lx.isSmall, Lx.isGreat, Bool.or_eq_false_iff, Bool.and_eq_false_iff, decide_eq_false_iff_not]
  omega
/-- No line's end between two places; all of a run. -/
def NoNl (l : List UInt8) (k j : Nat) : Prop := ∀ i c, k ≤ i → i < j → l[i]? = some c → c ≠ 10
def AllRun (l : List UInt8) (k j : Nat) : Prop := ∀ i c, k ≤ i → i < j → l[i]? = some c → Lx.inRun c = true

/-- What the loop holds at a round's head (kept shut). -/
def RefAt (s : ByteArray) (w : World) (v li fr so i : Value) (wr : World) : Prop :=
  ∃ (k line f : Nat) (b : Bool) (ts : List Lx.Tok) (A : Option Addr) (cap : Nat), k ≤ s.size + 1 ∧ i = .int .i64 k ∧ li = .int .i64 line ∧ fr = .int .i64 f ∧ so = .bool b ∧ v = .slice A ts.length cap ∧ f ≤ k ∧ line ≤ k + 1 ∧ ts.length ≤ k ∧
    wr.ownsRow (w.heap.size + 1) 29 4 (.slice A ts.length cap) ts.length (flat (ts.map Lx.Tok.v)) ∧ Below w.heap.size w wr ∧ wr.heap[w.heap.size]? = some (.cells #[.int .i64 0, .int .i64 0, .int .i64 0, .string ⟨#[]⟩] 37 (0, 0)) ∧ Lx.Left s.data.toList ts line f b k

set_option maxRecDepth 100000 in
set_option maxHeartbeats 4000000 in
theorem refScan_loop (s : ByteArray) (w : World) (hs : s.size ≤ 65536) :
    Calls Tryd.prog 17 #[.string s] w (RefScanEnds s.data.toList w) := by
  obtain ⟨i0, hi, hz0, hz1', hz2⟩ := info_parts infoTok
  go_enter Tryd.func17, Tryd.ntmps17
  go_wp2_with fail
  go_loopw [4, 5, 6, 7, 8] (fun v li fr so i wr => RefAt s w v li fr so i wr) (fun _ _ _ _ i _ => s.size + 1 - (intOf i).toNat)
  case atStart => exact ⟨0, 1, 0, false, [], none, 0, Nat.zero_le _, rfl, rfl, rfl, rfl, rfl, Nat.le_refl _, Nat.le_refl _, Nat.le_refl _, World.ownsRow_nil _ _ _ _, (Below.refl _ _).alloc (Nat.le_refl _) _, heap_alloc_new w _, Lx.Left.start _⟩
  case round =>
    obtain ⟨k, line, f, b, ts, A, cap, hk, rfl, rfl, rfl, rfl, rfl, hf, hln, htk, hown, hbw, hres, hleft⟩ := hrel
    have HL := Lib.hid hleft
    have HR := Lib.hid hres
    clear hleft hres
    have hzr := hbw.size
    by_cases hgt : s.size < k
    · have c0 := cell_of_row wr w.heap.size 0 _ _ _ HR.out
      have c1 := cell_of_row wr w.heap.size 1 _ _ _ HR.out
      have c2 := cell_of_row wr w.heap.size 2 _ _ _ HR.out
      have c3 := cell_of_row wr w.heap.size 3 _ _ _ HR.out
      have g0 := block_frozen HR.out 0
      have g1 := block_frozen HR.out 1
      have g2 := block_frozen HR.out 2
      have g3 := block_frozen HR.out 3
      go_wp2_with fail
      obtain ⟨q0, q1, q2, q3⟩ := four_set wr w.heap.size (.int .i64 0) (.int .i64 0) (.int .i64 0) (.string ⟨#[]⟩) (by rw [c0]; rfl) (by rw [c1]; rfl) (by rw [c2]; rfl) (by rw [c3]; rfl)
      refine bodyPost_ret (v := .tuple #[.slice A ts.length cap, refErr 0 0 0 ⟨#[]⟩]) (by simp [results, Tryd.results17, go_sem, q0, q1, q2, q3]) rfl ?_
      refine ⟨(((hbw.setCell (Nat.le_refl _) _).setCell (Nat.le_refl _) _).setCell (Nat.le_refl _) _).setCell (Nat.le_refl _) _, .inl ⟨ts, A, cap, ?_, rfl, Reads4.of_own (base := w.heap.size + 1) (e := 29) ?_⟩⟩
      · unfold Lx.scan
        rw [if_neg (by rw [bytes_size]; omega)]
        exact HL.out.done (by rw [bytes_size]; exact hgt)
      · rw [List.length_map]
        exact own_keep hown fun k cs t hk hh => far_set (far_set (far_set (far_set hh (by omega)) (by omega)) (by omega)) (by omega)
    · have hlt10 : ∀ h : k < s.size, ((s[k].toNat : Int) == 10) = (s[k] == 10) := fun h => byte_beq _ 10
      by_cases hnl : k = s.size ∨ ∃ h : k < s.size, s[k] = 10
      · have hle : (k : Int) ≤ (s.size : Int) := by omega
        have HN : Hid (Lx.Left s.data.toList (ts ++ Lx.endIf b line (k - f)) (line + 1) (k + 1) false (k + 1)) := by
          rcases hnl with h | ⟨h, hc⟩
          · exact HL.out.last (by rw [bytes_size]; exact h)
          · exact HL.out.nl (by rw [bytes_size]; exact h) (by rw [bytes_get s k h, hc])
        have hway : (((k : Int) == (s.size : Int)) = true) ∨ (((k : Int) == (s.size : Int)) = false ∧ ∃ h : k < s.size, ((s[k].toNat : Int) == 10) = true) := by
          rcases hnl with h | ⟨h, hc⟩
          · exact .inl (by simp [h])
          · exact .inr ⟨by rw [beq_eq_false_iff_ne]; omega, h, by rw [hlt10 h, hc]; rfl⟩
        clear hnl hlt10
        rcases hway with hE | ⟨hE, hlt, h10⟩
        all_goals
          cases b with
          | true =>
            go_wp2_with (at_builtin; refine wpList_append_own _ rfl _ _ 22 rfl (w.heap.size + 1) 29 i0 _ 4 40 Tryd.underlying22 hi hz0 hz1' hz2 rfl (by decide) _ _ _ rfl (hown.alloc _) ⟨wr.heap.size, 0, none⟩ 1 1 (TokV.cells ⟨1, ⟨#[10]⟩, line, (k : Int) - (f : Int) + 1⟩) rfl rfl (new_cells wr (TokV.cells ⟨1, ⟨#[10]⟩, line, (k : Int) - (f : Int) + 1⟩) 29) (tok_one _) (by unfold maxLen; omega) (by omega) (by simp; omega) ?_; intro v2 w2 hown2 hg2 _)
            go_roundw
            case rel =>
              obtain ⟨A2, cap2, hv2⟩ := own_slice hown2
              have hb2 := below_append (hbw.alloc hzr _) (hown.alloc _) (by omega) (by simp; omega) hg2
              exact ⟨k + 1, line + 1, k + 1, false, ts ++ [Lx.endTok line (k - f)], A2, cap2, by omega, by go_num, by go_num, by go_num, rfl, by rw [List.length_append]; exact hv2, Nat.le_refl _, by omega, by rw [List.length_append]; simp; omega,
                by rw [List.length_append, List.length_singleton, ← hv2, List.map_append, flat_append, List.map_singleton, flat_one, endTok_v hf]; exact hown2, hb2, keep_app hown hg2 (Nat.le_refl _) HR.out, HN.out⟩
            case measure => simp [intOf]; omega
          | false =>
            go_wp2_with fail
            go_roundw
            case rel => exact ⟨k + 1, line + 1, k + 1, false, ts, A, cap, by omega, by go_num, by go_num, by go_num, rfl, rfl, Nat.le_refl _, by omega, by omega, hown, hbw, HR.out, by have := HN.out; rwa [show Lx.endIf false line (k - f) = [] from rfl, List.append_nil] at this⟩
            case measure => simp [intOf]; omega
      · have hlt : k < s.size := by omega
        have hc10 : s[k] ≠ 10 := fun e => hnl (.inr ⟨hlt, e⟩)
        have hE : ((k : Int) == (s.size : Int)) = false := by rw [beq_eq_false_iff_ne]; omega
        have h10 : ((s[k].toNat : Int) == 10) = false := by rw [hlt10 hlt]; simpa using hc10
        have hget := Lib.hid (bytes_get s k hlt)
        clear hnl hlt10
        by_cases hbl : Lx.isBlank s[k] = true
        · have HN : Hid (Lx.Left s.data.toList ts line f b (k + 1)) := HL.out.blank hget.out hbl
          have hor' : (((s[k].toNat : Int) == 32) = true) ∨ (((s[k].toNat : Int) == 32) = false ∧ ((s[k].toNat : Int) == 9) = true) ∨ (((s[k].toNat : Int) == 32) = false ∧ ((s[k].toNat : Int) == 9) = false ∧ ((s[k].toNat : Int) == 13) = true) := by
            rw [b32, b9, b13]
            have hor : s[k] = 32 ∨ s[k] = 9 ∨ s[k] = 13 := by
              simp only [Lx.isBlank, Bool.or_eq_true, beq_iff_eq] at hbl
              rcases hbl with (h | h) | h <;> simp [h]
            rcases hor with e | e | e <;> rw [e] <;> decide
          clear hbl hc10
          rcases hor' with t1 | ⟨t1, t2⟩ | ⟨t1, t2, t3⟩
          all_goals
            go_wp2_with fail
            go_roundw
            case rel => exact ⟨k + 1, line, f, b, ts, A, cap, by omega, by go_num, rfl, rfl, rfl, rfl, by omega, by omega, by omega, hown, hbw, HR.out, HN.out⟩
            case measure => simp [intOf]; omega
        · have hbl : Lx.isBlank s[k] = false := by simpa using hbl
          have t32 : ((s[k].toNat : Int) == 32) = false := by rw [b32]; simp only [Lx.isBlank, Bool.or_eq_false_iff] at hbl; exact hbl.1.1
          have t9 : ((s[k].toNat : Int) == 9) = false := by rw [b9]; simp only [Lx.isBlank, Bool.or_eq_false_iff] at hbl; exact hbl.1.2
          have t13 : ((s[k].toNat : Int) == 13) = false := by rw [b13]; simp only [Lx.isBlank, Bool.or_eq_false_iff] at hbl; exact hbl.2
          have h35 : ((s[k].toNat : Int) == 35) = (s[k] == 35) := byte_beq _ 35
          by_cases hh : s[k] = 35
          · have h35t : ((s[k].toNat : Int) == 35) = true := by rw [h35, hh]; rfl
            have HG := Lib.hid hh
            have H10 := Lib.hid hc10
            clear h35 hh hbl hc10
            go_wp2_with fail
            go_loop [8] (fun i => ∃ j : Nat, k ≤ j ∧ j ≤ s.size ∧ i = .int .i64 j ∧ NoNl s.data.toList k j) (fun i => s.size - (intOf i).toNat)
            case atStart => exact ⟨k, Nat.le_refl _, by omega, rfl, fun i c a b => by omega⟩
            case round =>
              obtain ⟨j, hkj, hj, rfl, hno⟩ := hrel
              have HNo := Lib.hid hno
              clear hno
              by_cases hjs : j < s.size
              · by_cases hc : s[j] = 10
                · have tj : ((s[j].toNat : Int) == 10) = true := by rw [hc]; rfl
                  have hne : k ≠ j := fun e => by subst e; exact H10.out hc
                  have HN : Hid (Lx.Left s.data.toList ts line f b j) := HL.out.hash (by rw [hget.out, HG.out]) (Lx.remark_stop _ _ _ hkj (by rw [bytes_size]; exact hj) HNo.out (fun c h => by rw [bytes_get s j hjs] at h; rw [← Option.some.inj h]; exact hc)) hkj (by rw [bytes_size]; exact hj)
                  clear hc
                  go_wp2_with fail
                  go_roundw
                  case rel => exact ⟨j, line, f, b, ts, A, cap, by omega, rfl, rfl, rfl, rfl, rfl, by omega, by omega, by omega, hown, hbw, HR.out, HN.out⟩
                  case measure => simp [intOf]; omega
                · have tj : ((s[j].toNat : Int) == 10) = false := by rw [b10]; simpa using hc
                  have HC := Lib.hid hc
                  clear hc
                  go_wp2_with fail
                  go_round
                  case rel => exact ⟨j + 1, by omega, by omega, by go_num, Lx.next_all (p := fun c => c ≠ 10) HNo.out (bytes_get s j hjs) HC.out⟩
                  case measure => simp [intOf]; omega
              · have HN : Hid (Lx.Left s.data.toList ts line f b j) := HL.out.hash (by rw [hget.out, HG.out]) (Lx.remark_stop _ _ _ hkj (by rw [bytes_size]; exact hj) HNo.out (fun c h => by have := (List.getElem?_eq_some_iff.1 h).1; rw [bytes_size] at this; omega)) hkj (by rw [bytes_size]; exact hj)
                go_wp2_with fail
                go_roundw
                case rel => exact ⟨j, line, f, b, ts, A, cap, by omega, rfl, rfl, rfl, rfl, rfl, by omega, by omega, by omega, hown, hbw, HR.out, HN.out⟩
                case measure => simp [intOf]; omega
          · have h35f : ((s[k].toNat : Int) == 35) = false := by rw [h35]; simpa using hh
            have hdr := Lx.drop_at hget.out
            cases hrun : (Lx.isSmall s[k] || Lx.isGreat s[k] || Lx.isDigit s[k]) with
            | false =>
              rw [Bool.or_eq_false_iff] at hrun
              have hI : Lx.inRun s[k] = (s[k] == 95) := by unfold Lx.inRun; rw [hrun.1, hrun.2]; rfl
              have h95 : ((s[k].toNat : Int) == 95) = (s[k] == 95) := byte_beq _ 95
              have HI : Hid (Lx.inRun s[k] = (s[k] == 95)) := hI
              cases hm : Lx.isMark s[k] with
              | true =>
                have hw : Lx.word (s.data.toList.drop k) = .ok (4, [s[k]]) := by
                  rw [hdr]; simp only [Lx.word]
                  rw [if_neg (by simp [hrun.2]), if_neg (by simp [hrun.1]), if_pos hm]
                have HN : Hid (Lx.Left s.data.toList (ts ++ [⟨4, [s[k]], line, k - f + 1⟩]) line f true (k + 1)) := HL.out.word hget.out hc10 hbl hh hw
                have HM := Lib.hid hm
                have h95f : (s[k] == 95) = false := by
                  rw [beq_eq_false_iff_ne]; intro e; rw [e] at hm; revert hm; decide
                rw [h95f] at h95
                have HX : Hid (s.extract k (k + 1) = ⟨[s[k]].toArray⟩) := extract_one s k hlt
                have HI : Hid (Lx.inRun s[k] = false) := hI.trans h95f
                clear h35 hh hbl hc10 hrun hI hm hw hdr h95f
                go_wp2_with (first
                  | (go_at_call 34; refine (inner_any s[k] _).mono ?_; rintro e w' ⟨rfl, rfl⟩; rw [HI.out])
                  | (go_at_call 37; refine (mark_any s[k] _).mono ?_; rintro e w' ⟨rfl, rfl⟩; rw [HM.out])
                  | (at_builtin; refine wpList_append_own _ rfl _ _ 22 rfl (w.heap.size + 1) 29 i0 _ 4 40 Tryd.underlying22 hi hz0 hz1' hz2 rfl (by decide) _ _ _ rfl (hown.alloc _) ⟨wr.heap.size, 0, none⟩ 1 1 (TokV.cells ⟨4, s.extract k (k + 1), line, (k : Int) - (f : Int) + 1⟩) rfl rfl (new_cells wr (TokV.cells ⟨4, s.extract k (k + 1), line, (k : Int) - (f : Int) + 1⟩) 29) (tok_one _) (by unfold maxLen; omega) (by omega) (by simp; omega) ?_; intro v2 w2 hown2 hg2 _))
                go_roundw
                case rel =>
                  obtain ⟨A2, cap2, hv2⟩ := own_slice hown2
                  have hb2 := below_append (hbw.alloc hzr _) (hown.alloc _) (by omega) (by simp; omega) hg2
                  exact ⟨k + 1, line, f, true, ts ++ [⟨4, [s[k]], line, k - f + 1⟩], A2, cap2, by omega, by go_num, rfl, rfl, rfl, by rw [List.length_append]; exact hv2, by omega, by omega, by rw [List.length_append]; simp; omega,
                    by rw [List.length_append, List.length_singleton, ← hv2, List.map_append, flat_append, List.map_singleton, flat_one, word_v hf (rfl) HX.out]; exact hown2, hb2, keep_app hown hg2 (Nat.le_refl _) HR.out, HN.out⟩
                case measure => simp [intOf]; omega
              | false =>
                have hw : Lx.word (s.data.toList.drop k) = .error 4 := by
                  rw [hdr]; simp only [Lx.word]
                  rw [if_neg (by simp [hrun.2]), if_neg (by simp [hrun.1]), if_neg (by simp [hm])]
                have HB := Lib.hid (HL.out.bad hget.out hc10 hbl hh hw)
                have HM := Lib.hid hm
                clear h35 hh hbl hc10 hrun hm hw hdr
                cases h95c : (s[k] == 95) with
                | false =>
                  rw [h95c] at h95
                  have HI : Hid (Lx.inRun s[k] = false) := hI.trans h95c
                  clear hI h95c
                  go_wp2_with (first
                    | (go_at_call 34; refine (inner_any s[k] _).mono ?_; rintro e w' ⟨rfl, rfl⟩; rw [HI.out])
                    | (go_at_call 37; refine (mark_any s[k] _).mono ?_; rintro e w' ⟨rfl, rfl⟩; rw [HM.out])
                    | (go_at_call 36; refine (badAt_any lexisB _ _ _ _ (by decide)).mono ?_; rintro e w2 ⟨rfl, hb2⟩; have hr2 := (hb2.block _ (Array.getElem?_eq_some_iff.1 HR.out).1).trans HR.out; have c0 := cell_of_row w2 w.heap.size 0 _ _ _ hr2; have c1 := cell_of_row w2 w.heap.size 1 _ _ _ hr2; have c2 := cell_of_row w2 w.heap.size 2 _ _ _ hr2; have c3 := cell_of_row w2 w.heap.size 3 _ _ _ hr2; have g0 := block_frozen hr2 0; have g1 := block_frozen hr2 1; have g2 := block_frozen hr2 2; have g3 := block_frozen hr2 3))
                  obtain ⟨q0, q1, q2, q3⟩ := four_set w2 w.heap.size (.int .i64 (4 : Int)) (.int .i64 (line : Int)) (.int .i64 ((k : Int) - (f : Int) + 1)) (.string (lexisB ++ ⟨#[32]⟩)) (by rw [c0]; rfl) (by rw [c1]; rfl) (by rw [c2]; rfl) (by rw [c3]; rfl)
                  refine bodyPost_ret (v := .tuple #[.slice none 0 0, refErr (4 : Int) (line : Int) ((k : Int) - (f : Int) + 1) (lexisB ++ ⟨#[32]⟩)]) (by simp [results, Tryd.results17, go_sem, q0, q1, q2, q3]) rfl ?_
                  exact refScan_bad hbw hb2 hs HB.out hf
                | true =>
                  rw [h95c] at h95
                  have HI : Hid (Lx.inRun s[k] = true) := hI.trans h95c
                  clear hI h95c
                  go_wp2_with (first
                    | (go_at_call 34; refine (inner_any s[k] _).mono ?_; rintro e w' ⟨rfl, rfl⟩; rw [HI.out])
                    | (go_at_call 37; refine (mark_any s[k] _).mono ?_; rintro e w' ⟨rfl, rfl⟩; rw [HM.out])
                    | (go_at_call 36; refine (badAt_any lexisB _ _ _ _ (by decide)).mono ?_; rintro e w2 ⟨rfl, hb2⟩; have hr2 := (hb2.block _ (Array.getElem?_eq_some_iff.1 HR.out).1).trans HR.out; have c0 := cell_of_row w2 w.heap.size 0 _ _ _ hr2; have c1 := cell_of_row w2 w.heap.size 1 _ _ _ hr2; have c2 := cell_of_row w2 w.heap.size 2 _ _ _ hr2; have c3 := cell_of_row w2 w.heap.size 3 _ _ _ hr2; have g0 := block_frozen hr2 0; have g1 := block_frozen hr2 1; have g2 := block_frozen hr2 2; have g3 := block_frozen hr2 3))
                  obtain ⟨q0, q1, q2, q3⟩ := four_set w2 w.heap.size (.int .i64 (4 : Int)) (.int .i64 (line : Int)) (.int .i64 ((k : Int) - (f : Int) + 1)) (.string (lexisB ++ ⟨#[32]⟩)) (by rw [c0]; rfl) (by rw [c1]; rfl) (by rw [c2]; rfl) (by rw [c3]; rfl)
                  refine bodyPost_ret (v := .tuple #[.slice none 0 0, refErr (4 : Int) (line : Int) ((k : Int) - (f : Int) + 1) (lexisB ++ ⟨#[32]⟩)]) (by simp [results, Tryd.results17, go_sem, q0, q1, q2, q3]) rfl ?_
                  exact refScan_bad hbw hb2 hs HB.out hf
            | true =>
              have hI : Lx.inRun s[k] = true := by unfold Lx.inRun; rw [hrun]; rfl
              have HI := Lib.hid hI
              have h95 : ((s[k].toNat : Int) == 95) = false := by
                rw [b95]
                show (s[k] == 95) = false
                rw [beq_eq_false_iff_ne]; intro e; rw [e] at hrun; revert hrun; decide
              have h95n : ((s[k].toNat : Int) != 95) = true := by rw [bne, h95]; rfl
              have HRun := Lib.hid hrun
              have H10 := Lib.hid hc10
              have HBl := Lib.hid hbl
              have HH := Lib.hid hh
              have HDr := Lib.hid hdr
              clear h35 hh hbl hc10 hrun hI hdr
              go_wp2_with (first
                | (go_at_call 34; refine (inner_any s[k] _).mono ?_; rintro e w' ⟨rfl, rfl⟩; rw [HI.out]))
              go_loop [10] (fun i => ∃ j : Nat, k + 1 ≤ j ∧ j ≤ s.size ∧ i = .int .i64 j ∧ AllRun s.data.toList k j) (fun i => s.size - (intOf i).toNat)
              case atStart => exact ⟨k + 1, Nat.le_refl _, by omega, by go_num, Lx.next_all (p := fun c => Lx.inRun c = true) (fun i c a b => by omega) hget.out HI.out⟩
              case round =>
                obtain ⟨j, hkj, hj, rfl, hno⟩ := hrel
                have HNo := Lib.hid hno
                clear hno
                by_cases hjs : j < s.size ∧ ∃ h : j < s.size, Lx.inRun s[j] = true
                · obtain ⟨hjs, _, hc⟩ := hjs
                  have HC := Lib.hid hc
                  clear hc
                  go_wp2_with (first
                    | (go_at_call 34; refine (inner_any s[j] _).mono ?_; rintro e w' ⟨rfl, rfl⟩; rw [HC.out]))
                  go_round
                  case rel =>
                    exact ⟨j + 1, by omega, by omega, by go_num, Lx.next_all (p := fun c => Lx.inRun c = true) HNo.out (bytes_get s j hjs) HC.out⟩
                  case measure => simp [intOf]; omega
                · have hstop : ∀ c, s.data.toList[j]? = some c → Lx.inRun c = false := fun c h => by
                    have h1 := (List.getElem?_eq_some_iff.1 h).1
                    rw [bytes_size] at h1
                    rw [bytes_get s j h1] at h
                    rw [← Option.some.inj h]
                    cases hc : Lx.inRun s[j] with
                    | false => rfl
                    | true => exact absurd ⟨h1, h1, hc⟩ hjs
                  have hr := Lx.run_stop_at s.data.toList k j (by omega) (by rw [bytes_size]; exact hj) HNo.out hstop
                  have hX : (s.extract k j).data.toList = Lx.run (s.data.toList.drop k) := by rw [hr]; exact extract_mid s k j
                  have HX := Lib.hid hX
                  have hrl : (Lx.run (s.data.toList.drop k)).length = j - k := by rw [hr, List.length_take, List.length_drop, bytes_size]; omega
                  have HRL := Lib.hid hrl
                  have HE : Hid (s.extract k j = ⟨(Lx.run (s.data.toList.drop k)).toArray⟩) := by show _ = _; rw [← hX, bytes_mk]
                  have hway : (¬ j < s.size) ∨ ∃ h : j < s.size, Lx.inRun s[j] = false := by
                    by_cases h : j < s.size
                    · exact .inr ⟨h, hstop _ (bytes_get s j h)⟩
                    · exact .inl h
                  clear hjs hstop hr hX hrl
                  cases hdg : Lx.isDigit s[k] with
                  | true =>
                    have hlet : (Lx.isSmall s[k] || Lx.isGreat s[k]) = false := digit_letter hdg
                    have HLet := Lib.hid hlet
                    by_cases hn : Lx.numCode (Lx.run (s.data.toList.drop k)) = 0
                    · have hw : Lx.word (s.data.toList.drop k) = .ok (3, Lx.run (s.data.toList.drop k)) := by
                        have := HDr.out
                        rw [this] at hn ⊢
                        simp only [Lx.word]
                        rw [if_pos hdg, if_pos hn]
                      have HN : Hid (Lx.Left s.data.toList (ts ++ [⟨3, Lx.run (s.data.toList.drop k), line, k - f + 1⟩]) line f true j) := by
                        have := HL.out.word hget.out H10.out HBl.out HH.out hw
                        rw [HRL.out, show k + (j - k) = j by omega] at this
                        exact this
                      have HC := Lib.hid hn
                      clear hlet hdg hn hw
                      rcases hway with hjn | ⟨hjs, hjr⟩
                      · go_wp2_with (first
                          | (go_at_call 34; refine (inner_any s[j] _).mono ?_; rintro e w' ⟨rfl, rfl⟩; rw [HJ.out])
                          | (go_at_call 35; refine (letter_any s[k] _).mono ?_; rintro e w' ⟨rfl, rfl⟩; rw [HLet.out])
                          | (go_at_call 23; refine (refNumber_any _ _ ?_).mono ?_; (simp [maxLen]; omega); rintro e w' ⟨rfl, rfl⟩; rw [HX.out, HC.out])
                          | (at_builtin; refine wpList_append_own _ rfl _ _ 22 rfl (w.heap.size + 1) 29 i0 _ 4 40 Tryd.underlying22 hi hz0 hz1' hz2 rfl (by decide) _ _ _ rfl (hown.alloc _) ⟨wr.heap.size, 0, none⟩ 1 1 (TokV.cells ⟨3, s.extract k j, line, (k : Int) - (f : Int) + 1⟩) rfl rfl (new_cells wr (TokV.cells ⟨3, s.extract k j, line, (k : Int) - (f : Int) + 1⟩) 29) (tok_one _) (by unfold maxLen; omega) (by omega) (by simp; omega) ?_; intro v2 w2 hown2 hg2 _))
                        go_roundw
                        case rel =>
                          obtain ⟨A2, cap2, hv2⟩ := own_slice hown2
                          have hb2 := below_append (hbw.alloc hzr _) (hown.alloc _) (by omega) (by simp; omega) hg2
                          exact ⟨j, line, f, true, ts ++ [⟨3, Lx.run (s.data.toList.drop k), line, k - f + 1⟩], A2, cap2, by omega, by go_num, rfl, rfl, rfl, by rw [List.length_append]; exact hv2, by omega, by omega, by rw [List.length_append]; simp; omega,
                            by rw [List.length_append, List.length_singleton, ← hv2, List.map_append, flat_append, List.map_singleton, flat_one, word_v hf rfl HE.out]; exact hown2, hb2, keep_app hown hg2 (Nat.le_refl _) HR.out, HN.out⟩
                        case measure => simp [intOf]; omega
                      · have HJ := Lib.hid hjr
                        clear hjr
                        go_wp2_with (first
                          | (go_at_call 34; refine (inner_any s[j] _).mono ?_; rintro e w' ⟨rfl, rfl⟩; rw [HJ.out])
                          | (go_at_call 35; refine (letter_any s[k] _).mono ?_; rintro e w' ⟨rfl, rfl⟩; rw [HLet.out])
                          | (go_at_call 23; refine (refNumber_any _ _ ?_).mono ?_; (simp [maxLen]; omega); rintro e w' ⟨rfl, rfl⟩; rw [HX.out, HC.out])
                          | (at_builtin; refine wpList_append_own _ rfl _ _ 22 rfl (w.heap.size + 1) 29 i0 _ 4 40 Tryd.underlying22 hi hz0 hz1' hz2 rfl (by decide) _ _ _ rfl (hown.alloc _) ⟨wr.heap.size, 0, none⟩ 1 1 (TokV.cells ⟨3, s.extract k j, line, (k : Int) - (f : Int) + 1⟩) rfl rfl (new_cells wr (TokV.cells ⟨3, s.extract k j, line, (k : Int) - (f : Int) + 1⟩) 29) (tok_one _) (by unfold maxLen; omega) (by omega) (by simp; omega) ?_; intro v2 w2 hown2 hg2 _))
                        go_roundw
                        case rel =>
                          obtain ⟨A2, cap2, hv2⟩ := own_slice hown2
                          have hb2 := below_append (hbw.alloc hzr _) (hown.alloc _) (by omega) (by simp; omega) hg2
                          exact ⟨j, line, f, true, ts ++ [⟨3, Lx.run (s.data.toList.drop k), line, k - f + 1⟩], A2, cap2, by omega, by go_num, rfl, rfl, rfl, by rw [List.length_append]; exact hv2, by omega, by omega, by rw [List.length_append]; simp; omega,
                            by rw [List.length_append, List.length_singleton, ← hv2, List.map_append, flat_append, List.map_singleton, flat_one, word_v hf rfl HE.out]; exact hown2, hb2, keep_app hown hg2 (Nat.le_refl _) HR.out, HN.out⟩
                        case measure => simp [intOf]; omega
                    · have hn3 := Lx.numCode_three (Lx.run (s.data.toList.drop k))
                      obtain ⟨cd, hcd⟩ : ∃ cd, Lx.numCode (Lx.run (s.data.toList.drop k)) = cd := ⟨_, rfl⟩
                      have hcn : ((cd : Int) == 0) = false := by rw [beq_eq_false_iff_ne]; omega
                      have hw : Lx.word (s.data.toList.drop k) = .error cd := by
                        have := HDr.out
                        rw [this] at hn hcd ⊢
                        simp only [Lx.word]
                        rw [if_pos hdg, if_neg hn, hcd]
                      have HB := Lib.hid (HL.out.bad hget.out H10.out HBl.out HH.out hw)
                      have HC := Lib.hid hcd
                      clear hlet hdg hn hw hn3 hcd
                      rcases hway with hjn | ⟨hjs, hjr⟩
                      · go_wp2_with (first
                          | (go_at_call 34; refine (inner_any s[j] _).mono ?_; rintro e w' ⟨rfl, rfl⟩; rw [HJ.out])
                          | (go_at_call 35; refine (letter_any s[k] _).mono ?_; rintro e w' ⟨rfl, rfl⟩; rw [HLet.out])
                          | (go_at_call 23; refine (refNumber_any _ _ ?_).mono ?_; (simp [maxLen]; omega); rintro e w' ⟨rfl, rfl⟩; rw [HX.out, HC.out])
                          | (go_at_call 36; refine (badAt_any lexisB _ _ _ _ (by decide)).mono ?_; rintro e w2 ⟨rfl, hb2⟩; have hr2 := (hb2.block _ (Array.getElem?_eq_some_iff.1 HR.out).1).trans HR.out; have c0 := cell_of_row w2 w.heap.size 0 _ _ _ hr2; have c1 := cell_of_row w2 w.heap.size 1 _ _ _ hr2; have c2 := cell_of_row w2 w.heap.size 2 _ _ _ hr2; have c3 := cell_of_row w2 w.heap.size 3 _ _ _ hr2; have g0 := block_frozen hr2 0; have g1 := block_frozen hr2 1; have g2 := block_frozen hr2 2; have g3 := block_frozen hr2 3))
                        obtain ⟨q0, q1, q2, q3⟩ := four_set w2 w.heap.size (.int .i64 (cd : Int)) (.int .i64 (line : Int)) (.int .i64 ((k : Int) - (f : Int) + 1)) (.string (lexisB ++ ⟨#[32]⟩)) (by rw [c0]; rfl) (by rw [c1]; rfl) (by rw [c2]; rfl) (by rw [c3]; rfl)
                        refine bodyPost_ret (v := .tuple #[.slice none 0 0, refErr (cd : Int) (line : Int) ((k : Int) - (f : Int) + 1) (lexisB ++ ⟨#[32]⟩)]) (by simp [results, Tryd.results17, go_sem, q0, q1, q2, q3]) rfl ?_
                        exact refScan_bad hbw hb2 hs HB.out hf
                      · have HJ := Lib.hid hjr
                        clear hjr
                        go_wp2_with (first
                          | (go_at_call 34; refine (inner_any s[j] _).mono ?_; rintro e w' ⟨rfl, rfl⟩; rw [HJ.out])
                          | (go_at_call 35; refine (letter_any s[k] _).mono ?_; rintro e w' ⟨rfl, rfl⟩; rw [HLet.out])
                          | (go_at_call 23; refine (refNumber_any _ _ ?_).mono ?_; (simp [maxLen]; omega); rintro e w' ⟨rfl, rfl⟩; rw [HX.out, HC.out])
                          | (go_at_call 36; refine (badAt_any lexisB _ _ _ _ (by decide)).mono ?_; rintro e w2 ⟨rfl, hb2⟩; have hr2 := (hb2.block _ (Array.getElem?_eq_some_iff.1 HR.out).1).trans HR.out; have c0 := cell_of_row w2 w.heap.size 0 _ _ _ hr2; have c1 := cell_of_row w2 w.heap.size 1 _ _ _ hr2; have c2 := cell_of_row w2 w.heap.size 2 _ _ _ hr2; have c3 := cell_of_row w2 w.heap.size 3 _ _ _ hr2; have g0 := block_frozen hr2 0; have g1 := block_frozen hr2 1; have g2 := block_frozen hr2 2; have g3 := block_frozen hr2 3))
                        obtain ⟨q0, q1, q2, q3⟩ := four_set w2 w.heap.size (.int .i64 (cd : Int)) (.int .i64 (line : Int)) (.int .i64 ((k : Int) - (f : Int) + 1)) (.string (lexisB ++ ⟨#[32]⟩)) (by rw [c0]; rfl) (by rw [c1]; rfl) (by rw [c2]; rfl) (by rw [c3]; rfl)
                        refine bodyPost_ret (v := .tuple #[.slice none 0 0, refErr (cd : Int) (line : Int) ((k : Int) - (f : Int) + 1) (lexisB ++ ⟨#[32]⟩)]) (by simp [results, Tryd.results17, go_sem, q0, q1, q2, q3]) rfl ?_
                        exact refScan_bad hbw hb2 hs HB.out hf
                  | false =>
                    have hlet : (Lx.isSmall s[k] || Lx.isGreat s[k]) = true := by have := HRun.out; rwa [hdg, Bool.or_false] at this
                    have HLet := Lib.hid hlet
                    by_cases h32 : j - k ≤ 32
                    · have hw : Lx.word (s.data.toList.drop k) = .ok (2, Lx.run (s.data.toList.drop k)) := by
                        have h1 := HDr.out
                        have h2 := HRL.out
                        rw [h1] at h2 ⊢
                        simp only [Lx.word]
                        rw [if_neg (by simp [hdg]), if_pos hlet, if_pos (by omega)]
                      have HN : Hid (Lx.Left s.data.toList (ts ++ [⟨2, Lx.run (s.data.toList.drop k), line, k - f + 1⟩]) line f true j) := by
                        have := HL.out.word hget.out H10.out HBl.out HH.out hw
                        rw [HRL.out, show k + (j - k) = j by omega] at this
                        exact this
                      have h32i : (j : Int) - (k : Int) ≤ 32 := by omega
                      clear hlet hdg hw h32
                      rcases hway with hjn | ⟨hjs, hjr⟩
                      · go_wp2_with (first
                          | (go_at_call 34; refine (inner_any s[j] _).mono ?_; rintro e w' ⟨rfl, rfl⟩; rw [HJ.out])
                          | (go_at_call 35; refine (letter_any s[k] _).mono ?_; rintro e w' ⟨rfl, rfl⟩; rw [HLet.out])
                          | (at_builtin; refine wpList_append_own _ rfl _ _ 22 rfl (w.heap.size + 1) 29 i0 _ 4 40 Tryd.underlying22 hi hz0 hz1' hz2 rfl (by decide) _ _ _ rfl (hown.alloc _) ⟨wr.heap.size, 0, none⟩ 1 1 (TokV.cells ⟨2, s.extract k j, line, (k : Int) - (f : Int) + 1⟩) rfl rfl (new_cells wr (TokV.cells ⟨2, s.extract k j, line, (k : Int) - (f : Int) + 1⟩) 29) (tok_one _) (by unfold maxLen; omega) (by omega) (by simp; omega) ?_; intro v2 w2 hown2 hg2 _))
                        go_roundw
                        case rel =>
                          obtain ⟨A2, cap2, hv2⟩ := own_slice hown2
                          have hb2 := below_append (hbw.alloc hzr _) (hown.alloc _) (by omega) (by simp; omega) hg2
                          exact ⟨j, line, f, true, ts ++ [⟨2, Lx.run (s.data.toList.drop k), line, k - f + 1⟩], A2, cap2, by omega, by go_num, rfl, rfl, rfl, by rw [List.length_append]; exact hv2, by omega, by omega, by rw [List.length_append]; simp; omega,
                            by rw [List.length_append, List.length_singleton, ← hv2, List.map_append, flat_append, List.map_singleton, flat_one, word_v hf rfl HE.out]; exact hown2, hb2, keep_app hown hg2 (Nat.le_refl _) HR.out, HN.out⟩
                        case measure => simp [intOf]; omega
                      · have HJ := Lib.hid hjr
                        clear hjr
                        go_wp2_with (first
                          | (go_at_call 34; refine (inner_any s[j] _).mono ?_; rintro e w' ⟨rfl, rfl⟩; rw [HJ.out])
                          | (go_at_call 35; refine (letter_any s[k] _).mono ?_; rintro e w' ⟨rfl, rfl⟩; rw [HLet.out])
                          | (at_builtin; refine wpList_append_own _ rfl _ _ 22 rfl (w.heap.size + 1) 29 i0 _ 4 40 Tryd.underlying22 hi hz0 hz1' hz2 rfl (by decide) _ _ _ rfl (hown.alloc _) ⟨wr.heap.size, 0, none⟩ 1 1 (TokV.cells ⟨2, s.extract k j, line, (k : Int) - (f : Int) + 1⟩) rfl rfl (new_cells wr (TokV.cells ⟨2, s.extract k j, line, (k : Int) - (f : Int) + 1⟩) 29) (tok_one _) (by unfold maxLen; omega) (by omega) (by simp; omega) ?_; intro v2 w2 hown2 hg2 _))
                        go_roundw
                        case rel =>
                          obtain ⟨A2, cap2, hv2⟩ := own_slice hown2
                          have hb2 := below_append (hbw.alloc hzr _) (hown.alloc _) (by omega) (by simp; omega) hg2
                          exact ⟨j, line, f, true, ts ++ [⟨2, Lx.run (s.data.toList.drop k), line, k - f + 1⟩], A2, cap2, by omega, by go_num, rfl, rfl, rfl, by rw [List.length_append]; exact hv2, by omega, by omega, by rw [List.length_append]; simp; omega,
                            by rw [List.length_append, List.length_singleton, ← hv2, List.map_append, flat_append, List.map_singleton, flat_one, word_v hf rfl HE.out]; exact hown2, hb2, keep_app hown hg2 (Nat.le_refl _) HR.out, HN.out⟩
                        case measure => simp [intOf]; omega
                    · have hw : Lx.word (s.data.toList.drop k) = .error 2 := by
                        have h1 := HDr.out
                        have h2 := HRL.out
                        rw [h1] at h2 ⊢
                        simp only [Lx.word]
                        rw [if_neg (by simp [hdg]), if_pos hlet, if_neg (by omega)]
                      have HB := Lib.hid (HL.out.bad hget.out H10.out HBl.out HH.out hw)
                      have h32i : (32 : Int) < (j : Int) - (k : Int) := by omega
                      clear hlet hdg hw h32
                      rcases hway with hjn | ⟨hjs, hjr⟩
                      · go_wp2_with (first
                          | (go_at_call 34; refine (inner_any s[j] _).mono ?_; rintro e w' ⟨rfl, rfl⟩; rw [HJ.out])
                          | (go_at_call 35; refine (letter_any s[k] _).mono ?_; rintro e w' ⟨rfl, rfl⟩; rw [HLet.out])
                          | (go_at_call 36; refine (badAt_any lexisB _ _ _ _ (by decide)).mono ?_; rintro e w2 ⟨rfl, hb2⟩; have hr2 := (hb2.block _ (Array.getElem?_eq_some_iff.1 HR.out).1).trans HR.out; have c0 := cell_of_row w2 w.heap.size 0 _ _ _ hr2; have c1 := cell_of_row w2 w.heap.size 1 _ _ _ hr2; have c2 := cell_of_row w2 w.heap.size 2 _ _ _ hr2; have c3 := cell_of_row w2 w.heap.size 3 _ _ _ hr2; have g0 := block_frozen hr2 0; have g1 := block_frozen hr2 1; have g2 := block_frozen hr2 2; have g3 := block_frozen hr2 3))
                        obtain ⟨q0, q1, q2, q3⟩ := four_set w2 w.heap.size (.int .i64 (2 : Int)) (.int .i64 (line : Int)) (.int .i64 ((k : Int) - (f : Int) + 1)) (.string (lexisB ++ ⟨#[32]⟩)) (by rw [c0]; rfl) (by rw [c1]; rfl) (by rw [c2]; rfl) (by rw [c3]; rfl)
                        refine bodyPost_ret (v := .tuple #[.slice none 0 0, refErr (2 : Int) (line : Int) ((k : Int) - (f : Int) + 1) (lexisB ++ ⟨#[32]⟩)]) (by simp [results, Tryd.results17, go_sem, q0, q1, q2, q3]) rfl ?_
                        exact refScan_bad hbw hb2 hs HB.out hf
                      · have HJ := Lib.hid hjr
                        clear hjr
                        go_wp2_with (first
                          | (go_at_call 34; refine (inner_any s[j] _).mono ?_; rintro e w' ⟨rfl, rfl⟩; rw [HJ.out])
                          | (go_at_call 35; refine (letter_any s[k] _).mono ?_; rintro e w' ⟨rfl, rfl⟩; rw [HLet.out])
                          | (go_at_call 36; refine (badAt_any lexisB _ _ _ _ (by decide)).mono ?_; rintro e w2 ⟨rfl, hb2⟩; have hr2 := (hb2.block _ (Array.getElem?_eq_some_iff.1 HR.out).1).trans HR.out; have c0 := cell_of_row w2 w.heap.size 0 _ _ _ hr2; have c1 := cell_of_row w2 w.heap.size 1 _ _ _ hr2; have c2 := cell_of_row w2 w.heap.size 2 _ _ _ hr2; have c3 := cell_of_row w2 w.heap.size 3 _ _ _ hr2; have g0 := block_frozen hr2 0; have g1 := block_frozen hr2 1; have g2 := block_frozen hr2 2; have g3 := block_frozen hr2 3))
                        obtain ⟨q0, q1, q2, q3⟩ := four_set w2 w.heap.size (.int .i64 (2 : Int)) (.int .i64 (line : Int)) (.int .i64 ((k : Int) - (f : Int) + 1)) (.string (lexisB ++ ⟨#[32]⟩)) (by rw [c0]; rfl) (by rw [c1]; rfl) (by rw [c2]; rfl) (by rw [c3]; rfl)
                        refine bodyPost_ret (v := .tuple #[.slice none 0 0, refErr (2 : Int) (line : Int) ((k : Int) - (f : Int) + 1) (lexisB ++ ⟨#[32]⟩)]) (by simp [results, Tryd.results17, go_sem, q0, q1, q2, q3]) rfl ?_
                        exact refScan_bad hbw hb2 hs HB.out hf
end Go.Proofs.YtinobikikineiaaDoor
