/- The walks of lexis's 'Lines' and of the document's. -/
import Derived.Test.YtinobikikineiaaDoorAlive
import Derived.Test.YtinobikikineiaaDoorSame
import Derived.WalkSpells
namespace Go.Proofs.YtinobikikineiaaDoor
open Go.RowKit Go.Shelf

namespace Lx
/-- The words of each line: 'out' is there, 'row' is begun. -/
def linesGo (out : List (List TokV)) (row : List TokV) : List TokV → List (List TokV)
  | [] => if row.isEmpty then out else out ++ [row]
  | t :: ts => if t.kind = 1 then linesGo (out ++ [row]) [] ts else linesGo out (row ++ [t]) ts
end Lx

theorem reads4_news {w : World} {A : Addr} {n c : Nat} {ts : List TokV} (h : Reads4 w (.slice (some A) n c) ts) : ∀ j u, (flat ts)[j]? = some u → w.cell? (A.add j) = some u := by
  obtain ⟨A', c', hv, _, h⟩ := h
  injection hv with h1 h2 h3
  intro j u hu
  have hne : ts ≠ [] := by
    rintro rfl
    simp [flat] at hu
  obtain ⟨b, off, hA, hc⟩ := h hne
  rw [hA] at h1
  injection h1 with h1
  subst h1
  have ha : ((⟨b, off, none⟩ : Addr).add j) = ⟨b, off + j, none⟩ := by
    unfold Addr.add
    split
    · rename_i h0; subst h0; rfl
    · rfl
  rw [ha]
  exact hc j u hu
set_option maxRecDepth 100000 in
set_option maxHeartbeats 1000000 in
theorem cloneTok_any (A : Addr) (n c : Nat) (ts : List TokV) (w : World) (hr : Reads4 w (.slice (some A) n c) ts) (hn : n ≤ 5000) :
    Calls Tryd.prog 33 #[.slice (some A) n c] w fun e w' => ∃ v, e = .returned v ∧ Below w.heap.size w w' ∧ w'.ownsRow w.heap.size 29 4 v n (flat ts) ∧ v ≠ .slice none 0 0 := by
  obtain ⟨i0, hi, hz0, hz1, hz2⟩ := info_parts infoTok
  have hl := reads4_len hr
  have hlt : ∀ b o v, w.cell? ⟨b, o, none⟩ = some v → b < w.heap.size := fun b o v h => cell_lt h
  have HR := Lib.hid (reads4_news hr)
  have HF : Hid ((flat ts).length = n * 4) := by show _ = _; rw [flat_length, hl]
  clear hl
  have hq := fun (w : World) => Lib.run_eql_slice_nil (P := Tryd.prog) w 22 29 (some A) n c 0 0 Tryd.underlying22
  go_enter Tryd.func33, Tryd.ntmps33
  have hlen : (n : Int) ≤ 5000 := by omega
  have hown0 : (w.alloc (.cells #[] 29)).ownsRow w.heap.size 29 4 (.slice (some ⟨w.heap.size, 0, none⟩) 0 0) 0 [] := ⟨rfl, .inr ⟨w.heap.size, 0, #[], rfl, Nat.le_refl _, heap_alloc_new w _, Nat.le_refl _, Nat.zero_le _, rfl, rfl⟩⟩
  have HNews : Hid (∀ j u, (flat ts)[j]? = some u → (w.alloc (.cells #[] 29)).cell? (A.add j) = some u) := fun j u hu => by
    have h := HR.out j u hu
    exact (((Below.refl _ w).alloc (Nat.le_refl _) _).cell (World.block_lt_of_cell? w _ h)).trans h
  clear hr hlt
  go_wp2_with (at_builtin; refine wpList_append_own _ rfl _ _ 22 rfl w.heap.size 29 i0 _ 4 40 Tryd.underlying22 hi hz0 hz1 hz2 rfl (by decide) _ _ _ rfl hown0 A n c (flat ts) rfl HF.out HNews.out (flat_oneCell _) (by unfold maxLen; omega) (by omega) (by simp) ?_; intro v2 w2 hown2 hg2 hv2)
  go_ret
  refine ⟨v2, rfl, below_append ((Below.refl _ w).alloc (Nat.le_refl _) _) hown0 (Nat.le_refl _) (by simp) hg2, by rw [Nat.zero_add, List.nil_append] at hown2; exact hown2, fun h => ?_⟩
  have := (hv2.1 h).1
  cases this
theorem infoRow : (Tryd.prog.info? 22).map (fun i => (i.zero, i.size, i.bytes)) = some (some (.slice none 0 0), 1, 24) := by kernel_rfl

/-- A row of words in a block below 'hi'. -/
def RowIn (W : World) (hi : Nat) (u : Value) (r : List TokV) : Prop :=
  ∃ (A : Option Addr) (c : Nat), u = .slice A r.length c ∧ r.length ≤ c ∧ (r ≠ [] → ∃ b off cs, A = some ⟨b, off, none⟩ ∧ W.heap[b]? = some (.cells cs 29 (0, 0)) ∧ b < hi ∧ ∀ j x, (flat r)[j]? = some x → cs[off + j]? = some x)
theorem RowIn.keep {W W' : World} {hi hi' : Nat} {u : Value} {r : List TokV} (h : RowIn W hi u r) (hk : ∀ (b : Nat) (cs : Array Value), b < hi → W.heap[b]? = some (.cells cs 29 (0, 0)) → W'.heap[b]? = some (.cells cs 29 (0, 0))) (hh : hi ≤ hi') : RowIn W' hi' u r := by
  obtain ⟨A, c, hu, hc, h⟩ := h
  refine ⟨A, c, hu, hc, fun hne => ?_⟩
  obtain ⟨b, off, cs, hA, hb, hlt, hx⟩ := h hne
  exact ⟨b, off, cs, hA, hk b cs hlt hb, by omega, hx⟩
theorem RowIn.reads {W : World} {hi : Nat} {u : Value} {r : List TokV} (h : RowIn W hi u r) : Reads4 W u r := by
  obtain ⟨A, c, hu, hc, h⟩ := h
  refine ⟨A, c, hu, hc, fun hne => ?_⟩
  obtain ⟨b, off, cs, hA, hb, _, hx⟩ := h hne
  exact ⟨b, off, hA, fun j x hj => by rw [cell_of_row W b (off + j) cs _ _ hb]; exact hx j x hj⟩
/-- A slice of rows of the call's own. -/
def OutRows (W : World) (base hi : Nat) (v : Value) (rows : List (List TokV)) : Prop :=
  ∃ us : List Value, W.ownsRow base 22 1 v rows.length us ∧ ∀ (j : Nat) (r : List TokV), rows[j]? = some r → ∃ u : Value, us[j]? = some u ∧ RowIn W hi u r
theorem OutRows.nil (W : World) (base hi : Nat) : OutRows W base hi (.slice none 0 0) [] := ⟨[], World.ownsRow_nil _ _ _ _, fun j r h => by simp at h⟩
theorem OutRows.keep {W W' : World} {base hi hi' : Nat} {v : Value} {rows : List (List TokV)} (h : OutRows W base hi v rows) (hk : ∀ (b : Nat) (cs : Array Value) (t : TypeId), W.heap[b]? = some (.cells cs t (0, 0)) → W'.heap[b]? = some (.cells cs t (0, 0))) (hh : hi ≤ hi') : OutRows W' base hi' v rows := by
  obtain ⟨us, h1, h2⟩ := h
  refine ⟨us, own_keep h1 fun k cs t _ hc => hk k cs t hc, fun j r hj => ?_⟩
  obtain ⟨u, h3, h4⟩ := h2 j r hj
  exact ⟨u, h3, h4.keep (fun b cs _ hb => hk b cs _ hb) hh⟩
theorem OutRows.below {W W' : World} {base hi hi' : Nat} {v : Value} {rows : List (List TokV)} (h : OutRows W base hi v rows) (hb : Below W.heap.size W W') (hh : hi ≤ hi') : OutRows W' base hi' v rows :=
  h.keep (fun b _ _ hc => (hb.block b (Array.getElem?_eq_some_iff.1 hc).1).trans hc) hh
/-- What an append to the rows leaves. -/
theorem OutRows.append {W W2 : World} {base hi hi' : Nat} {v v2 u : Value} {rows : List (List TokV)} {r : List TokV} {us : List Value} (h1 : W.ownsRow base 22 1 v rows.length us) (h2 : ∀ (j : Nat) (r : List TokV), rows[j]? = some r → ∃ u : Value, us[j]? = some u ∧ RowIn W hi u r)
    (hr : RowIn W hi u r) (o : Obj) (hown : W2.ownsRow base 22 1 v2 (rows.length + 1) (us ++ [u])) (hg : (W.alloc o).grownBy W2 v.ownBlock) (hh : hi ≤ hi') : OutRows W2 base hi' v2 (rows ++ [r]) := by
  have hk : ∀ b cs, b < hi → W.heap[b]? = some (.cells cs 29 (0, 0)) → W2.heap[b]? = some (.cells cs 29 (0, 0)) := by
    intro b cs _ hb
    have hlt := (Array.getElem?_eq_some_iff.1 hb).1
    refine (hg.block b (by simp; omega) ?_).trans ((Below.heap_alloc _ _ _ hlt).trans hb)
    intro e
    obtain ⟨_, ⟨rfl, _⟩ | ⟨g, cap, cur, rfl, _, hh2, _⟩⟩ := h1
    · cases e
    · simp only [Value.ownBlock, Option.some.injEq] at e
      subst e
      rw [hb] at hh2
      injection hh2 with hh2
      injection hh2 with _ ht _
      exact absurd ht (by decide)
  have hul : us.length = rows.length := by rw [h1.1, Nat.mul_one]
  refine ⟨us ++ [u], by rw [List.length_append]; exact hown, fun j r' hj => ?_⟩
  rw [List.getElem?_append] at hj
  split at hj
  · obtain ⟨x, hx1, hx2⟩ := h2 j r' hj
    exact ⟨x, by rw [List.getElem?_append_left (by omega)]; exact hx1, hx2.keep hk hh⟩
  · rename_i hlt
    have hj0 : j = rows.length := by
      have := (List.getElem?_eq_some_iff.1 hj).1
      simp at this
      omega
    subst hj0
    simp at hj
    subst hj
    exact ⟨u, by rw [List.getElem?_append_right (by omega), hul]; simp, hr.keep hk hh⟩

theorem own_base {w : World} {base base' : Nat} {e : TypeId} {size n : Nat} {v : Value} {xs : List Value} (h : w.ownsRow base e size v n xs) (hb : base' ≤ base) : w.ownsRow base' e size v n xs := by
  obtain ⟨hl, h0 | ⟨g, cap, cur, rfl, hbase, h⟩⟩ := h
  · exact ⟨hl, .inl h0⟩
  · exact ⟨hl, .inr ⟨g, cap, cur, rfl, by omega, h⟩⟩
theorem flat_sub (ts : List TokV) (f m : Nat) : flat ((ts.drop f).take m) = ((flat ts).drop (f * 4)).take (m * 4) := by
  have h1 : ∀ (ts : List TokV) (f : Nat), flat (ts.drop f) = (flat ts).drop (f * 4) := by
    intro ts
    induction ts with
    | nil => intro f; simp [flat]
    | cons t ts ih =>
      intro f
      cases f with
      | zero => simp
      | succ f =>
        have e : flat (t :: ts) = t.cells ++ flat ts := by simp [flat]
        have h4 : t.cells.length = 4 := rfl
        rw [List.drop_succ_cons, ih, e, List.drop_append, List.drop_of_length_le (l := t.cells) (by omega), List.nil_append, h4, show (f + 1) * 4 - 4 = f * 4 by omega]
  have h2 : ∀ (ts : List TokV) (m : Nat), flat (ts.take m) = (flat ts).take (m * 4) := by
    intro ts
    induction ts with
    | nil => intro m; simp [flat]
    | cons t ts ih =>
      intro m
      cases m with
      | zero => simp [flat]
      | succ m =>
        have e : ∀ ts, flat (t :: ts) = t.cells ++ flat ts := fun ts => by simp [flat]
        have h4 : t.cells.length = 4 := rfl
        rw [List.take_succ_cons, e, ih, e, List.take_append, List.take_of_length_le (l := t.cells) (by omega), h4, show (m + 1) * 4 - 4 = m * 4 by omega]
  rw [h2, h1]
theorem row_sub {W : World} {g n k f0 hi : Nat} {cur : Array Value} {ts : List TokV} (hg : W.heap[g]? = some (.cells cur 29 (0, 0))) (ht : cur.toList.take (n * 4) = flat ts) (hl : ts.length = n) (hf : f0 ≤ k) (hk : k ≤ n) (hlt : g < hi) :
    RowIn W hi (.slice (some ⟨g, f0 * 4, none⟩) (k - f0) (k - f0)) ((ts.drop f0).take (k - f0)) := by
  have hlen : ((ts.drop f0).take (k - f0)).length = k - f0 := by rw [List.length_take, List.length_drop]; omega
  refine ⟨some ⟨g, f0 * 4, none⟩, k - f0, by rw [hlen], by omega, fun _ => ⟨g, f0 * 4, cur, rfl, hg, hlt, fun j x hx => ?_⟩⟩
  have hj := (List.getElem?_eq_some_iff.1 hx).1
  rw [flat_length, hlen] at hj
  rw [flat_sub, List.getElem?_take_of_lt hj, List.getElem?_drop, ← ht, List.getElem?_take_of_lt (by omega)] at hx
  rw [← Array.getElem?_toList]
  exact hx
theorem drop_tok {ts : List TokV} {k : Nat} {t : TokV} (h : ts[k]? = some t) : ts.drop k = t :: ts.drop (k + 1) := by
  obtain ⟨hk, h⟩ := List.getElem?_eq_some_iff.1 h
  rw [← h, ← List.drop_eq_getElem_cons hk]
theorem lines_end {ts : List TokV} {rows : List (List TokV)} {row : List TokV} {k : Nat} {t : TokV} (h : Lx.linesGo rows row (ts.drop k) = Lx.linesGo [] [] ts) (ht : ts[k]? = some t) (hk : t.kind = 1) :
    Lx.linesGo (rows ++ [row]) ((ts.drop (k + 1)).take (k + 1 - (k + 1))) (ts.drop (k + 1)) = Lx.linesGo [] [] ts := by
  rw [← h, drop_tok ht]
  simp only [Lx.linesGo]
  rw [if_pos hk, Nat.sub_self]; rfl
theorem lines_word {ts : List TokV} {rows : List (List TokV)} {k f0 : Nat} {t : TokV} (h : Lx.linesGo rows ((ts.drop f0).take (k - f0)) (ts.drop k) = Lx.linesGo [] [] ts) (ht : ts[k]? = some t) (hk : t.kind ≠ 1) (hf : f0 ≤ k) :
    Lx.linesGo rows ((ts.drop f0).take (k + 1 - f0)) (ts.drop (k + 1)) = Lx.linesGo [] [] ts := by
  rw [← h, drop_tok ht]
  simp only [Lx.linesGo]
  rw [if_neg hk]
  congr 1
  rw [show k + 1 - f0 = (k - f0) + 1 by omega, List.take_add_one, List.getElem?_drop, show f0 + (k - f0) = k by omega, ht]
  rfl
theorem lines_done {ts : List TokV} {rows : List (List TokV)} {k f0 : Nat} (h : Lx.linesGo rows ((ts.drop f0).take (k - f0)) (ts.drop k) = Lx.linesGo [] [] ts) (hk : ts.length = k) (hf : k = f0) : rows = Lx.linesGo [] [] ts := by
  rw [← h, List.drop_of_length_le (l := ts) (i := k) (by omega)]
  subst hf
  simp [Lx.linesGo]
theorem lines_more {ts : List TokV} {rows : List (List TokV)} {k f0 : Nat} (h : Lx.linesGo rows ((ts.drop f0).take (k - f0)) (ts.drop k) = Lx.linesGo [] [] ts) (hk : ts.length = k) (hf : f0 < k) : rows ++ [(ts.drop f0).take (k - f0)] = Lx.linesGo [] [] ts := by
  rw [← h, List.drop_of_length_le (l := ts) (i := k) (by omega)]
  simp only [Lx.linesGo]
  rw [if_neg]
  rw [List.isEmpty_iff]
  intro e
  have := congrArg List.length e
  rw [List.length_take, List.length_drop] at this
  simp at this
  omega
theorem lex_step1 {w w1 wr w2 : World} {v : Value} {n : Nat} {us : List Value} {o : Obj} (hbw : Below w.heap.size w wr) (_hzr : w1.heap.size ≤ wr.heap.size) (hus1 : wr.ownsRow w1.heap.size 22 1 v n us) (hs : w.heap.size ≤ w1.heap.size) (hg : (wr.alloc o).grownBy w2 v.ownBlock) : Below w.heap.size w w2 :=
  below_append (hbw.alloc hbw.size _) (hus1.alloc _) hs (by have := hbw.size; simp; omega) hg
theorem lex_step {w w1 wr w2 : World} {v v2 u : Value} {rows : List (List TokV)} {r : List TokV} {us : List Value} {o o2 c : Obj} {g : Nat} (hbw : Below w.heap.size w wr) (hzr : w1.heap.size ≤ wr.heap.size) (hus1 : wr.ownsRow w1.heap.size 22 1 v rows.length us)
    (h2 : ∀ (j : Nat) (r : List TokV), rows[j]? = some r → ∃ u : Value, us[j]? = some u ∧ RowIn wr w1.heap.size u r) (hr : RowIn wr w1.heap.size u r) (hown : w2.ownsRow w1.heap.size 22 1 v2 (rows.length + 1) (us ++ [u])) (hg : ((wr.alloc o).alloc o2).grownBy w2 v.ownBlock) (hs : w.heap.size ≤ w1.heap.size)
    (hG : wr.heap[g]? = some c) (hgl : g < w1.heap.size := by omega) : OutRows w2 w1.heap.size w1.heap.size v2 (rows ++ [r]) ∧ Below w.heap.size w w2 ∧ w1.heap.size ≤ w2.heap.size ∧ w2.heap[g]? = some c := by
  refine ⟨OutRows.append (W := wr.alloc o) (hus1.alloc _) (fun j r hj => ?_) (hr.keep (fun b cs _ h => alloc_old h _) (Nat.le_refl _)) o2 hown hg (Nat.le_refl _), below_append ((hbw.alloc hbw.size _).alloc (by have := hbw.size; simp; omega) _) ((hus1.alloc _).alloc _) hs (by have := hbw.size; simp; omega) hg, ?_, ?_⟩
  · obtain ⟨u, h3, h4⟩ := h2 j r hj
    exact ⟨u, h3, h4.keep (fun b cs _ h => alloc_old h _) (Nat.le_refl _)⟩
  · have := hg.size; simp at this; omega
  · have hlt := (Array.getElem?_eq_some_iff.1 hG).1
    exact (hg.block g (by simp; omega) (fun e => by have := (own_lt hus1 _ e.symm).1; omega)).trans (alloc_old (alloc_old hG _) _)

/-- What the loop of lexis's Lines holds at a round's head (kept shut). -/
def LexAt (w w1 : World) (g : Nat) (cur : Array Value) (ts : List TokV) (n : Nat) (v f i : Value) (wr : World) : Prop :=
  ∃ (k f0 : Nat) (rows : List (List TokV)) (A : Option Addr) (cap : Nat), k ≤ n ∧ f0 ≤ k ∧ i = .int .i64 k ∧ f = .int .i64 f0 ∧ v = .slice A rows.length cap ∧ rows.length ≤ k ∧ OutRows wr w1.heap.size w1.heap.size (.slice A rows.length cap) rows ∧
    Below w.heap.size w wr ∧ w1.heap.size ≤ wr.heap.size ∧ wr.heap[g]? = some (.cells cur 29 (0, 0)) ∧ Lx.linesGo rows ((ts.drop f0).take (k - f0)) (ts.drop k) = Lx.linesGo [] [] ts

set_option maxRecDepth 100000 in
set_option maxHeartbeats 2000000 in
theorem lexLines_some (A0 : Addr) (n c : Nat) (ts : List TokV) (w : World) (hr : Reads4 w (.slice (some A0) n c) ts) (hn : n ≤ 5000) :
    Calls Tryd.prog 15 #[.slice (some A0) n c] w fun e w' => ∃ v, e = .returned v ∧ Below w.heap.size w w' ∧ OutRows w' w.heap.size w'.heap.size v (Lx.linesGo [] [] ts) := by
  obtain ⟨i0, hi, hz0, hz1, hz2⟩ := info_parts infoRow
  have hl := Lib.hid (reads4_len hr)
  go_enter Tryd.func15, Tryd.ntmps15
  go_wp2_with (first
    | (go_at_call 33; refine (cloneTok_any A0 n c ts _ hr hn).mono ?_; rintro e w1 ⟨v1, rfl, hb1, hown1, hne1⟩; obtain ⟨hfl, ⟨hv, _⟩ | ⟨g, cap, cur, rfl, hgb, hgh, hgc, hgm, hgs, hgt⟩⟩ := hown1; exact absurd hv hne1))
  have HT := Lib.hid hgt
  have HC : Hid (cur.size = cap * 4) := hgs
  have hglt := (Array.getElem?_eq_some_iff.1 hgh).1
  have HH := Lib.hid hgh
  clear hgt hgs hne1 hfl hgh
  go_loopw [4, 5, 12] (fun v f i wr => LexAt w w1 g cur ts n v f i wr) (fun _ _ i _ => n - (intOf i).toNat)
  case atStart => exact ⟨0, 0, [], none, 0, Nat.zero_le _, Nat.le_refl _, rfl, rfl, rfl, Nat.le_refl _, OutRows.nil _ _ _, hb1, Nat.le_refl _, HH.out, by simp⟩
  case round =>
    obtain ⟨k, f0, rows, A, rc, hk, hf, rfl, rfl, rfl, hrk, hout, hbw, hzr, hgr, hgo⟩ := hrel
    have HG := Lib.hid hgr
    have HGo := Lib.hid hgo
    clear hgr hgo
    by_cases hlt : k < n
    · obtain ⟨t, ht⟩ : ∃ t, ts[k]? = some t := ⟨_, List.getElem?_eq_getElem (by rw [hl.out]; exact hlt)⟩
      have hcell : ∀ j x, j < 4 → t.cells[j]? = some x → wr.cell? ⟨g, k * 4 + j, none⟩ = some x := by
        intro j x hj hx
        rw [cell_of_row wr g (k * 4 + j) cur _ _ HG.out, ← Array.getElem?_toList, ← hx, ← flat_cells ts k t ht j hj, ← HT.out, List.getElem?_take_of_lt (by omega)]
      have c0 := hcell 0 _ (by omega) rfl
      have c1 := hcell 1 _ (by omega) rfl
      have c2 := hcell 2 _ (by omega) rfl
      have c3 := hcell 3 _ (by omega) rfl
      rw [Nat.add_zero] at c0
      have HTK := Lib.hid ht
      clear hcell ht
      by_cases hk1 : t.kind = 1
      · have t1 : (t.kind == 1) = true := by simp [hk1]
        have HK := Lib.hid hk1
        obtain ⟨us, hus1, hus2⟩ := hout
        have HUS := Lib.hid hus2
        clear hk1 hus2
        by_cases hkf : k = f0
        · have HU : Hid (RowIn wr w1.heap.size (.slice (some ⟨g, 0, none⟩) 0 0) ((ts.drop f0).take (k - f0))) := ⟨some ⟨g, 0, none⟩, 0, by rw [hkf, Nat.sub_self]; rfl, by rw [hkf, Nat.sub_self]; exact Nat.le_refl _, fun h => absurd (by rw [hkf, Nat.sub_self]; rfl) h⟩
          have HN := Lib.hid (lines_end (HGo.out) HTK.out HK.out)
          subst hkf
          go_wp2_with (at_builtin; refine wpList_append_own _ rfl _ _ 33 rfl w1.heap.size 22 i0 _ 1 24 Tryd.underlying33 hi hz0 hz1 hz2 rfl (by decide) _ _ _ rfl ((hus1.alloc _).alloc _) ⟨wr.heap.size + 1, 0, none⟩ 1 1 [.slice (some ⟨g, 0, none⟩) 0 0] rfl rfl (new_cells2 wr (.cells (TokV.cells t).toArray 29) [.slice (some ⟨g, 0, none⟩) 0 0] 22) (fun u hu => by rw [List.mem_singleton] at hu; subst hu; rfl) (by unfold maxLen; omega) (by omega) (by simp; omega) ?_; intro v2 w2 hown2 hg2 _)
          go_roundw
          case rel =>
            obtain ⟨A2, cap2, hv2⟩ := own_slice hown2
            obtain ⟨hO, hbw2, hz2', hg2'⟩ := lex_step hbw hzr hus1 HUS.out HU.out hown2 hg2 hb1.size HG.out
            exact ⟨k + 1, k + 1, rows ++ [(ts.drop k).take (k - k)], A2, cap2, by omega, Nat.le_refl _, by go_num, by go_num, by rw [List.length_append]; exact hv2, by rw [List.length_append]; simp; omega, by rw [List.length_append, List.length_singleton, ← hv2]; exact hO, hbw2, hz2', hg2', HN.out⟩
          case measure => simp [intOf]; omega
        · have hkf' : f0 < k := by omega
          have HU : Hid (RowIn wr w1.heap.size (.slice (some ⟨g, f0 * 4, none⟩) (k - f0) (k - f0)) ((ts.drop f0).take (k - f0))) := row_sub HG.out HT.out hl.out (by omega) (by omega) hglt
          have HN := Lib.hid (lines_end (HGo.out) HTK.out HK.out)
          clear hkf
          go_wp2_with (at_builtin; refine wpList_append_own _ rfl _ _ 33 rfl w1.heap.size 22 i0 _ 1 24 Tryd.underlying33 hi hz0 hz1 hz2 rfl (by decide) _ _ _ rfl ((hus1.alloc _).alloc _) ⟨wr.heap.size + 1, 0, none⟩ 1 1 [.slice (some ⟨g, f0 * 4, none⟩) (k - f0) (k - f0)] rfl rfl (new_cells2 wr (.cells (TokV.cells t).toArray 29) [.slice (some ⟨g, f0 * 4, none⟩) (k - f0) (k - f0)] 22) (fun u hu => by rw [List.mem_singleton] at hu; subst hu; rfl) (by unfold maxLen; omega) (by omega) (by simp; omega) ?_; intro v2 w2 hown2 hg2 _)
          go_roundw
          case rel =>
            obtain ⟨A2, cap2, hv2⟩ := own_slice hown2
            obtain ⟨hO, hbw2, hz2', hg2'⟩ := lex_step hbw hzr hus1 HUS.out HU.out hown2 hg2 hb1.size HG.out
            exact ⟨k + 1, k + 1, rows ++ [(ts.drop f0).take (k - f0)], A2, cap2, by omega, Nat.le_refl _, by go_num, by go_num, by rw [List.length_append]; exact hv2, by rw [List.length_append]; simp; omega, by rw [List.length_append, List.length_singleton, ← hv2]; exact hO, hbw2, hz2', hg2', HN.out⟩
          case measure => simp [intOf]; omega
      · have t1 : (t.kind == 1) = false := by rw [beq_eq_false_iff_ne]; exact hk1
        have HN := Lib.hid (lines_word (HGo.out) HTK.out hk1 hf)
        clear hk1
        go_wp2_with fail
        go_roundw
        case rel => exact ⟨k + 1, f0, rows, A, rc, by omega, by omega, by go_num, rfl, rfl, by omega, hout.keep (fun b cs t h => alloc_old h _) (Nat.le_refl _), hbw.alloc hbw.size _, by simp; omega, alloc_old HG.out _, HN.out⟩
        case measure => simp [intOf]; omega
    · obtain rfl : k = n := by omega
      obtain ⟨us, hus1, hus2⟩ := hout
      have HUS := Lib.hid hus2
      clear hus2 hlt
      by_cases hkf : k = f0
      · have HN := Lib.hid (lines_done HGo.out hl.out hkf)
        subst hkf
        go_wp2_with fail
        go_ret
        refine ⟨_, rfl, hbw, ?_⟩
        rw [← HN.out]
        exact ⟨us, own_base hus1 hb1.size, fun j r hj => by obtain ⟨u, h1, h2⟩ := HUS.out j r hj; exact ⟨u, h1, h2.keep (fun b cs _ h => h) hzr⟩⟩
      · have hkf' : f0 < k := by omega
        have HU : Hid (RowIn wr w1.heap.size (.slice (some ⟨g, f0 * 4, none⟩) (k - f0) (k - f0)) ((ts.drop f0).take (k - f0))) := row_sub HG.out HT.out hl.out (by omega) (by omega) hglt
        have HN := Lib.hid (lines_more HGo.out hl.out hkf')
        clear hkf
        go_wp2_with (at_builtin; refine wpList_append_own _ rfl _ _ 33 rfl w1.heap.size 22 i0 _ 1 24 Tryd.underlying33 hi hz0 hz1 hz2 rfl (by decide) _ _ _ rfl (hus1.alloc _) ⟨wr.heap.size, 0, none⟩ 1 1 [.slice (some ⟨g, f0 * 4, none⟩) (k - f0) (k - f0)] rfl rfl (new_cells wr [.slice (some ⟨g, f0 * 4, none⟩) (k - f0) (k - f0)] 22) (fun u hu => by rw [List.mem_singleton] at hu; subst hu; rfl) (by unfold maxLen; omega) (by omega) (by simp; omega) ?_; intro v2 w2 hown2 hg2 _)
        go_ret
        refine ⟨_, rfl, (lex_step1 hbw hzr hus1 hb1.size hg2), ?_⟩
        rw [← HN.out]
        obtain ⟨us2, h1, h2⟩ := OutRows.append (hi' := w2.heap.size) hus1 HUS.out HU.out _ hown2 hg2 (by have := hg2.size; simp at this; omega)
        exact ⟨us2, own_base h1 hb1.size, h2⟩
end Go.Proofs.YtinobikikineiaaDoor
