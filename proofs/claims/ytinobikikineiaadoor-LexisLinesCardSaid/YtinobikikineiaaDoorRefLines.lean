/- The walks of lexis's 'Lines' at nil, of the document's 'Lines', of 'SameLines', and of the law LexisLines. Condition: the two error variables of lexis lie as the program lays them. -/
import Derived.Test.YtinobikikineiaaDoorLines
namespace Go.Proofs.YtinobikikineiaaDoor
open Go.RowKit Go.Shelf

set_option maxHeartbeats 1000000 in
theorem lexLines_nil (w : World) : Calls Tryd.prog 15 #[.slice none 0 0] w fun e w' => e = .returned (.slice none 0 0) ∧ w = w' := by
  have hcl : ∀ w : World, Calls Tryd.prog 33 #[.slice none 0 0] w fun e w' => e = .returned (.slice none 0 0) ∧ w = w' := by
    intro w
    have hq := fun (w : World) => Lib.run_eql_slice_nil (P := Tryd.prog) w 22 29 none 0 0 0 0 Tryd.underlying22
    go_enter Tryd.func33, Tryd.ntmps33
    go_wp2_with fail
    go_ret
    exact ⟨rfl, rfl⟩
  go_enter Tryd.func15, Tryd.ntmps15
  go_wp2_with (first
    | (go_at_call 33; refine (hcl _).mono ?_; rintro e w1 ⟨rfl, rfl⟩))
  refine wp_loop_rounds 1 ?_
  rw [rounds_succ]
  go_wp2_with fail
  go_ret
  exact ⟨rfl, rfl⟩
theorem lexLines_any (A : Option Addr) (n c : Nat) (ts : List TokV) (w : World) (hr : Reads4 w (.slice A n c) ts) (hn : n ≤ 5000) (hA : A = none → n = 0 ∧ c = 0) :
    Calls Tryd.prog 15 #[.slice A n c] w fun e w' => ∃ v, e = .returned v ∧ Below w.heap.size w w' ∧ OutRows w' w.heap.size w'.heap.size v (Lx.linesGo [] [] ts) := by
  cases A with
  | some A => exact lexLines_some A n c ts w hr hn
  | none =>
    obtain ⟨rfl, rfl⟩ := hA rfl
    have hl := reads4_len hr
    have : ts = [] := List.eq_nil_of_length_eq_zero hl
    subst this
    refine (lexLines_nil w).mono ?_
    rintro e w' ⟨rfl, rfl⟩
    exact ⟨_, rfl, Below.refl _ _, OutRows.nil _ _ _⟩

theorem RowIn.of_own {W : World} {base : Nat} {u : Value} {r : List TokV} (h : W.ownsRow base 29 4 u r.length (flat r)) : RowIn W W.heap.size u r := by
  obtain ⟨_, ⟨rfl, hn⟩ | ⟨g, cap, cur, rfl, hbase, hh, hc, _, hsz, ht⟩⟩ := h
  · have : r = [] := List.eq_nil_of_length_eq_zero hn
    subst this
    exact ⟨none, 0, rfl, Nat.le_refl _, fun h => absurd rfl h⟩
  · refine ⟨some ⟨g, 0, none⟩, cap, rfl, hc, fun _ => ⟨g, 0, cur, rfl, hh, (Array.getElem?_eq_some_iff.1 hh).1, fun j x hx => ?_⟩⟩
    have hj := (List.getElem?_eq_some_iff.1 hx).1
    rw [flat_length] at hj
    rw [← ht, List.getElem?_take_of_lt hj] at hx
    rw [Nat.zero_add, ← Array.getElem?_toList]
    exact hx
/-- An append to the row that is begun leaves the rows that are done. -/
theorem OutRows.row {W W2 : World} {base hi n : Nat} {v u : Value} {rows : List (List TokV)} {xs : List Value} {o : Obj} (h : OutRows W base hi v rows) (hu : W.ownsRow hi 29 4 u n xs) (hg : (W.alloc o).grownBy W2 u.ownBlock) : OutRows W2 base hi v rows := by
  obtain ⟨us, h1, h2⟩ := h
  have hk : ∀ (b : Nat) (cs : Array Value) (t : TypeId), (b < hi ∨ t = 22) → W.heap[b]? = some (.cells cs t (0, 0)) → W2.heap[b]? = some (.cells cs t (0, 0)) := by
    intro b cs t ht hb
    have hlt := (Array.getElem?_eq_some_iff.1 hb).1
    refine (hg.block b (by simp; omega) ?_).trans (alloc_old hb _)
    intro e
    have ho := own_lt hu _ e.symm
    rcases ht with ht | ht
    · omega
    · subst ht
      obtain ⟨_, ⟨rfl, _⟩ | ⟨g, cap, cur, rfl, _, hh2, _⟩⟩ := hu
      · cases e
      · simp only [Value.ownBlock, Option.some.injEq] at e
        subst e
        rw [hb] at hh2
        injection hh2 with hh2
        injection hh2 with _ ht _
        exact absurd ht (by decide)
  refine ⟨us, ?_, fun j r hj => ?_⟩
  · obtain ⟨hl, h0 | ⟨g, cap, cur, rfl, hbase, hh, h⟩⟩ := h1
    · exact ⟨hl, .inl h0⟩
    · exact ⟨hl, .inr ⟨g, cap, cur, rfl, hbase, hk _ _ _ (.inr rfl) hh, h⟩⟩
  · obtain ⟨x, h3, h4⟩ := h2 j r hj
    exact ⟨x, h3, h4.keep (fun b cs hb h => hk _ _ _ (.inl hb) h) (Nat.le_refl _)⟩

/-- What the loop of the document's Lines holds at a round's head (kept shut). -/
def RefLinesAt (w : World) (ts : List TokV) (n : Nat) (v u i : Value) (wr : World) : Prop :=
  ∃ (k bT : Nat) (rows : List (List TokV)) (row : List TokV) (A A2 : Option Addr) (rc rc2 : Nat), k ≤ n ∧ i = .int .i64 k ∧ v = .slice A rows.length rc ∧ u = .slice A2 row.length rc2 ∧ rows.length ≤ k ∧ row.length ≤ k ∧ OutRows wr w.heap.size bT (.slice A rows.length rc) rows ∧
    wr.ownsRow bT 29 4 (.slice A2 row.length rc2) row.length (flat row) ∧ w.heap.size ≤ bT ∧ bT ≤ wr.heap.size ∧ Below w.heap.size w wr ∧ Lx.linesGo rows row (ts.drop k) = Lx.linesGo [] [] ts

theorem rlines_end {ts : List TokV} {rows : List (List TokV)} {row : List TokV} {k : Nat} {t : TokV} (h : Lx.linesGo rows row (ts.drop k) = Lx.linesGo [] [] ts) (ht : ts[k]? = some t) (hk : t.kind = 1) :
    Lx.linesGo (rows ++ [row]) [] (ts.drop (k + 1)) = Lx.linesGo [] [] ts := by
  rw [← h, drop_tok ht]
  simp only [Lx.linesGo]
  rw [if_pos hk]
theorem rlines_word {ts : List TokV} {rows : List (List TokV)} {row : List TokV} {k : Nat} {t : TokV} (h : Lx.linesGo rows row (ts.drop k) = Lx.linesGo [] [] ts) (ht : ts[k]? = some t) (hk : t.kind ≠ 1) :
    Lx.linesGo rows (row ++ [t]) (ts.drop (k + 1)) = Lx.linesGo [] [] ts := by
  rw [← h, drop_tok ht]
  simp only [Lx.linesGo]
  rw [if_neg hk]
theorem rlines_last {ts : List TokV} {rows : List (List TokV)} {row : List TokV} {k : Nat} (h : Lx.linesGo rows row (ts.drop k) = Lx.linesGo [] [] ts) (hk : ts.length = k) : (if row.isEmpty then rows else rows ++ [row]) = Lx.linesGo [] [] ts := by
  rw [← h, List.drop_of_length_le (l := ts) (i := k) (by omega)]
  rfl
theorem rows_up {W : World} {hi hi' : Nat} {rows : List (List TokV)} {us : List Value} (h2 : ∀ (j : Nat) (r : List TokV), rows[j]? = some r → ∃ u : Value, us[j]? = some u ∧ RowIn W hi u r) (hh : hi ≤ hi') : ∀ (j : Nat) (r : List TokV), rows[j]? = some r → ∃ u : Value, us[j]? = some u ∧ RowIn W hi' u r := by
  intro j r hj
  obtain ⟨u, h3, h4⟩ := h2 j r hj
  exact ⟨u, h3, h4.keep (fun b cs _ h => h) hh⟩

set_option maxRecDepth 100000 in
set_option maxHeartbeats 2000000 in
theorem refLines_any (A0 : Option Addr) (n c : Nat) (ts : List TokV) (w : World) (hr : Reads4 w (.slice A0 n c) ts) (hn : n ≤ 5000) :
    Calls Tryd.prog 16 #[.slice A0 n c] w fun e w' => ∃ v, e = .returned v ∧ Below w.heap.size w w' ∧ OutRows w' w.heap.size w'.heap.size v (Lx.linesGo [] [] ts) := by
  obtain ⟨i0, hi, hz0, hz1, hz2⟩ := info_parts infoRow
  obtain ⟨j0, ji, jz0, jz1, jz2⟩ := info_parts infoTok
  have hl := Lib.hid (reads4_len hr)
  have HRd := Lib.hid hr
  clear hr
  go_enter Tryd.func16, Tryd.ntmps16
  go_wp2_with fail
  go_loopw [3, 4, 5] (fun v u i wr => RefLinesAt w ts n v u i wr) (fun _ _ i _ => n - (intOf i).toNat)
  case atStart => exact ⟨0, w.heap.size, [], [], none, none, 0, 0, Nat.zero_le _, rfl, rfl, rfl, Nat.le_refl _, Nat.le_refl _, OutRows.nil _ _ _, World.ownsRow_nil _ _ _ _, Nat.le_refl _, Nat.le_refl _, Below.refl _ _, by simp⟩
  case round =>
    obtain ⟨k, bT, rows, row, A, A2, rc, rc2, hk, rfl, rfl, rfl, hrk, hwk, hout, hrow, hb1, hb2, hbw, hgo⟩ := hrel
    have HGo := Lib.hid hgo
    clear hgo
    by_cases hlt : k < n
    · obtain ⟨b, off, t, rfl, ht, a0, a1, a2, a3⟩ := reads4_cell HRd.out k hlt
      have hbl := cell_lt a0
      have c0 := (hbw.cell (p := ⟨b, off + k * 4, none⟩) hbl).trans a0
      have c1 := (hbw.cell (p := ⟨b, off + k * 4 + 1, none⟩) hbl).trans a1
      have c2 := (hbw.cell (p := ⟨b, off + k * 4 + 2, none⟩) hbl).trans a2
      have c3 := (hbw.cell (p := ⟨b, off + k * 4 + 3, none⟩) hbl).trans a3
      have HTK := Lib.hid ht
      clear a0 a1 a2 a3 ht
      by_cases hk1 : t.kind = 1
      · have t1 : (t.kind == 1) = true := by simp [hk1]
        have HN := Lib.hid (rlines_end HGo.out HTK.out hk1)
        clear hk1
        obtain ⟨us, hus1, hus2⟩ := hout
        have HUS := Lib.hid hus2
        clear hus2
        go_wp2_with (at_builtin; refine wpList_append_own _ rfl _ _ 33 rfl w.heap.size 22 i0 _ 1 24 Tryd.underlying33 hi hz0 hz1 hz2 rfl (by decide) _ _ _ rfl (hus1.alloc _) ⟨wr.heap.size, 0, none⟩ 1 1 [.slice A2 row.length rc2] rfl rfl (new_cells wr [.slice A2 row.length rc2] 22) (fun u hu => by rw [List.mem_singleton] at hu; subst hu; rfl) (by unfold maxLen; omega) (by omega) (by have := hbw.size; simp; omega) ?_; intro v2 w2 hown2 hg2 _)
        go_roundw
        case rel =>
          obtain ⟨A3, cap3, hv3⟩ := own_slice hown2
          have hO := OutRows.append (hi' := w2.heap.size) hus1 (rows_up HUS.out hb2) (RowIn.of_own hrow) _ hown2 hg2 (by have := hg2.size; simp at this; omega)
          have hsz := hg2.size
          simp at hsz
          exact ⟨k + 1, w2.heap.size, rows ++ [row], [], A3, none, cap3, 0, by omega, by go_num, by rw [List.length_append]; exact hv3, rfl, by rw [List.length_append]; simp; omega, by simp, by rw [List.length_append, List.length_singleton, ← hv3]; exact hO, World.ownsRow_nil _ _ _ _, by omega, Nat.le_refl _, lex_step1 hbw hbw.size hus1 (Nat.le_refl _) hg2, HN.out⟩
        case measure => simp [intOf]; omega
      · have t1 : (t.kind == 1) = false := by rw [beq_eq_false_iff_ne]; exact hk1
        have HN := Lib.hid (rlines_word HGo.out HTK.out hk1)
        clear hk1
        go_wp2_with (at_builtin; refine wpList_append_own _ rfl _ _ 22 rfl bT 29 j0 _ 4 40 Tryd.underlying22 ji jz0 jz1 jz2 rfl (by decide) _ _ _ rfl (hrow.alloc _) ⟨wr.heap.size, 0, none⟩ 1 1 (TokV.cells t) rfl rfl (new_cells wr (TokV.cells t) 29) (tok_one _) (by unfold maxLen; omega) (by omega) (by simp; omega) ?_; intro v2 w2 hown2 hg2 _)
        go_roundw
        case rel =>
          obtain ⟨A3, cap3, hv3⟩ := own_slice hown2
          have hO := hout.row hrow hg2
          have hsz := hg2.size
          simp at hsz
          exact ⟨k + 1, bT, rows, row ++ [t], A, A3, rc, cap3, by omega, by go_num, rfl, by rw [List.length_append]; exact hv3, by omega, by rw [List.length_append]; simp; omega, hO, by rw [flat_append, flat_one, List.length_append, List.length_singleton, ← hv3]; exact hown2, hb1, by omega, below_append (hbw.alloc hbw.size _) (hrow.alloc _) hb1 (by have := hbw.size; simp; omega) hg2, HN.out⟩
        case measure => simp [intOf]; omega
    · obtain rfl : k = n := by omega
      have hlast := rlines_last HGo.out hl.out
      by_cases hrow0 : row = []
      · have HN : Hid (rows = Lx.linesGo [] [] ts) := by rw [hrow0] at hlast; exact hlast
        have hrl : row.length = 0 := by rw [hrow0]; rfl
        clear hlast
        subst hrow0
        go_wp2_with fail
        go_ret
        refine ⟨_, rfl, hbw, ?_⟩
        rw [← HN.out]
        exact hout.keep (fun b cs t h => h) hb2
      · have HN : Hid (rows ++ [row] = Lx.linesGo [] [] ts) := by rw [if_neg (by simpa using hrow0)] at hlast; exact hlast
        have hrl : 0 < row.length := List.length_pos_iff.2 hrow0
        clear hlast hrow0
        obtain ⟨us, hus1, hus2⟩ := hout
        have HUS := Lib.hid hus2
        clear hus2
        go_wp2_with (at_builtin; refine wpList_append_own _ rfl _ _ 33 rfl w.heap.size 22 i0 _ 1 24 Tryd.underlying33 hi hz0 hz1 hz2 rfl (by decide) _ _ _ rfl (hus1.alloc _) ⟨wr.heap.size, 0, none⟩ 1 1 [.slice A2 row.length rc2] rfl rfl (new_cells wr [.slice A2 row.length rc2] 22) (fun u hu => by rw [List.mem_singleton] at hu; subst hu; rfl) (by unfold maxLen; omega) (by omega) (by have := hbw.size; simp; omega) ?_; intro v2 w2 hown2 hg2 _)
        go_ret
        refine ⟨_, rfl, lex_step1 hbw hbw.size hus1 (Nat.le_refl _) hg2, ?_⟩
        rw [← HN.out]
        exact OutRows.append (hi' := w2.heap.size) hus1 (rows_up HUS.out hb2) (RowIn.of_own hrow) _ hown2 hg2 (by have := hg2.size; simp at this; omega)
end Go.Proofs.YtinobikikineiaaDoor
