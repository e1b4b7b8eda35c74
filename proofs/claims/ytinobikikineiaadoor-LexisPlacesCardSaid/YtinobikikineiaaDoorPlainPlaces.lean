/- The plain laws of LexisPlaces: with a line ahead of a text each place is one line on; each word stands where its place says. No program is in sight. No conditions. -/
import Derived.Test.YtinobikikineiaaDoorPlainLaws
namespace Go.Proofs.YtinobikikineiaaDoor.Lx

def Tok.on (t : Tok) : Tok := { t with line := t.line + 1 }
def shift (r : Except Bad (List Tok)) : Except Bad (List Tok) :=
  match r with
  | .error (e, line, col) => .error (e, line + 1, col)
  | .ok ts => .ok (ts.map Tok.on)
theorem shift_prep (a : List Tok) (r : Except Bad (List Tok)) : shift (prep a r) = prep (a.map Tok.on) (shift r) := by
  cases r with
  | error b => rfl
  | ok l => simp [prep, shift]
theorem lineFrom_shift (no f : Nat) : ∀ (col : Nat) (l : List UInt8), lineFrom (no + 1) f col l = shift (lineFrom no f col l) := by
  induction f with
  | zero => intro col l; rfl
  | succ f ih =>
    intro col l
    cases l with
    | nil => rfl
    | cons c t =>
      rw [lineFrom_succ, lineFrom_succ]
      split
      · exact ih _ _
      · split
        · rfl
        · cases word (c :: t) with
          | error e => rfl
          | ok kw => obtain ⟨k, w⟩ := kw; simp only []; rw [ih, shift_prep]; rfl
theorem rest_shift (no col : Nat) (l : List UInt8) : rest (no + 1) col l = shift (rest no col l) := lineFrom_shift _ _ _ _
theorem scanLines_shift (ps : List (List UInt8)) : ∀ no, scanLines (no + 1) ps = shift (scanLines no ps) := by
  induction ps with
  | nil => intro no; rfl
  | cons p ps ih =>
    intro no
    rw [scanLines_cons, scanLines_cons, lineToks_eq, lineToks_eq, rest_shift, ih]
    cases rest no 0 p with
    | error b => rfl
    | ok r =>
      have hsh : shift (.ok r) = .ok (r.map Tok.on) := rfl
      rw [hsh]
      simp only []
      rw [shift_prep]
      congr 1
      simp only [closeLine, List.isEmpty_map]
      split <;> simp [endTok, Tok.on]
def ahead (l : List UInt8) : List UInt8 := [35, 32, 120, 10] ++ l
theorem scan_ahead (l : List UInt8) (h : l.length ≤ 60000) : scan (ahead l) = shift (scan l) := by
  have h1 : ¬ (ahead l).length > 65536 := by simp only [ahead, List.length_append, List.length_cons, List.length_nil]; omega
  have h2 : ¬ l.length > 65536 := by omega
  unfold scan
  rw [if_neg h1, if_neg h2]
  have hc : cuts (ahead l) = [35, 32, 120] :: cuts l := by
    have := cuts_append [35, 32, 120] (10 :: l) [] (cuts l) (by decide) (cuts_nl l)
    simpa [ahead] using this
  rw [hc, scanLines_cons]
  have hl : lineToks 1 [35, 32, 120] = .ok [] := by rfl
  rw [hl]
  simp only [prep_nil]
  exact scanLines_shift _ 1

/-- Where a word stands in the lines of a text. -/
def Stands (ls : List (List UInt8)) (t : Tok) : Prop :=
  ∃ n p, t.line = n + 1 ∧ ls[n]? = some p ∧ 1 ≤ t.col ∧ t.col ≤ p.length + 1 ∧ (t.kind ≠ 1 → t.col - 1 + t.text.length ≤ p.length ∧ (p.drop (t.col - 1)).take t.text.length = t.text)
theorem rest_stands (f : Nat) : ∀ (no col : Nat) (q l : List UInt8) (r : List Tok), l.length ≤ f → col ≤ q.length → q.drop col = l → rest no col l = .ok r →
    ∀ t ∈ r, t.line = no ∧ 1 ≤ t.col ∧ t.col - 1 + t.text.length ≤ q.length ∧ (q.drop (t.col - 1)).take t.text.length = t.text := by
  induction f with
  | zero =>
    intro no col q l r hf _ _ h
    have : l = [] := List.eq_nil_of_length_eq_zero (by omega)
    subst this
    rw [rest_nil] at h; cases h
    simp
  | succ f ih =>
    intro no col q l r hf hcq hq h
    cases l with
    | nil => rw [rest_nil] at h; cases h; simp
    | cons c t =>
      simp only [List.length_cons] at hf
      have hlen : q.length - col = t.length + 1 := by rw [← List.length_drop, hq, List.length_cons]
      by_cases h1 : isBlank c = true
      · rw [rest_blank _ _ _ _ h1] at h
        exact ih _ _ q _ _ (by omega) (by omega) (by rw [← List.drop_drop, hq]; rfl) h
      · have h1 : isBlank c = false := by simpa using h1
        by_cases h2 : c = 35
        · rw [rest_hash _ _ _ _ h2] at h; cases h; simp
        · cases hw : word (c :: t) with
          | error e => rw [rest_bad _ _ _ _ e h1 h2 hw] at h; cases h
          | ok kw =>
            obtain ⟨k, w⟩ := kw
            rw [rest_word _ _ _ _ k w h1 h2 hw] at h
            have hwl := word_len hw
            simp only [List.length_cons] at hwl
            cases hr : rest no (col + w.length) ((c :: t).drop w.length) with
            | error b => rw [hr] at h; cases h
            | ok r2 =>
              rw [hr] at h
              have h : r = ⟨k, w, no, col + 1⟩ :: r2 := by injection h with h; exact h.symm
              subst h
              have hdl : ((c :: t).drop w.length).length = t.length + 1 - w.length := by rw [List.length_drop, List.length_cons]
              intro x hx
              rcases List.mem_cons.1 hx with rfl | hx
              · refine ⟨rfl, by simp, ?_, ?_⟩
                · simp only []; omega
                · simp only [Nat.add_sub_cancel]; rw [hq, ← hwl.2.2]
              · exact ih _ _ q _ _ (by omega) (by omega) (by rw [← List.drop_drop, hq]) hr x hx
theorem scanLines_stands (ls ps : List (List UInt8)) : ∀ (n : Nat) (ts : List Tok), ls.drop n = ps → scanLines (n + 1) ps = .ok ts →
    (∀ t ∈ ts, Stands ls t ∧ n + 1 ≤ t.line) ∧ ts.Pairwise (fun a b => a.line ≤ b.line) := by
  induction ps with
  | nil => intro n ts _ h; simp only [scanLines] at h; cases h; simp
  | cons p ps ih =>
    intro n ts hd h
    rw [scanLines_cons, lineToks_eq] at h
    have hget : ls[n]? = some p := by
      have := List.getElem?_drop (xs := ls) (i := n) (j := 0)
      rw [hd] at this; simpa using this.symm
    cases hr : rest (n + 1) 0 p with
    | error b => rw [hr] at h; cases h
    | ok r =>
      rw [hr] at h
      simp only at h
      cases hs : scanLines (n + 1 + 1) ps with
      | error b => rw [hs] at h; cases h
      | ok rs =>
        rw [hs, prep_ok] at h
        injection h with h
        subst h
        obtain ⟨a, b⟩ := ih (n + 1) rs (by rw [← List.drop_drop, hd]; rfl) hs
        have hw := rest_stands p.length (n + 1) 0 p p r (Nat.le_refl _) (Nat.zero_le _) rfl hr
        have hcl : ∀ t ∈ closeLine (n + 1) p.length r, Stands ls t ∧ t.line = n + 1 := by
          intro t ht
          have hmem : t ∈ r ∨ t = endTok (n + 1) p.length := by
            unfold closeLine at ht
            split at ht
            · cases ht
            · simpa using ht
          rcases hmem with hm | rfl
          · obtain ⟨e1, e2, e3, e4⟩ := hw t hm
            exact ⟨⟨n, p, e1, hget, e2, by omega, fun _ => ⟨e3, e4⟩⟩, e1⟩
          · exact ⟨⟨n, p, rfl, hget, by simp [endTok], by simp [endTok], fun h => absurd rfl h⟩, rfl⟩
        refine ⟨?_, ?_⟩
        · intro t ht
          rcases List.mem_append.1 ht with ht | ht
          · exact ⟨(hcl t ht).1, Nat.le_of_eq (hcl t ht).2.symm⟩
          · exact ⟨(a t ht).1, by have := (a t ht).2; omega⟩
        · rw [List.pairwise_append]
          refine ⟨?_, b, ?_⟩
          · refine List.pairwise_of_forall_mem_list ?_
            intro x hx y hy
            rw [(hcl x hx).2, (hcl y hy).2]; exact Nat.le_refl _
          · intro x hx y hy
            rw [(hcl x hx).2]; have := (a y hy).2; omega
theorem scan_stands (l : List UInt8) (ts : List Tok) (h : scan l = .ok ts) : (∀ t ∈ ts, Stands (cuts l) t) ∧ ts.Pairwise (fun a b => a.line ≤ b.line) := by
  unfold scan at h
  split at h
  · cases h
  · obtain ⟨a, b⟩ := scanLines_stands (cuts l) (cuts l) 0 ts rfl h
    exact ⟨fun t ht => (a t ht).1, b⟩

/-! ### the walk's seeking: 'from' stands in the line 'line' -/
def InLine (l : List UInt8) (i line : Nat) : Prop := i ≤ l.length ∧ (cuts (l.drop i)).tail = (cuts l).drop line
def AtStart (l : List UInt8) (i line : Nat) : Prop := 1 ≤ line ∧ i ≤ l.length ∧ cuts (l.drop i) = (cuts l).drop (line - 1)
theorem AtStart.inLine {l : List UInt8} {i line : Nat} (h : AtStart l i line) : InLine l i line := by
  refine ⟨h.2.1, ?_⟩
  rw [h.2.2, List.tail_drop]
  rw [Nat.sub_add_cancel h.1]
theorem atStart_zero (l : List UInt8) : AtStart l 0 1 := ⟨Nat.le_refl _, Nat.zero_le _, rfl⟩
theorem inLine_nl {l : List UInt8} {i line : Nat} (h : InLine l i line) (hi : l[i]? = some 10) : AtStart l (i + 1) (line + 1) := by
  have hlt : i < l.length := (List.getElem?_eq_some_iff.1 hi).1
  have hc : l.drop i = 10 :: l.drop (i + 1) := by
    rw [List.drop_eq_getElem_cons hlt]
    rw [List.getElem?_eq_getElem hlt] at hi
    injection hi with hi; rw [hi]
  refine ⟨by omega, by omega, ?_⟩
  have := h.2
  rw [hc, cuts_nl] at this
  simpa using this
theorem inLine_other {l : List UInt8} {i line : Nat} {c : UInt8} (h : InLine l i line) (hi : l[i]? = some c) (hc : c ≠ 10) : InLine l (i + 1) line := by
  have hlt : i < l.length := (List.getElem?_eq_some_iff.1 hi).1
  have hd : l.drop i = c :: l.drop (i + 1) := by
    rw [List.drop_eq_getElem_cons hlt]
    rw [List.getElem?_eq_getElem hlt] at hi
    injection hi with hi; rw [hi]
  refine ⟨by omega, ?_⟩
  have := h.2
  obtain ⟨q, qs, hq⟩ : ∃ q qs, cuts (l.drop (i + 1)) = q :: qs := by
    cases hh : cuts (l.drop (i + 1)) with
    | nil => exact absurd hh (cuts_ne _)
    | cons q qs => exact ⟨q, qs, rfl⟩
  rw [hd, cuts_other c _ q qs hc hq] at this
  rw [hq]; exact this
/-- At the text's end no further line stands. -/
theorem inLine_end {l : List UInt8} {i line : Nat} (h : InLine l i line) (hi : l.length ≤ i) {t : Tok} (ht : Stands (cuts l) t) : t.line ≤ line := by
  have h2 := h.2
  rw [List.drop_of_length_le hi] at h2
  have hn : (cuts l).length ≤ line := by
    have : (cuts l).drop line = [] := by rw [← h2]; rfl
    simpa [List.drop_eq_nil_iff] using this
  obtain ⟨n, p, e1, e2, _⟩ := ht
  have := (List.getElem?_eq_some_iff.1 e2).1
  omega
/-- What stands at a word's place. -/
theorem at_word {l : List UInt8} {i : Nat} {t : Tok} (h : AtStart l i t.line) (ht : Stands (cuts l) t) :
    1 ≤ t.col ∧ i + t.col - 1 ≤ l.length ∧ (t.kind ≠ 1 → i + t.col - 1 + t.text.length ≤ l.length ∧ (l.drop (i + t.col - 1)).take t.text.length = t.text) := by
  obtain ⟨n, p, e1, e2, e3, e4, e5⟩ := ht
  obtain ⟨h1, h2, h3⟩ := h
  rw [e1] at h3
  have hlt := (List.getElem?_eq_some_iff.1 e2).1
  have hcons : cuts (l.drop i) = p :: (cuts l).drop (n + 1) := by
    rw [h3, Nat.add_sub_cancel, List.drop_eq_getElem_cons hlt]
    rw [List.getElem?_eq_getElem hlt] at e2
    injection e2 with e2; rw [e2]
  obtain ⟨_, hs⟩ := cuts_head _ _ _ hcons
  obtain ⟨v, hv⟩ : ∃ v, l.drop i = p ++ v := by
    rcases hs with ⟨_, h⟩ | ⟨u, h, _⟩
    · exact ⟨[], by simpa using h⟩
    · exact ⟨10 :: u, h⟩
  have hlen : p.length + v.length = l.length - i := by rw [← List.length_append, ← hv, List.length_drop]
  refine ⟨e3, by omega, fun hk => ?_⟩
  obtain ⟨g1, g2⟩ := e5 hk
  refine ⟨by omega, ?_⟩
  have hd : l.drop (i + t.col - 1) = (p ++ v).drop (t.col - 1) := by
    rw [← hv, List.drop_drop]; congr 1; omega
  rw [hd, List.drop_append_of_le_length (by omega), List.take_append_of_le_length (by rw [List.length_drop]; omega)]
  exact g2
end Go.Proofs.YtinobikikineiaaDoor.Lx
