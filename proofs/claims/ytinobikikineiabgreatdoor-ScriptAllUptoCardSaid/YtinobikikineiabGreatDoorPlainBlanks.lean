/- The plain law of LexisBlanks: the words of a text, spaced out anew with blanks, remarks and empty lines, are read as the same words. No program is in sight. No conditions. -/
import Derived.Test.YtinobikikineiabGreatDoorPlainLaws
namespace Go.Proofs.YtinobikikineiabGreatDoor.Lx

/-- A word that stands by itself. -/
def good (k : Nat) (w : List UInt8) : Prop := (k = 2 ∨ k = 3 ∨ k = 4) ∧ word w = .ok (k, w)

theorem run_run (l : List UInt8) : run (run l) = run l := by
  unfold run
  induction l with
  | nil => rfl
  | cons c t ih =>
    rw [List.takeWhile_cons]
    split
    · rename_i h; rw [List.takeWhile_cons, if_pos h, ih]
    · rfl
theorem word_good {l : List UInt8} {k : Nat} {w : List UInt8} (h : word l = .ok (k, w)) : good k w := by
  cases l with
  | nil => simp [word] at h
  | cons c t =>
    have hrr := run_run (c :: t)
    have hcons : inRun c = true → ∃ u, run (c :: t) = c :: u := fun hi => ⟨run t, by simp [run, hi]⟩
    simp only [word] at h
    by_cases hd : isDigit c = true
    · rw [if_pos hd] at h
      by_cases hn : numCode (run (c :: t)) = 0
      · rw [if_pos hn] at h
        injection h with h; injection h with h1 h2; subst h1; subst h2
        obtain ⟨u, hu⟩ := hcons (by simp [inRun, hd])
        refine ⟨by simp, ?_⟩
        rw [hu] at hn hrr ⊢
        simp only [word, hd, if_true, hrr, hn]
      · rw [if_neg hn] at h; cases h
    · rw [if_neg hd] at h
      by_cases hs : (isSmall c || isGreat c) = true
      · rw [if_pos hs] at h
        by_cases hn : (run (c :: t)).length ≤ 32
        · rw [if_pos hn] at h
          injection h with h; injection h with h1 h2; subst h1; subst h2
          have hi : inRun c = true := by
            unfold inRun; rcases Bool.or_eq_true _ _ |>.mp hs with h | h <;> simp [h]
          obtain ⟨u, hu⟩ := hcons hi
          refine ⟨by simp, ?_⟩
          rw [hu] at hn hrr ⊢
          simp only [word, hd, hs, if_true, hrr, hn]
          simp
        · rw [if_neg hn] at h; cases h
      · rw [if_neg hs] at h
        by_cases hm : isMark c = true
        · rw [if_pos hm] at h
          injection h with h; injection h with h1 h2; subst h1; subst h2
          refine ⟨by simp, ?_⟩
          simp only [word, hd, hs, hm, if_true]
          simp
        · rw [if_neg hm] at h; cases h

/-- The first byte of a word is no blank, no remark's sign, no line's end. -/
theorem word_first {c : UInt8} {t : List UInt8} {k : Nat} {w : List UInt8} (h : word (c :: t) = .ok (k, w)) : isBlank c = false ∧ c ≠ 35 ∧ c ≠ 10 := by
  have key : ∀ d : UInt8, (d = 32 ∨ d = 9 ∨ d = 13 ∨ d = 35 ∨ d = 10) → isDigit d = false ∧ (isSmall d || isGreat d) = false ∧ isMark d = false := by
    intro d hd; rcases hd with rfl | rfl | rfl | rfl | rfl <;> decide
  have hno : ¬ (c = 32 ∨ c = 9 ∨ c = 13 ∨ c = 35 ∨ c = 10) := by
    intro hc
    obtain ⟨h1, h2, h3⟩ := key c hc
    simp [word, h1, h2, h3] at h
  refine ⟨?_, fun e => hno (by simp [e]), fun e => hno (by simp [e])⟩
  unfold isBlank
  cases hb : (c == 32 || c == 9 || c == 13) with
  | false => rfl
  | true =>
    exfalso
    apply hno
    simp only [Bool.or_eq_true, beq_iff_eq] at hb
    rcases hb with (h | h) | h <;> simp [h]
theorem run_stop (w u : List UInt8) (d : UInt8) (hd : inRun d = false) : run (w ++ d :: u) = run w := by
  unfold run
  induction w with
  | nil => simp [hd]
  | cons c w ih => rw [List.cons_append, List.takeWhile_cons, List.takeWhile_cons, ih]
theorem word_stop {k : Nat} {w u : List UInt8} {d : UInt8} (hd : inRun d = false) (h : word w = .ok (k, w)) : word (w ++ d :: u) = .ok (k, w) := by
  cases w with
  | nil => simp [word] at h
  | cons c t =>
    have hr : run (c :: (t ++ d :: u)) = run (c :: t) := run_stop (c :: t) u d hd
    simp only [List.cons_append, word, hr] at h ⊢
    exact h

/-- How a list of words is spaced out. -/
def spaced : List Tok → List UInt8
  | [] => []
  | t :: ts => (if t.kind = 1 then [13, 35, 32, 40, 10, 32, 10] else [32, 9] ++ t.text ++ [13, 32]) ++ spaced ts
def spacedAll (ts : List Tok) : List UInt8 := [9, 10, 32, 35, 32, 255, 32, 39, 10] ++ spaced ts

/-- Lists of words as Scan tells them: each line has words, then its end. -/
def Wf : Bool → List Tok → Prop
  | b, [] => b = false
  | b, t :: ts => if t.kind = 1 then b = true ∧ t.text = [10] ∧ Wf false ts else good t.kind t.text ∧ Wf true ts

def Like (a b : List Tok) : Prop := a.map (fun t => (t.kind, t.text)) = b.map (fun t => (t.kind, t.text))

theorem tail_spaced (ts : List Tok) : ∀ (line col : Nat) (some : Bool), Wf some ts → ∃ ms, tailFrom line col some (spaced ts) = .ok ms ∧ Like ts ms := by
  induction ts with
  | nil =>
    intro line col some h
    have h : some = false := h
    subst h
    exact ⟨[], by simp [spaced, tail_nil], rfl⟩
  | cons t ts ih =>
    intro line col some h
    simp only [Wf] at h
    by_cases hk : t.kind = 1
    · rw [if_pos hk] at h
      obtain ⟨rfl, ht, hw⟩ := h
      obtain ⟨ms, hm, hl⟩ := ih (line + 2) 0 false hw
      have e : spaced (t :: ts) = 13 :: 35 :: 32 :: 40 :: 10 :: 32 :: 10 :: spaced ts := by simp [spaced, hk]
      refine ⟨endTok line (col + 4) :: ms, ?_, ?_⟩
      · rw [e, tail_blank _ _ _ _ _ (by decide), tail_hash _ _ _ _ _ rfl]
        have hr : remark (35 :: 32 :: 40 :: 10 :: 32 :: 10 :: spaced ts) = 3 := by simp [remark]
        rw [hr]
        simp only [List.drop_succ_cons, List.drop_zero]
        rw [tail_nl, tail_blank _ _ _ _ _ (by decide), tail_nl, hm]
        simp [prep_ok]
      · have : (t.kind, t.text) = (1, [10]) := by rw [hk, ht]
        unfold Like at hl ⊢
        rw [List.map_cons, List.map_cons, hl, this]; rfl
    · rw [if_neg hk] at h
      obtain ⟨hg, hw⟩ := h
      have e : spaced (t :: ts) = 32 :: 9 :: (t.text ++ 13 :: 32 :: spaced ts) := by simp [spaced, hk]
      have hws := word_stop (u := 32 :: spaced ts) (d := 13) (by decide) hg.2
      obtain ⟨c, u, hcu⟩ : ∃ c u, t.text = c :: u := by
        cases ht : t.text with
        | nil => rw [ht] at hg; exact absurd hg.2 (by simp [word])
        | cons c u => exact ⟨c, u, rfl⟩
      have hfirst : isBlank c = false ∧ c ≠ 35 ∧ c ≠ 10 := by
        rw [hcu, List.cons_append] at hws; exact word_first hws
      obtain ⟨ms, hm, hl⟩ := ih line (col + 2 + t.text.length + 2) true hw
      refine ⟨⟨t.kind, t.text, line, col + 2 + 1⟩ :: ms, ?_, ?_⟩
      · rw [e, tail_blank _ _ _ _ _ (by decide), tail_blank _ _ _ _ _ (by decide)]
        have hws' : word (c :: (u ++ 13 :: 32 :: spaced ts)) = .ok (t.kind, t.text) := by rw [hcu, List.cons_append] at hws; rw [hws, hcu]
        have hdrop : (c :: (u ++ 13 :: 32 :: spaced ts)).drop t.text.length = 13 :: 32 :: spaced ts := by
          rw [← List.cons_append, ← hcu, List.drop_left]
        rw [show t.text ++ 13 :: 32 :: spaced ts = c :: (u ++ 13 :: 32 :: spaced ts) from by rw [hcu]; rfl]
        rw [tail_word _ _ _ _ _ _ _ hfirst.2.2 hfirst.1 hfirst.2.1 hws', hdrop, tail_blank _ _ _ _ _ (by decide), tail_blank _ _ _ _ _ (by decide), hm]
        rfl
      · unfold Like at hl ⊢
        rw [List.map_cons, List.map_cons, hl]

/-! ### what Scan tells is of that form -/
theorem rest_good (f : Nat) : ∀ (no col : Nat) (l : List UInt8) (r : List Tok), l.length ≤ f → rest no col l = .ok r →
    (∀ t ∈ r, good t.kind t.text) ∧ (spaced r).length ≤ 5 * l.length ∧ r.length ≤ l.length := by
  induction f with
  | zero =>
    intro no col l r hf h
    have : l = [] := List.eq_nil_of_length_eq_zero (by omega)
    subst this
    rw [rest_nil] at h; cases h
    simp [spaced]
  | succ f ih =>
    intro no col l r hf h
    cases l with
    | nil => rw [rest_nil] at h; cases h; simp [spaced]
    | cons c t =>
      simp only [List.length_cons] at hf
      by_cases h1 : isBlank c = true
      · rw [rest_blank _ _ _ _ h1] at h
        obtain ⟨a, b, d⟩ := ih _ _ _ _ (by omega) h
        exact ⟨a, by rw [List.length_cons]; omega, by rw [List.length_cons]; omega⟩
      · have h1 : isBlank c = false := by simpa using h1
        by_cases h2 : c = 35
        · rw [rest_hash _ _ _ _ h2] at h; cases h; simp [spaced]
        · cases hw : word (c :: t) with
          | error e => rw [rest_bad _ _ _ _ e h1 h2 hw] at h; cases h
          | ok kw =>
            obtain ⟨k, w⟩ := kw
            rw [rest_word _ _ _ _ k w h1 h2 hw] at h
            have hwl := word_len hw
            cases hr : rest no (col + w.length) ((c :: t).drop w.length) with
            | error b => rw [hr] at h; cases h
            | ok r2 =>
              rw [hr] at h
              have h : r = ⟨k, w, no, col + 1⟩ :: r2 := by injection h with h; exact h.symm
              subst h
              have hdl : ((c :: t).drop w.length).length = t.length + 1 - w.length := by rw [List.length_drop, List.length_cons]
              obtain ⟨a, b, d⟩ := ih _ _ _ _ (by omega) hr
              have hg := word_good hw
              have hk1 : k ≠ 1 := by rcases hg.1 with rfl | rfl | rfl <;> decide
              refine ⟨?_, ?_, ?_⟩
              · intro x hx
                rcases List.mem_cons.1 hx with rfl | hx
                · exact hg
                · exact a x hx
              · rw [hdl] at b
                have hw2 := hwl.2.1
                simp only [spaced, if_neg hk1, List.length_append, List.length_cons, List.length_nil] at b hw2 ⊢
                omega
              · have hw2 := hwl.2.1
                simp only [List.length_cons] at d hw2 ⊢
                rw [hdl] at d
                omega
theorem spaced_append (a b : List Tok) : spaced (a ++ b) = spaced a ++ spaced b := by
  induction a with
  | nil => rfl
  | cons t a ih => simp [spaced, ih]
theorem wf_words (r : List Tok) (rs : List Tok) (h : ∀ t ∈ r, good t.kind t.text) (hrs : Wf true rs) : ∀ some, r ≠ [] → Wf some (r ++ rs) := by
  induction r with
  | nil => intro _ h; exact absurd rfl h
  | cons t r ih =>
    intro some _
    have hg := h t (by simp)
    have hk1 : t.kind ≠ 1 := by rcases hg.1 with h | h | h <;> rw [h] <;> decide
    show (if t.kind = 1 then _ else _)
    rw [if_neg hk1]
    refine ⟨hg, ?_⟩
    cases r with
    | nil => exact hrs
    | cons u r => exact ih (fun x hx => h x (by simp [hx])) true (by simp)
def sizes (ps : List (List UInt8)) : Nat := (ps.map List.length).sum
theorem scanLines_wf (ps : List (List UInt8)) : ∀ (no : Nat) (ts : List Tok), scanLines no ps = .ok ts → Wf false ts ∧ (spaced ts).length ≤ 12 * sizes ps ∧ ts.length ≤ 2 * sizes ps := by
  induction ps with
  | nil => intro no ts h; simp only [scanLines] at h; cases h; exact ⟨rfl, by simp [spaced], by simp⟩
  | cons p ps ih =>
    intro no ts h
    rw [scanLines_cons, lineToks_eq] at h
    cases hr : rest no 0 p with
    | error b => rw [hr] at h; cases h
    | ok r =>
      rw [hr] at h
      simp only at h
      cases hs : scanLines (no + 1) ps with
      | error b => rw [hs] at h; cases h
      | ok rs =>
        rw [hs, prep_ok] at h
        injection h with h
        subst h
        obtain ⟨a, b, d⟩ := ih _ _ hs
        obtain ⟨g1, g2, g3⟩ := rest_good p.length no 0 p r (Nat.le_refl _) hr
        have hsz : sizes (p :: ps) = p.length + sizes ps := by simp [sizes]
        rw [hsz]
        by_cases he : r = []
        · subst he
          simp only [closeLine, List.isEmpty_nil, if_true, List.nil_append]
          exact ⟨a, by omega, by omega⟩
        · have hcl : closeLine no p.length r = r ++ [endTok no p.length] := by simp [closeLine, he]
          have hpos : 0 < r.length := List.length_pos_iff.2 he
          rw [hcl, List.append_assoc]
          have hend : Wf true ([endTok no p.length] ++ rs) := by
            show (if (endTok no p.length).kind = 1 then _ else _)
            rw [if_pos (show (endTok no p.length).kind = 1 from rfl)]
            exact ⟨rfl, rfl, a⟩
          refine ⟨wf_words r _ g1 hend _ he, ?_, ?_⟩
          · rw [spaced_append]
            simp only [List.length_append, List.cons_append, List.nil_append, spaced, endTok, if_true, List.length_cons]
            omega
          · simp only [List.length_append, List.length_cons, List.length_nil]
            omega
theorem sizes_cuts (l : List UInt8) : sizes (cuts l) ≤ l.length := by
  induction l with
  | nil => simp [cuts, sizes]
  | cons c t ih =>
    by_cases hc : c = 10
    · subst hc; rw [cuts_nl]; simp only [sizes, List.map_cons, List.length_nil, List.sum_cons, List.length_cons] at ih ⊢; omega
    · obtain ⟨q, qs, hq⟩ : ∃ q qs, cuts t = q :: qs := by
        cases hh : cuts t with
        | nil => exact absurd hh (cuts_ne t)
        | cons q qs => exact ⟨q, qs, rfl⟩
      rw [cuts_other c t q qs hc hq]
      rw [hq] at ih
      simp only [sizes, List.map_cons, List.sum_cons, List.length_cons] at ih ⊢
      omega
theorem scan_wf (l : List UInt8) (ts : List Tok) (h : scan l = .ok ts) : Wf false ts ∧ (spaced ts).length ≤ 12 * l.length ∧ ts.length ≤ 2 * l.length := by
  unfold scan at h
  split at h
  · cases h
  · have h1 := scanLines_wf _ _ _ h
    have h2 := sizes_cuts l
    exact ⟨h1.1, by omega, by omega⟩
theorem tail_pre (line : Nat) (u : List UInt8) : tailFrom line 0 false (9 :: 10 :: 32 :: 35 :: 32 :: 255 :: 32 :: 39 :: 10 :: u) = tailFrom (line + 2) 0 false u := by
  rw [tail_blank _ _ _ _ _ (by decide), tail_nl, tail_blank _ _ _ _ _ (by decide), tail_hash _ _ _ _ _ rfl]
  have hr : remark (35 :: 32 :: 255 :: 32 :: 39 :: 10 :: u) = 5 := by simp [remark]
  rw [hr]
  simp only [List.drop_succ_cons, List.drop_zero]
  rw [tail_nl]
  simp
/-- THE PLAIN LAW OF LexisBlanks. -/
theorem blanks_law (l : List UInt8) (ts : List Tok) (h : scan l = .ok ts) (hl : l.length ≤ 4000) : ∃ ms, scan (spacedAll ts) = .ok ms ∧ Like ts ms := by
  obtain ⟨hw, hs, _⟩ := scan_wf l ts h
  obtain ⟨ms, hm, hlike⟩ := tail_spaced ts 3 0 false hw
  refine ⟨ms, ?_, hlike⟩
  have hlen : ¬ (spacedAll ts).length > 65536 := by
    simp only [spacedAll, List.length_append, List.length_cons, List.length_nil]; omega
  unfold scan
  rw [if_neg hlen, scan_tail]
  show tailFrom 1 0 false (9 :: 10 :: 32 :: 35 :: 32 :: 255 :: 32 :: 39 :: 10 :: spaced ts) = _
  rw [tail_pre]
  exact hm
end Go.Proofs.YtinobikikineiabGreatDoor.Lx
