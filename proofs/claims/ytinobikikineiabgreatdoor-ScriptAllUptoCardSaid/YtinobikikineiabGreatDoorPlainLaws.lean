/- Laws of the plain functions on words: how a line and a text are read on, word by word. No program is in sight. No conditions. -/
import Derived.Test.YtinobikikineiabGreatDoorPlain
namespace Go.Proofs.YtinobikikineiabGreatDoor.Lx

/-! ### numbers -/
theorem digVal_snoc (l : List UInt8) (c : UInt8) : digVal (l ++ [c]) = 10 * digVal l + (c.toNat - 48) := by
  simp [digVal]
theorem digVal_mono (l m : List UInt8) : digVal l ≤ digVal (l ++ m) := by
  induction m generalizing l with
  | nil => simp
  | cons c m ih =>
    have h := ih (l ++ [c])
    rw [digVal_snoc] at h
    rw [List.append_assoc] at h
    simp only [List.cons_append, List.nil_append] at h
    omega
/-- What the program holds of a number's value: nothing above 'big + 1'. -/
def capVal (l : List UInt8) : Nat := min (digVal l) (big + 1)
theorem capVal_nil : capVal [] = 0 := rfl
theorem capVal_le (l : List UInt8) : capVal l ≤ big + 1 := Nat.min_le_right _ _
theorem capVal_snoc (l : List UInt8) (c : UInt8) : capVal (l ++ [c]) = min (10 * capVal l + (c.toNat - 48)) (big + 1) := by
  unfold capVal
  rw [digVal_snoc]
  simp only [Nat.min_def]
  split <;> split <;> (try split) <;> omega
/-- The bytes up to a place are digits, without a nought ahead. -/
def upTo (l : List UInt8) (k : Nat) : Bool := (l.take k).all isDigit && (decide (k ≤ 1) || l.head? != some 48)
theorem upTo_zero (l : List UInt8) : upTo l 0 = true := by simp [upTo]
theorem upTo_succ (l : List UInt8) (k : Nat) (c : UInt8) (hk : l[k]? = some c) (h : upTo l k = true) (hd : isDigit c = true) (hz : k = 0 ∨ l.head? ≠ some 48) : upTo l (k + 1) = true := by
  have hlt : k < l.length := (List.getElem?_eq_some_iff.1 hk).1
  have ht : l.take (k + 1) = l.take k ++ [c] := by
    rw [List.take_add_one, hk]; rfl
  simp only [upTo, Bool.and_eq_true, ht, List.all_append, List.all_cons, List.all_nil, Bool.and_true] at h ⊢
  refine ⟨⟨h.1, hd⟩, ?_⟩
  rcases hz with hz | hz
  · subst hz; simp
  · simp [hz]
theorem numOk_of_upTo (l : List UInt8) (hne : l ≠ []) (h : upTo l l.length = true) : numOk l = true := by
  simp only [upTo, List.take_length, Bool.and_eq_true] at h
  simp only [numOk, Bool.and_eq_true]
  exact ⟨⟨by cases l <;> simp_all, h.1⟩, h.2⟩
theorem numOk_not_digit (l : List UInt8) (k : Nat) (c : UInt8) (hk : l[k]? = some c) (hd : isDigit c = false) : numOk l = false := by
  have hm : c ∈ l := List.mem_of_getElem? hk
  have : l.all isDigit = false := by
    rw [List.all_eq_false]
    exact ⟨c, hm, by simp [hd]⟩
  simp [numOk, this]
theorem numOk_nought (l : List UInt8) (k : Nat) (hk : 0 < k) (hlt : k < l.length) (hz : l.head? = some 48) : numOk l = false := by
  have : ¬ l.length ≤ 1 := by omega
  simp [numOk, this, hz]
theorem numCode_bad (l : List UInt8) (h : numOk l = false) : numCode l = 4 := by simp [numCode, h]
theorem numCode_nil : numCode [] = 4 := rfl
theorem numCode_long (l : List UInt8) (h : numOk l = true) (hc : big < capVal l) : numCode l = 2 := by
  have : ¬ digVal l ≤ big := by unfold capVal at hc; simp only [Nat.min_def] at hc; split at hc <;> omega
  simp [numCode, h, this]
theorem numCode_good (l : List UInt8) (h : numOk l = true) (hc : ¬ big < capVal l) : numCode l = 0 ∧ numVal l = capVal l := by
  have h1 : digVal l ≤ big := by unfold capVal at hc; simp only [Nat.min_def] at hc; split at hc <;> omega
  have h2 : capVal l = digVal l := by unfold capVal; simp only [Nat.min_def]; split <;> omega
  have h0 : numCode l = 0 := by simp [numCode, h, h1]
  exact ⟨h0, by simp [numVal, h0, h2]⟩

/-! ### runs and words -/
theorem run_le (l : List UInt8) : (run l).length ≤ l.length := by
  unfold run
  exact List.Sublist.length_le (List.takeWhile_sublist _)
theorem run_take (l : List UInt8) : l.take (run l).length = run l := by
  unfold run
  obtain ⟨t, ht⟩ := List.takeWhile_prefix (p := inRun) (l := l)
  have h2 := List.take_left (l₁ := List.takeWhile inRun l) (l₂ := t)
  rw [ht] at h2
  exact h2
theorem word_len {l : List UInt8} {k : Nat} {w : List UInt8} (h : word l = .ok (k, w)) : 0 < w.length ∧ w.length ≤ l.length ∧ w = l.take w.length := by
  cases l with
  | nil => simp [word] at h
  | cons c t =>
    have hr := run_le (c :: t)
    have htk := run_take (c :: t)
    have hpos : inRun c = true → 0 < (run (c :: t)).length := by
      intro hi; simp [run, hi]
    simp only [word] at h
    split at h
    · rename_i hd
      split at h
      · injection h with h; injection h with h1 h2; subst h2
        exact ⟨hpos (by simp [inRun, hd]), hr, htk.symm⟩
      · cases h
    · split at h
      · rename_i hd
        split at h
        · injection h with h; injection h with h1 h2; subst h2
          refine ⟨hpos ?_, hr, htk.symm⟩
          simp only [inRun]; rcases Bool.or_eq_true _ _ |>.mp hd with h | h <;> simp [h]
        · cases h
      · split at h
        · injection h with h; injection h with h1 h2; subst h2
          simp
        · cases h

/-! ### a line -/
def prep (ts : List Tok) (r : Except Bad (List Tok)) : Except Bad (List Tok) :=
  match r with
  | .error b => .error b
  | .ok l => .ok (ts ++ l)
@[simp] theorem prep_nil (r : Except Bad (List Tok)) : prep [] r = r := by cases r <;> rfl
@[simp] theorem prep_prep (a b : List Tok) (r : Except Bad (List Tok)) : prep a (prep b r) = prep (a ++ b) r := by cases r <;> simp [prep]
theorem prep_error (a : List Tok) (b : Bad) : prep a (.error b) = .error b := rfl
theorem prep_ok (a l : List Tok) : prep a (.ok l) = .ok (a ++ l) := rfl

theorem lineFrom_succ (no f col : Nat) (c : UInt8) (t : List UInt8) : lineFrom no (f + 1) col (c :: t) =
    (if isBlank c then lineFrom no f (col + 1) t else if c == 35 then .ok [] else match word (c :: t) with
      | .error e => .error (e, no, col + 1)
      | .ok (k, w) => prep [⟨k, w, no, col + 1⟩] (lineFrom no f (col + w.length) ((c :: t).drop w.length))) := by
  simp only [lineFrom]
  split
  · rfl
  · split
    · rfl
    · split
      · rename_i h; rw [h]
      · rename_i k w h; rw [h]; simp only []; cases lineFrom no f (col + w.length) (List.drop w.length (c :: t)) <;> rfl
theorem lineFrom_fuel (no f g col : Nat) (l : List UInt8) (hf : l.length ≤ f) (hg : l.length ≤ g) : lineFrom no f col l = lineFrom no g col l := by
  induction f generalizing g col l with
  | zero =>
    have : l = [] := List.eq_nil_of_length_eq_zero (by omega)
    subst this
    cases g <;> simp [lineFrom]
  | succ f ih =>
    cases l with
    | nil => cases g <;> simp [lineFrom]
    | cons c t =>
      cases g with
      | zero => simp at hg
      | succ g =>
        simp only [List.length_cons] at hf hg
        rw [lineFrom_succ, lineFrom_succ]
        split
        · exact ih g (col + 1) t (by omega) (by omega)
        · split
          · rfl
          · split
            · rfl
            · rename_i k w hw
              have h := word_len hw
              have hl : ((c :: t).drop w.length).length ≤ t.length := by
                rw [List.length_drop, List.length_cons]; omega
              rw [ih g _ _ (by omega) (by omega)]
/-- The words of the rest of a line. -/
def rest (no col : Nat) (l : List UInt8) : Except Bad (List Tok) := lineFrom no l.length col l
theorem rest_nil (no col : Nat) : rest no col [] = .ok [] := rfl
theorem rest_blank (no col : Nat) (c : UInt8) (t : List UInt8) (h : isBlank c = true) : rest no col (c :: t) = rest no (col + 1) t := by
  unfold rest; rw [List.length_cons, lineFrom_succ, if_pos h]
theorem rest_hash (no col : Nat) (c : UInt8) (t : List UInt8) (h : c = 35) : rest no col (c :: t) = .ok [] := by
  subst h; rfl
theorem rest_bad (no col : Nat) (c : UInt8) (t : List UInt8) (e : Nat) (h1 : isBlank c = false) (h2 : c ≠ 35) (h : word (c :: t) = .error e) : rest no col (c :: t) = .error (e, no, col + 1) := by
  unfold rest; rw [List.length_cons, lineFrom_succ, if_neg (by simp [h1]), if_neg (by simpa using h2), h]
theorem rest_word (no col : Nat) (c : UInt8) (t : List UInt8) (k : Nat) (w : List UInt8) (h1 : isBlank c = false) (h2 : c ≠ 35) (h : word (c :: t) = .ok (k, w)) :
    rest no col (c :: t) = prep [⟨k, w, no, col + 1⟩] (rest no (col + w.length) ((c :: t).drop w.length)) := by
  have hw := word_len h
  have hl : ((c :: t).drop w.length).length ≤ t.length := by
    rw [List.length_drop, List.length_cons]; omega
  unfold rest; rw [List.length_cons, lineFrom_succ, if_neg (by simp [h1]), if_neg (by simpa using h2), h]
  simp only
  rw [lineFrom_fuel no t.length _ _ _ hl (Nat.le_refl _)]
theorem lineToks_eq (no : Nat) (l : List UInt8) : lineToks no l = match rest no 0 l with
    | .error b => .error b
    | .ok r => .ok (closeLine no l.length r) := rfl

/-! ### a text, read byte by byte -/
theorem cuts_ne (l : List UInt8) : cuts l ≠ [] := by
  cases l with
  | nil => simp [cuts]
  | cons c t => simp only [cuts]; split; · simp
                split <;> simp
theorem cuts_nl (t : List UInt8) : cuts (10 :: t) = [] :: cuts t := by simp [cuts]
theorem cuts_other (c : UInt8) (t p : List UInt8) (ps : List (List UInt8)) (hc : c ≠ 10) (h : cuts t = p :: ps) : cuts (c :: t) = (c :: p) :: ps := by
  simp [cuts, hc, h]
theorem cuts_append (w t p : List UInt8) (ps : List (List UInt8)) (hw : ∀ c ∈ w, c ≠ 10) (h : cuts t = p :: ps) : cuts (w ++ t) = (w ++ p) :: ps := by
  induction w with
  | nil => simpa using h
  | cons c w ih =>
    rw [List.cons_append, cuts_other c (w ++ t) (w ++ p) ps (hw c (by simp)) (ih (fun d hd => hw d (by simp [hd])))]; rfl
/-- A text is its first line, and what stands behind it: nothing, or a 10 and the other lines. -/
theorem cuts_head (l p : List UInt8) (ps : List (List UInt8)) (h : cuts l = p :: ps) : (∀ c ∈ p, c ≠ 10) ∧ ((ps = [] ∧ l = p) ∨ ∃ t, l = p ++ 10 :: t ∧ cuts t = ps) := by
  induction l generalizing p ps with
  | nil => simp [cuts] at h; obtain ⟨rfl, rfl⟩ := h; simp
  | cons c t ih =>
    by_cases hc : c = 10
    · subst hc; rw [cuts_nl] at h; injection h with h1 h2; subst h1
      exact ⟨by simp, .inr ⟨t, rfl, h2⟩⟩
    · obtain ⟨q, qs, hq⟩ : ∃ q qs, cuts t = q :: qs := by
        cases hh : cuts t with
        | nil => exact absurd hh (cuts_ne t)
        | cons q qs => exact ⟨q, qs, rfl⟩
      rw [cuts_other c t q qs hc hq] at h
      injection h with h1 h2; subst h1; subst h2
      obtain ⟨a, b⟩ := ih q qs hq
      refine ⟨?_, ?_⟩
      · intro d hd; rcases List.mem_cons.1 hd with rfl | hd
        · exact hc
        · exact a d hd
      · rcases b with ⟨rfl, rfl⟩ | ⟨u, rfl, hu⟩
        · exact .inl ⟨rfl, rfl⟩
        · exact .inr ⟨u, rfl, hu⟩
theorem run_front (p t : List UInt8) (h : t = [] ∨ ∃ u, t = 10 :: u) : run (p ++ t) = run p := by
  unfold run
  induction p with
  | nil => rcases h with rfl | ⟨u, rfl⟩
           · rfl
           · simp [show inRun 10 = false from by decide]
  | cons c p ih => rw [List.cons_append, List.takeWhile_cons, List.takeWhile_cons]; split
                   · rw [ih]
                   · rfl
theorem word_front (c : UInt8) (p t : List UInt8) (h : t = [] ∨ ∃ u, t = 10 :: u) : word (c :: (p ++ t)) = word (c :: p) := by
  have hr : run (c :: (p ++ t)) = run (c :: p) := run_front (c :: p) t h
  simp only [word, hr]

/-- The words from a place in a line on, to the text's end; 'some': has the line words already? -/
def tailFrom (line col : Nat) (some : Bool) (l : List UInt8) : Except Bad (List Tok) :=
  match cuts l with
  | [] => .ok []
  | p :: ps => match rest line col p with
    | .error b => .error b
    | .ok r => prep (r ++ (if some || !r.isEmpty then [endTok line (col + p.length)] else [])) (scanLines (line + 1) ps)
theorem scanLines_cons (no : Nat) (p : List UInt8) (ps : List (List UInt8)) : scanLines no (p :: ps) = match lineToks no p with
    | .error b => .error b
    | .ok r => prep r (scanLines (no + 1) ps) := by
  simp only [scanLines]
  cases lineToks no p with
  | error b => rfl
  | ok r => simp only []; cases scanLines (no + 1) ps <;> rfl
theorem scan_tail (line : Nat) (l : List UInt8) : scanLines line (cuts l) = tailFrom line 0 false l := by
  unfold tailFrom
  cases h : cuts l with
  | nil => rfl
  | cons p ps =>
    simp only
    rw [scanLines_cons, lineToks_eq]
    cases rest line 0 p with
    | error b => rfl
    | ok r => simp only [closeLine, Bool.false_or, Nat.zero_add]; cases r <;> simp
theorem tail_nil (line col : Nat) (some : Bool) : tailFrom line col some [] = .ok (if some then [endTok line col] else []) := by
  cases some <;> simp [tailFrom, cuts, rest_nil, scanLines, prep]
theorem tail_nl (line col : Nat) (some : Bool) (t : List UInt8) : tailFrom line col some (10 :: t) = prep (if some then [endTok line col] else []) (tailFrom (line + 1) 0 false t) := by
  rw [← scan_tail]
  unfold tailFrom
  rw [cuts_nl]
  cases some <;> simp [rest_nil]
theorem tail_blank (line col : Nat) (some : Bool) (c : UInt8) (t : List UInt8) (h : isBlank c = true) : tailFrom line col some (c :: t) = tailFrom line (col + 1) some t := by
  have hc : c ≠ 10 := by rintro rfl; revert h; decide
  obtain ⟨p, ps, hq⟩ : ∃ q qs, cuts t = q :: qs := by
    cases hh : cuts t with
    | nil => exact absurd hh (cuts_ne t)
    | cons q qs => exact ⟨q, qs, rfl⟩
  unfold tailFrom
  rw [cuts_other c t p ps hc hq, hq]
  simp only [rest_blank line col c p h, List.length_cons]
  rw [show col + (p.length + 1) = col + 1 + p.length from by omega]
/-- How many bytes a remark has. -/
def remark (l : List UInt8) : Nat := (l.takeWhile (· != 10)).length
theorem remark_le (l : List UInt8) : remark l ≤ l.length := List.Sublist.length_le (List.takeWhile_sublist _)
theorem cuts_first (l p : List UInt8) (ps : List (List UInt8)) (h : cuts l = p :: ps) : remark l = p.length ∧ cuts (l.drop p.length) = [] :: ps := by
  obtain ⟨h1, h2⟩ := cuts_head l p ps h
  have key : ∀ t : List UInt8, (t = [] ∨ ∃ u, t = 10 :: u) → remark (p ++ t) = p.length := by
    intro t ht
    unfold remark
    clear h h2 l
    induction p with
    | nil => rcases ht with rfl | ⟨u, rfl⟩ <;> simp
    | cons c p ih =>
      rw [List.cons_append, List.takeWhile_cons, if_pos (by simpa using h1 c (by simp)), List.length_cons, ih (fun d hd => h1 d (by simp [hd])), List.length_cons]
  rcases h2 with ⟨rfl, rfl⟩ | ⟨u, rfl, hu⟩
  · exact ⟨by simpa using key [] (.inl rfl), by simp [cuts]⟩
  · exact ⟨key _ (.inr ⟨u, rfl⟩), by simp [cuts_nl, hu]⟩
theorem tail_hash (line col : Nat) (some : Bool) (c : UInt8) (t : List UInt8) (h : c = 35) :
    tailFrom line col some (c :: t) = tailFrom line (col + remark (c :: t)) some ((c :: t).drop (remark (c :: t))) := by
  subst h
  obtain ⟨p, ps, hq⟩ : ∃ q qs, cuts t = q :: qs := by
    cases hh : cuts t with
    | nil => exact absurd hh (cuts_ne t)
    | cons q qs => exact ⟨q, qs, rfl⟩
  have hcut := cuts_other 35 t p ps (by decide) hq
  obtain ⟨hr, hd⟩ := cuts_first _ _ _ hcut
  rw [hr]
  unfold tailFrom
  rw [hcut, hd]
  simp [rest_hash, rest_nil]
theorem tail_bad (line col : Nat) (some : Bool) (c : UInt8) (t : List UInt8) (e : Nat) (hc : c ≠ 10) (h1 : isBlank c = false) (h2 : c ≠ 35) (h : word (c :: t) = .error e) :
    tailFrom line col some (c :: t) = .error (e, line, col + 1) := by
  obtain ⟨p, ps, hq⟩ : ∃ q qs, cuts t = q :: qs := by
    cases hh : cuts t with
    | nil => exact absurd hh (cuts_ne t)
    | cons q qs => exact ⟨q, qs, rfl⟩
  have hw : word (c :: p) = word (c :: t) := by
    obtain ⟨_, ⟨_, rfl⟩ | ⟨u, rfl, _⟩⟩ := cuts_head t p ps hq
    · rfl
    · exact (word_front c p _ (.inr ⟨u, rfl⟩)).symm
  unfold tailFrom
  rw [cuts_other c t p ps hc hq]
  simp only [rest_bad line col c p e h1 h2 (hw.trans h)]
theorem tail_word (line col : Nat) (some : Bool) (c : UInt8) (t : List UInt8) (k : Nat) (w : List UInt8) (hc : c ≠ 10) (h1 : isBlank c = false) (h2 : c ≠ 35) (h : word (c :: t) = .ok (k, w)) :
    tailFrom line col some (c :: t) = prep [⟨k, w, line, col + 1⟩] (tailFrom line (col + w.length) true ((c :: t).drop w.length)) := by
  obtain ⟨p, ps, hq⟩ : ∃ q qs, cuts t = q :: qs := by
    cases hh : cuts t with
    | nil => exact absurd hh (cuts_ne t)
    | cons q qs => exact ⟨q, qs, rfl⟩
  obtain ⟨hno, hsplit⟩ := cuts_head t p ps hq
  have hw : word (c :: p) = word (c :: t) := by
    rcases hsplit with ⟨_, rfl⟩ | ⟨u, rfl, _⟩
    · rfl
    · exact (word_front c p _ (.inr ⟨u, rfl⟩)).symm
  have hwp := word_len (hw.trans h)
  have hcut : cuts ((c :: t).drop w.length) = (c :: p).drop w.length :: ps := by
    have hno' : ∀ d ∈ (c :: p).drop w.length, d ≠ 10 := by
      intro d hd
      rcases List.mem_cons.1 (List.mem_of_mem_drop hd) with rfl | hd
      · exact hc
      · exact hno d hd
    rcases hsplit with ⟨rfl, rfl⟩ | ⟨u, rfl, hu⟩
    · have := cuts_append ((c :: t).drop w.length) [] [] [] hno' rfl
      simpa using this
    · have e : (c :: (p ++ 10 :: u)).drop w.length = (c :: p).drop w.length ++ 10 :: u := by
        rw [← List.cons_append, List.drop_append_of_le_length hwp.2.1]
      rw [e]
      have := cuts_append ((c :: p).drop w.length) (10 :: u) [] ps hno' (by rw [cuts_nl, hu])
      simpa using this
  have hlen : col + w.length + (p.length + 1 - w.length) = col + (p.length + 1) := by
    have := hwp.2.1; rw [List.length_cons] at this; omega
  unfold tailFrom
  rw [cuts_other c t p ps hc hq, hcut]
  simp only [rest_word line col c p k w h1 h2 (hw.trans h)]
  cases rest line (col + w.length) ((c :: p).drop w.length) with
  | error b => rfl
  | ok r => simp [prep_ok, hlen]
end Go.Proofs.YtinobikikineiabGreatDoor.Lx
