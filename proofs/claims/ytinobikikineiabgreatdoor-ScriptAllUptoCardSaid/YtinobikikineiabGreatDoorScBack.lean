/- Plain laws of scripts: what is printed is read as it was. No program is in sight. No conditions. -/
import Derived.Test.YtinobikikineiabGreatDoorScLaws
import Derived.Lib.ItoaNum
import Derived.Lib.Join
namespace Go.Proofs.YtinobikikineiabGreatDoor.Sc

/-- The words there are. -/
def words : List (List UInt8) := [[100, 101, 102], [108, 111, 97, 100], [115, 116, 101, 112, 115], [110, 111, 114, 109, 97, 108], [104, 111, 108, 100, 115], [113, 117, 111, 116, 105, 101, 110, 116], [114, 97, 119], [101, 100, 103, 101], [99, 111, 109, 112, 97, 114, 101], [114, 97, 110, 107], [98, 101, 108, 111, 119], [115, 116, 114, 111, 110, 103], [98, 114, 97, 110, 99, 104, 105, 110, 103], [119, 101, 97, 107], [114, 111, 117, 110, 100, 115], [115, 105, 109, 117, 108, 97, 116, 105, 111, 110], [99, 111, 108, 108, 97, 112, 115, 101], [115, 104, 111, 119], [114, 117, 110]]
theorem word_known {w : List UInt8} (h : wants w ≠ 0) : w ∈ words := by
  unfold wants at h
  simp only [words, List.mem_cons, List.not_mem_nil, or_false]
  split at h
  · rename_i h1
    rcases h1 with h1 | h1 | h1 | h1 | h1 <;> simp [h1]
  · split at h
    · rename_i h1
      simp [h1]
    · split at h
      · rename_i h1
        rcases h1 with h1 | h1 <;> simp [h1]
      · split at h
        · rename_i h1
          rcases h1 with h1 | h1 | h1 <;> simp [h1]
        · split at h
          · rename_i h1
            rcases h1 with h1 | h1 | h1 | h1 | h1 | h1 | h1 | h1 <;> simp [h1]
          · exact absurd rfl h
theorem words_good : ∀ w ∈ words, w.length ≤ 10 ∧ w ≠ [] ∧ w.all (fun c => !blank c && c != 10 && c != 35) = true := by decide
theorem word_good {w : List UInt8} (h : wants w ≠ 0) : w.length ≤ 10 ∧ w ≠ [] ∧ ∀ c ∈ w, blank c = false ∧ c ≠ 10 ∧ c ≠ 35 := by
  obtain ⟨h1, h2, h3⟩ := words_good w (word_known h)
  refine ⟨h1, h2, fun c hc => ?_⟩
  have := List.all_eq_true.1 h3 c hc
  simpa [and_assoc] using this
theorem wants_le (w : List UInt8) : wants w ≤ 5 := by unfold wants; repeat (split <;> try omega)
theorem headW_of (w t : List UInt8) (h : ∀ c ∈ w, blank c = false) (ht : t = [] ∨ ∃ c u, t = c :: u ∧ blank c = true) : headW (w ++ t) = w ∧ tailW (w ++ t) = t := by
  induction w with
  | nil =>
    rcases ht with rfl | ⟨c, u, rfl, hc⟩
    · exact ⟨rfl, rfl⟩
    · simp [headW, tailW, hc]
  | cons c w ih =>
    obtain ⟨h1, h2⟩ := ih (fun d hd => h d (by simp [hd]))
    have hc := h c (by simp)
    constructor
    · unfold headW at h1 ⊢
      rw [List.cons_append, List.takeWhile_cons, if_pos (by simp [hc]), h1]
    · unfold tailW at h2 ⊢
      rw [List.cons_append, List.dropWhile_cons, if_pos (by simp [hc]), h2]

/-! ### numerals -/
theorem decimal_digits (u : Nat) : Lx.Decimal u (Lib.decDigits u) ∧ (0 < u → (Lib.decDigits u).head? ≠ some 48) := by
  induction u using Nat.strongRecOn with
  | _ u ih =>
    by_cases h : u < 10
    · rw [Lib.decDigits_one h]
      have ht : (UInt8.ofNat (48 + u)).toNat = 48 + u := by simp; omega
      have hd := Lx.digit_of u h _ ht
      refine ⟨⟨?_, ?_, by simp, .inl (by simp)⟩, fun hp => ?_⟩
      · have := Lx.digVal_snoc [] (UInt8.ofNat (48 + u))
        rw [List.nil_append, ht] at this
        rw [this]
        show 10 * 0 + _ = _
        omega
      · rw [List.all_cons, hd.1]; rfl
      · intro e
        exact hd.2 hp (Option.some.inj e)
    · rw [Lib.decDigits, dif_neg h]
      obtain ⟨hi, hh⟩ := ih (u / 10) (by omega)
      have hh := hh (by omega)
      have ht : (UInt8.ofNat (48 + u % 10)).toNat = 48 + u % 10 := by simp; omega
      have hd := Lx.digit_of (u % 10) (Nat.mod_lt _ (by omega)) _ ht
      have he : (Lib.decDigits (u / 10) ++ [UInt8.ofNat (48 + u % 10)]).head? = (Lib.decDigits (u / 10)).head? := by
        cases hl : Lib.decDigits (u / 10) with
        | nil => exact absurd hl hi.ne
        | cons c t => rfl
      refine ⟨⟨?_, ?_, by simp, .inr (by rw [he]; exact hh)⟩, fun _ => by rw [he]; exact hh⟩
      · rw [Lx.digVal_snoc, hi.val, ht]; omega
      · rw [List.all_append, hi.digits, List.all_cons, hd.1]; rfl
theorem digits_num (n : Int) (h0 : 0 ≤ n) (h1 : n ≤ 1073741824) : Lx.numCode (digits n) = 0 ∧ (Lx.numVal (digits n) : Int) = n := by
  obtain ⟨k, rfl⟩ : ∃ k : Nat, n = (k : Int) := ⟨n.toNat, by omega⟩
  have e : digits (k : Int) = Lib.decDigits k := by unfold digits Lib.itoa; rw [if_neg (by omega)]; rfl
  obtain ⟨a, b⟩ := (decimal_digits k).1.num (by unfold Lx.big; omega)
  rw [e]; exact ⟨a, by rw [b]⟩
theorem digits_good (n : Int) (h0 : 0 ≤ n) : digits n ≠ [] ∧ ∀ c ∈ digits n, blank c = false ∧ c ≠ 10 := by
  obtain ⟨k, rfl⟩ : ∃ k : Nat, n = (k : Int) := ⟨n.toNat, by omega⟩
  have e : digits (k : Int) = Lib.decDigits k := by unfold digits Lib.itoa; rw [if_neg (by omega)]; rfl
  have hd := (decimal_digits k).1
  rw [e]
  refine ⟨hd.ne, fun c hc => ?_⟩
  have := List.all_eq_true.1 hd.digits c hc
  simp only [Lx.isDigit, Bool.and_eq_true, decide_eq_true_eq] at this
  constructor
  · simp only [blank, Lx.isBlank, Bool.or_eq_false_iff, beq_eq_false_iff_ne, ne_eq]
    refine ⟨⟨?_, ?_⟩, ?_⟩ <;> (rintro rfl; revert this; decide)
  · rintro rfl; revert this; decide

/-! ### lines -/
/-- Numbers behind a word. -/
def tailN (l : List Int) : List UInt8 := l.flatMap fun n => 32 :: digits n
theorem joinTail_flat (xs : List (List UInt8)) : Lib.joinTail [32] xs = xs.flatMap fun x => 32 :: x := by
  unfold Lib.joinTail
  induction xs with
  | nil => rfl
  | cons x xs ih => simp only [List.map_cons, List.flatten_cons, List.flatMap_cons, ih]; rfl
theorem line_eq (c : Cmd) : lineOf c = c.word ++ ((if c.text.isEmpty then [] else 32 :: c.text) ++ tailN c.nums) := by
  unfold lineOf sep
  rw [Lib.join_cons, joinTail_flat, List.flatMap_append]
  congr 1
  congr 1
  · cases h : c.text.isEmpty <;> simp
  · unfold tailN
    induction c.nums with
    | nil => rfl
    | cons n ns ih => simp only [List.map_cons, List.flatMap_cons, ih]
theorem tailN_head (l : List Int) : tailN l = [] ∨ ∃ c u, tailN l = c :: u ∧ blank c = true := by
  cases l with
  | nil => exact .inl rfl
  | cons n ns => exact .inr ⟨32, digits n ++ tailN ns, by simp [tailN], by decide⟩
theorem fields_tailN (l : List Int) (h : ∀ n ∈ l, 0 ≤ n) : fields (tailN l) = l.map digits := by
  induction l with
  | nil => rfl
  | cons n ns ih =>
    have e : tailN (n :: ns) = 32 :: (digits n ++ tailN ns) := by simp [tailN]
    obtain ⟨hne, hg⟩ := digits_good n (h n (by simp))
    rw [e, fields_blank _ _ (by decide), fields_word _ _ (fun c hc => (hg c hc).1) hne (tailN_head ns), ih (fun m hm => h m (by simp [hm]))]
    rfl
theorem numbers_digits (l : List Int) (h : ∀ n ∈ l, 0 ≤ n ∧ n ≤ 1073741824) : numbers (l.map digits) = some l := by
  induction l with
  | nil => rfl
  | cons n ns ih =>
    obtain ⟨h1, h2⟩ := digits_num n (h n (by simp)).1 (h n (by simp)).2
    simp only [List.map_cons, numbers]
    rw [if_pos h1, ih (fun m hm => h m (by simp [hm])), h2]
    rfl
structure Good (c : Cmd) : Prop where
  word : wants c.word ≠ 0
  text : isText (wants c.word) c.text = true
  len : c.nums.length = many (wants c.word)
  nums : ∀ n ∈ c.nums, 0 ≤ n ∧ n ≤ 1073741824
theorem good_iff (c : Cmd) : isCommand c = true ↔ Good c := by
  unfold isCommand areNumbers
  simp only [Bool.and_eq_true, decide_eq_true_eq, List.all_eq_true]
  exact ⟨fun ⟨⟨a, b⟩, c, d⟩ => ⟨a, b, c, d⟩, fun ⟨a, b, c, d⟩ => ⟨⟨a, b⟩, c, d⟩⟩
/-- The text of a command that can be written: bare, with no line's end. -/
theorem text_good {want : Nat} {s : List UInt8} (h : isText want s = true) : Bare s ∧ ∀ c ∈ s, c ≠ 10 := by
  unfold isText at h
  split at h
  · simp only [Bool.and_eq_true, decide_eq_true_eq, Bool.not_eq_true', List.contains_eq_mem, decide_eq_false_iff_not] at h
    refine ⟨(bare_iff s).1 h.1.2, fun c hc e => ?_⟩
    subst e
    exact h.2 hc
  · split at h
    · simp only [Bool.or_eq_true, decide_eq_true_eq] at h
      rcases h with rfl | rfl
      · exact ⟨(bare_iff _).1 (by decide), by decide⟩
      · exact ⟨(bare_iff _).1 (by decide), by decide⟩
    · rw [List.isEmpty_iff] at h
      subst h
      exact ⟨⟨fun c h => (by cases h), fun c h => (by cases h)⟩, fun c hc => (by cases hc)⟩
theorem many_text {want : Nat} {s : List UInt8} (h : isText want s = true) (hm : many want ≠ 0) : s = [] := by
  have : want = 5 ∨ want = 4 := by
    unfold many at hm
    split at hm
    · exact .inl ‹_›
    · split at hm
      · exact .inr ‹_›
      · exact absurd rfl hm
  unfold isText at h
  rw [if_neg (by omega), if_neg (by omega), List.isEmpty_iff] at h
  exact h
theorem line_tail (c : Cmd) : ((if c.text.isEmpty then [] else 32 :: c.text) ++ tailN c.nums) = [] ∨ ∃ d u, ((if c.text.isEmpty then [] else 32 :: c.text) ++ tailN c.nums) = d :: u ∧ blank d = true := by
  cases h : c.text.isEmpty with
  | true => simpa using tailN_head c.nums
  | false => exact .inr ⟨32, c.text ++ tailN c.nums, by simp, by decide⟩
theorem command_line {c : Cmd} (h : isCommand c = true) : command (lineOf c) = some c := by
  have hg := (good_iff c).1 h
  obtain ⟨w1, w2, w3⟩ := word_good hg.word
  obtain ⟨hw, ht⟩ := headW_of c.word _ (fun d hd => (w3 d hd).1) (line_tail c)
  have htx := text_good hg.text
  unfold command
  rw [line_eq, hw, ht]
  simp only []
  by_cases hm : many (wants c.word) = 0
  · rw [if_pos hm]
    have hn : c.nums = [] := List.eq_nil_of_length_eq_zero (by rw [hg.len, hm])
    have hr : trim ((if c.text.isEmpty then [] else 32 :: c.text) ++ tailN c.nums) = c.text := by
      rw [hn]
      show trim (_ ++ []) = _
      rw [List.append_nil]
      cases he : c.text.isEmpty with
      | true => rw [List.isEmpty_iff] at he; rw [he]; decide
      | false =>
        have := trim_pre [32] c.text (by simp [blank, Lx.isBlank])
        rw [List.singleton_append] at this
        simp only [Bool.false_eq_true, if_false]
        rw [this, trim_bare _ htx.1]
    rw [hr]
    have e : (⟨c.word, c.text, []⟩ : Cmd) = c := by rw [← hn]
    rw [e, if_pos h]
  · rw [if_neg hm]
    have hx := many_text hg.text hm
    have hf : fields (trim ((if c.text.isEmpty then [] else 32 :: c.text) ++ tailN c.nums)) = c.nums.map digits := by
      rw [hx, fields_trim]
      exact fields_tailN _ (fun n hn => (hg.nums n hn).1)
    rw [hf, numbers_digits _ hg.nums]
    have e : (⟨c.word, [], c.nums⟩ : Cmd) = c := by rw [← hx]
    simp only [e, if_pos h]
theorem line_good {c : Cmd} (h : isCommand c = true) : trim (lineOf c) = lineOf c ∧ idle (lineOf c) = false ∧ ∀ d ∈ lineOf c, d ≠ 10 := by
  have hg := (good_iff c).1 h
  obtain ⟨w1, w2, w3⟩ := word_good hg.word
  have htx := text_good hg.text
  have hne : lineOf c ≠ [] := by rw [line_eq]; simp [w2]
  obtain ⟨d, t, hdt⟩ : ∃ d t, c.word = d :: t := by
    cases hw : c.word with
    | nil => exact absurd hw w2
    | cons d t => exact ⟨d, t, rfl⟩
  have hd := w3 d (by rw [hdt]; simp)
  have hno : ∀ d ∈ lineOf c, d ≠ 10 := by
    intro e he
    rw [line_eq, List.mem_append, List.mem_append] at he
    rcases he with he | he | he
    · exact (w3 e he).2.1
    · split at he
      · cases he
      · rcases List.mem_cons.1 he with rfl | he
        · decide
        · exact htx.2 e he
    · unfold tailN at he
      rw [List.mem_flatMap] at he
      obtain ⟨n, hn, he⟩ := he
      rcases List.mem_cons.1 he with rfl | he
      · decide
      · exact ((digits_good n (hg.nums n hn).1).2 e he).2
  refine ⟨trim_bare _ ⟨fun e he => ?_, fun e he => ?_⟩, ?_, hno⟩
  · rw [line_eq, hdt] at he
    simp only [List.cons_append, List.head?_cons] at he
    rw [← Option.some.inj he]; exact hd.1
  · have key : ∀ l : List Int, (∀ n ∈ l, 0 ≤ n) → ∀ e, (tailN l).getLast? = some e → blank e = false := by
      intro l
      induction l with
      | nil => intro _ e he; cases he
      | cons n ns ih =>
        intro hn e he
        have e1 : tailN (n :: ns) = (32 :: digits n) ++ tailN ns := by simp [tailN]
        rw [e1, List.getLast?_append] at he
        cases hl : (tailN ns).getLast? with
        | some x =>
          rw [hl] at he
          have : x = e := by simpa using he
          subst this
          exact ih (fun m hm => hn m (by simp [hm])) x hl
        | none =>
          rw [hl] at he
          obtain ⟨g1, g2⟩ := digits_good n (hn n (by simp))
          have h2 : (32 :: digits n).getLast? = (digits n).getLast? := by
            cases hq : digits n with
            | nil => exact absurd hq g1
            | cons a b => rw [List.getLast?_cons_cons]
          rw [Option.none_or, h2] at he
          exact (g2 e (List.mem_of_getLast? he)).1
    rw [line_eq, List.getLast?_append, List.getLast?_append] at he
    cases hl : (tailN c.nums).getLast? with
    | some x =>
      rw [hl] at he
      have : x = e := by simpa using he
      subst this
      exact key _ (fun n hn => (hg.nums n hn).1) x hl
    | none =>
      rw [hl, Option.none_or] at he
      cases hx : c.text.isEmpty with
      | true =>
        rw [hx] at he
        simp only [if_true, List.getLast?_nil, Option.none_or] at he
        exact (w3 e (List.mem_of_getLast? he)).1
      | false =>
        rw [hx] at he
        have hxne : c.text ≠ [] := by simpa using hx
        have h2 : (32 :: c.text).getLast? = c.text.getLast? := by
          cases hq : c.text with
          | nil => exact absurd hq hxne
          | cons a b => rw [List.getLast?_cons_cons]
        simp only [Bool.false_eq_true, if_false] at he
        rw [h2] at he
        cases hq : c.text.getLast? with
        | none => rw [List.getLast?_eq_none_iff] at hq; exact absurd hq hxne
        | some x =>
          rw [hq] at he
          have : x = e := by simpa using he
          subst this
          exact htx.1.2 x hq
  · rw [line_eq, hdt]
    simp only [idle, List.cons_append, List.isEmpty_cons, List.head?_cons, Bool.false_or, beq_eq_false_iff_ne, ne_eq, Option.some.injEq]
    exact hd.2.2

/-! ### texts -/
def textOf (l : List Cmd) : List UInt8 := l.flatMap fun c => lineOf c ++ [10]
theorem cuts_text (l : List Cmd) (h : ∀ c ∈ l, isCommand c = true) : Lx.cuts (textOf l) = l.map lineOf ++ [[]] := by
  induction l with
  | nil => rfl
  | cons c l ih =>
    have e : textOf (c :: l) = lineOf c ++ 10 :: textOf l := by simp [textOf]
    have := Lx.cuts_append (lineOf c) (10 :: textOf l) [] _ (line_good (h c (by simp))).2.2 (Lx.cuts_nl _)
    rw [e, this, ih (fun d hd => h d (by simp [hd]))]
    simp
theorem from_lines (l : List Cmd) : (∀ c ∈ l, isCommand c = true) → ∀ no count, count + l.length ≤ 1000 → from' no count (l.map lineOf ++ [[]]) = .ok l := by
  induction l with
  | nil => intro _ no count _; rfl
  | cons c l ih =>
    intro h no count hk
    rw [List.length_cons] at hk
    obtain ⟨h1, h2, _⟩ := line_good (h c (by simp))
    rw [List.map_cons, List.cons_append, from_some no count (lineOf c) _ c (by rw [h1]; exact h2) (by rw [h1]; exact command_line (h c (by simp))) (by omega), ih (fun d hd => h d (by simp [hd])) _ _ (by omega)]
    rfl
theorem text_len (l : List Cmd) : (textOf l).length = (l.map fun c => (lineOf c).length + 1).sum := by
  induction l with
  | nil => rfl
  | cons c l ih => simp only [textOf, List.flatMap_cons, List.length_append, List.map_cons, List.sum_cons] at ih ⊢; rw [ih]; simp
theorem size_text (l : List Cmd) : size (textOf l) = (textOf l).length := by
  unfold size
  cases h : (textOf l).isEmpty with
  | true => simp
  | false =>
    have key : ∀ l : List Cmd, (textOf l).isEmpty = false → (textOf l).getLast? = some 10 := by
      intro l
      induction l with
      | nil => intro h; simp [textOf] at h
      | cons c l ih =>
        intro _
        have e : textOf (c :: l) = (lineOf c ++ [10]) ++ textOf l := by simp [textOf]
        rw [e, List.getLast?_append]
        cases hl : (textOf l).isEmpty with
        | true => rw [List.isEmpty_iff] at hl; rw [hl]; simp
        | false => rw [ih hl]; rfl
    rw [key l h]
    simp
/-- What is printed is read as it was. -/
theorem print_parse {l : List Cmd} {t : List UInt8} (h : print l = .ok t) : parse t = .ok l ∧ t = textOf l ∧ t.length ≤ 65536 ∧ (∀ c ∈ l, isCommand c = true) ∧ l.length ≤ 1000 := by
  unfold print at h
  split at h
  · cases h
  · split at h
    · rename_i hl hall
      split at h
      · cases h
      · rename_i hsum
        injection h with h
        have ht : t = textOf l := h.symm
        subst ht
        rw [List.all_eq_true] at hall
        have hlen := text_len l
        refine ⟨?_, rfl, by omega, hall, by omega⟩
        unfold parse
        rw [if_neg (by rw [size_text]; omega), cuts_text l hall]
        exact from_lines l hall 1 0 (by omega)
    · cases h
theorem command_is {l : List UInt8} {c : Cmd} (h : command l = some c) : isCommand c = true := by
  unfold command at h
  simp only [] at h
  split at h
  · split at h
    · rename_i hc
      injection h with h; subst h; exact hc
    · cases h
  · split at h
    · cases h
    · split at h
      · rename_i hc
        injection h with h; subst h; exact hc
      · cases h
theorem from_is (ps : List (List UInt8)) : ∀ (no count : Nat) (r : List Cmd), from' no count ps = .ok r → ∀ c ∈ r, isCommand c = true := by
  induction ps with
  | nil => intro no count r h; simp only [from'] at h; injection h with h; subst h; intro c hc; cases hc
  | cons p ps ih =>
    intro no count r h
    rcases from_cases p with h1 | ⟨h1, hc⟩ | ⟨c, h1, hc⟩
    · rw [from_idle no count p ps h1] at h; exact ih _ _ r h
    · rw [from_none no count p ps h1 hc] at h; cases h
    · by_cases hn : 1000 ≤ count
      · rw [from_full no count p ps c h1 hc hn] at h; cases h
      · rw [from_some no count p ps c h1 hc (by omega)] at h
        cases hr : from' (no + 1) (count + 1) ps with
        | error b => rw [hr] at h; cases h
        | ok r' =>
          rw [hr] at h
          injection h with h
          subst h
          intro d hd
          rcases List.mem_cons.1 hd with rfl | hd
          · exact command_is hc
          · exact ih _ _ r' hr d hd
/-- What is read can be printed, or is too long. -/
theorem parse_print {l : List UInt8} {r : List Cmd} (h : parse l = .ok r) : (∀ c ∈ r, isCommand c = true) ∧ r.length ≤ 1000 ∧ (print r = .error 2 ∨ print r = .ok (textOf r)) := by
  unfold parse at h
  split at h
  · cases h
  · have h1 := from_is _ _ _ r h
    have h2 := from_ok_len _ _ _ r h (by omega)
    refine ⟨h1, by omega, ?_⟩
    unfold print
    rw [if_neg (by omega), if_pos (by rw [List.all_eq_true]; exact h1)]
    split
    · exact .inl rfl
    · exact .inr rfl
end Go.Proofs.YtinobikikineiabGreatDoor.Sc
