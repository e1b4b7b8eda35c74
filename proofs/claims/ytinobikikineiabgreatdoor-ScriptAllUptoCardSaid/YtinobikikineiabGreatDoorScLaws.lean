/- Plain laws of scripts: trimming, pieces, lines. No program is in sight. No conditions. -/
import Derived.Test.YtinobikikineiabGreatDoorScPlain
import Derived.Test.YtinobikikineiabGreatDoorPlainScan
namespace Go.Proofs.YtinobikikineiabGreatDoor.Sc

/-! ### trimming -/
theorem set_blank (c : UInt8) : ([32, 9, 13] : List UInt8).contains c = blank c := by
  simp only [blank, Lx.isBlank, List.contains_cons, List.contains_nil, Bool.or_false, Bool.or_assoc]
theorem trim_eq (l : List UInt8) : trim l = ((l.reverse.dropWhile blank).reverse).dropWhile blank := by
  have : (fun c => ([32, 9, 13] : List UInt8).contains c) = blank := funext set_blank
  unfold trim Lib.trimS Lib.trimLeftS Lib.trimRightS
  rw [this]
theorem drop_all {p : UInt8 → Bool} {l : List UInt8} (h : ∀ c ∈ l, p c = true) : l.dropWhile p = [] := by
  induction l with
  | nil => rfl
  | cons c t ih => rw [List.dropWhile_cons, if_pos (h c (by simp)), ih (fun d hd => h d (by simp [hd]))]
theorem drop_front {p : UInt8 → Bool} {a l : List UInt8} (h : ∀ c ∈ a, p c = true) : (a ++ l).dropWhile p = l.dropWhile p := by
  induction a with
  | nil => rfl
  | cons c t ih => rw [List.cons_append, List.dropWhile_cons, if_pos (h c (by simp)), ih (fun d hd => h d (by simp [hd]))]
theorem drop_stop {p : UInt8 → Bool} {l : List UInt8} (h : ∀ c, l.head? = some c → p c = false) : l.dropWhile p = l := by
  cases l with
  | nil => rfl
  | cons c t => rw [List.dropWhile_cons, if_neg (by simp [h c rfl])]
theorem drop_head {p : UInt8 → Bool} {l : List UInt8} {c : UInt8} (h : (l.dropWhile p).head? = some c) : p c = false := by
  induction l with
  | nil => cases h
  | cons d t ih =>
    rw [List.dropWhile_cons] at h
    by_cases hd : p d = true
    · rw [if_pos hd] at h; exact ih h
    · rw [if_neg hd] at h
      rw [List.head?_cons] at h
      rw [← Option.some.inj h]; simpa using hd
theorem trim_post (l b : List UInt8) (h : ∀ c ∈ b, blank c = true) : trim (l ++ b) = trim l := by
  rw [trim_eq, trim_eq, List.reverse_append, drop_front (fun c hc => h c (by simpa using hc))]
theorem trim_pre (a l : List UInt8) (h : ∀ c ∈ a, blank c = true) : trim (a ++ l) = trim l := by
  rw [trim_eq, trim_eq, List.reverse_append, List.dropWhile_append]
  split
  · rename_i he
    rw [List.isEmpty_iff] at he
    rw [he, drop_all (l := a.reverse) (fun c hc => h c (List.mem_reverse.1 hc))]
  · rw [List.reverse_append, List.reverse_reverse, drop_front h]
/-- Neither end is a blank. -/
def Bare (l : List UInt8) : Prop := (∀ c, l.head? = some c → blank c = false) ∧ (∀ c, l.getLast? = some c → blank c = false)
theorem trim_bare (l : List UInt8) (h : Bare l) : trim l = l := by
  rw [trim_eq, drop_stop (l := l.reverse) (fun c hc => h.2 c (by rwa [List.head?_reverse] at hc)), List.reverse_reverse, drop_stop h.1]
theorem getLast_drop {p : UInt8 → Bool} {l : List UInt8} {c : UInt8} (h : (l.dropWhile p).getLast? = some c) : l.getLast? = some c := by
  induction l with
  | nil => cases h
  | cons d t ih =>
    rw [List.dropWhile_cons] at h
    by_cases hd : p d = true
    · rw [if_pos hd] at h
      have := ih h
      cases t with
      | nil => cases this
      | cons e u => rwa [List.getLast?_cons_cons]
    · rwa [if_neg hd] at h
theorem bare_trim (l : List UInt8) : Bare (trim l) := by
  rw [trim_eq]
  refine ⟨fun c hc => drop_head hc, fun c hc => ?_⟩
  have := getLast_drop hc
  rw [List.getLast?_reverse] at this
  exact drop_head this
theorem trim_trim (l : List UInt8) : trim (trim l) = trim l := trim_bare _ (bare_trim l)
theorem bare_iff (l : List UInt8) : l = trim l ↔ Bare l := ⟨fun h => by rw [h]; exact bare_trim l, fun h => (trim_bare l h).symm⟩
theorem mem_drop {p : UInt8 → Bool} {l : List UInt8} {c : UInt8} (h : c ∈ l.dropWhile p) : c ∈ l := (List.dropWhile_sublist p).subset h
theorem mem_trim {l : List UInt8} {c : UInt8} (h : c ∈ trim l) : c ∈ l := by
  rw [trim_eq] at h
  have := mem_drop h
  rw [List.mem_reverse] at this
  have := mem_drop this
  rwa [List.mem_reverse] at this
theorem trim_len (l : List UInt8) : (trim l).length ≤ l.length := by
  rw [trim_eq]
  refine Nat.le_trans (List.Sublist.length_le (List.dropWhile_sublist _)) ?_
  rw [List.length_reverse]
  refine Nat.le_trans (List.Sublist.length_le (List.dropWhile_sublist _)) ?_
  rw [List.length_reverse]; exact Nat.le_refl _

/-! ### pieces -/
theorem cutsB_ne (l : List UInt8) : cutsB l ≠ [] := by
  cases l with
  | nil => simp [cutsB]
  | cons c t =>
    simp only [cutsB]
    split
    · simp
    · split <;> simp
theorem cutsB_blank (c : UInt8) (t : List UInt8) (h : blank c = true) : cutsB (c :: t) = [] :: cutsB t := by
  simp only [cutsB]; rw [if_pos h]
theorem cutsB_other (c : UInt8) (t p : List UInt8) (ps : List (List UInt8)) (h : blank c = false) (ht : cutsB t = p :: ps) : cutsB (c :: t) = (c :: p) :: ps := by
  simp only [cutsB]; rw [if_neg (by simp [h]), ht]
theorem cutsB_word (d t p : List UInt8) (ps : List (List UInt8)) (h : ∀ c ∈ d, blank c = false) (ht : cutsB t = p :: ps) : cutsB (d ++ t) = (d ++ p) :: ps := by
  induction d with
  | nil => exact ht
  | cons c d ih => exact cutsB_other c _ _ _ (h c (by simp)) (ih (fun e he => h e (by simp [he])))
theorem fields_nil : fields [] = [] := rfl
theorem fields_blank (c : UInt8) (t : List UInt8) (h : blank c = true) : fields (c :: t) = fields t := by
  unfold fields; rw [cutsB_blank c t h]; rfl
theorem fields_pre (a l : List UInt8) (h : ∀ c ∈ a, blank c = true) : fields (a ++ l) = fields l := by
  induction a with
  | nil => rfl
  | cons c t ih => rw [List.cons_append, fields_blank c _ (h c (by simp)), ih (fun d hd => h d (by simp [hd]))]
theorem fields_word (d t : List UInt8) (h : ∀ c ∈ d, blank c = false) (hd : d ≠ []) (ht : t = [] ∨ ∃ c u, t = c :: u ∧ blank c = true) : fields (d ++ t) = d :: fields t := by
  obtain ⟨ps, hp⟩ : ∃ ps, cutsB t = [] :: ps := by
    rcases ht with rfl | ⟨c, u, rfl, hc⟩
    · exact ⟨[], rfl⟩
    · exact ⟨_, cutsB_blank c u hc⟩
  unfold fields
  rw [cutsB_word d t [] ps h hp, hp]
  have : (d ++ []).isEmpty = false := by simpa using hd
  simp [hd]
theorem takeW_mem {p : UInt8 → Bool} {l : List UInt8} {c : UInt8} (h : c ∈ l.takeWhile p) : p c = true := by
  induction l with
  | nil => cases h
  | cons d t ih =>
    rw [List.takeWhile_cons] at h
    by_cases hd : p d = true
    · rw [if_pos hd] at h
      rcases List.mem_cons.1 h with rfl | h
      · exact hd
      · exact ih h
    · rw [if_neg hd] at h; cases h
theorem headW_mem {l : List UInt8} {c : UInt8} (h : c ∈ headW l) : blank c = false := by
  have := takeW_mem h; simpa using this
theorem head_tail (l : List UInt8) : headW l ++ tailW l = l := List.takeWhile_append_dropWhile
theorem tailW_head (l : List UInt8) : tailW l = [] ∨ ∃ c u, tailW l = c :: u ∧ blank c = true := by
  cases h : tailW l with
  | nil => exact .inl rfl
  | cons c u =>
    refine .inr ⟨c, u, rfl, ?_⟩
    have : (tailW l).head? = some c := by rw [h]; rfl
    have := drop_head this
    simpa using this
theorem headW_ne (l : List UInt8) (c : UInt8) (t : List UInt8) (hl : l = c :: t) (h : blank c = false) : headW l ≠ [] := by
  subst hl
  unfold headW
  rw [List.takeWhile_cons, if_pos (by simp [h])]
  simp
/-- The first piece, and the others. -/
theorem fields_step (l : List UInt8) (c : UInt8) (t : List UInt8) (hl : l = c :: t) (h : blank c = false) : fields l = headW l :: fields (tailW l) := by
  conv => lhs; rw [← head_tail l]
  exact fields_word _ _ (fun d hd => headW_mem hd) (headW_ne l c t hl h) (tailW_head l)
theorem fields_post (l b : List UInt8) (h : ∀ c ∈ b, blank c = true) : fields (l ++ b) = fields l := by
  have hb : ∀ b : List UInt8, (∀ c ∈ b, blank c = true) → cutsB b = [] :: (cutsB b).tail ∧ ∀ p ∈ (cutsB b).tail, p = [] := by
    intro b
    induction b with
    | nil => intro _; exact ⟨rfl, by simp [cutsB]⟩
    | cons c t ih =>
      intro h
      obtain ⟨h1, h2⟩ := ih (fun d hd => h d (by simp [hd]))
      rw [cutsB_blank c t (h c (by simp))]
      refine ⟨rfl, fun p hp => ?_⟩
      rw [List.tail_cons, h1] at hp
      rcases List.mem_cons.1 hp with rfl | hp
      · rfl
      · exact h2 p hp
  have key : ∀ l : List UInt8, ∃ es, cutsB (l ++ b) = cutsB l ++ es ∧ ∀ p ∈ es, p = [] := by
    intro l
    induction l with
    | nil =>
      obtain ⟨h1, h2⟩ := hb b h
      exact ⟨(cutsB b).tail, by rw [List.nil_append]; exact h1, h2⟩
    | cons c t ih =>
      obtain ⟨es, h1, h2⟩ := ih
      by_cases hc : blank c = true
      · exact ⟨es, by rw [List.cons_append, cutsB_blank c _ hc, cutsB_blank c _ hc, h1]; rfl, h2⟩
      · obtain ⟨p, ps, hp⟩ : ∃ p ps, cutsB t = p :: ps := by
          cases hh : cutsB t with
          | nil => exact absurd hh (cutsB_ne t)
          | cons q qs => exact ⟨q, qs, rfl⟩
        have hc' : blank c = false := by simpa using hc
        refine ⟨es, ?_, h2⟩
        rw [List.cons_append, cutsB_other c _ p (ps ++ es) hc' (by rw [h1, hp]; rfl), cutsB_other c t p ps hc' hp]
        rfl
  obtain ⟨es, h1, h2⟩ := key l
  unfold fields
  have h3 : es.filter (fun p => !p.isEmpty) = [] := List.filter_eq_nil_iff.2 (fun p hp => by rw [h2 p hp]; simp)
  rw [h1, List.filter_append, h3, List.append_nil]
theorem fields_trim (l : List UInt8) : fields (trim l) = fields l := by
  have h1 : ∀ l : List UInt8, fields (l.dropWhile blank) = fields l := by
    intro l
    conv => rhs; rw [← List.takeWhile_append_dropWhile (p := blank) (l := l)]
    exact (fields_pre _ _ (fun c hc => takeW_mem hc)).symm
  have h2 : fields ((l.reverse.dropWhile blank).reverse) = fields l := by
    have e : l = (l.reverse.dropWhile blank).reverse ++ (l.reverse.takeWhile blank).reverse := by
      rw [← List.reverse_append, List.takeWhile_append_dropWhile, List.reverse_reverse]
    conv => rhs; rw [e]
    exact (fields_post _ _ (fun c hc => takeW_mem (List.mem_reverse.1 hc))).symm
  rw [trim_eq, h1, h2]
/-- The document's way: one piece, and the rest without blanks at its ends. -/
theorem fields_cut (l : List UInt8) (c : UInt8) (t : List UInt8) (hl : l = c :: t) (h : blank c = false) : fields l = headW l :: fields (trim (tailW l)) := by
  rw [fields_trim]; exact fields_step l c t hl h

/-! ### lines -/
def strip (r : Except Lx.Bad (List Cmd)) : Except Nat (List Cmd) :=
  match r with
  | .error b => .error b.1
  | .ok l => .ok l
theorem strip_more (c : Cmd) (r r' : Except Lx.Bad (List Cmd)) (h : strip r = strip r') : strip (more c r) = strip (more c r') := by
  cases r <;> cases r' <;> simp [strip] at h <;> simp [strip, more, h]
theorem from_idle (no count : Nat) (p : List UInt8) (ps : List (List UInt8)) (h : idle (trim p) = true) : from' no count (p :: ps) = from' (no + 1) count ps := by
  simp only [from']; rw [if_pos h]
theorem from_none (no count : Nat) (p : List UInt8) (ps : List (List UInt8)) (h : idle (trim p) = false) (hc : command (trim p) = none) : from' no count (p :: ps) = .error (19, no, 0) := by
  simp only [from']; rw [if_neg (by simp [h]), hc]
theorem from_full (no count : Nat) (p : List UInt8) (ps : List (List UInt8)) (c : Cmd) (h : idle (trim p) = false) (hc : command (trim p) = some c) (hn : 1000 ≤ count) : from' no count (p :: ps) = .error (2, no, 0) := by
  simp only [from']; rw [if_neg (by simp [h]), hc]; simp only []; rw [if_pos hn]
theorem from_some (no count : Nat) (p : List UInt8) (ps : List (List UInt8)) (c : Cmd) (h : idle (trim p) = false) (hc : command (trim p) = some c) (hn : count < 1000) : from' no count (p :: ps) = more c (from' (no + 1) (count + 1) ps) := by
  simp only [from']; rw [if_neg (by simp [h]), hc]; simp only []; rw [if_neg (by omega)]
/-- A list of lines by what a line says. -/
theorem from_cases (p : List UInt8) : idle (trim p) = true ∨ (idle (trim p) = false ∧ command (trim p) = none) ∨ ∃ c, idle (trim p) = false ∧ command (trim p) = some c := by
  cases h : idle (trim p) with
  | true => exact .inl rfl
  | false =>
    cases hc : command (trim p) with
    | none => exact .inr (.inl ⟨rfl, rfl⟩)
    | some c => exact .inr (.inr ⟨c, rfl, rfl⟩)
theorem strip_no (ps : List (List UInt8)) : ∀ (no no' count : Nat), strip (from' no count ps) = strip (from' no' count ps) := by
  induction ps with
  | nil => intro no no' count; rfl
  | cons p ps ih =>
    intro no no' count
    rcases from_cases p with h | ⟨h, hc⟩ | ⟨c, h, hc⟩
    · rw [from_idle no count p ps h, from_idle no' count p ps h]; exact ih _ _ _
    · rw [from_none no count p ps h hc, from_none no' count p ps h hc]; rfl
    · by_cases hn : 1000 ≤ count
      · rw [from_full no count p ps c h hc hn, from_full no' count p ps c h hc hn]; rfl
      · rw [from_some no count p ps c h hc (by omega), from_some no' count p ps c h hc (by omega)]
        exact strip_more c _ _ (ih _ _ _)
theorem from_same (no count : Nat) (p q : List UInt8) (ps qs : List (List UInt8)) (hp : trim q = trim p) (h : ∀ n n' k, strip (from' n k qs) = strip (from' n' k ps)) (no' : Nat) : strip (from' no count (q :: qs)) = strip (from' no' count (p :: ps)) := by
  rcases from_cases p with h1 | ⟨h1, hc⟩ | ⟨c, h1, hc⟩
  · rw [from_idle no count q qs (by rw [hp]; exact h1), from_idle no' count p ps h1]; exact h _ _ _
  · rw [from_none no count q qs (by rw [hp]; exact h1) (by rw [hp]; exact hc), from_none no' count p ps h1 hc]; rfl
  · by_cases hn : 1000 ≤ count
    · rw [from_full no count q qs c (by rw [hp]; exact h1) (by rw [hp]; exact hc) hn, from_full no' count p ps c h1 hc hn]; rfl
    · rw [from_some no count q qs c (by rw [hp]; exact h1) (by rw [hp]; exact hc) (by omega), from_some no' count p ps c h1 hc (by omega)]
      exact strip_more c _ _ (h _ _ _)

/-! ### blanks and remarks make no difference -/
def spacedOne (p : List UInt8) : List UInt8 := [32, 9] ++ p ++ [32, 13, 10, 35, 10, 10]
def spacedHead : List UInt8 := [10, 32, 32, 35, 32, 115, 116, 114, 111, 110, 103, 32, 49, 10]
def spaced (l : List UInt8) : List UInt8 := spacedHead ++ (Lx.cuts l).flatMap spacedOne
theorem cuts_spacedOne (p t : List UInt8) (h : ∀ c ∈ p, c ≠ 10) : Lx.cuts (spacedOne p ++ t) = ([32, 9] ++ p ++ [32, 13]) :: [35] :: [] :: Lx.cuts t := by
  have e : spacedOne p ++ t = ([32, 9] ++ p ++ [32, 13]) ++ (10 :: ([35] ++ (10 :: (10 :: t)))) := by simp [spacedOne]
  have h2 := Lx.cuts_append ([35] : List UInt8) (10 :: (10 :: t)) [] _ (by simp) (Lx.cuts_nl _)
  rw [Lx.cuts_nl] at h2
  have h1 := Lx.cuts_append ([32, 9] ++ p ++ [32, 13]) (10 :: ([35] ++ (10 :: (10 :: t)))) [] _ (by
    intro c hc
    simp only [List.mem_append, List.mem_cons, List.not_mem_nil, or_false] at hc
    rcases hc with ((rfl | rfl) | hc) | (rfl | rfl)
    · decide
    · decide
    · exact h c hc
    · decide
    · decide) (Lx.cuts_nl _)
  rw [e, h1, h2]
  simp
theorem trim_spacedOne (p : List UInt8) : trim ([32, 9] ++ p ++ [32, 13]) = trim p := by
  rw [trim_post _ _ (by simp [blank, Lx.isBlank]), trim_pre _ _ (by simp [blank, Lx.isBlank])]
theorem from_spaced (ps : List (List UInt8)) : (∀ p ∈ ps, ∀ c ∈ p, c ≠ 10) → ∀ no no' count, strip (from' no count (Lx.cuts (ps.flatMap spacedOne))) = strip (from' no' count ps) := by
  induction ps with
  | nil => intro _ no no' count; rfl
  | cons p ps ih =>
    intro h no no' count
    rw [List.flatMap_cons, cuts_spacedOne p _ (h p (by simp))]
    refine from_same no count p _ ps _ (trim_spacedOne p) (fun n n' k => ?_) no'
    rw [from_idle _ _ [35] _ (by decide), from_idle _ _ [] _ (by decide)]
    exact ih (fun q hq => h q (by simp [hq])) _ _ _
theorem cuts_no10 (l : List UInt8) : ∀ p ∈ Lx.cuts l, ∀ c ∈ p, c ≠ 10 := by
  induction l with
  | nil => intro p hp c hc; simp [Lx.cuts] at hp; subst hp; cases hc
  | cons d t ih =>
    intro p hp c hc
    by_cases hd : d = 10
    · subst hd
      rw [Lx.cuts_nl] at hp
      rcases List.mem_cons.1 hp with rfl | hp
      · cases hc
      · exact ih p hp c hc
    · obtain ⟨q, qs, hq⟩ : ∃ q qs, Lx.cuts t = q :: qs := by
        cases hh : Lx.cuts t with
        | nil => exact absurd hh (Lx.cuts_ne t)
        | cons q qs => exact ⟨q, qs, rfl⟩
      rw [Lx.cuts_other d t q qs hd hq] at hp
      rw [hq] at ih
      rcases List.mem_cons.1 hp with rfl | hp
      · rcases List.mem_cons.1 hc with rfl | hc
        · exact hd
        · exact ih q (by simp) c hc
      · exact ih p (by simp [hp]) c hc
theorem cuts_exact (l : List UInt8) : Lx.sizes (Lx.cuts l) + (Lx.cuts l).length = l.length + 1 := by
  induction l with
  | nil => rfl
  | cons d t ih =>
    by_cases hd : d = 10
    · subst hd
      rw [Lx.cuts_nl]
      simp only [Lx.sizes, List.map_cons, List.sum_cons, List.length_cons, List.length_nil] at ih ⊢
      omega
    · obtain ⟨q, qs, hq⟩ : ∃ q qs, Lx.cuts t = q :: qs := by
        cases hh : Lx.cuts t with
        | nil => exact absurd hh (Lx.cuts_ne t)
        | cons q qs => exact ⟨q, qs, rfl⟩
      rw [Lx.cuts_other d t q qs hd hq]
      rw [hq] at ih
      simp only [Lx.sizes, List.map_cons, List.sum_cons, List.length_cons] at ih ⊢
      omega
theorem spaced_flat (ps : List (List UInt8)) : (ps.flatMap spacedOne).length = Lx.sizes ps + 8 * ps.length := by
  induction ps with
  | nil => rfl
  | cons p ps ih =>
    rw [List.flatMap_cons, List.length_append, ih]
    simp only [Lx.sizes, List.map_cons, List.sum_cons, List.length_cons, spacedOne, List.length_append, List.length_nil]
    omega
theorem spaced_len (l : List UInt8) (h : l.length ≤ 8000) : (spaced l).length ≤ 64022 := by
  have h1 := cuts_exact l
  have h2 := spaced_flat (Lx.cuts l)
  have h3 := Lx.cuts_len l
  have h4 : spacedHead.length = 14 := rfl
  unfold spaced
  rw [List.length_append, h2, h4]
  omega
theorem size_le (l : List UInt8) : size l ≤ l.length + 1 := by unfold size; split <;> omega
theorem blanks_law (l : List UInt8) (h : l.length ≤ 8000) : strip (parse (spaced l)) = strip (parse l) := by
  have h1 := size_le l
  have h2 := size_le (spaced l)
  have h3 := spaced_len l h
  unfold parse
  rw [if_neg (by omega), if_neg (by omega)]
  have e : Lx.cuts (spaced l) = [] :: [32, 32, 35, 32, 115, 116, 114, 111, 110, 103, 32, 49] :: Lx.cuts ((Lx.cuts l).flatMap spacedOne) := by
    have e1 : spaced l = 10 :: ([32, 32, 35, 32, 115, 116, 114, 111, 110, 103, 32, 49] ++ 10 :: (Lx.cuts l).flatMap spacedOne) := by simp [spaced, spacedHead]
    have e2 := Lx.cuts_append ([32, 32, 35, 32, 115, 116, 114, 111, 110, 103, 32, 49] : List UInt8) (10 :: (Lx.cuts l).flatMap spacedOne) [] _ (by decide) (Lx.cuts_nl _)
    rw [e1, Lx.cuts_nl, e2]
    rfl
  rw [e, from_idle _ _ [] _ (by decide), from_idle _ _ _ _ (by decide)]
  exact from_spaced _ (cuts_no10 l) _ _ _

/-! ### one script behind another -/
def moreL (a : List Cmd) (r : Except Lx.Bad (List Cmd)) : Except Lx.Bad (List Cmd) :=
  match r with
  | .error b => .error b
  | .ok l => .ok (a ++ l)
theorem more_moreL (c : Cmd) (a : List Cmd) (r : Except Lx.Bad (List Cmd)) : more c (moreL a r) = moreL (c :: a) r := by cases r <;> rfl
theorem from_append (ps qs : List (List UInt8)) : ∀ (no count : Nat) (r : List Cmd), from' no count ps = .ok r → from' no count (ps ++ qs) = moreL r (from' (no + ps.length) (count + r.length) qs) := by
  induction ps with
  | nil =>
    intro no count r h
    simp only [from'] at h
    injection h with h
    subst h
    show from' no count qs = _
    cases hq : from' no count qs with
    | error b => simp [moreL]
    | ok l => simp [moreL]
  | cons p ps ih =>
    intro no count r h
    rw [List.cons_append]
    rcases from_cases p with h1 | ⟨h1, hc⟩ | ⟨c, h1, hc⟩
    · rw [from_idle no count p ps h1] at h
      rw [from_idle no count p _ h1, ih _ _ r h, List.length_cons]
      congr 2; omega
    · rw [from_none no count p ps h1 hc] at h; cases h
    · by_cases hn : 1000 ≤ count
      · rw [from_full no count p ps c h1 hc hn] at h; cases h
      · rw [from_some no count p ps c h1 hc (by omega)] at h
        cases hr : from' (no + 1) (count + 1) ps with
        | error b => rw [hr] at h; cases h
        | ok r' =>
          rw [hr] at h
          injection h with h
          subst h
          rw [from_some no count p _ c h1 hc (by omega), ih _ _ r' hr, more_moreL, List.length_cons, List.length_cons]
          congr 2 <;> omega
theorem from_ok_len (ps : List (List UInt8)) : ∀ (no count : Nat) (r : List Cmd), from' no count ps = .ok r → count ≤ 1000 → count + r.length ≤ 1000 := by
  induction ps with
  | nil => intro no count r h hk; simp only [from'] at h; injection h with h; subst h; simpa using hk
  | cons p ps ih =>
    intro no count r h hk
    rcases from_cases p with h1 | ⟨h1, hc⟩ | ⟨c, h1, hc⟩
    · rw [from_idle no count p ps h1] at h; exact ih _ _ r h hk
    · rw [from_none no count p ps h1 hc] at h; cases h
    · by_cases hn : 1000 ≤ count
      · rw [from_full no count p ps c h1 hc hn] at h; cases h
      · rw [from_some no count p ps c h1 hc (by omega)] at h
        cases hr : from' (no + 1) (count + 1) ps with
        | error b => rw [hr] at h; cases h
        | ok r' =>
          rw [hr] at h
          injection h with h
          subst h
          have := ih _ _ r' hr (by omega)
          rw [List.length_cons]; omega
theorem from_ok_again (ps : List (List UInt8)) : ∀ (no no' count k : Nat) (r : List Cmd), from' no count ps = .ok r → k + r.length ≤ 1000 → from' no' k ps = .ok r := by
  induction ps with
  | nil => intro no no' count k r h _; simpa only [from'] using h
  | cons p ps ih =>
    intro no no' count k r h hk
    rcases from_cases p with h1 | ⟨h1, hc⟩ | ⟨c, h1, hc⟩
    · rw [from_idle no count p ps h1] at h
      rw [from_idle no' k p ps h1]; exact ih _ _ _ _ r h hk
    · rw [from_none no count p ps h1 hc] at h; cases h
    · by_cases hn : 1000 ≤ count
      · rw [from_full no count p ps c h1 hc hn] at h; cases h
      · rw [from_some no count p ps c h1 hc (by omega)] at h
        cases hr : from' (no + 1) (count + 1) ps with
        | error b => rw [hr] at h; cases h
        | ok r' =>
          rw [hr] at h
          injection h with h
          subst h
          rw [List.length_cons] at hk
          rw [from_some no' k p ps c h1 hc (by omega), ih _ (no' + 1) _ (k + 1) r' hr (by omega)]
          rfl
theorem from_bad_again (ps : List (List UInt8)) : ∀ (no no' count k : Nat) (b : Lx.Bad), from' no count ps = .error b → count ≤ k → ∃ e l, from' no' k ps = .error (e, l, 0) ∧ (e = 2 ∨ (e = b.1 ∧ l + no = b.2.1 + no')) := by
  induction ps with
  | nil => intro no no' count k b h _; simp only [from'] at h; cases h
  | cons p ps ih =>
    intro no no' count k b h hk
    rcases from_cases p with h1 | ⟨h1, hc⟩ | ⟨c, h1, hc⟩
    · rw [from_idle no count p ps h1] at h
      obtain ⟨e, l, h2, h3⟩ := ih _ (no' + 1) _ k b h hk
      refine ⟨e, l, by rw [from_idle no' k p ps h1]; exact h2, h3.imp id fun h3 => ⟨h3.1, by have := h3.2; omega⟩⟩
    · rw [from_none no count p ps h1 hc] at h
      injection h with h
      subst h
      exact ⟨19, no', from_none no' k p ps h1 hc, .inr ⟨rfl, by simp; omega⟩⟩
    · by_cases hkn : 1000 ≤ k
      · exact ⟨2, no', from_full no' k p ps c h1 hc hkn, .inl rfl⟩
      · rw [from_some no count p ps c h1 hc (by omega)] at h
        cases hr : from' (no + 1) (count + 1) ps with
        | ok r' => rw [hr] at h; cases h
        | error b' =>
          rw [hr] at h
          injection h with h
          subst h
          obtain ⟨e, l, h2, h3⟩ := ih _ (no' + 1) _ (k + 1) b' hr (by omega)
          refine ⟨e, l, by rw [from_some no' k p ps c h1 hc (by omega), h2]; rfl, h3.imp id fun h3 => ⟨h3.1, by have := h3.2; omega⟩⟩
theorem from_code (ps : List (List UInt8)) : ∀ (no count : Nat) (b : Lx.Bad), from' no count ps = .error b → (b.1 = 2 ∨ b.1 = 19) ∧ b.2.2 = 0 ∧ b.2.1 < no + ps.length := by
  induction ps with
  | nil => intro no count b h; simp only [from'] at h; cases h
  | cons p ps ih =>
    intro no count b h
    rw [List.length_cons]
    rcases from_cases p with h1 | ⟨h1, hc⟩ | ⟨c, h1, hc⟩
    · rw [from_idle no count p ps h1] at h
      obtain ⟨a1, a2, a3⟩ := ih _ _ b h
      exact ⟨a1, a2, by omega⟩
    · rw [from_none no count p ps h1 hc] at h
      injection h with h; subst h; exact ⟨.inr rfl, rfl, by simp⟩
    · by_cases hn : 1000 ≤ count
      · rw [from_full no count p ps c h1 hc hn] at h
        injection h with h; subst h; exact ⟨.inl rfl, rfl, by simp⟩
      · rw [from_some no count p ps c h1 hc (by omega)] at h
        cases hr : from' (no + 1) (count + 1) ps with
        | ok r' => rw [hr] at h; cases h
        | error b' =>
          rw [hr] at h
          injection h with h
          subst h
          obtain ⟨a1, a2, a3⟩ := ih _ _ b' hr
          exact ⟨a1, a2, by omega⟩
theorem parse_code {l : List UInt8} {b : Lx.Bad} (h : parse l = .error b) : (b.1 = 2 ∨ b.1 = 19) ∧ b.2.2 = 0 ∧ b.2.1 ≤ l.length + 1 := by
  unfold parse at h
  split at h
  · injection h with h; subst h; exact ⟨.inl rfl, rfl, Nat.zero_le _⟩
  · obtain ⟨h1, h2, h3⟩ := from_code _ _ _ _ h
    have := Lx.cuts_len l
    exact ⟨h1, h2, by omega⟩
theorem cuts_two (a b : List UInt8) : Lx.cuts (a ++ 10 :: b) = Lx.cuts a ++ Lx.cuts b := by
  induction a with
  | nil => rw [List.nil_append, Lx.cuts_nl]; rfl
  | cons c t ih =>
    by_cases hc : c = 10
    · subst hc; rw [List.cons_append, Lx.cuts_nl, Lx.cuts_nl, ih]; rfl
    · obtain ⟨q, qs, hq⟩ : ∃ q qs, Lx.cuts t = q :: qs := by
        cases hh : Lx.cuts t with
        | nil => exact absurd hh (Lx.cuts_ne t)
        | cons q qs => exact ⟨q, qs, rfl⟩
      rw [List.cons_append, Lx.cuts_other c t q qs hc hq, Lx.cuts_other c (t ++ 10 :: b) q (qs ++ Lx.cuts b) hc (by rw [ih, hq]; rfl)]
      rfl
/-- What 'behind one another' says: commands behind one another, or the error so many lines on. -/
theorem lines_law (a b : List UInt8) (r : List Cmd) (hs : a.length + b.length ≤ 60000) (ha : parse a = .ok r) :
    (∀ m, parse b = .ok m → r.length + m.length ≤ 1000 → parse (a ++ 10 :: b) = .ok (r ++ m)) ∧
    (∀ e, parse b = .error e → ∃ c l, parse (a ++ 10 :: b) = .error (c, l, 0) ∧ (c = 2 ∨ (c = e.1 ∧ l = e.2.1 + (Lx.cuts a).length))) := by
  have s1 := size_le a
  have s2 := size_le b
  have s3 := size_le (a ++ 10 :: b)
  rw [List.length_append, List.length_cons] at s3
  unfold parse at ha ⊢
  rw [if_neg (by omega)] at ha
  rw [if_neg (by omega), if_neg (by omega), cuts_two, from_append _ _ _ _ r ha]
  constructor
  · intro m hm hl
    rw [from_ok_again _ _ (1 + (Lx.cuts a).length) _ (0 + r.length) m hm (by omega)]
    rfl
  · intro e he
    obtain ⟨c, l, h1, h2⟩ := from_bad_again _ _ (1 + (Lx.cuts a).length) _ (0 + r.length) e he (by omega)
    refine ⟨c, l, by rw [h1]; rfl, h2.imp id fun h2 => ⟨h2.1, by have := h2.2; omega⟩⟩
end Go.Proofs.YtinobikikineiabGreatDoor.Sc
