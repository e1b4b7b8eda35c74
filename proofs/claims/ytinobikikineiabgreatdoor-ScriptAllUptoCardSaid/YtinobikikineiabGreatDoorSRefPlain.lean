/- What the document's own Parse holds while it reads lines. No program is in sight. No conditions. -/
import Derived.Test.YtinobikikineiabGreatDoorSOut
namespace Go.Proofs.YtinobikikineiabGreatDoor.Sc

theorem cuts_one' (l : List UInt8) (h : ∀ k : Nat, l[k]? ≠ some 10) : Lx.cuts l = [l] := by
  have := Lx.cuts_append l [] [] [] (fun c hc => by
    obtain ⟨k, hk, rfl⟩ := List.mem_iff_getElem.1 hc
    intro e
    exact h k (by rw [List.getElem?_eq_getElem hk, e])) rfl
  simpa using this
theorem cuts_at' (l : List UInt8) (k : Nat) (hk : l[k]? = some 10) (h : ∀ i, i < k → l[i]? ≠ some 10) : Lx.cuts l = l.take k :: Lx.cuts (l.drop (k + 1)) := by
  obtain ⟨hlt, he⟩ := List.getElem?_eq_some_iff.1 hk
  have hl : l = l.take k ++ 10 :: l.drop (k + 1) := by
    rw [← he, ← List.drop_eq_getElem_cons hlt, List.take_append_drop]
  have := Lx.cuts_append (l.take k) (10 :: l.drop (k + 1)) [] _ (fun c hc => by
    obtain ⟨i, hi, rfl⟩ := List.mem_iff_getElem.1 hc
    intro e
    rw [List.length_take] at hi
    refine h i (by omega) ?_
    rw [List.getElem_take] at e
    rw [List.getElem?_eq_getElem (by omega), e]) (Lx.cuts_nl _)
  rw [← hl] at this
  simpa using this
/-- What holds at a round's head: 'cs' has been read, the line began at f. -/
def RefIn (l : List UInt8) (f k line : Nat) (cs : List Cmd) : Prop :=
  (k ≤ l.length → f ≤ k ∧ (∀ i, f ≤ i → i < k → l[i]? ≠ some 10) ∧ mores cs (from' line cs.length (Lx.cuts (l.drop f))) = from' 1 0 (Lx.cuts l)) ∧ (k = l.length + 1 → mores cs (.ok []) = from' 1 0 (Lx.cuts l))
theorem refIn_zero (l : List UInt8) : RefIn l 0 0 1 [] := ⟨fun _ => ⟨Nat.le_refl _, fun i _ h => by omega, rfl⟩, fun h => by omega⟩
theorem refIn_step {l : List UInt8} {f k line : Nat} {cs : List Cmd} (h : RefIn l f k line cs) (hk : k < l.length) (hne : l[k]? ≠ some 10) : RefIn l f (k + 1) line cs := by
  obtain ⟨h1, h2, h3⟩ := h.1 (by omega)
  refine ⟨fun _ => ⟨by omega, fun i hi hik => ?_, h3⟩, fun h => by omega⟩
  by_cases e : i = k
  · subst e; exact hne
  · exact h2 i hi (by omega)
/-- A line's end: the line, and what comes behind it. -/
theorem refIn_piece {l : List UInt8} {f k line : Nat} {cs : List Cmd} (h : RefIn l f k line cs) (hk : k ≤ l.length) (hstop : k = l.length ∨ l[k]? = some 10) :
    ∃ ps, mores cs (from' line cs.length ((l.drop f).take (k - f) :: ps)) = from' 1 0 (Lx.cuts l) ∧ (∀ c ∈ (l.drop f).take (k - f), c ≠ 10) ∧ f ≤ k ∧
      ∀ (cs' : List Cmd) (line' : Nat), mores cs' (from' line' cs'.length ps) = from' 1 0 (Lx.cuts l) → RefIn l (k + 1) (k + 1) line' cs' := by
  obtain ⟨h1, h2, h3⟩ := h.1 hk
  have hno : ∀ c ∈ (l.drop f).take (k - f), c ≠ 10 := by
    intro c hc e
    subst e
    obtain ⟨i, hi, hie⟩ := List.mem_iff_getElem.1 hc
    rw [List.length_take, List.length_drop] at hi
    refine h2 (f + i) (by omega) (by omega) ?_
    rw [List.getElem_take, List.getElem_drop] at hie
    rw [List.getElem?_eq_getElem (by omega), hie]
  rcases hstop with rfl | he
  · refine ⟨[], ?_, hno, h1, fun cs' line' h4 => ⟨fun h => by omega, fun _ => h4⟩⟩
    rw [cuts_one' (l.drop f) (fun k => by
      rw [List.getElem?_drop]
      by_cases hk : f + k < l.length
      · exact h2 _ (by omega) hk
      · rw [List.getElem?_eq_none (by omega)]; simp)] at h3
    rw [List.take_of_length_le (by rw [List.length_drop]; omega)]
    exact h3
  · have hlt := (List.getElem?_eq_some_iff.1 he).1
    refine ⟨Lx.cuts (l.drop (k + 1)), ?_, hno, h1, fun cs' line' h4 => ⟨fun _ => ⟨Nat.le_refl _, fun i a b => by omega, h4⟩, fun h => by omega⟩⟩
    rw [cuts_at' (l.drop f) (k - f) (by rw [List.getElem?_drop, show f + (k - f) = k by omega]; exact he) (fun i hi => by rw [List.getElem?_drop]; exact h2 _ (by omega) (by omega)),
      List.drop_drop, show f + (k - f + 1) = k + 1 by omega] at h3
    exact h3
theorem refIn_idle {l p : List UInt8} {ps : List (List UInt8)} {line : Nat} {cs : List Cmd} (h : mores cs (from' line cs.length (p :: ps)) = from' 1 0 (Lx.cuts l)) (hi : idle (trim p) = true) : mores cs (from' (line + 1) cs.length ps) = from' 1 0 (Lx.cuts l) := by
  rw [from_idle _ _ _ _ hi] at h; exact h
theorem refIn_none {l p : List UInt8} {ps : List (List UInt8)} {line : Nat} {cs : List Cmd} (h : mores cs (from' line cs.length (p :: ps)) = from' 1 0 (Lx.cuts l)) (hi : idle (trim p) = false) (hc : command (trim p) = none) : from' 1 0 (Lx.cuts l) = .error (19, line, 0) := by
  rw [from_none _ _ _ _ hi hc, mores_error] at h; exact h.symm
theorem refIn_full {l p : List UInt8} {ps : List (List UInt8)} {line : Nat} {cs : List Cmd} {c : Cmd} (h : mores cs (from' line cs.length (p :: ps)) = from' 1 0 (Lx.cuts l)) (hi : idle (trim p) = false) (hc : command (trim p) = some c) (hn : 1000 ≤ cs.length) : from' 1 0 (Lx.cuts l) = .error (2, line, 0) := by
  rw [from_full _ _ _ _ _ hi hc hn, mores_error] at h; exact h.symm
theorem refIn_some {l p : List UInt8} {ps : List (List UInt8)} {line : Nat} {cs : List Cmd} {c : Cmd} (h : mores cs (from' line cs.length (p :: ps)) = from' 1 0 (Lx.cuts l)) (hi : idle (trim p) = false) (hc : command (trim p) = some c) (hn : cs.length < 1000) : mores (cs ++ [c]) (from' (line + 1) (cs ++ [c]).length ps) = from' 1 0 (Lx.cuts l) := by
  rw [from_some _ _ _ _ _ hi hc hn] at h
  rw [mores_snoc, List.length_append]
  exact h
/-- A line that says something begins with no blank, with no '#', and has no line's end. -/
theorem line_starts {p : List UInt8} (hi : idle (trim p) = false) (hno : ∀ c ∈ p, c ≠ 10) : ∃ c t, trim p = c :: t ∧ blank c = false ∧ c ≠ 35 ∧ (∀ d ∈ trim p, d ≠ 10) := by
  cases ht : trim p with
  | nil => rw [ht] at hi; exact absurd hi (by decide)
  | cons c t =>
    refine ⟨c, t, rfl, ?_, ?_, fun d hd => hno d (mem_trim (by rw [ht]; exact hd))⟩
    · exact (bare_trim p).1 c (by rw [ht]; rfl)
    · intro e
      subst e
      rw [ht] at hi
      exact absurd hi (by simp [idle])
end Go.Proofs.YtinobikikineiabGreatDoor.Sc
