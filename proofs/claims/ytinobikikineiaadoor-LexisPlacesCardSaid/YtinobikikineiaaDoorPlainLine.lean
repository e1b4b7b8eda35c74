/- Plain: an error of scan stands in a line of the text. No conditions. -/
import Derived.Test.YtinobikikineiaaDoorPlainCode
import Derived.Test.YtinobikikineiaaDoorPlainPlaces
import Derived.Test.YtinobikikineiaaDoorPlainBlanks
namespace Go.Proofs.YtinobikikineiaaDoor.Lx
theorem cuts_count : ∀ l : List UInt8, (cuts l).length ≤ l.length + 1
  | [] => by simp [cuts]
  | c :: t => by
    have ih := cuts_count t
    unfold cuts
    split
    · simp only [List.length_cons]; omega
    · split
      · simp
      · rename_i p ps h
        rw [h] at ih
        simp only [List.length_cons] at ih ⊢
        omega
theorem lineFrom_line (no : Nat) : ∀ (f col : Nat) (l : List UInt8) (b : Bad), lineFrom no f col l = .error b → b.2.1 = no := by
  intro f
  induction f with
  | zero => intro col l b h; cases h
  | succ f ih =>
    intro col l b h
    cases l with
    | nil => cases h
    | cons c t =>
      rw [lineFrom] at h
      split at h
      · exact ih _ _ _ h
      · split at h
        · cases h
        · split at h
          · injection h with h
            subst h
            rfl
          · split at h
            · rename_i b' hb
              injection h with h
              subst h
              exact ih _ _ _ hb
            · cases h
theorem scanLines_line : ∀ (ps : List (List UInt8)) (no : Nat) (b : Bad), scanLines no ps = .error b → b.2.1 < no + ps.length := by
  intro ps
  induction ps with
  | nil => intro no b h; cases h
  | cons p ps ih =>
    intro no b h
    rw [scanLines] at h
    split at h
    · rename_i b' hb
      injection h with h
      subst h
      unfold lineToks at hb
      split at hb
      · rename_i b'' hb2
        injection hb with hb
        subst hb
        rw [lineFrom_line _ _ _ _ _ hb2, List.length_cons]
        omega
      · cases hb
    · split at h
      · rename_i b' hb
        injection h with h
        subst h
        have := ih _ _ hb
        rw [List.length_cons]
        omega
      · cases h
theorem scan_line {l : List UInt8} {c line col : Nat} (h : scan l = .error (c, line, col)) : line ≤ l.length + 1 := by
  unfold scan at h
  split at h
  · injection h with h; injection h with h1 h2; injection h2 with h2 _; omega
  · have h1 : line < 1 + (cuts l).length := scanLines_line _ _ _ h
    have := cuts_count l
    omega
theorem part_le {p : List UInt8} : ∀ {ps : List (List UInt8)}, p ∈ ps → p.length ≤ sizes ps := by
  intro ps
  induction ps with
  | nil => intro h; cases h
  | cons q qs ih =>
    intro h
    have e : sizes (q :: qs) = q.length + sizes qs := rfl
    rcases List.mem_cons.1 h with rfl | h
    · omega
    · have := ih h; omega
theorem cuts_part (l p : List UInt8) (h : p ∈ cuts l) : p.length ≤ l.length := Nat.le_trans (part_le h) (sizes_cuts l)
theorem stands_line {l : List UInt8} {t : Tok} (h : Stands (cuts l) t) : t.line ≤ l.length + 1 ∧ 1 ≤ t.line ∧ 1 ≤ t.col ∧ t.col ≤ l.length + 1 := by
  obtain ⟨n, p, e1, e2, e3, e4, _⟩ := h
  have h1 := (List.getElem?_eq_some_iff.1 e2).1
  have h2 := cuts_count l
  have h3 : p.length ≤ l.length := cuts_part l p (List.mem_of_getElem? e2)
  omega
end Go.Proofs.YtinobikikineiaaDoor.Lx
