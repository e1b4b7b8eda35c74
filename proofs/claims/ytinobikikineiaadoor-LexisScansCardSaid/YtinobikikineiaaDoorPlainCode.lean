/- Plain: an error of scan is 2 or 4. No conditions. -/
import Derived.Test.YtinobikikineiaaDoorPlain
namespace Go.Proofs.YtinobikikineiaaDoor.Lx
theorem numCode_three (l : List UInt8) : numCode l = 0 ∨ numCode l = 2 ∨ numCode l = 4 := by
  unfold numCode
  split
  · split
    · exact .inl rfl
    · exact .inr (.inl rfl)
  · exact .inr (.inr rfl)
theorem word_code {l : List UInt8} {c : Nat} (h : word l = .error c) : c = 2 ∨ c = 4 := by
  unfold word at h
  split at h
  · injection h with h; exact .inr h.symm
  · rename_i c' t
    split at h
    · split at h
      · cases h
      · rename_i hn
        injection h with h
        subst h
        rcases numCode_three (run (c' :: t)) with h1 | h1
        · exact absurd h1 hn
        · exact h1
    · split at h
      · split at h
        · cases h
        · injection h with h; exact .inl h.symm
      · split at h
        · cases h
        · injection h with h; exact .inr h.symm
theorem lineFrom_code (no : Nat) : ∀ (f col : Nat) (l : List UInt8) (b : Bad), lineFrom no f col l = .error b → b.1 = 2 ∨ b.1 = 4 := by
  intro f
  induction f with
  | zero => intro col l b h; cases h
  | succ f ih =>
    intro col l b h
    cases l with
    | nil => cases h
    | cons c t =>
      rw [lineFrom] at h
      split at h
      · exact ih _ _ _ h
      · split at h
        · cases h
        · split at h
          · rename_i e he
            injection h with h
            subst h
            exact word_code he
          · split at h
            · rename_i b' hb
              injection h with h
              subst h
              exact ih _ _ _ hb
            · cases h
theorem scanLines_code : ∀ (ps : List (List UInt8)) (no : Nat) (b : Bad), scanLines no ps = .error b → b.1 = 2 ∨ b.1 = 4 := by
  intro ps
  induction ps with
  | nil => intro no b h; cases h
  | cons p ps ih =>
    intro no b h
    rw [scanLines] at h
    split at h
    · rename_i b' hb
      injection h with h
      subst h
      unfold lineToks at hb
      split at hb
      · rename_i b'' hb2
        injection hb with hb
        subst hb
        exact lineFrom_code _ _ _ _ _ hb2
      · cases hb
    · split at h
      · rename_i b' hb
        injection h with h
        subst h
        exact ih _ _ hb
      · cases h
theorem scan_code {l : List UInt8} {c line col : Nat} (h : scan l = .error (c, line, col)) : c = 2 ∨ c = 4 := by
  unfold scan at h
  split at h
  · injection h with h; injection h with h1 _; exact .inl h1.symm
  · exact scanLines_code _ _ _ h
end Go.Proofs.YtinobikikineiaaDoor.Lx
