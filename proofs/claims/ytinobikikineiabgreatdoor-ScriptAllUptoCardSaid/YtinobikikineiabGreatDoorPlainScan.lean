/- Plain laws for the walk of Scan: its rounds over the lines. No program is in sight. No conditions. -/
import Derived.Test.YtinobikikineiabGreatDoorPlainBlanks
namespace Go.Proofs.YtinobikikineiabGreatDoor.Lx

theorem cuts_len (l : List UInt8) : (cuts l).length ≤ l.length + 1 := by
  induction l with
  | nil => simp [cuts]
  | cons c t ih =>
    by_cases hc : c = 10
    · subst hc; rw [cuts_nl]; simp only [List.length_cons]; omega
    · obtain ⟨q, qs, hq⟩ : ∃ q qs, cuts t = q :: qs := by
        cases hh : cuts t with
        | nil => exact absurd hh (cuts_ne t)
        | cons q qs => exact ⟨q, qs, rfl⟩
      rw [cuts_other c t q qs hc hq]
      rw [hq] at ih
      simp only [List.length_cons] at ih ⊢
      omega
theorem sizes_mem (ps : List (List UInt8)) (p : List UInt8) (h : p ∈ ps) : p.length ≤ sizes ps := by
  induction ps with
  | nil => cases h
  | cons q ps ih =>
    have e : sizes (q :: ps) = q.length + sizes ps := by simp [sizes]
    rw [e]
    rcases List.mem_cons.1 h with rfl | h
    · omega
    · have := ih h; omega
theorem lineToks_len (no : Nat) (l : List UInt8) (r : List Tok) (h : lineToks no l = .ok r) : r.length ≤ l.length + 1 := by
  rw [lineToks_eq] at h
  cases hr : rest no 0 l with
  | error b => rw [hr] at h; cases h
  | ok r' =>
    rw [hr] at h
    injection h with h
    subst h
    have := (rest_good l.length no 0 l r' (Nat.le_refl _) hr).2.2
    unfold closeLine
    split <;> simp <;> omega
/-- What is known of the line that comes next. -/
theorem round_facts {l : List UInt8} {xs pre : List (List UInt8)} {x : List UInt8} (hxs : xs = cuts l) (hpre : (pre ++ [x]) <+: xs) :
    x.length ≤ l.length ∧ pre.length ≤ l.length ∧ xs.drop pre.length = x :: xs.drop (pre.length + 1) := by
  obtain ⟨post, hp⟩ := hpre
  have hmem : x ∈ xs := by rw [← hp]; simp
  have h1 := sizes_mem xs x hmem
  have h2 := sizes_cuts l
  have h3 := cuts_len l
  have h4 : xs.length = pre.length + 1 + post.length := by rw [← hp]; simp; omega
  rw [← hxs] at h2 h3
  refine ⟨by omega, by omega, ?_⟩
  have e1 : xs = pre ++ (x :: post) := by rw [← hp]; simp
  have e2 : xs = (pre ++ [x]) ++ post := hp.symm
  have d1 : xs.drop pre.length = x :: post := by rw [e1, List.drop_left]
  have d2 : xs.drop (pre.length + 1) = post := by
    have : (pre ++ [x]).length = pre.length + 1 := by simp
    rw [← this]
    conv => lhs; rw [e2]
    rw [List.drop_left]
  rw [d1, d2]
theorem round_bad {xs : List (List UInt8)} {n : Nat} {x : List UInt8} {ts : List Tok} {b : Bad} (hd : xs.drop n = x :: xs.drop (n + 1)) (ht : prep ts (scanLines (n + 1) (xs.drop n)) = scanLines 1 xs) (hl : lineToks (n + 1) x = .error b) : scanLines 1 xs = .error b := by
  rw [← ht, hd, scanLines_cons, hl]; rfl
theorem round_ok {xs : List (List UInt8)} {n : Nat} {x : List UInt8} {ts r : List Tok} (hd : xs.drop n = x :: xs.drop (n + 1)) (ht : prep ts (scanLines (n + 1) (xs.drop n)) = scanLines 1 xs) (hl : lineToks (n + 1) x = .ok r) : prep (ts ++ r) (scanLines (n + 1 + 1) (xs.drop (n + 1))) = scanLines 1 xs := by
  rw [← ht, hd, scanLines_cons, hl]; simp
end Go.Proofs.YtinobikikineiabGreatDoor.Lx
