/- The plain laws of LexisDigits and LexisWords: a number's decimal digits are read as that number; names. No program is in sight. No conditions. -/
import Derived.Test.YtinobikikineiabGreatDoorPlainLaws
namespace Go.Proofs.YtinobikikineiabGreatDoor.Lx

theorem digVal_from (l : List UInt8) (n : Nat) : l.foldl (fun n c => 10 * n + (c.toNat - 48)) n = 10 ^ l.length * n + digVal l := by
  induction l generalizing n with
  | nil => simp [digVal]
  | cons c t ih =>
    have e : digVal (c :: t) = t.foldl (fun n c => 10 * n + (c.toNat - 48)) (10 * 0 + (c.toNat - 48)) := rfl
    rw [List.foldl_cons, e, ih, ih, List.length_cons, Nat.pow_succ]
    simp only [Nat.mul_add, Nat.mul_zero, Nat.zero_add]
    rw [Nat.mul_assoc, Nat.add_assoc]
theorem digVal_cons (c : UInt8) (t : List UInt8) : digVal (c :: t) = 10 ^ t.length * (c.toNat - 48) + digVal t := by
  have e : digVal (c :: t) = t.foldl (fun n c => 10 * n + (c.toNat - 48)) (10 * 0 + (c.toNat - 48)) := rfl
  rw [e, digVal_from]; simp
/-- Between two rounds: 'w' is what is left of 'v', 's' the digits so far. -/
def DigInv (v w : Nat) (s : List UInt8) : Prop := 10 ^ s.length * w + digVal s = v ∧ s.all isDigit = true ∧ (w = 0 → s ≠ [] → s.head? ≠ some 48) ∧ (s = [] → w = v)
theorem DigInv.start (v : Nat) : DigInv v v [] := ⟨by simp [digVal], rfl, fun _ h => absurd rfl h, fun _ => rfl⟩
theorem digit_of (d : Nat) (hd : d < 10) (c : UInt8) (hc : c.toNat = 48 + d) : isDigit c = true ∧ (0 < d → c ≠ 48) := by
  refine ⟨by simp [isDigit, hc]; omega, fun h e => ?_⟩
  subst e
  have : (48 : UInt8).toNat = 48 := rfl
  omega
theorem DigInv.step {v w : Nat} {s : List UInt8} (h : DigInv v w s) (hw : 0 < w) (c : UInt8) (hc : c.toNat = 48 + w % 10) : DigInv v (w / 10) (c :: s) := by
  obtain ⟨h1, h2, h3, h4⟩ := h
  obtain ⟨hd, hz⟩ := digit_of (w % 10) (Nat.mod_lt _ (by omega)) c hc
  refine ⟨?_, by simp [hd, h2], ?_, fun h => by cases h⟩
  · rw [digVal_cons, List.length_cons, Nat.pow_succ]
    have e : c.toNat - 48 = w % 10 := by omega
    rw [e]
    have hdm := Nat.div_add_mod w 10
    calc 10 ^ s.length * 10 * (w / 10) + (10 ^ s.length * (w % 10) + digVal s)
        = 10 ^ s.length * (10 * (w / 10) + w % 10) + digVal s := by rw [Nat.mul_add, Nat.mul_assoc, Nat.add_assoc]
      _ = v := by rw [hdm, h1]
  · intro hw0 _
    have : w % 10 = w := Nat.mod_eq_of_lt (by omega)
    simpa using hz (by omega)
/-- A list of decimal digits of v, as the law makes it: "0" for nought. -/
structure Decimal (v : Nat) (s : List UInt8) : Prop where
  val : digVal s = v
  digits : s.all isDigit = true
  ne : s ≠ []
  head : s.length ≤ 1 ∨ s.head? ≠ some 48
theorem DigInv.decimal {v : Nat} {s : List UInt8} (h : DigInv v 0 s) (hv : 0 < v) : Decimal v s := by
  obtain ⟨h1, h2, h3, h4⟩ := h
  have hne : s ≠ [] := fun e => by have := h4 e; omega
  exact ⟨by simpa using h1, h2, hne, .inr (h3 rfl hne)⟩
theorem decimal_zero : Decimal 0 [48] := ⟨rfl, rfl, by simp, .inl (by simp)⟩
theorem Decimal.num {v : Nat} {s : List UInt8} (h : Decimal v s) (hv : v ≤ big) : numCode s = 0 ∧ numVal s = v := by
  have hok : numOk s = true := by
    simp only [numOk, Bool.and_eq_true, Bool.or_eq_true, decide_eq_true_eq]
    refine ⟨⟨by cases s with
                | nil => exact absurd rfl h.ne
                | cons c t => rfl, h.digits⟩, ?_⟩
    rcases h.head with h | h
    · exact .inl h
    · exact .inr (by simpa using h)
  have h0 : numCode s = 0 := by simp [numCode, hok, h.val, hv]
  exact ⟨h0, by simp [numVal, h0, h.val]⟩
theorem Decimal.nought {v : Nat} {s : List UInt8} (h : Decimal v s) : numCode (48 :: s) = 4 := by
  apply numCode_bad
  refine numOk_nought _ 1 (by omega) ?_ rfl
  cases s with
  | nil => exact absurd rfl h.ne
  | cons c t => simp
theorem num_minus (s : List UInt8) : numCode (45 :: s) = 4 := numCode_bad _ (numOk_not_digit _ 0 45 rfl (by decide))
theorem num_letter (s : List UInt8) : numCode (s ++ [97]) = 4 := numCode_bad _ (numOk_not_digit _ s.length 97 (by simp) (by decide))

/-! ### names -/
theorem run_all (l : List UInt8) : (run l).length = l.length ↔ l.all inRun = true := by
  unfold run
  induction l with
  | nil => simp
  | cons c t ih =>
    rw [List.takeWhile_cons]
    by_cases h : inRun c = true
    · simp [h, ih]
    · simp [h]
def isName (small : Bool) (l : List UInt8) : Bool :=
  match l with
  | [] => false
  | c :: t => (if small then isSmall c else isGreat c) && (c :: t).all inRun && decide ((c :: t).length ≤ 32)
end Go.Proofs.YtinobikikineiabGreatDoor.Lx
