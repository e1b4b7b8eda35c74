/- Runes and blanks: what the model's decoding says of bytes beyond ASCII; the walks of strings.IndexRune and ContainsRune at the blanks, whatever the rune. Condition: the rune lies in 0 .. 1114111. -/
import Derived.Test.YtinobikikineiabGreatDoorSMem
import Derived.Test.YtinobikikineiabGreatDoorShelf
import Derived.Lib.TrimU
import Derived.Laws.RangeAny
namespace Go.Proofs.YtinobikikineiabGreatDoor
open Go.RowKit Go.Shelf

theorem get_bang (s : ByteArray) (k : Nat) (h : k < s.size) : s.get! k = s[k] := by
  simp [ByteArray.get!, getElem!_pos, h]
  rfl
theorem decode_lo (s : ByteArray) (pos : Nat) (h : pos < s.size) (h0 : s[pos].toNat < 128) : Utf8.decode s pos = (s[pos].toNat, 1) := by
  simp only [Utf8.decode, Nat.add_zero, get_bang s pos h]
  rw [if_pos h0]
theorem decode_hi (s : ByteArray) (pos : Nat) (h : pos < s.size) (h0 : 128 ≤ s[pos].toNat) :
    128 ≤ (Utf8.decode s pos).1 ∧ pos + (Utf8.decode s pos).2 ≤ s.size ∧ ∀ k, pos ≤ k → k < pos + (Utf8.decode s pos).2 → ∀ hk : k < s.size, 128 ≤ s[k].toNat := by
  have c : ∀ k, (decide (pos + k < s.size) && (s.get! (pos + k)).toNat / 64 == 2) = true → pos + k < s.size ∧ ∀ hk : pos + k < s.size, 128 ≤ s[pos + k].toNat := by
    intro k hk
    simp only [Bool.and_eq_true, decide_eq_true_eq, beq_iff_eq] at hk
    refine ⟨hk.1, fun h => ?_⟩
    have := hk.2
    rw [get_bang s _ h] at this
    omega
  have at0 : ∀ k, pos ≤ k → k < pos + 1 → ∀ hk : k < s.size, 128 ≤ s[k].toNat := fun k a b hk => by
    obtain rfl : k = pos := by omega
    exact h0
  simp only [Utf8.decode, Nat.add_zero, get_bang s pos h]
  rw [if_neg (by omega)]
  split
  · rename_i h1
    rw [Bool.and_eq_true] at h1
    obtain ⟨c1, c2⟩ := c 1 h1.2
    split
    · refine ⟨by omega, by show pos + 2 ≤ _; omega, fun k a b hk => ?_⟩
      have b' : k < pos + 2 := b
      rcases (show k = pos ∨ k = pos + 1 by omega) with rfl | rfl
      · exact h0
      · exact c2 _
    · exact ⟨by decide, by show pos + 1 ≤ _; omega, at0⟩
  · split
    · rename_i h1
      rw [Bool.and_eq_true, Bool.and_eq_true] at h1
      obtain ⟨c1, c2⟩ := c 1 h1.1.2
      obtain ⟨d1, d2⟩ := c 2 h1.2
      split
      · rename_i h3
        refine ⟨by simp only [Bool.and_eq_true, decide_eq_true_eq] at h3; have := h3.1; omega, by show pos + 3 ≤ _; omega, fun k a b hk => ?_⟩
        have b' : k < pos + 3 := b
        rcases (show k = pos ∨ k = pos + 1 ∨ k = pos + 2 by omega) with rfl | rfl | rfl
        · exact h0
        · exact c2 _
        · exact d2 _
      · exact ⟨by decide, by show pos + 1 ≤ _; omega, at0⟩
    · split
      · rename_i h1
        rw [Bool.and_eq_true, Bool.and_eq_true, Bool.and_eq_true] at h1
        obtain ⟨c1, c2⟩ := c 1 h1.1.1.2
        obtain ⟨d1, d2⟩ := c 2 h1.1.2
        obtain ⟨e1, e2⟩ := c 3 h1.2
        split
        · rename_i h3
          refine ⟨by simp only [Bool.and_eq_true, decide_eq_true_eq] at h3; have := h3.1; omega, by show pos + 4 ≤ _; omega, fun k a b hk => ?_⟩
          have b' : k < pos + 4 := b
          rcases (show k = pos ∨ k = pos + 1 ∨ k = pos + 2 ∨ k = pos + 3 by omega) with rfl | rfl | rfl | rfl
          · exact h0
          · exact c2 _
          · exact d2 _
          · exact e2 _
        · exact ⟨by decide, by show pos + 1 ≤ _; omega, at0⟩
      · exact ⟨by decide, by show pos + 1 ≤ _; omega, at0⟩

/-- The encoding of a rune beyond ASCII: two to four bytes, the last one beyond ASCII. -/
theorem encode_hi (r : Nat) (h : 128 ≤ r) : (∃ a b : UInt8, Utf8.encode (r : Int) = ⟨#[a, b]⟩ ∧ 128 ≤ b.toNat) ∨ (∃ a b c : UInt8, Utf8.encode (r : Int) = ⟨#[a, b, c]⟩ ∧ 128 ≤ c.toNat) ∨ ∃ a b c d : UInt8, Utf8.encode (r : Int) = ⟨#[a, b, c, d]⟩ := by
  have hc : ∃ c : Nat, 128 ≤ c ∧ (if Utf8.valid (r : Int) then ((r : Int)).toNat else Utf8.runeError) = c := by
    refine ⟨_, ?_, rfl⟩
    split
    · omega
    · decide
  obtain ⟨c, h1, h2⟩ := hc
  have h64 : ∀ n : Nat, 128 ≤ (UInt8.ofNat (128 + n % 64)).toNat := fun n => by simp; omega
  have key : Utf8.encode (r : Int) = (if c < 0x80 then ⟨#[UInt8.ofNat c]⟩
    else if c < 0x800 then ⟨#[UInt8.ofNat (0xC0 + c / 64), UInt8.ofNat (0x80 + c % 64)]⟩
    else if c < 0x10000 then ⟨#[UInt8.ofNat (0xE0 + c / 4096), UInt8.ofNat (0x80 + c / 64 % 64), UInt8.ofNat (0x80 + c % 64)]⟩
    else ⟨#[UInt8.ofNat (0xF0 + c / 262144), UInt8.ofNat (0x80 + c / 4096 % 64), UInt8.ofNat (0x80 + c / 64 % 64), UInt8.ofNat (0x80 + c % 64)]⟩) := by
    rw [← h2]; rfl
  rw [if_neg (by omega)] at key
  by_cases k1 : c < 0x800
  · rw [if_pos k1] at key
    exact .inl ⟨_, _, key, h64 c⟩
  · rw [if_neg k1] at key
    by_cases k2 : c < 0x10000
    · rw [if_pos k2] at key
      exact .inr (.inl ⟨_, _, _, key, h64 c⟩)
    · rw [if_neg k2] at key
      exact .inr (.inr ⟨_, _, _, _, key⟩)
theorem index_hi (l : List UInt8) (b : UInt8) (hb : 128 ≤ b.toNat) (hl : l.all (fun c => decide (c.toNat < 128)) = true) : Lib.indexByte l ((b.toNat : Int)).toNat.toUInt8 < 0 := by
  have e : ((b.toNat : Int)).toNat.toUInt8 = b := by simp
  rw [e]
  have := Lib.contains_iff_indexByte l b
  have hn : l.contains b = false := by
    cases hc : l.contains b with
    | false => rfl
    | true =>
      have := List.all_eq_true.1 hl b (List.contains_iff_mem.1 hc)
      simp at this; omega
  rw [hn] at this
  simpa using this.symm

theorem quiet_add_same {P : Program} {f : FuncId} {args : Array Value} {w : World} {a n : Nat} {v : Value}
    (h : Calls P f args (w.drewN (a + n)) fun e w' => e = .returned v ∧ w' = w.drewN (a + n)) :
    Calls P f args (w.drewN (a + n)) fun e w'' => e = .returned v ∧ ∃ m, w'' = w.drewN (a + m) :=
  h.mono fun _ _ ⟨he, hm⟩ => ⟨he, n, hm⟩
theorem below_drewN' {B : Nat} {a w : World} (h : Below B a w) (n : Nat) : Below B a (w.drewN n) := ⟨h.os, h.tape, h.output, h.size, h.block⟩
end Go.Proofs.YtinobikikineiabGreatDoor
