/- Plain law: the library's pieces of a text at the blanks are the document's. No program is in sight. No conditions. -/
import Derived.Test.YtinobikikineiabGreatDoorSRune
import Derived.Test.YtinobikikineiabGreatDoorScLaws
import Derived.Lib.FieldsP
namespace Go.Proofs.YtinobikikineiabGreatDoor
open Go.RowKit

/-- A rune that is a blank. -/
def isBl (x : Nat) : Bool := x == 32 || x == 9 || x == 13
theorem extract_mid (s : ByteArray) (k j : Nat) : (s.extract k j).data.toList = (s.data.toList.drop k).take (j - k) := by
  simp only [ByteArray.data_extract, Array.toList_extract, List.extract_eq_take_drop]
theorem isBl_byte (c : UInt8) : isBl c.toNat = Lx.isBlank c := by
  unfold isBl Lx.isBlank
  rw [Bool.eq_iff_iff]
  simp only [Bool.or_eq_true, beq_iff_eq, ← UInt8.toNat_inj]
  rfl
theorem isBl_hi (x : Nat) (h : 128 ≤ x) : isBl x = false := by
  unfold isBl
  simp only [Bool.or_eq_false_iff, beq_eq_false_iff_ne]
  omega
/-- What one rune says of the bytes. -/
theorem rune_bytes (s : ByteArray) (pos : Nat) (h : pos < s.size) :
    (isBl (Utf8.decode s pos).1 = true → Utf8.decode s pos = (s[pos].toNat, 1) ∧ Lx.isBlank s[pos] = true) ∧
    (isBl (Utf8.decode s pos).1 = false → 1 ≤ (Utf8.decode s pos).2 ∧ pos + (Utf8.decode s pos).2 ≤ s.size ∧ ∀ k, pos ≤ k → k < pos + (Utf8.decode s pos).2 → ∀ hk : k < s.size, Lx.isBlank s[k] = false) := by
  by_cases h0 : s[pos].toNat < 128
  · have hd := decode_lo s pos h h0
    rw [hd]
    refine ⟨fun hb => ⟨rfl, by rw [← isBl_byte]; exact hb⟩, fun hb => ⟨Nat.le_refl _, h, fun k a b hk => ?_⟩⟩
    have b' : k < pos + 1 := b
    obtain rfl : k = pos := by omega
    rw [← isBl_byte]; exact hb
  · obtain ⟨h1, h2, h3⟩ := decode_hi s pos h (by omega)
    refine ⟨fun hb => ?_, fun _ => ⟨Lib.width_pos s pos, h2, fun k a b hk => ?_⟩⟩
    · rw [isBl_hi _ h1] at hb; cases hb
    · rw [← isBl_byte]; exact isBl_hi _ (h3 k a b hk)
/-- No blank between two places. -/
def NoBl (s : ByteArray) (a b : Nat) : Prop := ∀ k, a ≤ k → k < b → ∀ hk : k < s.size, Lx.isBlank s[k] = false
theorem noBl_mem {s : ByteArray} {a b : Nat} (h : NoBl s a b) (hb : b ≤ s.size) : ∀ c ∈ (s.data.toList.drop a).take (b - a), Sc.blank c = false := by
  intro c hc
  obtain ⟨i, hi⟩ := List.getElem?_of_mem hc
  have hlt := (List.getElem?_eq_some_iff.1 hi).1
  rw [List.length_take, List.length_drop, bytes_size] at hlt
  rw [List.getElem?_take_of_lt (by omega), List.getElem?_drop, bytes_get s (a + i) (by omega)] at hi
  rw [← Option.some.inj hi]
  exact h (a + i) (by omega) (by omega) _
def ext (s : ByteArray) (x : Nat × Nat) : List UInt8 := (s.data.toList.drop x.1).take (x.2 - x.1)
theorem spans_fields (s : ByteArray) : ∀ (f pos : Nat) (st : Option Nat) (acc : List (Nat × Nat)), pos ≤ s.size → s.size ≤ pos + f → (∀ a, st = some a → a < pos ∧ NoBl s a pos) →
    (Lib.closeSpans s (Lib.spansFromP isBl s f pos st acc)).map (ext s) = acc.map (ext s) ++ Sc.fields (s.data.toList.drop (st.getD pos)) := by
  intro f
  induction f with
  | zero =>
    intro pos st acc h1 h2 h3
    obtain rfl : pos = s.size := by omega
    unfold Lib.spansFromP
    cases st with
    | none =>
      show (Lib.closeSpans s (acc, none)).map (ext s) = _
      rw [show (none : Option Nat).getD s.size = s.size from rfl, List.drop_of_length_le (by rw [bytes_size]; exact Nat.le_refl _)]
      simp [Lib.closeSpans, Sc.fields_nil]
    | some a =>
      obtain ⟨ha, hn⟩ := h3 a rfl
      have hm := noBl_mem hn (Nat.le_refl _)
      have hw : (s.data.toList.drop a).take (s.size - a) = s.data.toList.drop a := List.take_of_length_le (by rw [List.length_drop, bytes_size]; exact Nat.le_refl _)
      rw [hw] at hm
      have := Sc.fields_word (s.data.toList.drop a) [] hm (by
        intro e
        have := congrArg List.length e
        rw [List.length_drop, bytes_size] at this
        simp at this; omega) (.inl rfl)
      rw [List.append_nil] at this
      show (Lib.closeSpans s (acc, some a)).map (ext s) = _
      rw [show (some a : Option Nat).getD s.size = a from rfl, this]
      simp [Lib.closeSpans, ext, hw, Sc.fields_nil]
  | succ f ih =>
    intro pos st acc h1 h2 h3
    by_cases hp : pos < s.size
    · obtain ⟨hT, hF⟩ := rune_bytes s pos hp
      have hd := bytes_drop s pos hp
      cases hb : isBl (Utf8.decode s pos).1 with
      | true =>
        obtain ⟨hdec, hbl⟩ := hT hb
        cases st with
        | none =>
          have e : Lib.spansFromP isBl s (f + 1) pos none acc = Lib.spansFromP isBl s f (pos + 1) none acc := by
            rw [Lib.spansFromP, if_pos hp, if_pos hb, hdec]
          rw [e, ih (pos + 1) none acc (by omega) (by omega) (fun a h => by cases h)]
          rw [show (none : Option Nat).getD (pos + 1) = pos + 1 from rfl, show (none : Option Nat).getD pos = pos from rfl, hd, Sc.fields_blank _ _ hbl]
        | some a =>
          obtain ⟨ha, hn⟩ := h3 a rfl
          have e : Lib.spansFromP isBl s (f + 1) pos (some a) acc = Lib.spansFromP isBl s f (pos + 1) none (acc ++ [(a, pos)]) := by
            rw [Lib.spansFromP, if_pos hp, if_pos hb, hdec]
          rw [e, ih (pos + 1) none _ (by omega) (by omega) (fun a h => by cases h)]
          rw [show (none : Option Nat).getD (pos + 1) = pos + 1 from rfl, show (some a : Option Nat).getD pos = a from rfl]
          have hs : s.data.toList.drop a = (s.data.toList.drop a).take (pos - a) ++ s.data.toList.drop pos := by
            conv => lhs; rw [← List.take_append_drop (pos - a) (s.data.toList.drop a)]
            rw [List.drop_drop]; congr 2; omega
          have := Sc.fields_word ((s.data.toList.drop a).take (pos - a)) (s.data.toList.drop pos) (noBl_mem hn (by omega)) (by
            intro e
            have := congrArg List.length e
            rw [List.length_take, List.length_drop, bytes_size] at this
            simp at this; omega) (.inr ⟨_, _, hd, hbl⟩)
          rw [← hs, hd, Sc.fields_blank _ _ hbl] at this
          rw [this, List.map_append, List.append_assoc]
          rfl
      | false =>
        obtain ⟨w1, w2, w3⟩ := hF hb
        cases st with
        | none =>
          have e : Lib.spansFromP isBl s (f + 1) pos none acc = Lib.spansFromP isBl s f (pos + (Utf8.decode s pos).2) (some pos) acc := by
            rw [Lib.spansFromP, if_pos hp, if_neg (by simp [hb])]
          rw [e, ih _ (some pos) acc w2 (by omega) (fun a h => by
            obtain rfl := Option.some.inj h
            exact ⟨by omega, w3⟩)]
          rfl
        | some a =>
          obtain ⟨ha, hn⟩ := h3 a rfl
          have e : Lib.spansFromP isBl s (f + 1) pos (some a) acc = Lib.spansFromP isBl s f (pos + (Utf8.decode s pos).2) (some a) acc := by
            rw [Lib.spansFromP, if_pos hp, if_neg (by simp [hb])]
          rw [e, ih _ (some a) acc w2 (by omega) (fun b h => by
            obtain rfl := Option.some.inj h
            refine ⟨by omega, fun k x y hk => ?_⟩
            rcases Nat.lt_or_ge k pos with hkp | hkp
            · exact hn k x hkp hk
            · exact w3 k hkp y hk)]
          rfl
    · have hh := ih pos st acc h1 (by omega) h3
      rw [Lib.spansFromP_end isBl s f pos st acc hp] at hh
      rw [Lib.spansFromP_end isBl s (f + 1) pos st acc hp, hh]
/-- The pieces of a text. -/
theorem goFields_eq (s : ByteArray) : (Lib.goFieldsP isBl s).map (·.data.toList) = Sc.fields s.data.toList := by
  have := spans_fields s s.size 0 none [] (Nat.zero_le _) (by omega) (fun a h => by cases h)
  rw [show (none : Option Nat).getD 0 = 0 from rfl, List.drop_zero, List.map_nil, List.nil_append] at this
  rw [← this]
  unfold Lib.goFieldsP Lib.spansOfP
  rw [List.map_map]
  refine List.map_congr_left fun x _ => ?_
  exact extract_mid s x.1 x.2
end Go.Proofs.YtinobikikineiabGreatDoor
