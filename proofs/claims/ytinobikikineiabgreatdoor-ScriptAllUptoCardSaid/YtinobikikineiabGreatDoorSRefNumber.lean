/- The walk of the document's own number. No conditions but the text's size. -/
import Derived.Test.YtinobikikineiabGreatDoorSMem
import Derived.Test.YtinobikikineiabGreatDoorPlainDigits
namespace Go.Proofs.YtinobikikineiabGreatDoor
open Go.RowKit

theorem ret2_eq {a b c d : Int} (h1 : a = c) (h2 : b = d) : Ending.returned (.tuple #[.int .i64 a, .int .i64 b]) = .returned (.tuple #[.int .i64 c, .int .i64 d]) := by rw [h1, h2]
theorem numVal_bad {l : List UInt8} (h : Lx.numCode l ≠ 0) : Lx.numVal l = 0 := by simp [Lx.numVal, h]
/-- What the loop holds when 'l' has been read. -/
def Over (l : List UInt8) (V : Nat) (o : Bool) : Prop := (o = false → V = Lx.digVal l ∧ Lx.digVal l ≤ Lx.big) ∧ (o = true → Lx.big < Lx.digVal l)
theorem Over.nil : Over [] 0 false := ⟨fun _ => ⟨rfl, by decide⟩, fun h => (by cases h)⟩
theorem Over.stays {l : List UInt8} {V : Nat} (h : Over l V true) (c : UInt8) : Over (l ++ [c]) V true :=
  ⟨fun h => (by cases h), fun _ => Nat.lt_of_lt_of_le (h.2 rfl) (Lx.digVal_mono l [c])⟩
theorem Over.step {l : List UInt8} {V : Nat} (h : Over l V false) (c : UInt8) : Over (l ++ [c]) (V * 10 + (c.toNat - 48)) (decide (1073741824 < V * 10 + (c.toNat - 48))) := by
  obtain ⟨h1, _⟩ := h.1 rfl
  have e : Lx.digVal (l ++ [c]) = V * 10 + (c.toNat - 48) := by rw [Lx.digVal_snoc, ← h1]; omega
  refine ⟨fun ho => ⟨e.symm, ?_⟩, fun ho => ?_⟩
  · rw [e]; unfold Lx.big; simpa using ho
  · rw [e]; unfold Lx.big; simpa using ho

/-- The loop's relation (kept shut, so that the walk does not take its Bool apart). -/
def NumRel (s : ByteArray) (v o i : Value) : Prop := ∃ (k V : Nat) (b : Bool), k ≤ s.size ∧ v = .int .i64 V ∧ o = .bool b ∧ i = .int .i64 k ∧ Lx.upTo s.data.toList k = true ∧ Over (s.data.toList.take k) V b
theorem digit_add (V d : Nat) (hd : 48 ≤ d) : Value.int .i64 ((V : Int) * 10 + ((d : Int) - 48)) = .int .i64 ((V * 10 + (d - 48) : Nat) : Int) := by
  congr 1; omega
theorem over_eq (V d : Nat) (hd : 48 ≤ d) : Value.bool (decide ((1073741824 : Int) < (V : Int) * 10 + ((d : Int) - 48))) = .bool (decide (1073741824 < V * 10 + (d - 48))) := by
  congr 1; rw [decide_eq_decide]; omega
set_option maxHeartbeats 2000000 in
theorem refNumber_any (s : ByteArray) (w : World) (hs : s.size ≤ maxLen) :
    Calls Tryz.prog 89 #[.string s] w fun e w' => e = .returned (.tuple #[.int .i64 (Lx.numVal s.data.toList : Int), .int .i64 (Lx.numCode s.data.toList : Int)]) ∧ w = w' := by
  unfold maxLen at hs
  by_cases h0 : s.size = 0
  · have he : s.data.toList = [] := List.eq_nil_of_length_eq_zero (by rw [bytes_size]; exact h0)
    have H1 : Hid (Lx.numVal s.data.toList = 0 ∧ Lx.numCode s.data.toList = 4) := by rw [he]; exact ⟨rfl, rfl⟩
    clear he
    go_enter Tryz.func89, Tryz.ntmps89
    go_wp2_with fail
    go_ret2
    exact ⟨ret2_eq (by rw [H1.out.1]; rfl) (by rw [H1.out.2]; rfl), rfl⟩
  · have hs0 : 0 < s.size := by omega
    have HZ := Lib.hid (head_byte s hs0)
    by_cases hn : (((s[0].toNat : Int) == 48) = true) ∧ 1 < s.size
    · obtain ⟨hz, h1⟩ := hn
      have hN : Lx.numOk s.data.toList = false := Lx.numOk_nought _ 1 (by omega) (by rw [bytes_size]; exact h1) (by rw [HZ.out, byte_eq s[0] 48 hz])
      have H1 : Hid (Lx.numVal s.data.toList = 0 ∧ Lx.numCode s.data.toList = 4) := by
        have h4 := Lx.numCode_bad _ hN
        exact ⟨numVal_bad (by rw [h4]; decide), h4⟩
      clear hN
      go_enter Tryz.func89, Tryz.ntmps89
      go_wp2_with fail
      go_ret2
      exact ⟨ret2_eq (by rw [H1.out.1]; rfl) (by rw [H1.out.2]; rfl), rfl⟩
    · have HH : Hid (s.size ≤ 1 ∨ s.data.toList.head? ≠ some 48) := by
        by_cases h1 : 1 < s.size
        · refine .inr fun h => hn ⟨?_, h1⟩
          rw [HZ.out] at h
          rw [Option.some.inj h]
          rfl
        · exact .inl (by omega)
      have hg : (((s[0].toNat : Int) == 48) = false ∧ 1 < s.size) ∨ (((s[0].toNat : Int) == 48) = false ∧ ¬ 1 < s.size) ∨ (((s[0].toNat : Int) == 48) = true ∧ ¬ 1 < s.size) := by
        cases hz : ((s[0].toNat : Int) == 48) with
        | false =>
          by_cases h1 : 1 < s.size
          · exact .inl ⟨rfl, h1⟩
          · exact .inr (.inl ⟨rfl, h1⟩)
        | true => exact .inr (.inr ⟨rfl, fun h1 => hn ⟨hz, h1⟩⟩)
      rcases hg with ⟨hz, h1⟩ | ⟨hz, h1⟩ | ⟨hz, h1⟩
      all_goals
        clear hn
        have hd1 : decide (1 < (s.size : Int)) = decide (1 < s.size) := by rw [decide_eq_decide]; omega
        try rw [decide_eq_false h1] at hd1
        try rw [decide_eq_true h1] at hd1
        go_enter Tryz.func89, Tryz.ntmps89
        go_wp2_with fail
        go_loop [4, 5, 6] (fun v o i => NumRel s v o i) (fun _ _ i => s.size - (intOf i).toNat)
        case atStart => exact ⟨0, 0, false, Nat.zero_le _, rfl, rfl, rfl, Lx.upTo_zero _, Over.nil⟩
        case round =>
          obtain ⟨k, V, b, hk, rfl, rfl, rfl, hp, ho⟩ := hrel
          have HP := Lib.hid hp
          clear hp
          by_cases hlt : k < s.size
          · cases hc : Lx.isDigit s[k] with
            | false =>
              have hN : Lx.numOk s.data.toList = false := Lx.numOk_not_digit _ k s[k] (bytes_get s k hlt) hc
              have H1 : Hid (Lx.numVal s.data.toList = 0 ∧ Lx.numCode s.data.toList = 4) := by
                have h4 := Lx.numCode_bad _ hN
                exact ⟨numVal_bad (by rw [h4]; decide), h4⟩
              have hcc : (s[k].toNat : Int) < 48 ∨ 57 < (s[k].toNat : Int) := by
                simp only [Lx.isDigit, Bool.and_eq_false_iff, decide_eq_false_iff_not] at hc
                omega
              clear hN hc ho
              rcases hcc with hc | hc
              · go_wp2_with fail
                go_ret2
                exact ⟨ret2_eq (by rw [H1.out.1]; rfl) (by rw [H1.out.2]; rfl), rfl⟩
              · by_cases hc2 : (s[k].toNat : Int) < 48
                · omega
                · go_wp2_with fail
                  go_ret2
                  exact ⟨ret2_eq (by rw [H1.out.1]; rfl) (by rw [H1.out.2]; rfl), rfl⟩
            | true =>
              have hcc : 48 ≤ s[k].toNat ∧ s[k].toNat ≤ 57 := by simpa [Lx.isDigit] using hc
              obtain ⟨hc1, hc2⟩ := hcc
              have HU : Hid (Lx.upTo s.data.toList (k + 1) = true) := Lx.upTo_succ _ k s[k] (bytes_get s k hlt) HP.out hc (by
                rcases HH.out with h | h
                · exact .inl (by omega)
                · exact .inr h)
              have HT := Lib.hid (bytes_take s k hlt)
              clear hc
              cases b with
              | true =>
                have HO := Lib.hid (ho.stays s[k])
                clear ho
                go_wp2_with fail
                go_round
                case rel => exact ⟨_, _, _, _, _, ⟨k + 1, V, true, by omega, rfl, rfl, by go_num, HU.out, by rw [HT.out]; exact HO.out⟩, rfl, rfl, rfl, rfl, rfl⟩
                case measure => simp [intOf]; omega
              | false =>
                have hV : V ≤ 1073741824 := by
                  have := ho.1 rfl
                  rw [this.1]; exact this.2
                have HO := Lib.hid (ho.step s[k])
                clear ho
                go_wp2_with fail
                go_round
                case rel => exact ⟨_, _, _, _, _, ⟨k + 1, _, _, by omega, digit_add V _ hc1, over_eq V _ hc1, by go_num, HU.out, by rw [HT.out]; exact HO.out⟩, rfl, rfl, rfl, rfl, rfl⟩
                case measure => simp [intOf]; omega
          · have hks : k = s.size := by omega
            have hne : s.data.toList ≠ [] := fun h => h0 (by have h1 := bytes_size s; rw [h] at h1; exact h1.symm)
            have hall : s.data.toList.take k = s.data.toList := List.take_of_length_le (by rw [bytes_size]; omega)
            have HK : Hid (Lx.numOk s.data.toList = true) := Lx.numOk_of_upTo _ hne (by rw [bytes_size, ← hks]; exact HP.out)
            rw [hall] at ho
            clear hne hall
            cases b with
            | true =>
              have H1 : Hid (Lx.numVal s.data.toList = 0 ∧ Lx.numCode s.data.toList = 2) := by
                have h2 : Lx.numCode s.data.toList = 2 := by
                  have := ho.2 rfl
                  simp only [Lx.numCode, HK.out, if_true]
                  rw [if_neg (by omega)]
                exact ⟨numVal_bad (by rw [h2]; decide), h2⟩
              clear ho
              go_wp2_with fail
              go_ret2
              exact ⟨ret2_eq (by rw [H1.out.1]; rfl) (by rw [H1.out.2]; rfl), rfl⟩
            | false =>
              have H1 : Hid (Lx.numVal s.data.toList = V ∧ Lx.numCode s.data.toList = 0) := by
                obtain ⟨h1, h2⟩ := ho.1 rfl
                have h0 : Lx.numCode s.data.toList = 0 := by simp [Lx.numCode, HK.out, h2]
                exact ⟨by simp [Lx.numVal, h0, h1], h0⟩
              clear ho
              go_wp2_with fail
              go_ret2
              exact ⟨ret2_eq (by rw [H1.out.1]) (by rw [H1.out.2]; rfl), rfl⟩
end Go.Proofs.YtinobikikineiabGreatDoor
