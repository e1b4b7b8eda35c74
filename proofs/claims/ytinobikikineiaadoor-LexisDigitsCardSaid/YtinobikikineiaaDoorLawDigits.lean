/- The walk of the law LexisDigits: for every number it returns true. Condition: the first four error variables lie as the program lays them. -/
import Derived.Test.YtinobikikineiaaDoorAlive
import Derived.Test.YtinobikikineiaaDoorCode
import Derived.Test.YtinobikikineiaaDoorNumber
import Derived.Test.YtinobikikineiaaDoorPlainDigits
namespace Go.Proofs.YtinobikikineiaaDoor
open Go.RowKit Go.Shelf

theorem pow_small (n v w : Nat) (h : 10 ^ n * w ≤ v) (hv : v ≤ 1073741824) (hw : 0 < w) : n ≤ 9 := by
  rcases Nat.lt_or_ge n 10 with h1 | h1
  · omega
  · have h2 : 10 ^ 10 ≤ 10 ^ n := Nat.pow_le_pow_right (by omega) h1
    have h3 : 10 ^ n * 1 ≤ 10 ^ n * w := Nat.mul_le_mul_left _ hw
    have h4 : (10 : Nat) ^ 10 = 10000000000 := by decide
    omega

theorem encode_low (r : Nat) (h : r < 128) : Utf8.encode (r : Int) = ⟨#[UInt8.ofNat r]⟩ := by
  have v : Utf8.valid (r : Int) = true := by simp [Utf8.valid]; omega
  simp [Utf8.encode, v, h]
theorem digit_byte (k : Nat) : Utf8.encode (48 + (k : Int) % 10) = ⟨#[UInt8.ofNat (48 + k % 10)]⟩ := by
  have e : (48 + (k : Int) % 10) = ((48 + k % 10 : Nat) : Int) := by omega
  rw [e]
  exact encode_low _ (by omega)
theorem digit_nat (k : Nat) : (UInt8.ofNat (48 + k % 10)).toNat = 48 + k % 10 := by
  rw [UInt8.toNat_ofNat']
  omega

set_option maxHeartbeats 1000000 in
theorem digits_out (v : Int) (E : Errs) (w : World) (hE : Laid E four w) (h : v < 0 ∨ 1073741824 < v) :
    Calls Tryd.prog 8 #[.int .i64 v] w fun e w' => e = .returned (.bool true) ∧ Below w.heap.size w w' := by
  rcases h with h | h
  all_goals
    by_cases h0 : v < 0 <;> try (exfalso; omega)
    all_goals
      go_enter Tryd.func8, Tryd.ntmps8
      go_wp2_with (first
        | (go_at_call 12; refine (alive_any E _ hE.two_of_four).mono ?_; rintro e w2 ⟨rfl, hb2⟩))
      go_ret
      exact ⟨rfl, hb2⟩

set_option maxRecDepth 100000 in
set_option maxHeartbeats 2000000 in
theorem digits_in (v : Nat) (E : Errs) (w : World) (hE : Laid E four w) (h : v ≤ 1073741824) :
    Calls Tryd.prog 8 #[.int .i64 (v : Int)] w fun e w' => e = .returned (.bool true) ∧ Below w.heap.size w w' := by
  go_enter Tryd.func8, Tryd.ntmps8
  go_wp2_with fail
  go_loop [3, 4] (fun u i => ∃ (k : Nat) (x : ByteArray), k ≤ v ∧ i = .int .i64 k ∧ u = .string x ∧ x.size ≤ 10 ∧ Lx.DigInv v k x.data.toList) (fun _ i => (intOf i).toNat)
  case atStart => exact ⟨v, ⟨#[]⟩, Nat.le_refl _, rfl, rfl, by decide, Lx.DigInv.start v⟩
  case round =>
    obtain ⟨k, x, hk, rfl, rfl, hxs, hx⟩ := hrel
    by_cases hlt : 0 < k
    · have hx9 : x.size ≤ 9 := by
        rw [← bytes_size]
        exact pow_small _ v k (by have := hx.1; omega) h hlt
      obtain ⟨c, hu, hcn⟩ : ∃ c : UInt8, Utf8.encode (48 + (k : Int) % 10) = ⟨#[c]⟩ ∧ c.toNat = 48 + k % 10 := ⟨_, digit_byte k, digit_nat k⟩
      have HX := Lib.hid hx
      clear hx
      go_wp2
      go_round
      case rel => exact ⟨k / 10, _, by omega, by go_num, rfl, by rw [ByteArray.size_append]; show 1 + x.size ≤ 10; omega, by
        have e : ((⟨#[c]⟩ : ByteArray) ++ x).data.toList = c :: x.data.toList := by simp
        rw [e]
        exact HX.out.step hlt _ hcn⟩
      case measure => simp [intOf]; omega
    · have hk0 : k = 0 := by omega
      subst hk0
      have hy : ∃ y : ByteArray, y.size ≤ 10 ∧ Lx.Decimal v y.data.toList ∧ (v = 0 → y = ⟨#[48]⟩) ∧ (0 < v → y = x) := by
        by_cases hv0 : v = 0
        · subst hv0
          exact ⟨⟨#[48]⟩, by decide, Lx.decimal_zero, fun _ => rfl, fun h => absurd h (by omega)⟩
        · exact ⟨x, hxs, hx.decimal (by omega), fun h => absurd h hv0, fun _ => rfl⟩
      obtain ⟨y, hys, hd, hy0, hy1⟩ := hy
      clear hx
      have hb : v ≤ Lx.big := h
      have HN : Hid (Lx.numCode y.data.toList = 0) := (hd.num hb).1
      have HV : Hid (Lx.numVal y.data.toList = v) := (hd.num hb).2
      have e2 : ((⟨#[48]⟩ : ByteArray) ++ y).data.toList = 48 :: y.data.toList := by simp
      have e3 : ((⟨#[45]⟩ : ByteArray) ++ y).data.toList = 45 :: y.data.toList := by simp
      have e4 : (y ++ (⟨#[97]⟩ : ByteArray)).data.toList = y.data.toList ++ [97] := by simp
      have H2 : Hid (Lx.numCode ((⟨#[48]⟩ : ByteArray) ++ y).data.toList = 4) := by show _ = _; rw [e2]; exact hd.nought
      have H3 : Hid (Lx.numCode ((⟨#[45]⟩ : ByteArray) ++ y).data.toList = 4) := by show _ = _; rw [e3]; exact Lx.num_minus _
      have H4 : Hid (Lx.numCode (y ++ (⟨#[97]⟩ : ByteArray)).data.toList = 4) := by show _ = _; rw [e4]; exact Lx.num_letter _
      clear e2 e3 e4 hd
      have z1 : y.size ≤ maxLen := by unfold maxLen; omega
      have z2 : ((⟨#[48]⟩ : ByteArray) ++ y).size ≤ maxLen := by rw [ByteArray.size_append]; show 1 + y.size ≤ maxLen; unfold maxLen; omega
      have z3 : ((⟨#[45]⟩ : ByteArray) ++ y).size ≤ maxLen := by rw [ByteArray.size_append]; show 1 + y.size ≤ maxLen; unfold maxLen; omega
      have z4 : (y ++ (⟨#[97]⟩ : ByteArray)).size ≤ maxLen := by rw [ByteArray.size_append]; show y.size + 1 ≤ maxLen; unfold maxLen; omega
      have HE := hE.two_of_four
      by_cases hv0 : v = 0
      · obtain rfl := hy0 hv0
        subst hv0
        go_wp2_with (first
          | (go_at_call 22; refine (number_ok _ E _ ?hE ?hs ?hc).mono ?_; (case hc => with_reducible exact HN.out); (case hE => exact HE); (case hs => exact z1); rintro e w1 ⟨rfl, rfl⟩; rw [HV.out])
          | (go_at_call 22; refine (number_four _ E _ ?hE ?hs ?hc).mono ?_; (case hc => with_reducible exact H2.out); (case hE => exact HE); (case hs => exact z2); rintro e w2 ⟨b2, rfl, hb2, hB2, hh2⟩; have HE2 := HE.below hb2)
          | (go_at_call 22; refine (number_four _ E _ ?hE ?hs ?hc).mono ?_; (case hc => with_reducible exact H3.out); (case hE => exact HE2); (case hs => exact z3); rintro e w3 ⟨b3, rfl, hb3, hB3, hh3⟩; have HE3 := HE2.below hb3)
          | (go_at_call 22; refine (number_four _ E _ ?hE ?hs ?hc).mono ?_; (case hc => with_reducible exact H4.out); (case hE => exact HE3); (case hs => exact z4); rintro e w4 ⟨b4, rfl, hb4, hB4, hh4⟩; have HE4 := HE3.below hb4)
          | (go_at_call 12; refine (alive_any E _ HE4).mono ?_; rintro e w5 ⟨rfl, hb5⟩; have hE5 := (((hE.below hb2).below hb3).below hb4).below hb5; have k4 : w5.cell? ⟨b4, 3, none⟩ = some (E.val 4) := cell_of_row _ _ 3 _ _ _ ((hb5.block _ (Array.getElem?_eq_some_iff.1 hh4).1).trans hh4); have k3 : w5.cell? ⟨b3, 3, none⟩ = some (E.val 4) := cell_of_row _ _ 3 _ _ _ (((hb4.trans (hb5.mono hb4.size)).block _ (Array.getElem?_eq_some_iff.1 hh3).1).trans hh3); have k2 : w5.cell? ⟨b2, 3, none⟩ = some (E.val 4) := cell_of_row _ _ 3 _ _ _ (((hb3.trans ((hb4.trans (hb5.mono hb4.size)).mono hb3.size)).block _ (Array.getElem?_eq_some_iff.1 hh2).1).trans hh2))
          | (go_at_call 20; refine (code_fault E 4 _ (.inr rfl) _ hE5 ?hk).mono ?_; (case hk => with_reducible first | exact k2 | exact k3 | exact k4); rintro e w6 ⟨rfl, rfl⟩))
        go_ret
        exact ⟨rfl, hb2.trans ((hb3.trans ((hb4.trans (hb5.mono hb4.size)).mono hb3.size)).mono hb2.size)⟩
      · obtain rfl := hy1 (by omega)
        go_wp2_with (first
          | (go_at_call 22; refine (number_ok _ E _ ?hE ?hs ?hc).mono ?_; (case hc => with_reducible exact HN.out); (case hE => exact HE); (case hs => exact z1); rintro e w1 ⟨rfl, rfl⟩; rw [HV.out])
          | (go_at_call 22; refine (number_four _ E _ ?hE ?hs ?hc).mono ?_; (case hc => with_reducible exact H2.out); (case hE => exact HE); (case hs => exact z2); rintro e w2 ⟨b2, rfl, hb2, hB2, hh2⟩; have HE2 := HE.below hb2)
          | (go_at_call 22; refine (number_four _ E _ ?hE ?hs ?hc).mono ?_; (case hc => with_reducible exact H3.out); (case hE => exact HE2); (case hs => exact z3); rintro e w3 ⟨b3, rfl, hb3, hB3, hh3⟩; have HE3 := HE2.below hb3)
          | (go_at_call 22; refine (number_four _ E _ ?hE ?hs ?hc).mono ?_; (case hc => with_reducible exact H4.out); (case hE => exact HE3); (case hs => exact z4); rintro e w4 ⟨b4, rfl, hb4, hB4, hh4⟩; have HE4 := HE3.below hb4)
          | (go_at_call 12; refine (alive_any E _ HE4).mono ?_; rintro e w5 ⟨rfl, hb5⟩; have hE5 := (((hE.below hb2).below hb3).below hb4).below hb5; have k4 : w5.cell? ⟨b4, 3, none⟩ = some (E.val 4) := cell_of_row _ _ 3 _ _ _ ((hb5.block _ (Array.getElem?_eq_some_iff.1 hh4).1).trans hh4); have k3 : w5.cell? ⟨b3, 3, none⟩ = some (E.val 4) := cell_of_row _ _ 3 _ _ _ (((hb4.trans (hb5.mono hb4.size)).block _ (Array.getElem?_eq_some_iff.1 hh3).1).trans hh3); have k2 : w5.cell? ⟨b2, 3, none⟩ = some (E.val 4) := cell_of_row _ _ 3 _ _ _ (((hb3.trans ((hb4.trans (hb5.mono hb4.size)).mono hb3.size)).block _ (Array.getElem?_eq_some_iff.1 hh2).1).trans hh2))
          | (go_at_call 20; refine (code_fault E 4 _ (.inr rfl) _ hE5 ?hk).mono ?_; (case hk => with_reducible first | exact k2 | exact k3 | exact k4); rintro e w6 ⟨rfl, rfl⟩))
        go_ret
        exact ⟨rfl, hb2.trans ((hb3.trans ((hb4.trans (hb5.mono hb4.size)).mono hb3.size)).mono hb2.size)⟩
/-- LexisDigits returns true. -/
theorem digits_true (v : Int) (E : Errs) (w : World) (hE : Laid E four w) :
    Calls Tryd.prog 8 #[.int .i64 v] w fun e w' => e = .returned (.bool true) ∧ Below w.heap.size w w' := by
  by_cases h : v < 0 ∨ 1073741824 < v
  · exact digits_out v E w hE h
  · obtain ⟨n, rfl⟩ := Int.eq_ofNat_of_zero_le (show 0 ≤ v by omega)
    exact digits_in n E w hE (by omega)
end Go.Proofs.YtinobikikineiaaDoor
