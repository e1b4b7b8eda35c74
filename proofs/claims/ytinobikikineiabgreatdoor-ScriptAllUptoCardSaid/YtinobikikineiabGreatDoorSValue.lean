/- The walk of lexis's 'value': a number's value, or the error. -/
import Derived.Test.YtinobikikineiabGreatDoorSBase
namespace Go.Proofs.YtinobikikineiabGreatDoor
open Go.RowKit

/-- How 'value' ends, by the number's code. -/
def ValueEnds (l : List UInt8) (E : Errs) (w : World) (e : Ending) (w' : World) : Prop :=
  (Lx.numCode l = 0 ∧ e = .returned (.tuple #[.int .i64 (Lx.numVal l : Int), .nilIface]) ∧ w = w') ∨
  ((Lx.numCode l = 2 ∨ Lx.numCode l = 4) ∧ e = .returned (.tuple #[.int .i64 0, E.val (Lx.numCode l)]) ∧ Below w.heap.size w w')
theorem ValueEnds.bad {l : List UInt8} {E : Errs} {w : World} {n : Nat} (h : Lx.numOk l = false) : ValueEnds l E w (.returned (.tuple #[.int .i64 0, E.val 4])) (w.drewN n) := by
  have h4 := Lx.numCode_bad l h
  exact .inr ⟨.inr h4, by rw [h4], ⟨rfl, rfl, rfl, Nat.le_refl _, fun _ _ => rfl⟩⟩
theorem ValueEnds.long {l : List UInt8} {E : Errs} {w : World} {n : Nat} (h : Lx.numCode l = 2) : ValueEnds l E w (.returned (.tuple #[.int .i64 0, E.val 2])) (w.drewN n) :=
  .inr ⟨.inl h, by rw [h], ⟨rfl, rfl, rfl, Nat.le_refl _, fun _ _ => rfl⟩⟩
theorem ValueEnds.good {l : List UInt8} {E : Errs} {w : World} (h : Lx.numCode l = 0) (hv : Lx.numVal l = Lx.capVal l) : ValueEnds l E w (.returned (.tuple #[.int .i64 (Lx.capVal l : Int), .nilIface])) w :=
  .inl ⟨h, by rw [hv], rfl⟩
theorem head_byte (s : ByteArray) (h : 0 < s.size) : s.data.toList.head? = some s[0] := by
  rw [List.head?_eq_getElem?]; exact bytes_get s 0 h
theorem bytes_empty (s : ByteArray) (h : s.toList.isEmpty = true) : s.data.toList = [] := by
  rw [ByteArray.toList_eq] at h; simpa using h
theorem bytes_nonempty (s : ByteArray) (h : s.toList.isEmpty = false) : s.data.toList ≠ [] := by
  rw [ByteArray.toList_eq] at h; simpa using h
theorem byte_ne (c d : UInt8) (h : ((c.toNat : Int) == (d.toNat : Int)) = false) : c ≠ d := by
  rintro rfl; simp at h
theorem byte_eq (c d : UInt8) (h : ((c.toNat : Int) == (d.toNat : Int)) = true) : c = d := by
  apply UInt8.toNat_inj.1; have := eq_of_beq h; omega
theorem cap_step (a b d : Nat) (hd : 48 ≤ d) (hb : b = min (10 * a + (d - 48)) (Lx.big + 1)) :
    Value.int .i64 (if (1073741825 : Int) < 10 * (a : Int) + ((d : Int) - 48) then 1073741825 else 10 * (a : Int) + ((d : Int) - 48)) = .int .i64 (b : Int) := by
  congr 1
  rw [hb, Nat.min_def]
  unfold Lx.big
  split <;> split <;> omega

set_option maxHeartbeats 1000000 in
theorem value_any (s : ByteArray) (E : Errs) (w : World) (hE : Laid E two w) (hs : s.size ≤ maxLen) :
    Calls Tryz.prog 131 #[.string s] w (ValueEnds s.data.toList E w) := by
  unfold maxLen at hs
  have hW := hE.word
  have hL := hE.long
  clear hE
  go_enter Tryz.func131, Tryz.ntmps131
  go_wp2_with fail
  go_loop [4, 8] (fun n i => ∃ k : Nat, k ≤ s.size ∧ i = .int .i64 k ∧ n = .int .i64 (Lx.capVal (s.data.toList.take k)) ∧ Lx.upTo s.data.toList k = true) (fun _ i => s.size - (intOf i).toNat)
  case atStart => exact ⟨0, Nat.zero_le _, rfl, rfl, Lx.upTo_zero _⟩
  case round =>
    obtain ⟨k, hk, rfl, rfl, hp⟩ := hrel
    have HP := Lib.hid hp
    clear hp
    have hcap := Lx.capVal_le (s.data.toList.take k)
    unfold Lx.big at hcap
    by_cases hlt : k < s.size
    · have hdd : Lx.isDigit s[k] = true → 48 ≤ s[k].toNat ∧ s[k].toNat ≤ 57 := by simp [Lx.isDigit]
      have hs0 : 0 < s.size := by omega
      cases hc : Lx.isDigit s[k] with
      | true =>
        obtain ⟨hd1, hd2⟩ := hdd hc
        have HC := Lib.hid hc
        clear hc hdd
        have HZ := Lib.hid (head_byte s hs0)
        have HS : Hid (∀ c, s.data.toList[k]? = some c → c = s[k]) := fun c hc => by rw [bytes_get s k hlt] at hc; exact (Option.some.inj hc).symm
        by_cases h0 : 0 < k
        · cases hz : ((s[0].toNat : Int) == 48) with
          | true =>
            have HN : Hid (Lx.numOk s.data.toList = false) := Lx.numOk_nought _ k h0 (by simpa using hlt) (by rw [HZ.out, byte_eq s[0] 48 hz])
            go_wp2_with (first | (go_at_call 148; refine (isDigit_any s[k] _).mono ?_; rintro e w' ⟨rfl, rfl⟩; rw [HC.out]))
            go_quiet (fail)
            go_wp2
            go_ret2
            exact ValueEnds.bad HN.out
          | false =>
            have HU : Hid (Lx.upTo s.data.toList (k + 1) = true) := Lx.upTo_succ _ k s[k] (bytes_get s k hlt) HP.out HC.out (.inr (by rw [HZ.out]; intro h; exact byte_ne s[0] 48 hz (Option.some.inj h)))
            have HV : Hid (Lx.capVal (s.data.toList.take (k + 1)) = min (10 * Lx.capVal (s.data.toList.take k) + (s[k].toNat - 48)) (Lx.big + 1)) := by rw [bytes_take s k hlt]; exact Lx.capVal_snoc _ _
            go_wp2_with (first | (go_at_call 148; refine (isDigit_any s[k] _).mono ?_; rintro e w' ⟨rfl, rfl⟩; rw [HC.out]))
            go_round
            case rel => exact ⟨k + 1, by omega, by go_num, cap_step _ _ _ hd1 HV.out, HU.out⟩
            case measure => simp [intOf]; omega
        · have HU : Hid (Lx.upTo s.data.toList (k + 1) = true) := Lx.upTo_succ _ k s[k] (bytes_get s k hlt) HP.out HC.out (.inl (by omega))
          have HV : Hid (Lx.capVal (s.data.toList.take (k + 1)) = min (10 * Lx.capVal (s.data.toList.take k) + (s[k].toNat - 48)) (Lx.big + 1)) := by rw [bytes_take s k hlt]; exact Lx.capVal_snoc _ _
          go_wp2_with (first | (go_at_call 148; refine (isDigit_any s[k] _).mono ?_; rintro e w' ⟨rfl, rfl⟩; rw [HC.out]))
          go_round
          case rel => exact ⟨k + 1, by omega, by go_num, cap_step _ _ _ hd1 HV.out, HU.out⟩
          case measure => simp [intOf]; omega
      | false =>
        have HN : Hid (Lx.numOk s.data.toList = false) := Lx.numOk_not_digit _ k s[k] (bytes_get s k hlt) hc
        have HC := Lib.hid hc
        clear hc hdd
        go_wp2_with (first | (go_at_call 148; refine (isDigit_any s[k] _).mono ?_; rintro e w' ⟨rfl, rfl⟩; rw [HC.out]))
        go_quiet (fail)
        go_wp2
        go_ret2
        exact ValueEnds.bad HN.out
    · have HT : Hid (s.data.toList.take k = s.data.toList) := List.take_of_length_le (by rw [bytes_size]; omega)
      cases he : s.toList.isEmpty with
      | true =>
        have HN : Hid (Lx.numOk s.data.toList = false) := by rw [bytes_empty s he]; rfl
        go_wp2
        go_quiet (fail)
        go_wp2
        go_ret2
        exact ValueEnds.bad HN.out
      | false =>
        have hne := bytes_nonempty s he
        have hks : s.size = k := by omega
        have HO : Hid (Lx.numOk s.data.toList = true) := Lx.numOk_of_upTo _ hne (by rw [bytes_size, hks]; exact HP.out)
        clear hks
        have HC : Hid (Lx.capVal (s.data.toList.take k) = Lx.capVal s.data.toList) := congrArg Lx.capVal HT.out
        clear hne
        by_cases hbig : (Lx.capVal (s.data.toList.take k) : Int) ≤ 1073741824
        · have HG : Hid (Lx.numCode s.data.toList = 0 ∧ Lx.numVal s.data.toList = Lx.capVal s.data.toList) := Lx.numCode_good _ HO.out (by rw [← HC.out]; unfold Lx.big; omega)
          go_wp2
          go_ret2
          show ValueEnds _ _ _ (.returned (.tuple #[.int .i64 (Lx.capVal (s.data.toList.take k) : Int), .nilIface])) _
          rw [HC.out]
          exact ValueEnds.good HG.out.1 HG.out.2
        · have HG : Hid (Lx.numCode s.data.toList = 2) := Lx.numCode_long _ HO.out (by rw [← HC.out]; unfold Lx.big; omega)
          go_wp2
          go_quiet (fail)
          go_wp2
          go_ret2
          exact ValueEnds.long HG.out

theorem value_ok (s : ByteArray) (E : Errs) (w : World) (hE : Laid E two w) (hs : s.size ≤ maxLen) (h : Lx.numCode s.data.toList = 0) :
    Calls Tryz.prog 131 #[.string s] w fun e w' => e = .returned (.tuple #[.int .i64 (Lx.numVal s.data.toList : Int), .nilIface]) ∧ w = w' :=
  (value_any s E w hE hs).mono fun _ _ hv => by
    rcases hv with ⟨_, h1, h2⟩ | ⟨h0, _, _⟩
    · exact ⟨h1, h2⟩
    · omega
theorem value_no (s : ByteArray) (E : Errs) (w : World) (hE : Laid E two w) (hs : s.size ≤ maxLen) (h : Lx.numCode s.data.toList ≠ 0) :
    Calls Tryz.prog 131 #[.string s] w fun e w' => e = .returned (.tuple #[.int .i64 0, E.val (Lx.numCode s.data.toList)]) ∧ Below w.heap.size w w' :=
  (value_any s E w hE hs).mono fun _ _ hv => by
    rcases hv with ⟨h0, _, _⟩ | ⟨_, h1, h2⟩
    · exact absurd h0 h
    · exact ⟨h1, h2⟩
end Go.Proofs.YtinobikikineiabGreatDoor
