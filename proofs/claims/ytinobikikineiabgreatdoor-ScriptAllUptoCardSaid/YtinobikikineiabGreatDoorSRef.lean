/- The walks of the document's own blank, trim and cut. Conditions: the texts' sizes. -/
import Derived.Test.YtinobikikineiabGreatDoorSTold
import Derived.Test.YtinobikikineiabGreatDoorScBack
namespace Go.Proofs.YtinobikikineiabGreatDoor
open Go.RowKit Go.Shelf

namespace Sc
theorem trim_head {c : UInt8} {t : List UInt8} (h : blank c = true) : trim (c :: t) = trim t := trim_pre [c] t (fun d hd => by rw [List.mem_singleton] at hd; subst hd; exact h)
theorem trim_last {l : List UInt8} {c : UInt8} (h : blank c = true) : trim (l ++ [c]) = trim l := trim_post l [c] (fun d hd => by rw [List.mem_singleton] at hd; subst hd; exact h)
end Sc
theorem last_split (y : ByteArray) (h : 0 < y.size) : y.data.toList = y.data.toList.take (y.size - 1) ++ [y[y.size - 1]] := by
  have := bytes_take y (y.size - 1) (by omega)
  rw [show y.size - 1 + 1 = y.size by omega, List.take_of_length_le (by rw [bytes_size]; exact Nat.le_refl _)] at this
  exact this
theorem extract_tail (y : ByteArray) (h : 0 < y.size) : y.data.toList = y[0] :: (y.extract 1 y.size).data.toList := by
  have := bytes_drop y 0 h
  rw [List.drop_zero] at this
  rw [this]
  congr 1
  simp only [ByteArray.data_extract, Array.toList_extract, List.extract_eq_take_drop]
  rw [List.take_of_length_le (by simp)]

set_option maxHeartbeats 400000 in
theorem refBlank_any (c : UInt8) (w : World) :
    Calls Tryz.prog 86 #[.int .u8 (c.toNat : Int)] w fun e w' => e = .returned (.bool (Sc.blank c)) ∧ w = w' := by
  have h32 : ((c.toNat : Int) == 32) = (c == 32) := byte_beq c 32
  have h9 : ((c.toNat : Int) == 9) = (c == 9) := byte_beq c 9
  have h13 : ((c.toNat : Int) == 13) = (c == 13) := byte_beq c 13
  have e : Sc.blank c = (c == 32 || c == 9 || c == 13) := rfl
  rw [e]
  cases h1 : (c == 32) <;> cases h2 : (c == 9) <;> cases h3 : (c == 13)
  all_goals
    rw [h1] at h32
    rw [h2] at h9
    rw [h3] at h13
    clear h1 h2 h3 e
    go_enter Tryz.func86, Tryz.ntmps86
    go_wp2
    go_ret
    exact ⟨rfl, rfl⟩

/-- What the loops hold (kept shut). -/
def TrimOne (s : ByteArray) (x : Value) : Prop := ∃ y : ByteArray, x = .string y ∧ y.size ≤ s.size ∧ Sc.trim y.data.toList = Sc.trim s.data.toList
def TrimTwo (s : ByteArray) (x : Value) : Prop := ∃ y : ByteArray, x = .string y ∧ y.size ≤ s.size ∧ Sc.trim y.data.toList = Sc.trim s.data.toList ∧ ∀ c, y.data.toList.head? = some c → Sc.blank c = false
def strLen : Value → Nat
  | .string y => y.size
  | _ => 0
theorem trimTwo_end {s y : ByteArray} (ht : Sc.trim y.data.toList = Sc.trim s.data.toList) (hh : ∀ c, y.data.toList.head? = some c → Sc.blank c = false) (hl : ∀ c, y.data.toList.getLast? = some c → Sc.blank c = false) : y = ⟨(Sc.trim s.data.toList).toArray⟩ := by
  rw [← ht, Sc.trim_bare _ ⟨hh, hl⟩, bytes_mk]
theorem head_take {l : List UInt8} {n : Nat} {c : UInt8} (h : (l.take n).head? = some c) : l.head? = some c := by
  cases l with
  | nil => simp at h
  | cons a t => cases n with
    | zero => simp at h
    | succ n => simpa using h

theorem extract_fore' (s : ByteArray) (k : Nat) : (s.extract 0 k).data.toList = s.data.toList.take k := by simp
set_option maxRecDepth 100000 in
set_option maxHeartbeats 1000000 in
theorem refTrim_any (s : ByteArray) (w : World) (hs : s.size ≤ maxLen) :
    Calls Tryz.prog 21 #[.string s] w fun e w' => e = .returned (.string ⟨(Sc.trim s.data.toList).toArray⟩) ∧ w = w' := by
  unfold maxLen at hs
  go_enter Tryz.func21, Tryz.ntmps21
  go_wp2_with fail
  go_loop [0] (fun x => TrimOne s x) (fun x => strLen x)
  case atStart => exact ⟨s, rfl, Nat.le_refl _, rfl⟩
  case round =>
    obtain ⟨y, rfl, hy, ht⟩ := hrel
    have HT := Lib.hid ht
    clear ht
    have two : (∀ c, y.data.toList.head? = some c → Sc.blank c = false) → TrimTwo s (.string y) := fun h => ⟨y, rfl, hy, HT.out, h⟩
    have hway : (y.size = 0 ∧ TrimTwo s (.string y)) ∨ (∃ h : 0 < y.size, Sc.blank y[0] = false ∧ TrimTwo s (.string y)) ∨ (∃ h : 0 < y.size, Sc.blank y[0] = true) := by
      by_cases h0 : y.size = 0
      · refine .inl ⟨h0, two fun c hc => ?_⟩
        have : y.data.toList = [] := List.eq_nil_of_length_eq_zero (by rw [bytes_size]; exact h0)
        rw [this] at hc; cases hc
      · have h1 : 0 < y.size := by omega
        cases hb : Sc.blank y[0] with
        | true => exact .inr (.inr ⟨h1, hb⟩)
        | false =>
          refine .inr (.inl ⟨h1, hb, two fun c hc => ?_⟩)
          rw [extract_tail y h1] at hc
          rw [← Option.some.inj hc]
          exact hb
    rcases hway with ⟨h0, h2⟩ | ⟨h0, hb, h2⟩ | ⟨h0, hb⟩
    · have H2 := Lib.hid h2
      clear two h2
      go_wp2_with fail
      go_loop [0] (fun x => TrimTwo s x) (fun x => strLen x)
      case atStart => exact H2.out
      case round => 
        clear H2 hy
        obtain ⟨z, rfl, hz, hzt, hzh⟩ := hrel
        have HZT := Lib.hid hzt
        have HZH := Lib.hid hzh
        clear hzt hzh
        have hway2 : (z.size = 0) ∨ (∃ h : 0 < z.size, Sc.blank z[z.size - 1] = false) ∨ (∃ h : 0 < z.size, Sc.blank z[z.size - 1] = true) := by
          by_cases h0 : z.size = 0
          · exact .inl h0
          · have h1 : 0 < z.size := by omega
            cases hb : Sc.blank z[z.size - 1] with
            | true => exact .inr (.inr ⟨h1, hb⟩)
            | false => exact .inr (.inl ⟨h1, hb⟩)
        rcases hway2 with hz0 | ⟨hz0, hzb⟩ | ⟨hz0, hzb⟩
        · have HEnd := Lib.hid (trimTwo_end HZT.out HZH.out (fun c hc => by
            have : z.data.toList = [] := List.eq_nil_of_length_eq_zero (by rw [bytes_size]; exact hz0)
            rw [this] at hc; cases hc))
          go_wp2_with fail
          go_ret
          exact ⟨by rw [← HEnd.out]; rfl, rfl⟩
        · have HEnd := Lib.hid (trimTwo_end HZT.out HZH.out (fun c hc => by
            rw [last_split z hz0, List.getLast?_concat] at hc
            rw [← Option.some.inj hc]; exact hzb))
          have HZB := Lib.hid hzb
          have hzl : z.size - 1 < z.size := by omega
          clear hzb
          go_wp2_with (first | (go_at_call 86; refine (refBlank_any _ _).mono ?_; rintro e w' ⟨rfl, rfl⟩; rw [HZB.out]))
          go_ret
          exact ⟨by rw [← HEnd.out]; rfl, rfl⟩
        · have HZB := Lib.hid hzb
          have hzl : z.size - 1 < z.size := by omega
          clear hzb
          go_wp2_with (first | (go_at_call 86; refine (refBlank_any _ _).mono ?_; rintro e w' ⟨rfl, rfl⟩; rw [HZB.out]))
          go_round
          case rel =>
            have hx := extract_fore' z (z.size - 1)
            refine ⟨_, rfl, by simp; omega, ?_, ?_⟩
            · rw [hx, ← HZT.out]
              conv => rhs; rw [last_split z hz0]
              exact (Sc.trim_last HZB.out).symm
            · intro c hc
              rw [hx] at hc
              exact HZH.out c (head_take hc)
          case measure => simp [strLen]; omega
    · have H2 := Lib.hid h2
      have HB := Lib.hid hb
      clear two h2 hb
      go_wp2_with (first | (go_at_call 86; refine (refBlank_any _ _).mono ?_; rintro e w' ⟨rfl, rfl⟩; rw [HB.out]))
      go_loop [0] (fun x => TrimTwo s x) (fun x => strLen x)
      case atStart => exact H2.out
      case round => 
        clear H2 hy
        obtain ⟨z, rfl, hz, hzt, hzh⟩ := hrel
        have HZT := Lib.hid hzt
        have HZH := Lib.hid hzh
        clear hzt hzh
        have hway2 : (z.size = 0) ∨ (∃ h : 0 < z.size, Sc.blank z[z.size - 1] = false) ∨ (∃ h : 0 < z.size, Sc.blank z[z.size - 1] = true) := by
          by_cases h0 : z.size = 0
          · exact .inl h0
          · have h1 : 0 < z.size := by omega
            cases hb : Sc.blank z[z.size - 1] with
            | true => exact .inr (.inr ⟨h1, hb⟩)
            | false => exact .inr (.inl ⟨h1, hb⟩)
        rcases hway2 with hz0 | ⟨hz0, hzb⟩ | ⟨hz0, hzb⟩
        · have HEnd := Lib.hid (trimTwo_end HZT.out HZH.out (fun c hc => by
            have : z.data.toList = [] := List.eq_nil_of_length_eq_zero (by rw [bytes_size]; exact hz0)
            rw [this] at hc; cases hc))
          go_wp2_with fail
          go_ret
          exact ⟨by rw [← HEnd.out]; rfl, rfl⟩
        · have HEnd := Lib.hid (trimTwo_end HZT.out HZH.out (fun c hc => by
            rw [last_split z hz0, List.getLast?_concat] at hc
            rw [← Option.some.inj hc]; exact hzb))
          have HZB := Lib.hid hzb
          have hzl : z.size - 1 < z.size := by omega
          clear hzb
          go_wp2_with (first | (go_at_call 86; refine (refBlank_any _ _).mono ?_; rintro e w' ⟨rfl, rfl⟩; rw [HZB.out]))
          go_ret
          exact ⟨by rw [← HEnd.out]; rfl, rfl⟩
        · have HZB := Lib.hid hzb
          have hzl : z.size - 1 < z.size := by omega
          clear hzb
          go_wp2_with (first | (go_at_call 86; refine (refBlank_any _ _).mono ?_; rintro e w' ⟨rfl, rfl⟩; rw [HZB.out]))
          go_round
          case rel =>
            have hx := extract_fore' z (z.size - 1)
            refine ⟨_, rfl, by simp; omega, ?_, ?_⟩
            · rw [hx, ← HZT.out]
              conv => rhs; rw [last_split z hz0]
              exact (Sc.trim_last HZB.out).symm
            · intro c hc
              rw [hx] at hc
              exact HZH.out c (head_take hc)
          case measure => simp [strLen]; omega
    · have HB := Lib.hid hb
      clear two hb
      go_wp2_with (first | (go_at_call 86; refine (refBlank_any _ _).mono ?_; rintro e w' ⟨rfl, rfl⟩; rw [HB.out]))
      go_round
      case rel =>
        refine ⟨_, rfl, by simp; omega, ?_⟩
        rw [← HT.out, extract_tail y h0]
        exact (Sc.trim_head HB.out).symm
      case measure => simp [strLen]; omega

/-- The word ahead of the first blank, and what comes behind it. -/
theorem cut_at (l : List UInt8) (k : Nat) (hk : ∀ c ∈ l.take k, Sc.blank c = false) (hs : l.length ≤ k ∨ ∃ c, l[k]? = some c ∧ Sc.blank c = true) : Sc.headW l = l.take k ∧ Sc.tailW l = l.drop k := by
  have := Sc.headW_of (l.take k) (l.drop k) hk (by
    rcases hs with h | ⟨c, h1, h2⟩
    · exact .inl (List.drop_eq_nil_of_le h)
    · obtain ⟨hlt, he⟩ := List.getElem?_eq_some_iff.1 h1
      exact .inr ⟨c, l.drop (k + 1), by rw [List.drop_eq_getElem_cons hlt, he], h2⟩)
  rwa [List.take_append_drop] at this
theorem cut_next {l : List UInt8} {k : Nat} {c : UInt8} (h : ∀ c ∈ l.take k, Sc.blank c = false) (hc : l[k]? = some c) (hb : Sc.blank c = false) : ∀ c ∈ l.take (k + 1), Sc.blank c = false := by
  intro d hd
  rw [List.take_add_one, hc] at hd
  rcases List.mem_append.1 hd with hd | hd
  · exact h d hd
  · simp at hd; subst hd; exact hb
theorem extract_fore (s : ByteArray) (k : Nat) : (s.extract 0 k).data.toList = s.data.toList.take k := by simp
theorem extract_rest (s : ByteArray) (k : Nat) : (s.extract k s.size).data.toList = s.data.toList.drop k := by
  simp only [ByteArray.data_extract, Array.toList_extract, List.extract_eq_take_drop]
  exact List.take_of_length_le (by simp)
/-- What the loop of 'cut' holds (kept shut). -/
def CutRel (s : ByteArray) (i : Value) : Prop := ∃ k : Nat, k ≤ s.size ∧ i = .int .i64 k ∧ ∀ c ∈ s.data.toList.take k, Sc.blank c = false
set_option maxRecDepth 100000 in
set_option maxHeartbeats 1000000 in
theorem refCut_any (s : ByteArray) (w : World) (hs : s.size ≤ maxLen) :
    Calls Tryz.prog 87 #[.string s] w fun e w' => e = .returned (.tuple #[.string ⟨(Sc.headW s.data.toList).toArray⟩, .string ⟨(Sc.trim (Sc.tailW s.data.toList)).toArray⟩]) ∧ ∃ m, w' = w.drewN m := by
  have hsm := hs
  unfold maxLen at hs
  go_enter Tryz.func87, Tryz.ntmps87
  go_wp2_with fail
  go_loop [4] (fun i => CutRel s i) (fun i => s.size - (intOf i).toNat)
  case atStart => exact ⟨0, Nat.zero_le _, rfl, fun c hc => by simp at hc⟩
  case round =>
    obtain ⟨k, hk, rfl, hp⟩ := hrel
    have HP := Lib.hid hp
    clear hp
    by_cases hgo : ∃ h : k < s.size, Sc.blank s[k] = false
    · obtain ⟨hlt, hb⟩ := hgo
      have HB := Lib.hid hb
      clear hb
      go_wp2_with (first | (go_at_call 86; refine (refBlank_any _ _).mono ?_; rintro e w' ⟨rfl, rfl⟩; rw [HB.out]))
      go_round
      case rel => exact ⟨k + 1, by omega, by go_num, cut_next HP.out (bytes_get s k hlt) HB.out⟩
      case measure => simp [intOf]; omega
    · have hstop : (s.size ≤ k) ∨ ∃ h : k < s.size, Sc.blank s[k] = true := by
        by_cases h : k < s.size
        · cases hb : Sc.blank s[k] with
          | true => exact .inr ⟨h, hb⟩
          | false => exact absurd ⟨h, hb⟩ hgo
        · exact .inl (by omega)
      have hcut := cut_at s.data.toList k HP.out (by
        rcases hstop with h | ⟨h, hb⟩
        · exact .inl (by rw [bytes_size]; exact h)
        · exact .inr ⟨_, bytes_get s k h, hb⟩)
      have HH : Hid (s.extract 0 k = ⟨(Sc.headW s.data.toList).toArray⟩) := by
        show _ = _
        rw [hcut.1, ← extract_fore, bytes_mk]
      have HT : Hid ((s.extract k s.size).data.toList = Sc.tailW s.data.toList) := by
        show _ = _
        rw [hcut.2, extract_rest]
      have hez : (s.extract k s.size).size ≤ maxLen := by unfold maxLen; simp; omega
      clear hgo hcut
      rcases hstop with h | ⟨h, hb⟩
      · go_wp2_with fail
        go_quiet ((go_at_call 21; exact quiet_left (refTrim_any _ _ hez)))
        go_wp2
        refine bodyPost_ret (v := .tuple #[.string (s.extract 0 k), .string ⟨(Sc.trim (s.extract k s.size).data.toList).toArray⟩]) (by simp [results, Tryz.results87, go_sem]) rfl ?_
        rw [HT.out, HH.out]
        exact ⟨rfl, _, rfl⟩
      · have HB := Lib.hid hb
        clear hb
        go_wp2_with (first | (go_at_call 86; refine (refBlank_any _ _).mono ?_; rintro e w' ⟨rfl, rfl⟩; rw [HB.out]))
        go_quiet ((go_at_call 21; exact quiet_left (refTrim_any _ _ hez)))
        go_wp2
        refine bodyPost_ret (v := .tuple #[.string (s.extract 0 k), .string ⟨(Sc.trim (s.extract k s.size).data.toList).toArray⟩]) (by simp [results, Tryz.results87, go_sem]) rfl ?_
        rw [HT.out, HH.out]
        exact ⟨rfl, _, rfl⟩
end Go.Proofs.YtinobikikineiabGreatDoor
