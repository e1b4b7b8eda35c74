/- The walk of the law ScriptBlanks: for every text it returns true. Condition: the error variables lie as the program lays them. -/
import Derived.Test.YtinobikikineiabDoorSAlive
namespace Go.Proofs.YtinobikikineiabDoor
open Go.RowKit Go.Shelf

namespace Sc
theorem cuts_one (l : List UInt8) (h : ∀ k : Nat, l[k]? ≠ some 10) : Lx.cuts l = [l] := by
  have := Lx.cuts_append l [] [] [] (fun c hc => by
    obtain ⟨k, hk, rfl⟩ := List.mem_iff_getElem.1 hc
    intro e
    exact h k (by rw [List.getElem?_eq_getElem hk, e])) rfl
  simpa using this
theorem cuts_at (l : List UInt8) (k : Nat) (hk : l[k]? = some 10) (h : ∀ i, i < k → l[i]? ≠ some 10) : Lx.cuts l = l.take k :: Lx.cuts (l.drop (k + 1)) := by
  obtain ⟨hlt, he⟩ := List.getElem?_eq_some_iff.1 hk
  have hl : l = l.take k ++ 10 :: l.drop (k + 1) := by
    rw [← he, ← List.drop_eq_getElem_cons hlt, List.take_append_drop]
  have := Lx.cuts_append (l.take k) (10 :: l.drop (k + 1)) [] _ (fun c hc => by
    obtain ⟨i, hi, rfl⟩ := List.mem_iff_getElem.1 hc
    intro e
    rw [List.length_take] at hi
    refine h i (by omega) ?_
    rw [List.getElem_take] at e
    rw [List.getElem?_eq_getElem (by omega), e]) (Lx.cuts_nl _)
  rw [← hl] at this
  simpa using this
/-- What the loop that spaces a text holds. -/
def SpIn (l : List UInt8) (f k : Nat) (x : List UInt8) : Prop :=
  f ≤ k ∧ k ≤ l.length ∧ (∀ i, f ≤ i → i < k → l[i]? ≠ some 10) ∧ x ++ (Lx.cuts (l.drop f)).flatMap spacedOne = spaced l
theorem spIn_zero (l : List UInt8) : SpIn l 0 0 spacedHead := ⟨Nat.le_refl _, Nat.zero_le _, fun i _ h => by omega, rfl⟩
theorem spIn_step {l x : List UInt8} {f k : Nat} (h : SpIn l f k x) (hk : k < l.length) (hne : l[k]? ≠ some 10) : SpIn l f (k + 1) x := by
  obtain ⟨h1, h2, h3, h4⟩ := h
  refine ⟨by omega, by omega, fun i hi hik => ?_, h4⟩
  by_cases e : i = k
  · subst e; exact hne
  · exact h3 i hi (by omega)
theorem spIn_line {l x : List UInt8} {f k : Nat} (h : SpIn l f k x) (he : l[k]? = some 10) : SpIn l (k + 1) (k + 1) (x ++ spacedOne ((l.drop f).take (k - f))) := by
  obtain ⟨h1, h2, h3, h4⟩ := h
  have hk := (List.getElem?_eq_some_iff.1 he).1
  refine ⟨Nat.le_refl _, by omega, fun i hi hik => by omega, ?_⟩
  rw [← h4, cuts_at (l.drop f) (k - f) (by rw [List.getElem?_drop, show f + (k - f) = k by omega]; exact he) (fun i hi => by rw [List.getElem?_drop]; exact h3 _ (by omega) (by omega)),
    List.flatMap_cons, List.drop_drop, show f + (k - f + 1) = k + 1 by omega, List.append_assoc]
theorem spIn_end {l x : List UInt8} {f : Nat} (h : SpIn l f l.length x) : x ++ spacedOne ((l.drop f).take (l.length - f)) = spaced l := by
  obtain ⟨h1, h2, h3, h4⟩ := h
  rw [← h4, cuts_one (l.drop f) (fun k => by
    rw [List.getElem?_drop]
    by_cases hk : f + k < l.length
    · exact h3 _ (by omega) hk
    · rw [List.getElem?_eq_none (by omega)]; simp)]
  rw [List.take_of_length_le (by rw [List.length_drop]; omega)]
  simp
theorem spIn_len {l x : List UInt8} {f k : Nat} (h : SpIn l f k x) : x.length ≤ (spaced l).length := by rw [← h.2.2.2, List.length_append]; omega
theorem strip_ok {r : Except Lx.Bad (List Cmd)} {l : List Cmd} (h : strip r = .ok l) : r = .ok l := by
  cases r with
  | error b => simp [strip] at h
  | ok m => simp only [strip, Except.ok.injEq] at h; rw [h]
theorem strip_bad {r : Except Lx.Bad (List Cmd)} {c : Nat} (h : strip r = .error c) : ∃ b : Lx.Bad, r = .error b ∧ b.1 = c := by
  cases r with
  | error b => simp only [strip, Except.error.injEq] at h; exact ⟨b, rfl, h⟩
  | ok m => simp [strip] at h
end Sc

/-- The loop's variables (kept shut). -/
def SpRel (s : ByteArray) (x f i : Value) : Prop := ∃ (k g : Nat) (y : ByteArray), k ≤ s.size + 1 ∧ i = .int .i64 k ∧ f = .int .i64 g ∧ x = .string y ∧ g ≤ s.size + 1 ∧ y.size ≤ 64022 ∧
  (k ≤ s.size → Sc.SpIn s.data.toList g k y.data.toList) ∧ (k = s.size + 1 → y.data.toList = Sc.spaced s.data.toList)

set_option maxHeartbeats 1000000 in
theorem blanks_long (s : ByteArray) (E : Errs) (w : World) (hE : Laid E nineteen w) (hs : 8000 < s.size) :
    Calls Tryd.prog 4 #[.string s] w fun e w' => e = .returned (.bool true) ∧ Below w.heap.size w w' := by
  go_enter Tryd.func4, Tryd.ntmps4
  go_wp2_with (first
    | (go_at_call 9; refine (alive_any E _ hE).mono ?_; rintro e w2 ⟨rfl, hb2⟩))
  go_ret
  exact ⟨rfl, hb2⟩

/-- What comes behind the loop. -/
def AfterBlanks (l y : List UInt8) : Prop := (∃ cs, Sc.parse l = .ok cs ∧ Sc.parse y = .ok cs ∧ (∀ x ∈ cs, x.nums.length ≤ 3)) ∨ ∃ c l1 c1 l2 c2, Sc.parse l = .error (c, l1, c1) ∧ Sc.parse y = .error (c, l2, c2)
theorem nums_three {l : List UInt8} {cs : List Sc.Cmd} (h : Sc.parse l = .ok cs) : ∀ x ∈ cs, x.nums.length ≤ 3 := by
  intro x hx
  have h1 := (Sc.parse_print h).1 x hx
  have h2 := (Sc.good_iff x).1 h1
  have h3 : x.nums.length = Sc.many (Sc.wants x.word) := by
    have := h1
    unfold Sc.isCommand Sc.areNumbers at this
    simp only [Bool.and_eq_true, decide_eq_true_eq] at this
    exact this.2.1
  rw [h3]
  unfold Sc.many
  split <;> (try split) <;> omega
theorem afterBlanks (l : List UInt8) (h : l.length ≤ 8000) : AfterBlanks l (Sc.spaced l) := by
  have hb := Sc.blanks_law l h
  cases hp : Sc.parse l with
  | ok cs =>
    rw [hp] at hb
    exact .inl ⟨cs, hp, Sc.strip_ok hb, nums_three hp⟩
  | error b =>
    obtain ⟨c, l1, c1⟩ := b
    rw [hp] at hb
    obtain ⟨⟨c', l2, c2⟩, h1, h2⟩ := Sc.strip_bad hb
    have h2' : c' = c := h2
    subst h2'
    exact .inr ⟨c', l1, c1, l2, c2, hp, h1⟩

set_option maxRecDepth 100000 in
set_option maxHeartbeats 4000000 in
theorem blanks_short (s : ByteArray) (E : Errs) (w : World) (hE : Laid E nineteen w) (hs : s.size ≤ 8000) :
    Calls Tryd.prog 4 #[.string s] w fun e w' => e = .returned (.bool true) ∧ Below w.heap.size w w' := by
  have hsp := Sc.spaced_len s.data.toList (by rw [bytes_size]; exact hs)
  have HA := Lib.hid (afterBlanks s.data.toList (by rw [bytes_size]; exact hs))
  go_enter Tryd.func4, Tryd.ntmps4
  go_wp2_with fail
  go_loop [3, 4, 5] (fun x f i => SpRel s x f i) (fun _ _ i => s.size + 1 - (intOf i).toNat)
  case atStart => exact ⟨0, 0, _, Nat.zero_le _, rfl, rfl, rfl, Nat.zero_le _, by decide, fun _ => Sc.spIn_zero _, fun h => by omega⟩
  case round =>
    obtain ⟨k, g, y, hk, rfl, rfl, rfl, hg, hy, hin, hend⟩ := hrel
    by_cases hlt : k < s.size
    · have hin1 := hin (by omega)
      have hgk := hin1.1
      have HI := Lib.hid hin1
      have hbyte := bytes_get s k hlt
      clear hin hend hin1
      have e1 : ((k : Int) == (s.size : Int)) = false := by rw [beq_eq_false_iff_ne]; omega
      by_cases h10 : s[k] = 10
      · have e2 : ((s[k].toNat : Int) == 10) = true := by rw [h10]; rfl
        have HN := Lib.hid (Sc.spIn_line HI.out (by rw [hbyte, h10]))
        have hl2 := Sc.spIn_len HN.out
        rw [List.length_append] at hl2
        have hle : y.size + (k - g + 8) ≤ 64022 := by
          have : (Sc.spacedOne ((s.data.toList.drop g).take (k - g))).length = k - g + 8 := by
            unfold Sc.spacedOne
            rw [List.length_append, List.length_append, List.length_take, List.length_drop, bytes_size]
            simp only [List.length_cons, List.length_nil]
            omega
          rw [this, bytes_size] at hl2
          omega
        clear h10 hbyte
        go_wp2
        go_round
        case rel =>
          refine ⟨k + 1, k + 1, _, by omega, by go_num, by go_num, rfl, by omega, ?_, fun _ => ?_, fun h => by omega⟩
          · have z1 : (⟨#[32, 9]⟩ : ByteArray).size = 2 := rfl
            have z2 : (⟨#[32, 13, 10, 35, 10, 10]⟩ : ByteArray).size = 6 := rfl
            simp [ByteArray.size_append]
            omega
          · have e : Hid (Sc.SpIn s.data.toList (k + 1) (k + 1) (y.data.toList ++ Sc.spacedOne ((s.data.toList.drop g).take (k - g)))) := HN
            have e2 := e.out
            simpa [Sc.spacedOne] using e2
        case measure => simp [intOf]; omega
      · have e2 : ((s[k].toNat : Int) == 10) = false := by
          rw [beq_eq_false_iff_ne]
          exact fun e => h10 (UInt8.toNat_inj.1 (by show s[k].toNat = 10; omega))
        have HN := Lib.hid (Sc.spIn_step HI.out (by rw [bytes_size]; exact hlt) (by rw [hbyte]; simpa using h10))
        clear h10 hbyte
        go_wp2
        go_round
        case rel => exact ⟨k + 1, g, y, by omega, by go_num, rfl, rfl, hg, hy, fun _ => HN.out, fun h => by omega⟩
        case measure => simp [intOf]; omega
    · by_cases hke : k = s.size
      · subst hke
        have hin1 := hin (Nat.le_refl _)
        have hgk := hin1.1
        have HI := Lib.hid hin1
        clear hin hend hin1
        have HN : Hid (y.data.toList ++ Sc.spacedOne ((s.data.toList.drop g).take (s.size - g)) = Sc.spaced s.data.toList) := by
          have h := HI.out
          have e : s.data.toList.length = s.size := bytes_size s
          rw [← e] at h ⊢
          exact Sc.spIn_end h
        have hle : y.size + (s.size - g + 8) ≤ 64022 := by
          have hl2 := congrArg List.length HN.out
          have : (Sc.spacedOne ((s.data.toList.drop g).take (s.size - g))).length = s.size - g + 8 := by
            unfold Sc.spacedOne
            rw [List.length_append, List.length_append, List.length_take, List.length_drop, bytes_size]
            simp only [List.length_cons, List.length_nil]
            omega
          rw [List.length_append, this, bytes_size] at hl2
          omega
        go_wp2
        go_round
        case rel =>
          refine ⟨s.size + 1, s.size + 1, _, by omega, by go_num, by go_num, rfl, by omega, ?_, fun h => by omega, fun _ => ?_⟩
          · have z1 : (⟨#[32, 9]⟩ : ByteArray).size = 2 := rfl
            have z2 : (⟨#[32, 13, 10, 35, 10, 10]⟩ : ByteArray).size = 6 := rfl
            simp [ByteArray.size_append]
            omega
          · have e2 := HN.out
            simpa [Sc.spacedOne] using e2
        case measure => simp [intOf]
      · obtain rfl : k = s.size + 1 := by omega
        have hye := hend rfl
        rw [← hye] at HA
        clear hin hend hye hsp
        rcases HA.out with ⟨cs, hp1, hp2, hn⟩ | ⟨c, l1, c1, l2, c2, hp1, hp2⟩
        · have H1 := Lib.hid hp1
          have H2 := Lib.hid hp2
          have HNN := Lib.hid hn
          clear hp1 hp2 hn HA
          go_wp2_with (first
            | (go_at_call 7; refine (parse_good _ E _ ?hE ?hs cs ?h).mono ?_; (case h => with_reducible exact H1.out); (case hs => omega); (case hE => exact hE); rintro e w1 ⟨A, c, rfl, hb1, ho1, hl1⟩)
            | (go_at_call 7; refine (parse_good _ E _ ?hE ?hs cs ?h).mono ?_; (case h => with_reducible exact H2.out); (case hs => omega); (case hE => exact hE.below hb1); rintro e w2 ⟨A2, c2, rfl, hb2, ho2, _⟩)
            | (go_at_call 9; refine (alive_any E _ ((hE.below hb1).below hb2)).mono ?_; rintro e w3 ⟨rfl, hb3⟩)
            | (go_at_call 12; refine (code_nil _).mono ?_; rintro e w4 ⟨rfl, rfl⟩)
            | (go_at_call 11; refine (sameCmds_true _ _ _ _ _ cs _ ((ho1.reads.below hb2).below hb3) (ho2.reads.below hb3) ?_ ?_).mono ?_; (unfold maxLen; omega); (exact fun x hx => Nat.le_trans (HNN.out x hx) (by unfold maxLen; omega)); rintro e w5 ⟨rfl, m, rfl⟩))
          go_ret
          exact ⟨rfl, below_drewN' ((hb1.trans (hb2.mono hb1.size)).trans (hb3.mono (Nat.le_trans hb1.size hb2.size))) m⟩
        · have H1 := Lib.hid hp1
          have H2 := Lib.hid hp2
          clear hp1 hp2 HA
          go_wp2_with (first
            | (go_at_call 7; refine (parse_bad _ E _ ?hE ?hs c l1 c1 ?h).mono ?_; (case h => with_reducible exact H1.out); (case hs => omega); (case hE => exact hE); rintro e w1 ⟨b1, rfl, hb1, hB1, hf1, hc⟩)
            | (go_at_call 7; refine (parse_bad _ E _ ?hE ?hs c l2 c2 ?h).mono ?_; (case h => with_reducible exact H2.out); (case hs => omega); (case hE => exact hE.below hb1); rintro e w2 ⟨b2, rfl, hb2, hB2, hf2, _⟩)
            | (go_at_call 9; refine (alive_any E _ ((hE.below hb1).below hb2)).mono ?_; rintro e w3 ⟨rfl, hb3⟩;
                have q1 : w3.cell? ⟨b1, 3, none⟩ = some (E.val c) := cell_of_row w3 b1 3 _ _ _ ((hb3.block _ (Nat.lt_of_lt_of_le (lt_of_cells hf1) hb2.size)).trans ((hb2.block _ (lt_of_cells hf1)).trans hf1)); have q2 : w3.cell? ⟨b2, 3, none⟩ = some (E.val c) := cell_of_row w3 b2 3 _ _ _ ((hb3.block _ (lt_of_cells hf2)).trans hf2))
            | (go_at_call 12; refine (codeF_any E _ c hc _ ?hE ?hk).mono ?_; (case hE => exact ((hE.below hb1).below hb2).below hb3); (case hk => (first | with_reducible exact q1 | with_reducible exact q2)); rintro e w4 ⟨rfl, rfl⟩)
            | (go_at_call 11; refine (sameCmds_true _ _ _ _ _ [] _ (ReadsC.nil _) (ReadsC.nil _) (by decide) ?_).mono ?_; (exact fun x hx => by cases hx); rintro e w5 ⟨rfl, m, rfl⟩))
          go_ret
          exact ⟨rfl, below_drewN' ((hb1.trans (hb2.mono hb1.size)).trans (hb3.mono (Nat.le_trans hb1.size hb2.size))) m⟩

/-- ScriptBlanks returns true. -/
theorem sblanks_true (s : ByteArray) (E : Errs) (w : World) (hE : Laid E nineteen w) :
    Calls Tryd.prog 4 #[.string s] w fun e w' => e = .returned (.bool true) ∧ Below w.heap.size w w' := by
  by_cases hs : s.size ≤ 8000
  · exact blanks_short s E w hE hs
  · exact blanks_long s E w hE (by omega)
end Go.Proofs.YtinobikikineiabDoor
