/- script's command, by what the plain function says. Conditions: the line's size; the error variables lie as the program lays them. -/
import Derived.Test.YtinobikikineiabGreatDoorSCmdNums
namespace Go.Proofs.YtinobikikineiabGreatDoor
open Go.RowKit Go.Shelf

/-- A line that is a command. -/
theorem command_ok (s : ByteArray) (E : Errs) (w : World) (hE : Laid E two w) (hs : s.size ≤ 65536) (c : Sc.Cmd) (h : Sc.command s.data.toList = some c) :
    Calls Tryz.prog 19 #[.string s] w fun e w' => ∃ A n k, e = .returned (.tuple #[.agg #[.string ⟨c.word.toArray⟩, .string ⟨c.text.toArray⟩, .slice A n k], .bool true]) ∧ Below w.heap.size w w' ∧ OwnI w' w.heap.size (.slice A n k) c.nums := by
  unfold Sc.command at h
  simp only [] at h
  by_cases hm : Sc.many (Sc.wants (Sc.headW s.data.toList)) = 0
  · rw [if_pos hm] at h
    split at h
    · rename_i hc
      injection h with h
      subst h
      refine (command_text s w hs hm).mono ?_
      rintro e w' ⟨rfl, hb⟩
      rw [hc]
      exact ⟨none, 0, 0, rfl, hb, World.ownsRow_nil _ _ _ _⟩
    · cases h
  · rw [if_neg hm] at h
    split at h
    · cases h
    · rename_i ns hn
      split at h
      · rename_i hc
        injection h with h
        subst h
        refine (command_nums s E w hE hs hm).mono ?_
        rintro e w' ⟨hb, ⟨h0, _⟩ | ⟨ns', A, n, k, h1, rfl, ho⟩⟩
        · rw [hn] at h0; cases h0
        · rw [hn] at h1
          injection h1 with h1
          subst h1
          rw [hc]
          exact ⟨A, n, k, rfl, hb, ho⟩
      · cases h
/-- A line that is none. -/
theorem command_no (s : ByteArray) (E : Errs) (w : World) (hE : Laid E two w) (hs : s.size ≤ 65536) (h : Sc.command s.data.toList = none) :
    Calls Tryz.prog 19 #[.string s] w fun e w' => ∃ (v0 v1 : ByteArray) (A : Option Addr) (n k : Nat), e = .returned (.tuple #[.agg #[.string v0, .string v1, .slice A n k], .bool false]) ∧ Below w.heap.size w w' := by
  unfold Sc.command at h
  simp only [] at h
  by_cases hm : Sc.many (Sc.wants (Sc.headW s.data.toList)) = 0
  · rw [if_pos hm] at h
    split at h
    · cases h
    · rename_i hc
      refine (command_text s w hs hm).mono ?_
      rintro e w' ⟨rfl, hb⟩
      have hc' : Sc.isCommand ⟨Sc.headW s.data.toList, Sc.trim (Sc.tailW s.data.toList), []⟩ = false := by simpa using hc
      rw [hc']
      exact ⟨_, _, _, _, _, rfl, hb⟩
  · rw [if_neg hm] at h
    refine (command_nums s E w hE hs hm).mono ?_
    rintro e w' ⟨hb, ⟨_, v0, v1, rfl⟩ | ⟨ns', A, n, k, h1, rfl, ho⟩⟩
    · exact ⟨v0, v1, _, _, _, rfl, hb⟩
    · rw [h1] at h
      simp only [] at h
      split at h
      · cases h
      · rename_i hc
        have hc' : Sc.isCommand ⟨Sc.headW s.data.toList, [], ns'⟩ = false := by simpa using hc
        rw [hc']
        exact ⟨_, _, _, _, _, rfl, hb⟩
end Go.Proofs.YtinobikikineiabGreatDoor
