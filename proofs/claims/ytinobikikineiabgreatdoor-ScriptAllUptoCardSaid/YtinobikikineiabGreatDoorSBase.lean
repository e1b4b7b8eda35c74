/- Bytes, the walk of lexis's isDigit, and the error variables as a walk meets them. -/
import Derived.Test.YtinobikikineiabGreatDoorRows
import Derived.Test.YtinobikikineiabGreatDoorPlainLaws
import Derived.WalkKit
import Derived.WalkSpells
import Derived.WalkLawsBesides
import Derived.Lib.Hide
import Derived.BigQuiet
import Derived.Deep.QuietTactic
namespace Go.Proofs.YtinobikikineiabGreatDoor
open Go.RowKit

theorem bytes_get (s : ByteArray) (k : Nat) (h : k < s.size) : s.data.toList[k]? = some s[k] := by
  rw [Array.getElem?_toList, Array.getElem?_eq_getElem h]; rfl
theorem bytes_drop (s : ByteArray) (k : Nat) (h : k < s.size) : s.data.toList.drop k = s[k] :: s.data.toList.drop (k + 1) := by
  rw [List.drop_eq_getElem_cons (by simpa using h)]; rfl
theorem bytes_take (s : ByteArray) (k : Nat) (h : k < s.size) : s.data.toList.take (k + 1) = s.data.toList.take k ++ [s[k]] := by
  rw [List.take_succ_eq_append_getElem (by simpa using h)]; rfl
theorem bytes_size (s : ByteArray) : s.data.toList.length = s.size := by simp

set_option maxHeartbeats 400000 in
theorem isDigit_any (c : UInt8) (w : World) :
    Calls Tryz.prog 148 #[.int .u8 (c.toNat : Int)] w fun e w' => e = .returned (.bool (Lx.isDigit c)) ∧ w = w' := by
  have hc : c.toNat < 256 := c.toNat_lt
  unfold Lx.isDigit
  by_cases h1 : 48 ≤ (c.toNat : Int) <;> by_cases h2 : (c.toNat : Int) ≤ 57
  all_goals
    go_enter Tryz.func148, Tryz.ntmps148
    go_wp2
    go_ret
    exact ⟨by simp; omega, rfl⟩

/-- Where the errors lie, by their numbers (api.Code's). -/
structure Errs where
  addr : Nat → Addr
abbrev Errs.val (E : Errs) (k : Nat) : Value := .iface 228 (.pointer (some (E.addr k)))
/-- The package's variable of an error's number. -/
def gOf : Nat → Nat
  | 2 => 0
  | 4 => 4
  | 1 => 2
  | 3 => 3
  | 5 => 5
  | 6 => 6
  | 7 => 7
  | 8 => 8
  | 9 => 9
  | 10 => 10
  | 11 => 11
  | 12 => 12
  | 13 => 13
  | 14 => 14
  | 15 => 15
  | 16 => 16
  | 17 => 17
  | 18 => 18
  | 19 => 1
  | _ => 0
/-- The errors of these numbers lie so. -/
structure Laid (E : Errs) (ks : List Nat) (w : World) : Prop where
  cell : ∀ k ∈ ks, w.cell? ⟨gOf k, 0, none⟩ = some (E.val k)
  row : ∀ k ∈ ks, ∃ c t, w.heap[(E.addr k).block]? = some (.cells c t (0, 0))
  ne : ∀ j ∈ ks, ∀ k ∈ ks, j ≠ k → E.addr j ≠ E.addr k
theorem cell_lt {w : World} {b o : Nat} {v : Value} (h : w.cell? ⟨b, o, none⟩ = some v) : b < w.heap.size := by
  rcases Nat.lt_or_ge b w.heap.size with h1 | h1
  · exact h1
  · simp [World.cell?, Array.getElem?_eq_none h1] at h
theorem Laid.below {E : Errs} {ks : List Nat} {w w' : World} (h : Laid E ks w) (hb : Below w.heap.size w w') : Laid E ks w' where
  cell k hk := (hb.cell (p := ⟨gOf k, 0, none⟩) (cell_lt (h.cell k hk))).trans (h.cell k hk)
  row k hk := by
    obtain ⟨c, t, hr⟩ := h.row k hk
    exact ⟨c, t, (hb.block _ (Array.getElem?_eq_some_iff.1 hr).1).trans hr⟩
  ne := h.ne
theorem Laid.drew {E : Errs} {ks : List Nat} {w : World} (h : Laid E ks w) : Laid E ks w.drew := ⟨h.cell, h.row, h.ne⟩
theorem Laid.alloc {E : Errs} {ks : List Nat} {w : World} (h : Laid E ks w) (o : Obj) : Laid E ks (w.alloc o) := h.below ((Below.refl _ w).alloc (Nat.le_refl _) o)
theorem Laid.sub {E : Errs} {ks js : List Nat} {w : World} (h : Laid E ks w) (hs : ∀ j ∈ js, j ∈ ks) : Laid E js w :=
  ⟨fun k hk => h.cell k (hs k hk), fun k hk => h.row k (hs k hk), fun j hj k hk => h.ne j (hs j hj) k (hs k hk)⟩
/-- The two errors of lexis. -/
abbrev two : List Nat := [2, 4]
theorem Laid.word {E : Errs} {w : World} (h : Laid E two w) : w.cell? ⟨4, 0, none⟩ = some (E.val 4) := h.cell 4 (by simp)
theorem Laid.long {E : Errs} {w : World} (h : Laid E two w) : w.cell? ⟨0, 0, none⟩ = some (E.val 2) := h.cell 2 (by simp)
theorem bcell {B : Nat} {W w1 : World} (hb : Below B W w1) : (∀ b o, b < B → w1.cell? ⟨b, o, none⟩ = W.cell? ⟨b, o, none⟩) ∧ (∀ b o, b < B → w1.frozen? ⟨b, o, none⟩ = W.frozen? ⟨b, o, none⟩) :=
  ⟨fun b o h => hb.cell (p := ⟨b, o, none⟩) h, fun b o h => hb.frozen (p := ⟨b, o, none⟩) h⟩
theorem ret_int {k : IntKind} {a b : Int} (h : a = b) : Ending.returned (.int k a) = .returned (.int k b) := by rw [h]
end Go.Proofs.YtinobikikineiabGreatDoor
