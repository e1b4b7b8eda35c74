/- The package's error variables as a walk meets them: each holds a pointer to a block of its own. -/
import Derived.Test.YtinobikikineiaaDoorRun
import Derived.BigQuiet
import Derived.Deep.QuietTactic
namespace Go.Proofs.YtinobikikineiaaDoor
open Go.RowKit

/-- Where the errors lie, by their numbers (api.Code's). -/
structure Errs where
  addr : Nat → Addr
abbrev Errs.val (E : Errs) (k : Nat) : Value := .iface 115 (.pointer (some (E.addr k)))
/-- The package's variable of an error's number. -/
def gOf : Nat → Nat
  | 2 => 1
  | 4 => 0
  | 1 => 2
  | 3 => 3
  | 5 => 4
  | 6 => 5
  | 7 => 6
  | 8 => 7
  | 9 => 8
  | 10 => 9
  | 11 => 11
  | 12 => 12
  | 13 => 13
  | 14 => 14
  | 15 => 15
  | 16 => 16
  | 17 => 17
  | 18 => 18
  | 19 => 19
  | _ => 0
/-- The errors of these numbers lie so. -/
structure Laid (E : Errs) (ks : List Nat) (w : World) : Prop where
  cell : ∀ k ∈ ks, w.cell? ⟨gOf k, 0, none⟩ = some (E.val k)
  row : ∀ k ∈ ks, ∃ c t, w.heap[(E.addr k).block]? = some (.cells c t (0, 0))
  ne : ∀ j ∈ ks, ∀ k ∈ ks, j ≠ k → E.addr j ≠ E.addr k
theorem cell_lt {w : World} {b o : Nat} {v : Value} (h : w.cell? ⟨b, o, none⟩ = some v) : b < w.heap.size := by
  rcases Nat.lt_or_ge b w.heap.size with h1 | h1
  · exact h1
  · simp [World.cell?, Array.getElem?_eq_none h1] at h
theorem Laid.below {E : Errs} {ks : List Nat} {w w' : World} (h : Laid E ks w) (hb : Below w.heap.size w w') : Laid E ks w' where
  cell k hk := (hb.cell (p := ⟨gOf k, 0, none⟩) (cell_lt (h.cell k hk))).trans (h.cell k hk)
  row k hk := by
    obtain ⟨c, t, hr⟩ := h.row k hk
    exact ⟨c, t, (hb.block _ (Array.getElem?_eq_some_iff.1 hr).1).trans hr⟩
  ne := h.ne
theorem Laid.drew {E : Errs} {ks : List Nat} {w : World} (h : Laid E ks w) : Laid E ks w.drew := ⟨h.cell, h.row, h.ne⟩
theorem Laid.alloc {E : Errs} {ks : List Nat} {w : World} (h : Laid E ks w) (o : Obj) : Laid E ks (w.alloc o) := h.below ((Below.refl _ w).alloc (Nat.le_refl _) o)
theorem Laid.sub {E : Errs} {ks js : List Nat} {w : World} (h : Laid E ks w) (hs : ∀ j ∈ js, j ∈ ks) : Laid E js w :=
  ⟨fun k hk => h.cell k (hs k hk), fun k hk => h.row k (hs k hk), fun j hj k hk => h.ne j (hs j hj) k (hs k hk)⟩
/-- The two errors of lexis. -/
abbrev two : List Nat := [2, 4]
theorem Laid.word {E : Errs} {w : World} (h : Laid E two w) : w.cell? ⟨0, 0, none⟩ = some (E.val 4) := h.cell 4 (by simp)
theorem Laid.long {E : Errs} {w : World} (h : Laid E two w) : w.cell? ⟨1, 0, none⟩ = some (E.val 2) := h.cell 2 (by simp)
theorem bcell {B : Nat} {W w1 : World} (hb : Below B W w1) : (∀ b o, b < B → w1.cell? ⟨b, o, none⟩ = W.cell? ⟨b, o, none⟩) ∧ (∀ b o, b < B → w1.frozen? ⟨b, o, none⟩ = W.frozen? ⟨b, o, none⟩) :=
  ⟨fun b o h => hb.cell (p := ⟨b, o, none⟩) h, fun b o h => hb.frozen (p := ⟨b, o, none⟩) h⟩
theorem ret_int {k : IntKind} {a b : Int} (h : a = b) : Ending.returned (.int k a) = .returned (.int k b) := by rw [h]
end Go.Proofs.YtinobikikineiaaDoor
