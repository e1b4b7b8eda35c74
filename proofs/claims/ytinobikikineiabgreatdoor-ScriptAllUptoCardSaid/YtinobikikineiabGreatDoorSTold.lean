/- The walks of the document's errors and of 'Told' at no error and at one fault. Conditions: what api.Code tells of the fault and of what it wraps. -/
import Derived.Test.YtinobikikineiabGreatDoorSMem
import Derived.BigQuiet
import Derived.Deep.QuietTactic
namespace Go.Proofs.YtinobikikineiabGreatDoor
open Go.RowKit

theorem assertFault (v : Value) (w : World) : (Instr.typeAssert (.iface 72 v) 40 72 true).run Tryz.prog w = .ok (.tuple #[v, .bool true]) w := by kernel_rfl
theorem assertNil (w : World) : (Instr.typeAssert .nilIface 40 72 true).run Tryz.prog w = .ok (.tuple #[.pointer none, .bool false]) w := by kernel_rfl
theorem assertOther (v : Value) (w : World) : (Instr.typeAssert (.iface 228 v) 40 72 true).run Tryz.prog w = .ok (.tuple #[.pointer none, .bool false]) w := by kernel_rfl

/-- An error as the document tells it. -/
abbrev refErr (c l co : Int) (ly : ByteArray) : Value := .agg #[.int .i64 c, .int .i64 l, .int .i64 co, .string ly]
set_option maxHeartbeats 400000 in
theorem badAt_any (layer : ByteArray) (c l co : Int) (w : World) (hs : layer.size ≤ 100) :
    Calls Tryz.prog 23 #[.string layer, .int .i64 c, .int .i64 l, .int .i64 co] w fun e w' => e = .returned (refErr c l co (layer ++ ⟨#[32]⟩)) ∧ Below w.heap.size w w' := by
  go_enter Tryz.func23, Tryz.ntmps23
  go_wp2
  exact bodyPost_ret (v := refErr c l co (layer ++ ⟨#[32]⟩)) (by simp [results, Tryz.results23, go_sem]) rfl ⟨rfl, (Below.refl _ _).alloc (Nat.le_refl _) _⟩
set_option maxHeartbeats 400000 in
theorem bad_any (layer : ByteArray) (c : Int) (w : World) (hs : layer.size ≤ 100) :
    Calls Tryz.prog 15 #[.string layer, .int .i64 c] w fun e w' => e = .returned (refErr c 0 0 (layer ++ ⟨#[32]⟩)) ∧ Below w.heap.size w w' := by
  go_enter Tryz.func15, Tryz.ntmps15
  go_wp2
  exact bodyPost_ret (v := refErr c 0 0 (layer ++ ⟨#[32]⟩)) (by simp [results, Tryz.results15, go_sem]) rfl ⟨rfl, (Below.refl _ _).alloc (Nat.le_refl _) _⟩

/-- api.Code tells a fault's number. -/
def CodeF (E : Errs) (ks : List Nat) (p c : Nat) : Prop := ∀ W : World, Laid E ks W → W.cell? ⟨p, 3, none⟩ = some (E.val c) → Calls Tryz.prog 24 #[.iface 72 (.pointer (some ⟨p, 0, none⟩))] W fun e w' => e = .returned (.int .i64 (c : Int)) ∧ W = w'
def CodeB (E : Errs) (ks : List Nat) (c : Nat) : Prop := ∀ W : World, Laid E ks W → Calls Tryz.prog 24 #[E.val c] W fun e w' => e = .returned (.int .i64 (c : Int)) ∧ W = w'

set_option maxHeartbeats 400000 in
theorem told_nil (l co : Int) (ly : ByteArray) (w : World) :
    Calls Tryz.prog 8 #[.nilIface, refErr 0 l co ly] w fun e w' => e = .returned (.bool true) ∧ Below w.heap.size w w' := by
  go_enter Tryz.func8, Tryz.ntmps8
  go_wp2
  go_ret
  exact ⟨rfl, (Below.refl _ _).alloc (Nat.le_refl _) _⟩

theorem quiet_add_left {P : Program} {f : FuncId} {args : Array Value} {w : World} {a n : Nat} {v : Value}
    (h : Calls P f args (w.drewN (a + n)) fun e w' => e = .returned v ∧ w.drewN (a + n) = w') :
    Calls P f args (w.drewN (a + n)) fun e w'' => e = .returned v ∧ ∃ m, w'' = w.drewN (a + m) :=
  h.mono fun _ _ ⟨he, hm⟩ => ⟨he, n, hm.symm⟩
theorem laid_drewN {E : Errs} {ks : List Nat} {w : World} (h : Laid E ks w) (n : Nat) : Laid E ks (w.drewN n) := ⟨h.cell, h.row, h.ne⟩
theorem below_drewN' {B : Nat} {a w : World} (h : Below B a w) (n : Nat) : Below B a (w.drewN n) := ⟨h.os, h.tape, h.output, h.size, h.block⟩
theorem quiet_left {P : Program} {f : FuncId} {args : Array Value} {w : World} {n : Nat} {v : Value}
    (h : Calls P f args (w.drewN n) fun e w' => e = .returned v ∧ w.drewN n = w') : Calls P f args (w.drewN n) fun e w'' => e = .returned v ∧ ∃ m, w'' = w.drewN m :=
  h.mono fun _ _ ⟨he, hm⟩ => ⟨he, n, hm.symm⟩

set_option maxRecDepth 100000 in
set_option maxHeartbeats 2000000 in
theorem told_fault (E : Errs) (ks : List Nat) (p c : Nat) (l co : Int) (layer : ByteArray) (hF : CodeF E ks p c) (hB : CodeB E ks c) (hc : (c : Int) ≠ 0) (hs : layer.size ≤ 100) (w : World) (hE : Laid E ks w)
    (h0 : w.cell? ⟨p, 0, none⟩ = some (.string layer)) (h1 : w.cell? ⟨p, 1, none⟩ = some (.int .i64 l)) (h2 : w.cell? ⟨p, 2, none⟩ = some (.int .i64 co)) (h3 : w.cell? ⟨p, 3, none⟩ = some (E.val c)) :
    Calls Tryz.prog 8 #[.iface 72 (.pointer (some ⟨p, 0, none⟩)), refErr (c : Int) l co (layer ++ ⟨#[32]⟩)] w fun e w' => e = .returned (.bool true) ∧ Below w.heap.size w w' := by
  have aF := assertFault
  have aO := assertOther
  have e5 : (⟨#[]⟩ : ByteArray) ++ layer = layer := ByteArray.ext (by rw [ByteArray.data_append]; simp)
  have hp := cell_lt h0
  have hc0 : ((c : Int) == 0) = false := by simpa using hc
  obtain ⟨W, hW⟩ : ∃ W, w.alloc (.cells #[.int .i64 (c : Int), .int .i64 l, .int .i64 co, .string (layer ++ ⟨#[32]⟩)] 44) = W := ⟨_, rfl⟩
  have hEW : Laid E ks W := by rw [← hW]; exact hE.alloc _
  have hb : Below w.heap.size w W := by rw [← hW]; exact (Below.refl _ _).alloc (Nat.le_refl _) _
  have q0 : W.cell? ⟨w.heap.size, 0, none⟩ = some (.int .i64 (c : Int)) := by rw [← hW]; exact new_cells w [.int .i64 (c : Int), .int .i64 l, .int .i64 co, .string (layer ++ ⟨#[32]⟩)] _ 0 _ rfl
  have q1 : W.cell? ⟨w.heap.size, 1, none⟩ = some (.int .i64 l) := by rw [← hW]; exact new_cells w [.int .i64 (c : Int), .int .i64 l, .int .i64 co, .string (layer ++ ⟨#[32]⟩)] _ 1 _ rfl
  have q2 : W.cell? ⟨w.heap.size, 2, none⟩ = some (.int .i64 co) := by rw [← hW]; exact new_cells w [.int .i64 (c : Int), .int .i64 l, .int .i64 co, .string (layer ++ ⟨#[32]⟩)] _ 2 _ rfl
  have q3 : W.cell? ⟨w.heap.size, 3, none⟩ = some (.string (layer ++ ⟨#[32]⟩)) := by rw [← hW]; exact new_cells w [.int .i64 (c : Int), .int .i64 l, .int .i64 co, .string (layer ++ ⟨#[32]⟩)] _ 3 _ rfl
  have k : ∀ i v, w.cell? ⟨p, i, none⟩ = some v → W.cell? ⟨p, i, none⟩ = some v := fun i v h => (hb.cell (p := ⟨p, i, none⟩) hp).trans h
  replace h0 := k _ _ h0
  replace h1 := k _ _ h1
  replace h2 := k _ _ h2
  replace h3 := k _ _ h3
  clear hE k hp
  go_enter Tryz.func8, Tryz.ntmps8
  go_wp2_with fail
  go_quiet ((go_at_call 24; exact quiet_left (hF _ (laid_drewN hEW _) h3)))
  go_wp2_with fail
  refine wp_loop_rounds 2 ?_
  rw [rounds_succ]
  go_wp2_with fail
  go_quiet (fail)
  go_wp2_with fail
  rw [rounds_succ]
  go_wp2_with fail
  go_quiet ((go_at_call 24; exact quiet_add_left (hB _ (laid_drewN hEW _))))
  go_wp2_with fail
  go_ret
  exact ⟨rfl, below_drewN' (below_drewN' hb _) _⟩
end Go.Proofs.YtinobikikineiabGreatDoor
