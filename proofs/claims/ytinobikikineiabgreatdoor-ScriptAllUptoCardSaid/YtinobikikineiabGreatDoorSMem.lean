/- Blocks, rows of the call's own, faults: what the walks of scripts need of them. No conditions. -/
import Derived.Test.YtinobikikineiabGreatDoorSValue
import Derived.Laws.OwnMore
import Derived.Deep.Draws
import Derived.LoopTactic
import Derived.BigRegion
import Derived.Lib.IndexAny
import Derived.WalkMore
import Derived.RangeFuncNested
import Derived.RangeFuncBound
import Derived.RangeFuncCalls
import Derived.RangeFuncLeaves
import Derived.Shelf.Abstract
import Derived.OwnWalkIn
import Derived.TacticsInMore
import Derived.LoopNIn
import Derived.LoopIn
namespace Go.Proofs.YtinobikikineiabGreatDoor
open Go.RowKit Go.Shelf

theorem extract_front (s : ByteArray) (n : Nat) (_h : n ≤ s.size) : (s.extract 0 n).data.toList = s.data.toList.take n := by
  simp
theorem bytes_mk (s : ByteArray) : (⟨s.data.toList.toArray⟩ : ByteArray) = s := by cases s; simp
theorem extract_mk (s : ByteArray) (n : Nat) : s.extract 0 n = ⟨(s.data.toList.take n).toArray⟩ := by
  rw [← bytes_mk (s.extract 0 n)]; simp

/-- Four stores into a block of four cells: what the cells hold behind them. -/
theorem four_set (W : World) (b : Nat) (v0 v1 v2 v3 : Value) (h0 : (W.cell? ⟨b, 0, none⟩).isSome = true) (h1 : (W.cell? ⟨b, 1, none⟩).isSome = true) (h2 : (W.cell? ⟨b, 2, none⟩).isSome = true) (h3 : (W.cell? ⟨b, 3, none⟩).isSome = true) :
    let W' := (((W.setCell ⟨b, 0, none⟩ v0).setCell ⟨b, 1, none⟩ v1).setCell ⟨b, 2, none⟩ v2).setCell ⟨b, 3, none⟩ v3
    W'.cell? ⟨b, 0, none⟩ = some v0 ∧ W'.cell? ⟨b, 1, none⟩ = some v1 ∧ W'.cell? ⟨b, 2, none⟩ = some v2 ∧ W'.cell? ⟨b, 3, none⟩ = some v3 := by
  have n : ∀ (w : World) (v : Value) (i j : Nat), i ≠ j → (w.setCell ⟨b, i, none⟩ v).cell? ⟨b, j, none⟩ = w.cell? ⟨b, j, none⟩ := fun w v i j h => World.cell?_setCell_other w ⟨b, i, none⟩ ⟨b, j, none⟩ v (fun e => h (by injection e))
  intro W'
  refine ⟨?_, ?_, ?_, ?_⟩
  · show (World.setCell _ _ _).cell? _ = _
    rw [n _ _ 3 0 (by decide), n _ _ 2 0 (by decide), n _ _ 1 0 (by decide), World.cell?_setCell_same' _ _ _ h0]
  · show (World.setCell _ _ _).cell? _ = _
    rw [n _ _ 3 1 (by decide), n _ _ 2 1 (by decide), World.cell?_setCell_same' _ _ _ (by rw [n _ _ 0 1 (by decide)]; exact h1)]
  · show (World.setCell _ _ _).cell? _ = _
    rw [n _ _ 3 2 (by decide), World.cell?_setCell_same' _ _ _ (by rw [n _ _ 1 2 (by decide), n _ _ 0 2 (by decide)]; exact h2)]
  · exact World.cell?_setCell_same' _ _ _ (by rw [n _ _ 2 3 (by decide), n _ _ 1 3 (by decide), n _ _ 0 3 (by decide)]; exact h3)

theorem numCode_or (l : List UInt8) : Lx.numCode l = 0 ∨ Lx.numCode l = 2 ∨ Lx.numCode l = 4 := by
  unfold Lx.numCode
  split
  · split
    · exact .inl rfl
    · exact .inr (.inl rfl)
  · exact .inr (.inr rfl)
/-- The cells of a new block. -/
theorem new_cells (w : World) (cs : List Value) (t : TypeId) : ∀ j u, cs[j]? = some u → (w.alloc (.cells cs.toArray t)).cell? ((⟨w.heap.size, 0, none⟩ : Addr).add j) = some u := by
  intro j u hu
  have hh : (w.alloc (.cells cs.toArray t)).heap[w.heap.size]? = some (.cells cs.toArray t (0, 0)) := heap_alloc_new w _
  have ha : ((⟨w.heap.size, 0, none⟩ : Addr).add j) = ⟨w.heap.size, j, none⟩ := by
    unfold Addr.add
    split
    · rename_i h; subst h; rfl
    · simp
  rw [ha, cell_of_row _ _ j _ t (0, 0) hh]
  simpa using hu
theorem new_cells2 (w : World) (o : Obj) (cs : List Value) (t : TypeId) : ∀ j u, cs[j]? = some u → ((w.alloc o).alloc (.cells cs.toArray t)).cell? ((⟨w.heap.size + 1, 0, none⟩ : Addr).add j) = some u := by
  have := new_cells (w.alloc o) cs t
  rwa [World.size_alloc] at this
/-- A row of the call's own, as a slice. -/
theorem own_slice {w : World} {base : Nat} {e : TypeId} {size n : Nat} {v : Value} {xs : List Value} (h : w.ownsRow base e size v n xs) : ∃ A cap, v = .slice A n cap := by
  obtain ⟨_, ⟨rfl, rfl⟩ | ⟨g, cap, cur, rfl, _⟩⟩ := h
  · exact ⟨none, 0, rfl⟩
  · exact ⟨_, cap, rfl⟩
theorem own_below {w w' : World} {base : Nat} {e : TypeId} {size n : Nat} {v : Value} {xs : List Value} (h : w.ownsRow base e size v n xs) (hb : Below w.heap.size w w') : w'.ownsRow base e size v n xs := by
  obtain ⟨hl, h0 | ⟨g, cap, cur, rfl, hbase, hh, h⟩⟩ := h
  · exact ⟨hl, .inl h0⟩
  · exact ⟨hl, .inr ⟨g, cap, cur, rfl, hbase, (hb.block g (Array.getElem?_eq_some_iff.1 hh).1).trans hh, h⟩⟩
/-- An append to a row of the call's own leaves what lay below. -/
theorem below_append {B : Nat} {w w1 w2 : World} {base : Nat} {e : TypeId} {size n : Nat} {v : Value} {xs : List Value} (hb : Below B w w1) (hown : w1.ownsRow base e size v n xs) (hB : B ≤ base) (hs : B ≤ w1.heap.size) (hg : w1.grownBy w2 v.ownBlock) : Below B w w2 := by
  refine hb.grown hg hs ?_
  intro k hk
  obtain ⟨_, ⟨rfl, rfl⟩ | ⟨g, cap, cur, rfl, hbase, _⟩⟩ := hown
  · simp [Value.ownBlock] at hk
  · simp [Value.ownBlock] at hk; omega

theorem own_lt {w : World} {base : Nat} {e : TypeId} {size n : Nat} {v : Value} {xs : List Value} (h : w.ownsRow base e size v n xs) (g : Nat) (hg : v.ownBlock = some g) : base ≤ g ∧ g < w.heap.size := by
  obtain ⟨_, ⟨rfl, rfl⟩ | ⟨g', cap, cur, rfl, hbase, hh, _⟩⟩ := h
  · simp [Value.ownBlock] at hg
  · simp [Value.ownBlock] at hg; subst hg; exact ⟨hbase, (Array.getElem?_eq_some_iff.1 hh).1⟩
/-- The cells of a block that was laid ahead of an append. -/
theorem app_cell {w1 w2 : World} {base : Nat} {e : TypeId} {size n : Nat} {v : Value} {xs : List Value} (h : w1.ownsRow base e size v n xs) (cs : Array Value) (t : TypeId) (o : Obj)
    (hg : ((w1.alloc (.cells cs t)).alloc o).grownBy w2 v.ownBlock) (j : Nat) : w2.cell? ⟨w1.heap.size, j, none⟩ = cs[j]? := by
  have h0 : ((w1.alloc (.cells cs t)).alloc o).heap[w1.heap.size]? = some (.cells cs t (0, 0)) := (Below.heap_alloc _ _ _ (by simp)).trans (heap_alloc_new w1 _)
  have hb := hg.block w1.heap.size (by simp; omega) (fun e => by have := (own_lt h _ e.symm).2; omega)
  exact cell_of_row w2 w1.heap.size j cs t (0, 0) (hb.trans h0)

/-- An error value that is a fault of a layer. -/
def IsFault (B : Nat) (w : World) (v : Value) (layer : ByteArray) (line col : Int) (inner : Value) : Prop :=
  ∃ b, B ≤ b ∧ v = .iface 72 (.pointer (some ⟨b, 0, none⟩)) ∧ w.heap[b]? = some (.cells #[.string layer, .int .i64 line, .int .i64 col, inner] 75 (0, 0))
theorem IsFault.below {w w' : World} {v : Value} {layer : ByteArray} {line col : Int} {inner : Value} {B : Nat} (h : IsFault B w v layer line col inner) (hb : Below w.heap.size w w') : IsFault B w' v layer line col inner := by
  obtain ⟨b, hB, hv, hh⟩ := h
  exact ⟨b, hB, hv, (hb.block b (Array.getElem?_eq_some_iff.1 hh).1).trans hh⟩
/-- "lexis" -/
def lexisB : ByteArray := ⟨#[108, 101, 120, 105, 115]⟩

set_option maxHeartbeats 400000 in
theorem at_any (layer : ByteArray) (T : TypeId) (a : Addr) (line col : Int) (w : World) :
    Calls Tryz.prog 20 #[.string layer, .iface T (.pointer (some a)), .int .i64 line, .int .i64 col] w fun e w' =>
      e = .returned (.iface 72 (.pointer (some ⟨w.heap.size, 0, none⟩))) ∧ w' = w.alloc (.cells #[.string layer, .int .i64 line, .int .i64 col, .iface T (.pointer (some a))] 75) := by
  go_enter Tryz.func20, Tryz.ntmps20
  go_wp2
  go_ret
  exact ⟨rfl, rfl⟩
theorem byte_beq (c : UInt8) (n : Nat) (hn : n < 256 := by decide) : ((c.toNat : Int) == (n : Int)) = (c == n.toUInt8) := by
  rw [Bool.eq_iff_iff]
  simp only [beq_iff_eq]
  constructor
  · intro h
    apply UInt8.toNat_inj.1
    have : n.toUInt8.toNat = n := by simp; omega
    omega
  · intro h
    have : n.toUInt8.toNat = n := by simp; omega
    rw [h, this]

theorem alloc_old {w : World} {k : Nat} {c : Obj} (h : w.heap[k]? = some c) (o : Obj) : (w.alloc o).heap[k]? = some c := (Below.heap_alloc w o k (Array.getElem?_eq_some_iff.1 h).1).trans h
theorem alloc_at (w : World) (o : Obj) (k : Nat) (hk : k = w.heap.size) : (w.alloc o).heap[k]? = some o := by subst hk; exact heap_alloc_new w o
theorem block_frozen {W : World} {k : Nat} {cs : Array Value} {t : TypeId} (h : W.heap[k]? = some (.cells cs t (0, 0))) (i : Nat) : W.frozen? ⟨k, i, none⟩ = false := by
  simp [World.frozen?, h]
theorem block_cell {W : World} {k : Nat} {v : Value} {t : TypeId} (h : W.heap[k]? = some (.cells #[v] t (0, 0))) : W.cell? ⟨k, 0, none⟩ = some v := by
  rw [cell_of_row W k 0 _ t _ h]; rfl
theorem block_set {W : World} {k : Nat} {v : Value} {t : TypeId} (h : W.heap[k]? = some (.cells #[v] t (0, 0))) (u : Value) : (W.setCell ⟨k, 0, none⟩ u).heap[k]? = some (.cells #[u] t (0, 0)) := by
  simp [World.setCell, Array.getElem?_modify, h]
theorem block_far {W : World} {k j : Nat} {o : Obj} (h : W.heap[k]? = some o) (hj : k ≠ j) (u : Value) : (W.setCell ⟨j, 0, none⟩ u).heap[k]? = some o := (Below.heap_setCell W ⟨j, 0, none⟩ u k hj).trans h
theorem own_keep {A A' : World} {base : Nat} {e : TypeId} {size n : Nat} {v : Value} {xs : List Value} (h : A.ownsRow base e size v n xs) (hk : ∀ k cs t, base ≤ k → A.heap[k]? = some (.cells cs t (0, 0)) → A'.heap[k]? = some (.cells cs t (0, 0))) : A'.ownsRow base e size v n xs := by
  obtain ⟨hl, h0 | ⟨g, cap, cur, rfl, hbase, hh, h⟩⟩ := h
  · exact ⟨hl, .inl h0⟩
  · exact ⟨hl, .inr ⟨g, cap, cur, rfl, hbase, hk _ _ _ hbase hh, h⟩⟩
theorem put_far {W : World} {k D : Nat} {o o' : Obj} (h : W.heap[k]? = some o) (hD : k ≠ D) : (W.putObj D o').heap[k]? = some o := (World.putObj_heap_other hD).trans h
theorem below_put {N D : Nat} {w W : World} (h : Below N w W) (hs : N ≤ W.heap.size) (hD : N ≤ D) (o' : Obj) : Below N w (W.putObj D o') := h.grown (grownBy_putObj' W D o') hs (fun k e => by cases e; exact hD)
end Go.Proofs.YtinobikikineiabGreatDoor
