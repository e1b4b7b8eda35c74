/- Words as they lie in memory: rows of four cells; slices of them that are read; faults. No conditions. -/
import Derived.Test.YtinobikikineiaaDoorNext
import Derived.Laws.OwnMore
import Derived.Deep.Draws
import Derived.LoopTactic
namespace Go.Proofs.YtinobikikineiaaDoor
open Go.RowKit

/-- A word as a value. -/
structure TokV where
  kind : Int
  text : ByteArray
  line : Int
  col : Int
def TokV.cells (t : TokV) : List Value := [.int .i64 t.kind, .string t.text, .int .i64 t.line, .int .i64 t.col]
def Lx.Tok.v (t : Lx.Tok) : TokV := ⟨t.kind, ⟨t.text.toArray⟩, t.line, t.col⟩
/-- The cells of a list of words, one behind the other. -/
def flat (ts : List TokV) : List Value := ts.flatMap TokV.cells
theorem flat_length (ts : List TokV) : (flat ts).length = ts.length * 4 := by
  induction ts with
  | nil => rfl
  | cons t ts ih => simp only [flat, List.flatMap_cons, List.length_append, List.length_cons] at ih ⊢; rw [ih]; simp [TokV.cells]; omega
theorem flat_append (a b : List TokV) : flat (a ++ b) = flat a ++ flat b := List.flatMap_append
theorem flat_one (t : TokV) : flat [t] = t.cells := by simp [flat]
theorem flat_cells (ts : List TokV) (i : Nat) (t : TokV) (h : ts[i]? = some t) (j : Nat) (hj : j < 4) : (flat ts)[i * 4 + j]? = t.cells[j]? := by
  induction ts generalizing i with
  | nil => simp at h
  | cons s ts ih =>
    have e : flat (s :: ts) = s.cells ++ flat ts := by simp [flat]
    have hl : s.cells.length = 4 := rfl
    rw [e]
    cases i with
    | zero =>
      simp only [List.getElem?_cons_zero, Option.some.injEq] at h
      subst h
      rw [List.getElem?_append_left (by omega)]; congr 1; omega
    | succ i =>
      rw [List.getElem?_append_right (by omega), hl]
      have := ih i (by simpa using h)
      rw [← this]; congr 1; omega
theorem flat_oneCell (ts : List TokV) : ∀ u ∈ flat ts, u.oneCell' = true := by
  intro u hu
  simp only [flat, List.mem_flatMap] at hu
  obtain ⟨t, _, hu⟩ := hu
  simp only [TokV.cells, List.mem_cons, List.not_mem_nil, or_false] at hu
  rcases hu with rfl | rfl | rfl | rfl <;> rfl

theorem tok_one (t : TokV) : ∀ u ∈ t.cells, u.oneCell' = true := by
  have := flat_oneCell [t]
  rwa [flat_one] at this

/-- A slice value that reads as these words. -/
def Reads4 (w : World) (v : Value) (ts : List TokV) : Prop :=
  ∃ (A : Option Addr) (c : Nat), v = .slice A ts.length c ∧ ts.length ≤ c ∧ (ts ≠ [] → ∃ b off, A = some ⟨b, off, none⟩ ∧ ∀ j u, (flat ts)[j]? = some u → w.cell? ⟨b, off + j, none⟩ = some u)
theorem Reads4.keep {w w' : World} {v : Value} {ts : List TokV} (h : Reads4 w v ts) (hk : ∀ b o, b < w.heap.size → w'.cell? ⟨b, o, none⟩ = w.cell? ⟨b, o, none⟩) : Reads4 w' v ts := by
  obtain ⟨A, c, hv, hc, h⟩ := h
  refine ⟨A, c, hv, hc, fun hne => ?_⟩
  obtain ⟨b, off, hA, hcell⟩ := h hne
  exact ⟨b, off, hA, fun j u hu => (hk b _ (cell_lt (hcell j u hu))).trans (hcell j u hu)⟩
theorem Reads4.below {w w' : World} {v : Value} {ts : List TokV} (h : Reads4 w v ts) (hb : Below w.heap.size w w') : Reads4 w' v ts :=
  h.keep fun b o hlt => hb.cell (p := ⟨b, o, none⟩) hlt
theorem Reads4.drewN {w : World} {v : Value} {ts : List TokV} (h : Reads4 w v ts) (n : Nat) : Reads4 (w.drewN n) v ts := h
theorem Reads4.alloc {w : World} {v : Value} {ts : List TokV} (h : Reads4 w v ts) (o : Obj) : Reads4 (w.alloc o) v ts := h.below ((Below.refl _ w).alloc (Nat.le_refl _) o)
theorem Reads4.nil (w : World) : Reads4 w (.slice none 0 0) [] := ⟨none, 0, rfl, Nat.le_refl _, fun h => absurd rfl h⟩
theorem Reads4.of_own {w : World} {base : Nat} {e : TypeId} {v : Value} {ts : List TokV} (h : w.ownsRow base e 4 v ts.length (flat ts)) : Reads4 w v ts := by
  obtain ⟨_, ⟨rfl, hn⟩ | ⟨g, cap, cur, rfl, _, hh, hc, _, hsz, ht⟩⟩ := h
  · have : ts = [] := List.eq_nil_of_length_eq_zero hn
    subst this
    exact ⟨none, 0, rfl, Nat.le_refl _, fun h => absurd rfl h⟩
  · refine ⟨some ⟨g, 0, none⟩, cap, rfl, hc, fun _ => ⟨g, 0, rfl, fun j u hu => ?_⟩⟩
    have hj : j < (flat ts).length := (List.getElem?_eq_some_iff.1 hu).1
    rw [flat_length] at hj
    rw [Nat.zero_add, cell_of_row w g j cur e (0, 0) hh, ← Array.getElem?_toList, ← hu, ← ht, List.getElem?_take_of_lt hj]

/-- The cells of a new block. -/
theorem new_cells (w : World) (cs : List Value) (t : TypeId) : ∀ j u, cs[j]? = some u → (w.alloc (.cells cs.toArray t)).cell? ((⟨w.heap.size, 0, none⟩ : Addr).add j) = some u := by
  intro j u hu
  have hh : (w.alloc (.cells cs.toArray t)).heap[w.heap.size]? = some (.cells cs.toArray t (0, 0)) := heap_alloc_new w _
  have ha : ((⟨w.heap.size, 0, none⟩ : Addr).add j) = ⟨w.heap.size, j, none⟩ := by
    unfold Addr.add
    split
    · rename_i h; subst h; rfl
    · simp
  rw [ha, cell_of_row _ _ j _ t (0, 0) hh]
  simpa using hu
theorem new_cells2 (w : World) (o : Obj) (cs : List Value) (t : TypeId) : ∀ j u, cs[j]? = some u → ((w.alloc o).alloc (.cells cs.toArray t)).cell? ((⟨w.heap.size + 1, 0, none⟩ : Addr).add j) = some u := by
  have := new_cells (w.alloc o) cs t
  rwa [World.size_alloc] at this
/-- A row of the call's own, as a slice. -/
theorem own_slice {w : World} {base : Nat} {e : TypeId} {size n : Nat} {v : Value} {xs : List Value} (h : w.ownsRow base e size v n xs) : ∃ A cap, v = .slice A n cap := by
  obtain ⟨_, ⟨rfl, rfl⟩ | ⟨g, cap, cur, rfl, _⟩⟩ := h
  · exact ⟨none, 0, rfl⟩
  · exact ⟨_, cap, rfl⟩
theorem own_below {w w' : World} {base : Nat} {e : TypeId} {size n : Nat} {v : Value} {xs : List Value} (h : w.ownsRow base e size v n xs) (hb : Below w.heap.size w w') : w'.ownsRow base e size v n xs := by
  obtain ⟨hl, h0 | ⟨g, cap, cur, rfl, hbase, hh, h⟩⟩ := h
  · exact ⟨hl, .inl h0⟩
  · exact ⟨hl, .inr ⟨g, cap, cur, rfl, hbase, (hb.block g (Array.getElem?_eq_some_iff.1 hh).1).trans hh, h⟩⟩
/-- An append to a row of the call's own leaves what lay below. -/
theorem below_append {B : Nat} {w w1 w2 : World} {base : Nat} {e : TypeId} {size n : Nat} {v : Value} {xs : List Value} (hb : Below B w w1) (hown : w1.ownsRow base e size v n xs) (hB : B ≤ base) (hs : B ≤ w1.heap.size) (hg : w1.grownBy w2 v.ownBlock) : Below B w w2 := by
  refine hb.grown hg hs ?_
  intro k hk
  obtain ⟨_, ⟨rfl, rfl⟩ | ⟨g, cap, cur, rfl, hbase, _⟩⟩ := hown
  · simp [Value.ownBlock] at hk
  · simp [Value.ownBlock] at hk; omega

theorem own_lt {w : World} {base : Nat} {e : TypeId} {size n : Nat} {v : Value} {xs : List Value} (h : w.ownsRow base e size v n xs) (g : Nat) (hg : v.ownBlock = some g) : base ≤ g ∧ g < w.heap.size := by
  obtain ⟨_, ⟨rfl, rfl⟩ | ⟨g', cap, cur, rfl, hbase, hh, _⟩⟩ := h
  · simp [Value.ownBlock] at hg
  · simp [Value.ownBlock] at hg; subst hg; exact ⟨hbase, (Array.getElem?_eq_some_iff.1 hh).1⟩
/-- The cells of a block that was laid ahead of an append. -/
theorem app_cell {w1 w2 : World} {base : Nat} {e : TypeId} {size n : Nat} {v : Value} {xs : List Value} (h : w1.ownsRow base e size v n xs) (cs : Array Value) (t : TypeId) (o : Obj)
    (hg : ((w1.alloc (.cells cs t)).alloc o).grownBy w2 v.ownBlock) (j : Nat) : w2.cell? ⟨w1.heap.size, j, none⟩ = cs[j]? := by
  have h0 : ((w1.alloc (.cells cs t)).alloc o).heap[w1.heap.size]? = some (.cells cs t (0, 0)) := (Below.heap_alloc _ _ _ (by simp)).trans (heap_alloc_new w1 _)
  have hb := hg.block w1.heap.size (by simp; omega) (fun e => by have := (own_lt h _ e.symm).2; omega)
  exact cell_of_row w2 w1.heap.size j cs t (0, 0) (hb.trans h0)

/-- An error value that is a fault of a layer. -/
def IsFault (B : Nat) (w : World) (v : Value) (layer : ByteArray) (line col : Int) (inner : Value) : Prop :=
  ∃ b, B ≤ b ∧ v = .iface 41 (.pointer (some ⟨b, 0, none⟩)) ∧ w.heap[b]? = some (.cells #[.string layer, .int .i64 line, .int .i64 col, inner] 44 (0, 0))
theorem IsFault.below {w w' : World} {v : Value} {layer : ByteArray} {line col : Int} {inner : Value} {B : Nat} (h : IsFault B w v layer line col inner) (hb : Below w.heap.size w w') : IsFault B w' v layer line col inner := by
  obtain ⟨b, hB, hv, hh⟩ := h
  exact ⟨b, hB, hv, (hb.block b (Array.getElem?_eq_some_iff.1 hh).1).trans hh⟩
/-- "lexis" -/
def lexisB : ByteArray := ⟨#[108, 101, 120, 105, 115]⟩

set_option maxHeartbeats 400000 in
theorem at_any (layer : ByteArray) (T : TypeId) (a : Addr) (line col : Int) (w : World) :
    Calls Tryd.prog 52 #[.string layer, .iface T (.pointer (some a)), .int .i64 line, .int .i64 col] w fun e w' =>
      e = .returned (.iface 41 (.pointer (some ⟨w.heap.size, 0, none⟩))) ∧ w' = w.alloc (.cells #[.string layer, .int .i64 line, .int .i64 col, .iface T (.pointer (some a))] 44) := by
  go_enter Tryd.func52, Tryd.ntmps52
  go_wp2
  go_ret
  exact ⟨rfl, rfl⟩
end Go.Proofs.YtinobikikineiaaDoor
