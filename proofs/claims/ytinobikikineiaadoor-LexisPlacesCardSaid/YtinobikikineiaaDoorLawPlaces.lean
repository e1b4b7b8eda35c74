/- The walk of the law LexisPlaces: for every text it returns true. Condition: the first four error variables lie as the program lays them. -/
import Derived.Test.YtinobikikineiaaDoorAlive
import Derived.Test.YtinobikikineiaaDoorSame
import Derived.Test.YtinobikikineiaaDoorLawBlanks
import Derived.Test.YtinobikikineiaaDoorCode
import Derived.Test.YtinobikikineiaaDoorPlainLine
import Derived.Deep.RegionHeld3
import Derived.IntWalk
namespace Go.Proofs.YtinobikikineiaaDoor
open Go.RowKit Go.Shelf

theorem assertFault (v : Value) (w : World) : (Instr.typeAssert (.iface 41 v) 24 41 true).run Tryd.prog w = .ok (.tuple #[v, .bool true]) w := by kernel_rfl
theorem assertNil (w : World) : (Instr.typeAssert .nilIface 24 41 true).run Tryd.prog w = .ok (.tuple #[.pointer none, .bool false]) w := by kernel_rfl

set_option maxRecDepth 100000 in
set_option maxHeartbeats 1000000 in
theorem places_long (s : ByteArray) (E : Errs) (w : World) (hE : Laid E four w) (hs : 60000 < s.size) :
    Calls Tryd.prog 6 #[.string s] w fun e w' => e = .returned (.bool true) ∧ Below w.heap.size w w' := by
  go_enter Tryd.func6, Tryd.ntmps6
  go_wp2_with (first
    | (go_at_call 12; refine (alive_any E _ hE.two_of_four).mono ?_; rintro e w2 ⟨rfl, hb2⟩))
  go_ret
  exact ⟨rfl, hb2⟩

/-- What the last region of the errors' way needs of the world, but the cells that it loads. -/
structure PlE (E : Errs) (w : World) (b g c : Nat) (x : World) : Prop where
  f : x.cell? ⟨b, 3, none⟩ = some (E.val c)
  s : x.cell? ⟨g, 3, none⟩ = some (E.val c)
  laid : Laid E four x
  below : Below w.heap.size w x
def PlS (E : Errs) (w : World) (b g c l co : Nat) (x : World) : Prop :=
  x.cell? ⟨b, 1, none⟩ = some (.int .i64 (l : Int)) ∧ x.cell? ⟨b, 2, none⟩ = some (.int .i64 (co : Int)) ∧ x.cell? ⟨g, 1, none⟩ = some (.int .i64 ((l : Int) + 1)) ∧ x.cell? ⟨g, 2, none⟩ = some (.int .i64 (co : Int)) ∧ PlE E w b g c x
theorem PlS.below {E : Errs} {w x y : World} {b g c l co : Nat} (h : PlS E w b g c l co x) (hb : Below x.heap.size x y) : PlS E w b g c l co y := by
  obtain ⟨h1, h2, h3, h4, h5, h6, h7, h8⟩ := h
  have hc : ∀ {k o v}, x.cell? ⟨k, o, none⟩ = some v → y.cell? ⟨k, o, none⟩ = some v := fun {k o v} hv => (hb.cell (p := ⟨k, o, none⟩) (cell_lt hv)).trans hv
  exact ⟨hc h1, hc h2, hc h3, hc h4, hc h5, hc h6, h7.below hb, h8.trans (hb.mono h8.size)⟩
theorem PlS.laid {E : Errs} {w x : World} {b g c l co : Nat} (h : PlS E w b g c l co x) : Laid E four x := h.2.2.2.2.laid
theorem PlS.first {E : Errs} {w x : World} {b g c l co : Nat} (h : PlS E w b g c l co x) : x.cell? ⟨b, 3, none⟩ = some (E.val c) := h.2.2.2.2.f
theorem PlS.second {E : Errs} {w x : World} {b g c l co : Nat} (h : PlS E w b g c l co x) : x.cell? ⟨g, 3, none⟩ = some (E.val c) := h.2.2.2.2.s
theorem PlS.out {E : Errs} {w x : World} {b g c l co : Nat} (h : PlS E w b g c l co x) : Below w.heap.size w x := h.2.2.2.2.below
theorem PlS.drew {E : Errs} {w x : World} {b g c l co : Nat} (h : PlS E w b g c l co x) : PlS E w b g c l co x.drew := by
  obtain ⟨h1, h2, h3, h4, h5, h6, h7, h8⟩ := h
  exact ⟨h1, h2, h3, h4, h5, h6, h7.drew, below_drewN' h8 1⟩

set_option maxRecDepth 100000 in
set_option maxHeartbeats 4000000 in
theorem places_err (s : ByteArray) (E : Errs) (w : World) (hE : Laid E four w) (hs : s.size ≤ 60000) (c l co : Nat) (hc : c = 2 ∨ c = 4) (h : Lx.scan s.data.toList = .error (c, l, co)) :
    Calls Tryd.prog 6 #[.string s] w fun e w' => e = .returned (.bool true) ∧ Below w.heap.size w w' := by
  have h2 : Lx.scan ((⟨#[35, 32, 120, 10]⟩ : ByteArray) ++ s).data.toList = .error (c, l + 1, co) := by
    have := Lx.scan_ahead _ (by rw [bytes_size]; exact hs)
    rw [h] at this
    simpa [Lx.ahead, Lx.shift] using this
  have hl : l ≤ 60001 := by have := Lx.scan_line h; rw [bytes_size] at this; omega
  have HH := Lib.hid h
  have H2 := Lib.hid h2
  clear h h2
  have hsz : ((⟨#[35, 32, 120, 10]⟩ : ByteArray) ++ s).size ≤ 70000 := by rw [ByteArray.size_append]; show 4 + s.size ≤ 70000; omega
  have aF := assertFault
  go_enter Tryd.func6, Tryd.ntmps6
  go_wp2_with (first
    | (go_at_call 11; refine (scan_bad _ E _ ?hE c l co ?h).mono ?_; (case h => with_reducible exact HH.out); (case hE => exact hE.two_of_four); rintro e w1 ⟨b, rfl, hb1, hB, hh, _⟩)
    | (go_at_call 11; refine (scan_bad _ E _ ?hE c (l + 1) co ?h).mono ?_; (case h => with_reducible exact H2.out); (case hE => exact hE.two_of_four.below hb1); rintro e w2 ⟨g, rfl, hb2, hG, hg, _⟩))
  have hb12 := hb1.trans (hb2.mono hb1.size)
  have hh2 := (hb2.block _ (Array.getElem?_eq_some_iff.1 hh).1).trans hh
  have hS : PlS E w b g c l co w2 := ⟨cell_of_row _ _ 1 _ _ _ hh2, cell_of_row _ _ 2 _ _ _ hh2, cell_of_row _ _ 1 _ _ _ hg, cell_of_row _ _ 2 _ _ _ hg, cell_of_row _ _ 3 _ _ _ hh2, cell_of_row _ _ 3 _ _ _ hg, hE.below hb12, hb12⟩
  have hwr : IntKind.i64.wrap ((l : Int) + 1) = (l : Int) + 1 := IntWalk.i64_in _ (by omega)
  clear hh hg hh2 hb1 hb2 hB hG HH H2
  go_region_held3 (fun x => x.cell? ⟨b, 1, none⟩ = some (.int .i64 (l : Int)) ∧ x.cell? ⟨b, 2, none⟩ = some (.int .i64 (co : Int)) ∧ x.cell? ⟨g, 1, none⟩ = some (.int .i64 ((l : Int) + 1)) ∧ x.cell? ⟨g, 2, none⟩ = some (.int .i64 (co : Int)) ∧ PlE E w b g c x)
    (first | exact hS | exact PlS.drew hS | (refine PlS.below ?_ hb3; assumption) | assumption)
    (first
      | (go_at_call 12; refine (alive_any E _ ?hE).mono ?_; (case hE => (refine (PlS.laid (w := w) (b := b) (g := g) (c := c) (l := l) (co := co) ?_).two_of_four; assumption)); rintro e w3 ⟨rfl, hb3⟩)
      | (go_at_call 20; refine (code_fault E c _ hc _ ?hE ?hk).mono ?_; (case hE => (refine PlS.laid (w := w) (b := b) (g := g) (c := c) (l := l) (co := co) ?_; assumption)); (case hk => (first | (refine PlS.first (w := w) (b := b) (g := g) (c := c) (l := l) (co := co) ?_; assumption) | (refine PlS.second (w := w) (b := b) (g := g) (c := c) (l := l) (co := co) ?_; assumption))); rintro e w6 ⟨rfl, rfl⟩))
  all_goals
    go_wp2
    go_ret
    exact ⟨rfl, (PlS.out (w := w) (b := b) (g := g) (c := c) (l := l) (co := co) (by assumption))⟩
end Go.Proofs.YtinobikikineiaaDoor
