/- The walk of the law LexisAs: for every text it returns true. Condition: the two error variables of lexis and errors.errorType lie as the program lays them. -/
import Derived.Test.YtinobikikineiaaDoorAlive
import Derived.Test.YtinobikikineiaaDoorAs
import Derived.Test.YtinobikikineiaaDoorPlainCode
import Derived.Test.YtinobikikineiaaDoorIs
namespace Go.Proofs.YtinobikikineiaaDoor
open Go.RowKit Go.Shelf

/-- errors.errorType as the program lays it. -/
abbrev errorTypeV : Value := .iface 84 (.agg #[.pointer (some ⟨23, 24, none⟩)])
/-- What lies after 'alive' has been called on a new variable. -/
theorem as_ahead {E : Errs} {w w1 w2 : World} {c line col b B : Nat} {T : TypeId} (hE : Laid E two w) (hT : w.cell? ⟨10, 0, none⟩ = some errorTypeV) (hb1 : Below w.heap.size w w1)
    (hh : w1.heap[b]? = some (.cells #[.string lexisB, .int .i64 (line : Int), .int .i64 (col : Int), E.val c] 44 (0, 0))) (hB : B = (w1.alloc (.cells #[.pointer none] T)).drew.heap.size)
    (hb2 : Below B (w1.alloc (.cells #[.pointer none] T)).drew w2) :
    Below w.heap.size w w2 ∧ w2.cell? ⟨10, 0, none⟩ = some errorTypeV ∧ w2.cell? ⟨w1.heap.size, 0, none⟩ = some (.pointer none) ∧ w2.frozen? ⟨w1.heap.size, 0, none⟩ = false ∧ w.heap.size ≤ w1.heap.size ∧ w1.heap.size < w2.heap.size ∧
      w2.heap[b]? = some (.cells #[.string lexisB, .int .i64 (line : Int), .int .i64 (col : Int), E.val c] 44 (0, 0)) ∧ b < w1.heap.size ∧ b < w2.heap.size ∧ Laid E two w2 := by
  subst hB
  have hb2' : Below (w1.heap.size + 1) (w1.alloc (.cells #[.pointer none] T)) w2 := ⟨hb2.os, hb2.tape, hb2.output, by simpa using hb2.size, fun k hk => hb2.block k (by simpa using hk)⟩
  have hbA : Below w1.heap.size w1 w2 := ((Below.refl _ w1).alloc (Nat.le_refl _) _).trans (hb2'.mono (by omega))
  have hbW : Below w.heap.size w w2 := hb1.trans (hbA.mono hb1.size)
  have hlt : b < w1.heap.size := (Array.getElem?_eq_some_iff.1 hh).1
  have hsz := hb2'.size
  simp only [World.size_alloc] at hsz
  have hr : w2.heap[w1.heap.size]? = some (.cells #[.pointer none] T (0, 0)) := (hb2'.block _ (by omega)).trans (heap_alloc_new w1 _)
  refine ⟨hbW, (hbW.cell (p := ⟨10, 0, none⟩) (cell_lt hT)).trans hT, ?_, ?_, hb1.size, by omega, (hbA.block b hlt).trans hh, hlt, by omega, hE.below hbW⟩
  · exact cell_of_row _ _ 0 _ _ _ hr
  · simp [World.frozen?, hr]
/-- What lies after errors.As. -/
theorem as_behind {E : Errs} {w w2 w3 : World} {c line col b t : Nat} (hE : Laid E two w2) (hb3 : Below w.heap.size w2 w3) (hEw : Laid E two w) (hbW : Below w.heap.size w w2)
    (hh : w2.heap[b]? = some (.cells #[.string lexisB, .int .i64 (line : Int), .int .i64 (col : Int), E.val c] 44 (0, 0))) (hbt : b < t) (hk : ∀ b, b < w2.heap.size → b ≠ t → w3.heap[b]? = w2.heap[b]?) :
    w3.cell? ⟨b, 0, none⟩ = some (.string ⟨#[108, 101, 120, 105, 115]⟩) ∧ w3.cell? ⟨b, 3, none⟩ = some (E.val c) ∧ Laid E two w3 ∧ Below w.heap.size w w3 := by
  have h1 : w3.heap[b]? = some (.cells #[.string lexisB, .int .i64 (line : Int), .int .i64 (col : Int), E.val c] 44 (0, 0)) := (hk b (Array.getElem?_eq_some_iff.1 hh).1 (by omega)).trans hh
  exact ⟨cell_of_row _ _ 0 _ _ _ h1, cell_of_row _ _ 3 _ _ _ h1, hEw.below (hbW.trans hb3), hbW.trans hb3⟩
theorem eql_same (a : Addr) (w : World) : (Go.binOp .eql 24 (.iface 115 (.pointer (some a))) (.iface 115 (.pointer (some a)))).run Tryd.prog w = .ok (.bool true) w := by
  obtain ⟨i, hi, hcmp⟩ := Option.map_eq_some_iff.1 isComp
  obtain ⟨j, hj, hjs⟩ := Option.map_eq_some_iff.1 isSize
  exact run_eql_iface_ptr_same (P := Tryd.prog) w a Tryd.underlying24 Tryd.underlying115 hi hcmp hj
theorem eql_other (E : Errs) (w : World) (hE : Laid E two w) : (Go.binOp .eql 24 (E.val 2) (E.val 4)).run Tryd.prog w = .ok (.bool false) w := by
  obtain ⟨i, hi, hcmp⟩ := Option.map_eq_some_iff.1 isComp
  obtain ⟨j, hj, hjs⟩ := Option.map_eq_some_iff.1 isSize
  obtain ⟨ca, ta, ha⟩ := hE.row 2 (by simp)
  obtain ⟨cb, tb, hb⟩ := hE.row 4 (by simp)
  exact run_eql_iface_ptr_other (P := Tryd.prog) w Tryd.underlying24 Tryd.underlying115 hi hcmp hj (by rw [hjs]; decide) (hE.ne 2 (by simp) 4 (by simp) (by decide)) ha hb
set_option maxHeartbeats 4000000 in
theorem as_law_err (s : ByteArray) (E : Errs) (w : World) (hE : Laid E two w) (hT : w.cell? ⟨10, 0, none⟩ = some errorTypeV) (c line col : Nat) (hc : c = 2 ∨ c = 4) (h : Lx.scan s.data.toList = .error (c, line, col)) :
    Calls Tryd.prog 10 #[.string s] w fun e w' => e = .returned (.bool true) ∧ Below w.heap.size w w' := by
  have HH := Lib.hid h
  clear h
  rcases hc with rfl | rfl
  all_goals
    go_enter Tryd.func10, Tryd.ntmps10
    go_wp2_with (first
      | (go_at_call 11; refine (scan_bad s E _ hE _ line col HH.out).mono ?_; rintro e w1 ⟨b, rfl, hb1, hB, hh, _⟩))
    go_region_with (first
      | (go_at_call 12; refine (alive_any E _ ?hE).mono ?_; (case hE => exact (((hE.below hb1).alloc _).drew)); rintro e w2 ⟨rfl, hb2⟩; obtain ⟨hbW, hT2, ht2, hf2, hww, hw1, hh2, hlt, hlt2, hE2⟩ := as_ahead hE hT hb1 hh rfl hb2)
      | (go_at_call 29; refine (as_fault ⟨b, 0, none⟩ ⟨w1.heap.size, 0, none⟩ _ w.heap.size _ hT2 ht2 hf2 hww hw1).mono ?_; rintro e w3 ⟨rfl, hb3, ht3, hk3⟩; obtain ⟨f0, f3, hE3, hbW3⟩ := as_behind hE2 hb3 hE hbW hh2 hlt hk3; have gW := hE3.word; have gL := hE3.long; have es := fun a => eql_same a w3; have eo := eql_other E w3 hE3))
    all_goals
      go_wp2
      go_ret
      exact ⟨rfl, hbW3⟩
theorem as_law_ok (s : ByteArray) (E : Errs) (w : World) (hE : Laid E two w) (ts : List Lx.Tok) (h : Lx.scan s.data.toList = .ok ts) :
    Calls Tryd.prog 10 #[.string s] w fun e w' => e = .returned (.bool true) ∧ Below w.heap.size w w' := by
  have HH := Lib.hid h
  clear h
  go_enter Tryd.func10, Tryd.ntmps10
  go_wp2_with (first
    | (go_at_call 11; refine (scan_good s E _ hE ts HH.out).mono ?_; rintro e w1 ⟨A, c, rfl, hb1, _⟩)
    | (go_at_call 12; refine (alive_any E _ (hE.below hb1)).mono ?_; rintro e w2 ⟨rfl, hb2⟩))
  go_ret
  exact ⟨rfl, hb1.trans (hb2.mono hb1.size)⟩
/-- LexisAs returns true. -/
theorem as_law_true (s : ByteArray) (E : Errs) (w : World) (hE : Laid E two w) (hT : w.cell? ⟨10, 0, none⟩ = some errorTypeV) :
    Calls Tryd.prog 10 #[.string s] w fun e w' => e = .returned (.bool true) ∧ Below w.heap.size w w' := by
  cases h : Lx.scan s.data.toList with
  | error b =>
    obtain ⟨c, line, col⟩ := b
    exact as_law_err s E w hE hT c line col (Lx.scan_code h) h
  | ok ts => exact as_law_ok s E w hE ts h
end Go.Proofs.YtinobikikineiaaDoor
