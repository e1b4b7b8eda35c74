/- errors.As at a fault of lexis and a variable of the type pointer to Fault: true, the variable is set. Condition: errors.errorType holds the type error, as the program lays it. (Turned from the worked text ToyasAs.) -/
import Derived.Test.YtinobikikineiaaDoorAlive
import Derived.WalkKit
import Derived.LaidEql
import Derived.Stop.Asserts
import Derived.RowKitTokens
namespace Go.Proofs.YtinobikikineiaaDoor
open Go.RowKit Go.Extern.Stop Go.Stop Go.Extern

/-- errors.As(nil, target). -/
theorem as_nil (t : Value) (w : World) :
    Calls Tryd.prog 29 #[.nilIface, t] w fun e w' => e = .returned (.bool false) ∧ w' = w := by
  go_enter Tryd.func29, Tryd.ntmps29
  go_wp2
  go_ret
  exact ⟨rfl, rfl⟩

/-! ### closed facts on the model's entries for internal/reflectlite, at this program's types -/
theorem rl.valueOf27 (t : Addr) (w : World) : (ReflectliteValue.unpack (.iface 54 (.pointer (some t)))).run Tryd.prog w
    = .ok (.agg #[.pointer (some ⟨23, 54, none⟩), .pointer (some ⟨w.heap.size, 0, none⟩), .int .u64 150]) (w.alloc (.cells #[.pointer (some t)] 54)) := by kernel_rfl
theorem rl.type27 (a : Addr) (w : World) : (ReflectliteValue.methodAny (ReflectliteValue.valueError "reflectlite.Value.Type" 0) (fun t _ _ _ => ReflectliteType.toType t) #[.agg #[.pointer (some ⟨23, 54, none⟩), .pointer (some a), .int .u64 150]]).run Tryd.prog w
    = .ok (.iface 84 (.agg #[.pointer (some ⟨23, 54, none⟩)])) w := by kernel_rfl
theorem rl.methodKind (h : Value) (w : World) : (Go.method 247 84 (.agg #[h]) "Kind").run Tryd.prog w = .ok (85, h) w := by kernel_rfl
theorem rl.kind27 (w : World) : ((ReflectliteType.abiMethod fun t => (fun a : Nat => Value.int IntKind.u8 (a : Int)) <$> Rtype.kind t) #[.pointer (some ⟨23, 54, none⟩)]).run Tryd.prog w = .ok (.int .u8 22) w := by kernel_rfl
theorem rl.kind25 (w : World) : ((ReflectliteType.abiMethod fun t => (fun a : Nat => Value.int IntKind.u8 (a : Int)) <$> Rtype.kind t) #[.pointer (some ⟨23, 41, none⟩)]).run Tryd.prog w = .ok (.int .u8 22) w := by kernel_rfl

/-! ### THE ENTRIES THAT READ OR WRITE MEMORY: laws with a premise on the cell (after Derived/Lib/ReflectliteSlice.lean's manner: each unfolding a lemma of its own, by rfl) -/
theorem rlm (z : Sem Value) (f : TypeId → Addr → Nat → Nat → Sem Value) (v : Value) :
    ReflectliteValue.method z f #[v] = (do match ← ReflectliteValue.parts v with | none => z | some (t, a, fl) => f t a fl (fl % 32)) := rfl
theorem rl.parts27 (a : Addr) (w : World) : (ReflectliteValue.parts (.agg #[.pointer (some ⟨23, 54, none⟩), .pointer (some a), .int .u64 150])).run Tryd.prog w = .ok (some (54, a, 150)) w := by kernel_rfl
/-- (Value).IsNil at the Value of a **p.E that is not nil. -/
theorem rl.isNil27 (a p : Addr) (W : World) (ha : W.cell? a = some (.pointer (some p))) :
    (ReflectliteValue.method (ReflectliteValue.valueError "reflectlite.Value.IsNil" 0) ReflectliteValue.isNil #[.agg #[.pointer (some ⟨23, 54, none⟩), .pointer (some a), .int .u64 150]]).run Tryd.prog W = .ok (.bool false) W := by
  rw [rlm]
  simp only [Sem.run_bind, rl.parts27, Result.andThen]
  simp [ReflectliteValue.isNil, loadVar, isAgg, underlying, Tryd.underlying54, ha, Result.andThen]

theorem rl.methodElem (h : Value) (w : World) : (Go.method 247 84 (.agg #[h]) "Elem").run Tryd.prog w = .ok (96, .agg #[h]) w := by kernel_rfl
theorem rl.methodImplements (h : Value) (w : World) : (Go.method 247 84 (.agg #[h]) "Implements").run Tryd.prog w = .ok (97, .agg #[h]) w := by kernel_rfl
theorem rl.methodAssignableTo (h : Value) (w : World) : (Go.method 247 84 (.agg #[h]) "AssignableTo").run Tryd.prog w = .ok (94, .agg #[h]) w := by kernel_rfl
theorem rl.elem27 (w : World) : (ReflectliteType.method ReflectliteType.elem #[.agg #[.pointer (some ⟨23, 54, none⟩)]]).run Tryd.prog w = .ok (.iface 84 (.agg #[.pointer (some ⟨23, 41, none⟩)])) w := by kernel_rfl
theorem rl.implements25 (w : World) : (ReflectliteType.relation "Implements" ReflectliteType.implements_ #[.agg #[.pointer (some ⟨23, 41, none⟩)], .iface 84 (.agg #[.pointer (some ⟨23, 24, none⟩)])]).run Tryd.prog w = .ok (.bool true) w := by kernel_rfl
theorem rl.typeOf25 (v : Value) (w : World) : (ReflectliteType.typeOf #[.iface 41 v]).run Tryd.prog w = .ok (.iface 84 (.agg #[.pointer (some ⟨23, 41, none⟩)])) w := by kernel_rfl
theorem rl.assignable25 (w : World) : (ReflectliteType.relation "AssignableTo" ReflectliteType.assignableTo #[.agg #[.pointer (some ⟨23, 41, none⟩)], .iface 84 (.agg #[.pointer (some ⟨23, 41, none⟩)])]).run Tryd.prog w = .ok (.bool true) w := by kernel_rfl
theorem rl.valueOf25 (e : Addr) (w : World) : (ReflectliteValue.unpack (.iface 41 (.pointer (some e)))).run Tryd.prog w
    = .ok (.agg #[.pointer (some ⟨23, 41, none⟩), .pointer (some ⟨w.heap.size, 0, none⟩), .int .u64 150]) (w.alloc (.cells #[.pointer (some e)] 41)) := by kernel_rfl

theorem rl.elemOf27 (w : World) : (Rtype.elem? 54).run Tryd.prog w = .ok (some 41) w := by kernel_rfl
theorem rl.mk25 (p : Addr) (w : World) : (ReflectliteValue.mk 41 p ReflectliteValue.flagAddr).run Tryd.prog w = .ok (.agg #[.pointer (some ⟨23, 41, none⟩), .pointer (some p), .int .u64 406]) w := by kernel_rfl
/-- (Value).Elem at the Value of a **p.E that is not nil: the Value of the *p.E variable that it points to, addressable. -/
theorem rl.elemV27 (a p : Addr) (W : World) (ha : W.cell? a = some (.pointer (some p))) :
    (ReflectliteValue.method (ReflectliteValue.valueError "reflectlite.Value.Elem" 0) ReflectliteValue.elem #[.agg #[.pointer (some ⟨23, 54, none⟩), .pointer (some a), .int .u64 150]]).run Tryd.prog W
      = .ok (.agg #[.pointer (some ⟨23, 41, none⟩), .pointer (some p), .int .u64 406]) W := by
  rw [rlm]
  simp only [Sem.run_bind, rl.parts27, Result.andThen]
  simp [ReflectliteValue.elem, loadVar, isAgg, underlying, Tryd.underlying54, ha, Result.andThen, rl.elemOf27, rl.mk25]
theorem rls (v x : Value) : ReflectliteValue.set #[v, x] = (do
    let (some (dst, a, fl), some (src, b, _)) := (← ReflectliteValue.parts v, ← ReflectliteValue.parts x)
      | unsupported (.noEntry "extern/(internal/reflectlite.Value).Set.zeroValue")
    if fl / ReflectliteValue.flagAddr % 2 == 0 then unsupported (.noEntry "extern/(internal/reflectlite.Value).Set.unaddressable")
    let val ← loadVar src b
    if ← Rtype.directlyAssignable dst src then storeVar dst a val
    else if ← Rtype.implements dst src then
      if (← Rtype.kind src) == 20 then
        match val with
        | .nilIface => unsupported (.noEntry "extern/reflectlite: a nil value of one interface type handed on as a value of another")
        | _ => storeVar dst a val
      else storeVar dst a (.iface src val)
    else panicString ("reflectlite.Set: value of type " ++ (← Rtype.spelt src) ++ " is not assignable to type " ++ (← Rtype.spelt dst))
    pure (.tuple #[])) := rfl
theorem rl.parts25a (a : Addr) (w : World) : (ReflectliteValue.parts (.agg #[.pointer (some ⟨23, 41, none⟩), .pointer (some a), .int .u64 406])).run Tryd.prog w = .ok (some (41, a, 406)) w := by kernel_rfl
theorem rl.parts25 (a : Addr) (w : World) : (ReflectliteValue.parts (.agg #[.pointer (some ⟨23, 41, none⟩), .pointer (some a), .int .u64 150])).run Tryd.prog w = .ok (some (41, a, 150)) w := by kernel_rfl
theorem rl.direct25 (w : World) : (Rtype.directlyAssignable 41 41).run Tryd.prog w = .ok true w := by kernel_rfl
theorem rl.size25 (w : World) : (sizeOf 41).run Tryd.prog w = .ok 1 w := by kernel_rfl
/-- (Value).Set: the *p.E variable at 'ta' gets what the Value's own variable 'b' holds. -/
theorem rl.set25 (ta b e : Addr) (old : Value) (W : World) (hb : W.cell? b = some (.pointer (some e))) (ht : W.cell? ta = some old) (hf : W.frozen? ta = false) :
    (ReflectliteValue.set #[.agg #[.pointer (some ⟨23, 41, none⟩), .pointer (some ta), .int .u64 406], .agg #[.pointer (some ⟨23, 41, none⟩), .pointer (some b), .int .u64 150]]).run Tryd.prog W
      = .ok (.tuple #[]) (W.setCell ta (.pointer (some e))) := by
  rw [rls]
  simp only [Sem.run_bind, rl.parts25a, rl.parts25, Result.andThen]
  simp [ReflectliteValue.flagAddr, loadVar, isAgg, underlying, Tryd.underlying41, hb, Result.andThen, rl.direct25, storeVar, Value.cells, storeCells, Addr.add]
  rw [run_store Tryd.prog W ta _ _ (by rfl)]
  simp [ht, hf]

set_option maxHeartbeats 4000000 in
theorem as_hit (e t : Addr) (old : Value) (w : World) (hg : w.cell? ⟨10, 0, none⟩ = some (.iface 84 (.agg #[.pointer (some ⟨23, 24, none⟩)]))) (ht0 : w.cell? t = some old) (hf0 : w.frozen? t = false) :
    Calls Tryd.prog 29 #[.iface 41 (.pointer (some e)), .iface 54 (.pointer (some t))] w fun ev w' => ev = .returned (.bool true) ∧ w' = ((((w.alloc (.cells #[.pointer (some t)] 54)).alloc (.cells #[.pointer (some ⟨23, 54, none⟩), .pointer (some ⟨w.heap.size, 0, none⟩), .int .u64 150] 72)).alloc (.cells #[.pointer (some ⟨23, 54, none⟩), .pointer (some ⟨w.heap.size, 0, none⟩), .int .u64 150] 72)).alloc (.cells #[.pointer (some e)] 41)).setCell t (.pointer (some e)) := by
  have h6 := @run_callFunc_extern Tryd.prog 46 _ (fun args => ReflectliteValue.unpack (args.getD 0 (.tuple #[]))) Tryd.func46 (by kernel_rfl) (by kernel_rfl) (by kernel_rfl) (by kernel_rfl)
  have h7 := @run_callFunc_extern Tryd.prog 47 _ (ReflectliteValue.methodAny (ReflectliteValue.valueError "reflectlite.Value.Type" 0) (fun t _ _ _ => ReflectliteType.toType t)) Tryd.func47 (by kernel_rfl) (by kernel_rfl) (by kernel_rfl) (by kernel_rfl)
  have h8 := @run_callFunc_extern Tryd.prog 48 _ (ReflectliteValue.method (ReflectliteValue.valueError "reflectlite.Value.IsNil" 0) ReflectliteValue.isNil) Tryd.func48 (by kernel_rfl) (by kernel_rfl) (by kernel_rfl) (by kernel_rfl)
  have h27 := @run_callFunc_extern Tryd.prog 85 _ (ReflectliteType.abiMethod fun t => do pure (.int .u8 (← Rtype.kind t))) Tryd.func85 (by kernel_rfl) (by kernel_rfl) (by kernel_rfl) (by kernel_rfl)
  have h37 := @run_callFunc_extern Tryd.prog 96 _ (ReflectliteType.method ReflectliteType.elem) Tryd.func96 (by kernel_rfl) (by kernel_rfl) (by kernel_rfl) (by kernel_rfl)
  have h38 := @run_callFunc_extern Tryd.prog 97 _ (ReflectliteType.relation "Implements" ReflectliteType.implements_) Tryd.func97 (by kernel_rfl) (by kernel_rfl) (by kernel_rfl) (by kernel_rfl)
  have h10 := @run_callFunc_extern Tryd.prog 39 _ ReflectliteType.typeOf Tryd.func39 (by kernel_rfl) (by kernel_rfl) (by kernel_rfl) (by kernel_rfl)
  have h35 := @run_callFunc_extern Tryd.prog 94 _ (ReflectliteType.relation "AssignableTo" ReflectliteType.assignableTo) Tryd.func94 (by kernel_rfl) (by kernel_rfl) (by kernel_rfl) (by kernel_rfl)
  have h11 := @run_callFunc_extern Tryd.prog 55 _ (ReflectliteValue.method (ReflectliteValue.valueError "reflectlite.Value.Elem" 0) ReflectliteValue.elem) Tryd.func55 (by kernel_rfl) (by kernel_rfl) (by kernel_rfl) (by kernel_rfl)
  have h12 := @run_callFunc_extern Tryd.prog 56 _ ReflectliteValue.set Tryd.func56 (by kernel_rfl) (by kernel_rfl) (by kernel_rfl) (by kernel_rfl)
  have tO := rl.typeOf25
  have mA := rl.methodAssignableTo
  have a25 := rl.assignable25
  have v25 := rl.valueOf25
  have f6 := rl.valueOf27
  have f7 := rl.type27
  have mK := rl.methodKind
  have mE := rl.methodElem
  have mI := rl.methodImplements
  have k27 := rl.kind27
  have k25 := rl.kind25
  have e27 := rl.elem27
  have i25 := rl.implements25
  have n8 := rl.isNil27 ⟨w.heap.size, 0, none⟩ t ((w.alloc (.cells #[.pointer (some t)] 54)).alloc (.cells #[.pointer (some ⟨23, 54, none⟩), .pointer (some ⟨w.heap.size, 0, none⟩), .int .u64 150] 72)) (by simp)
  have hlt : 10 < w.heap.size := cell_lt hg
  have hg2 : ((w.alloc (.cells #[.pointer (some t)] 54)).alloc (.cells #[.pointer (some ⟨23, 54, none⟩), .pointer (some ⟨w.heap.size, 0, none⟩), .int .u64 150] 72)).cell? ⟨10, 0, none⟩ = some (.iface 84 (.agg #[.pointer (some ⟨23, 24, none⟩)])) := by
    rw [World.cell?_alloc_lt _ _ ⟨10, 0, none⟩ (by simp; omega), World.cell?_alloc_lt _ _ ⟨10, 0, none⟩ hlt]; exact hg
  have htl : t.block < w.heap.size := by
    rcases Nat.lt_or_ge t.block w.heap.size with h | h
    · exact h
    · simp [World.cell?, Array.getElem?_eq_none h] at ht0
  have el := rl.elemV27 ⟨w.heap.size, 0, none⟩ t (((w.alloc (.cells #[.pointer (some t)] 54)).alloc (.cells #[.pointer (some ⟨23, 54, none⟩), .pointer (some ⟨w.heap.size, 0, none⟩), .int .u64 150] 72)).alloc (.cells #[.pointer (some ⟨23, 54, none⟩), .pointer (some ⟨w.heap.size, 0, none⟩), .int .u64 150] 72)) (by rw [World.cell?_alloc_lt _ _ ⟨w.heap.size, 0, none⟩ (by simp; omega)]; simp)
  have st := rl.set25 t ⟨w.heap.size + 1 + 1 + 1, 0, none⟩ e old ((((w.alloc (.cells #[.pointer (some t)] 54)).alloc (.cells #[.pointer (some ⟨23, 54, none⟩), .pointer (some ⟨w.heap.size, 0, none⟩), .int .u64 150] 72)).alloc (.cells #[.pointer (some ⟨23, 54, none⟩), .pointer (some ⟨w.heap.size, 0, none⟩), .int .u64 150] 72)).alloc (.cells #[.pointer (some e)] 41))
    (by rw [World.cell?_alloc_at _ _ _ _ (by simp)]; rfl)
    (by rw [World.cell?_alloc_lt _ _ t (by simp; omega), World.cell?_alloc_lt _ _ t (by simp; omega), World.cell?_alloc_lt _ _ t (by simp; omega), World.cell?_alloc_lt _ _ t htl]; exact ht0)
    (by rw [World.frozen?_alloc_old _ _ t (by simp; omega), World.frozen?_alloc_old _ _ t (by simp; omega), World.frozen?_alloc_old _ _ t (by simp; omega), World.frozen?_alloc_old _ _ t (Nat.ne_of_lt htl)]; exact hf0)
  go_enter Tryd.func29, Tryd.ntmps29
  go_wp2
  refine wp_loop_rounds 1 ?_
  rw [rounds_succ]
  go_wp2
  go_ret
  exact ⟨rfl, rfl⟩
/-- errors.As at a fault, what a caller asks of it: true; the variable holds the fault's place; what lay elsewhere lies as it did. -/
theorem as_fault (e t : Addr) (old : Value) (B : Nat) (w : World) (hg : w.cell? ⟨10, 0, none⟩ = some (.iface 84 (.agg #[.pointer (some ⟨23, 24, none⟩)])))
    (ht0 : w.cell? t = some old) (hf0 : w.frozen? t = false) (hB : B ≤ t.block) (htl : t.block < w.heap.size) :
    Calls Tryd.prog 29 #[.iface 41 (.pointer (some e)), .iface 54 (.pointer (some t))] w fun ev w' => ev = .returned (.bool true) ∧ Below B w w' ∧ w'.cell? t = some (.pointer (some e)) ∧
      (∀ b, b < w.heap.size → b ≠ t.block → w'.heap[b]? = w.heap[b]?) := by
  refine (as_hit e t old w hg ht0 hf0).mono ?_
  rintro ev w' ⟨rfl, rfl⟩
  have h4 : Below w.heap.size w ((((w.alloc (.cells #[.pointer (some t)] 54)).alloc (.cells #[.pointer (some ⟨23, 54, none⟩), .pointer (some ⟨w.heap.size, 0, none⟩), .int .u64 150] 72)).alloc (.cells #[.pointer (some ⟨23, 54, none⟩), .pointer (some ⟨w.heap.size, 0, none⟩), .int .u64 150] 72)).alloc (.cells #[.pointer (some e)] 41)) :=
    ((((Below.refl _ w).alloc (Nat.le_refl _) _).alloc (by simp) _).alloc (by simp; omega) _).alloc (by simp; omega) _
  refine ⟨rfl, (h4.mono (by omega)).setCell hB _, ?_, fun b hb hne => ?_⟩
  · exact World.cell?_setCell_same _ _ _ (u := old) ((h4.cell (p := t) htl).trans ht0)
  · rw [← h4.block b hb]
    exact Below.heap_setCell _ _ _ _ hne
end Go.Proofs.YtinobikikineiaaDoor
