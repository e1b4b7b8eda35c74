/- ScriptAll: the row (the form with a bound) and its card: for every list of texts the law returns true. The listed variables lie as the program's text lays them (the card ties them). -/
import Derived.Test.YtinobikikineiabGreatDoorCards
import Derived.Test.YtinobikikineiabGreatDoorTie
import Derived.Test.YtinobikikineiabGreatDoorSSent
import Derived.WalkKit
import Derived.ProofKit
import Derived.OpenShut
import Derived.LaidMore
import Derived.Deep.DeepHandedRow
import Derived.Deep.DeepWitnessRowRef
import Derived.Test.YtinobikikineiabGreatDoorSLawAll
import Derived.Deep.Slices
import Derived.ChangeSame
import Derived.Carry
import Derived.Lib.LaidTab
namespace Go.Proofs.YtinobikikineiabGreatDoor
open Go.ChangeShapes Go.WideShapes Go.ChangeAt Go.RowKit

theorem own : ownKnob Tryz.prog.godebug = none := by kernel_rfl
/-- The cells of a table of integers. -/
def tableCells (d : DataW Unit) : Array Value := match d with
  | .agg l => (l.map fun x => match x with
    | .lit (.int k n) => Value.int k n
    | _ => undef).toArray
  | _ => #[]
/-- A start for the witnesses: the heap that the door's own run leaves, the pinned table laid in it. -/
noncomputable def laidWorld (os : Os) : World :=
  { World.doorLaid Tryz.prog 395 os with heap := (World.doorLaid Tryz.prog 395 os).heap.modify 20 fun
      | .cells _ t frozen => .cells (tableCells Go.Pinned.utf8First) t frozen
      | o => o }

section
variable {H : Type} {enc : TypeId × Value → H} {P : Program}
/-- A row's last step where the call has laid blocks of its own, frozen ones too, and nothing that lay ahead has turned. -/
theorem post_below {f : Func} {s : ChangeSpec} {apart fresh handsOn again : Bool} {W W' : World} {args : Array Value} {v : Value} {ds gs : List (DataW H)} {before pa pv : List MemPlace}
    (hW : DataW.Whole enc P f.params.toList s.vars apart W args.toList ds gs before)
    (hres : ∀ (b : Nat) (sp : Nat → Bool) (hd : Bool), DataW.TrodAll enc P W' b sp hd f.resultTypes.toList (v.resultList f.resultTypes.size) (s.fn H (ds ++ gs)).results [])
    (hargs : ∀ sp : Nat → Bool, (∀ p ∈ before, sp p.block = true) → DataW.TrodAll enc P W' 0 sp true f.params.toList args.toList (s.fn H (ds ++ gs)).args pa)
    (hvars : ∀ sp : Nat → Bool, (∀ p ∈ before, sp p.block = true) → DataW.TrodVars enc P W' sp s.vars (s.fn H (ds ++ gs)).vars pv)
    (hps : before = pa ++ pv) (hb : Below W.heap.size W W')
    (hok : ∀ (j : Nat) (t : TypeId) (r : Value), f.resultTypes[j]? = some t → (v.resultList f.resultTypes.size)[j]? = some r → Value.okWide P W' .any 0 t r) :
    s.post enc P f apart fresh handsOn again W args v W' := by
  have hlt : ∀ p ∈ before, p.block < W.heap.size := fun p hp => hW.lt p hp
  have hold : ∀ p ∈ before, (fun b => decide (b < W.heap.size)) p.block = true := fun p hp => by simpa using hlt p hp
  refine ⟨ds, gs, before, [], pa, pv, hW, hres _ _ _, hargs _ hold, hvars _ hold, World.keptBut_mono (fun p hp => ⟨hp, ?_⟩) (hb.frame (· ∈ before)), fun _ => ?_⟩
  · rw [hps, List.mem_append] at hp
    exact Or.inr hp
  · obtain ⟨_, _, _, _, _, hz, hn⟩ := hW
    refine ⟨hok, _, _, ([] ++ pa) ++ pv, ⟨[] ++ pa, pv, trodAll_append (hargs _ (fun _ _ => rfl)) (hres _ _ _), hvars _ (fun _ _ => rfl), rfl, ?_, ?_⟩, ?_⟩
    · intro b off hp
      have hin : MemPlace.cell b off ∈ before := by rw [hps]; simpa using hp
      rw [hb.frozen (hlt _ hin)]
      exact hz b off hin
    · intro ha
      have := hn ha
      rw [hps] at this
      simpa using this
    · intro p hp _
      rw [hps]
      simpa using hp
end
end Go.Proofs.YtinobikikineiabGreatDoor

namespace Go.Proofs.YtinobikikineiabGreatDoor.scriptAll
open Go.ChangeShapes Go.WideShapes Go.ChangeAt Go.RowKit Go.Deep

/-- What the row's list gives. -/
theorem errs {W : World} (h : laidMetH Tryz.prog Rows.scriptAllUptoRow.laid W) : ∃ E, Laid E nineteen W := by
  rw [MakeChecks.laidMetH_plain _ _ _ (by kernel_rfl)] at h
  exact laid_errs (items := itemsOf ((Rows.scriptAllUptoRow.laid.drop 1).take 19) [2, 0, 3, 4, 5, 6, 7, 8, 9, 10, 11, 12, 13, 14, 15, 16, 17, 18, 1]) (rest := Rows.scriptAllUptoRow.laid.drop 20) (first := Rows.scriptAllUptoRow.laid.getD 0 (default, .nil)) h (by kernel_rfl) (by kernel_rfl) (by decide) (by kernel_rfl) (by kernel_rfl)

theorem hl : laidOutB Tryz.prog = true := by kernel_rfl
theorem readable : Tryz.prog.readableRec 22 = true := by kernel_rfl
theorem rowed : 22 < Tryz.prog.types.size := of_decide_eq_true (by kernel_rfl)
theorem cS : Tryz.prog.cellsOf 9 = 1 := by kernel_rfl
theorem spot_none {W : World} {a : Addr} {v : Value} (h : W.cell? a = some v) : a.spot = none := by
  cases hsp : a.spot with
  | none => rfl
  | some s =>
    simp only [World.cell?] at h
    split at h
    · simp [hsp] at h
    · cases h
theorem add_of (b off j : Nat) : (⟨b, off, none⟩ : Addr).add j = ⟨b, off + j, none⟩ := by
  unfold Addr.add
  split
  · rename_i h; subst h; rfl
  · simp
theorem list_of {α : Type} (n : Nat) (Q : Nat → α → Prop) (h : ∀ i, i < n → ∃ t, Q i t) : ∃ ts : List α, ts.length = n ∧ ∀ (i : Nat) (t : α), ts[i]? = some t → Q i t := by
  induction n with
  | zero => exact ⟨[], rfl, fun i t h => by simp at h⟩
  | succ n ih =>
    obtain ⟨ts, h1, h2⟩ := ih (fun i hi => h i (by omega))
    obtain ⟨t, ht⟩ := h n (by omega)
    refine ⟨ts ++ [t], by simp [h1], fun i u hu => ?_⟩
    rw [List.getElem?_append] at hu
    split at hu
    · exact h2 i u hu
    · rename_i hlt
      have hi : i = n := by
        have := (List.getElem?_eq_some_iff.1 hu).1
        simp at this; omega
      subst hi
      rw [h1, Nat.sub_self] at hu
      simp at hu
      subst hu; exact ht
section
variable {H : Type} {enc : TypeId × Value → H} {W : World} {base n : Nat} {spare : Nat → Bool} {held : Bool} {cs : List Value} {x : DataW H × List MemPlace}
/-- A list of texts that came in, opened to its cells. -/
theorem open_texts (h : DataW.trod enc Tryz.prog W base spare held n 22 cs = some x) : ∃ (A : Option Addr) (c : Nat) (l : List ByteArray), cs = [.slice A l.length c] ∧ ReadsS W (.slice A l.length c) l ∧
    ∀ t ∈ l, ∀ R, (∀ k ∈ x.1.weights Tryz.prog 22, k ≤ R) → t.size ≤ R := by
  rcases open_slice1 Tryz.underlying22 cS h with ⟨hc, _⟩ | ⟨a, len, cap, m, k, V, D, Pl, hc, _, hle, hm, hmm, hx, hi⟩
  · exact ⟨none, 0, [], hc, ⟨none, 0, rfl, Nat.le_refl _, fun h => absurd rfl h⟩, fun t ht => by cases ht⟩
  · have hlm : len ≤ m := by rw [hmm]; split <;> omega
    obtain ⟨l, hl, hq⟩ := list_of len (fun (i : Nat) (t : ByteArray) => W.cell? (a.add i) = some (.string t) ∧ ∀ R, (∀ k ∈ (D i).weights Tryz.prog 9, k ≤ R) → t.size ≤ R) (fun i hil => by
      obtain ⟨h1, h2⟩ := hi i (by omega)
      obtain ⟨z, e, hy, _⟩ := DataW.trod_string Tryz.underlying9 h2
      injection e with e _
      refine ⟨z, by rw [h1, e], fun R hR => ?_⟩
      have h3 := hR z.data.toList.length (by
        rw [show D i = .lit (.string z.data.toList) from congrArg Prod.fst hy]
        unfold DataW.weights
        exact List.mem_singleton.2 rfl)
      rw [bytes_size] at h3
      exact h3)
    refine ⟨some a, cap, l, by rw [hl]; exact hc, ⟨some a, cap, rfl, by omega, fun hne => ?_⟩, fun t ht R hR => ?_⟩
    · obtain ⟨z, hz⟩ : ∃ z, l[0]? = some z := ⟨_, List.getElem?_eq_getElem (List.length_pos_iff.2 hne)⟩
      have h0 := (hq 0 z hz).1
      have hs : a.spot = none := by
        have := spot_none h0
        unfold Addr.add at this
        simpa using this
      obtain ⟨b, off, sp⟩ := a
      subst hs
      exact ⟨b, off, rfl, fun j u hu => by have := (hq j u hu).1; rwa [add_of] at this⟩
    · obtain ⟨i, hi2⟩ := List.getElem?_of_mem ht
      have hil := (List.getElem?_eq_some_iff.1 hi2).1
      refine (hq i t hi2).2 R fun k hk => hR k ?_
      rw [hx]
      refine (show k ∈ DataW.weights Tryz.prog 22 (.slice ((List.range len).map D) ((List.range (m - len)).map fun j => D (len + j))) from ?_)
      unfold DataW.weights
      rw [Tryz.underlying22]
      refine List.mem_cons_of_mem _ (List.mem_append_left _ ?_)
      have key : ∀ (l : List (DataW H)) (y : DataW H), y ∈ l → ∀ k ∈ y.weights Tryz.prog 9, k ∈ DataW.weightsAll Tryz.prog 9 l := by
        intro l
        induction l with
        | nil => intro y hy; cases hy
        | cons z l ih =>
          intro y hy k hk
          unfold DataW.weightsAll
          rcases List.mem_cons.1 hy with rfl | hy
          · exact List.mem_append_left _ hk
          · exact List.mem_append_right _ (ih y hy k hk)
      exact key _ (D i) (List.mem_map_of_mem (List.mem_range.2 (by omega))) _ hk
end

set_option maxRecDepth 100000 in
theorem contract (H : Type) (enc : TypeId × Value → H) (W : World) (base : Nat) (args : Array Value) (ds gs : List (DataW H)) (before : List MemPlace)
    (hval : ∀ (j : Nat) t v, Tryz.f3.params[j]? = some t → args[j]? = some v → Value.okWide Tryz.prog W .any base t v)
    (hW : DataW.Whole enc Tryz.prog Tryz.f3.params.toList Rows.scriptAllSpec.vars false W args.toList ds gs before) (hL : laidMetH Tryz.prog Rows.scriptAllUptoRow.laid W)
    (hsz : (DataW.weightsEach Tryz.prog (Tryz.f3.params.toList ++ (OpenSpec.ofChange Rows.scriptAllSpec).bare.plain.varTypes Tryz.prog) (ds ++ gs)).all (· ≤ reachBytes) = true) :
    Calls Tryz.prog 3 args W fun e W' => ∃ v, e = .returned v ∧ Rows.scriptAllSpec.post enc Tryz.prog Tryz.f3 false true false false W args v W' := by
  have hW' := hW
  obtain ⟨p, q, hA0, hV, rfl, hfz, hnd⟩ := hW
  have hA : DataW.TrodAll enc Tryz.prog W 0 (fun _ => true) true Tryz.f3.params.toList args.toList ds p := hA0
  rw [Tryz.params3] at hA hval hsz
  obtain ⟨v0, d0, rfl, rfl, h0⟩ := trodAll_one hA
  obtain ⟨rfl, rfl⟩ := trodVars_none hV
  clear hA0
  simp only [List.append_nil] at hW'
  obtain ⟨a, n0, c0, rfl⟩ := okWide_slice Tryz.underlying22 (hval 0 22 v0 rfl rfl)
  have h0' := h0
  obtain ⟨fuel, hf⟩ := h0'
  obtain ⟨A, c, ts, hcs, hr, hfit⟩ := open_texts hf
  have hcs' : ([Value.slice a n0 c0] : List Value) = [.slice A ts.length c] := hcs
  injection hcs' with hcs' _
  rw [hcs'] at h0 hW' ⊢
  have hall : ∀ t ∈ ts, t.size ≤ 281474976710656 := fun t ht =>
    Nat.le_trans (hfit t ht reachBytes fun k hk => by simpa using List.all_eq_true.1 hsz _ (DataW.weights_mem_each (j := 0) rfl rfl _ hk)) (by decide)
  clear hsz
  obtain ⟨E, hE⟩ := errs hL
  refine (all_true A ts.length c ts E W hE hr hall).mono fun e W' ⟨he, hb⟩ => ?_
  subst he
  exact ⟨_, rfl, post_below (pa := p) (pv := []) hW' (fun _ _ _ => trodAll_mk1 (shut_bool Tryz.underlying4 _)) (fun _ hsp => trodAll_mk1 (WideElems.Trod_stays hl readable rowed h0 (fun x hx => hb.same (hW'.lt x (by simpa using hx))) (fun x hx => hsp x (by simpa using hx)))) (fun _ _ => rfl) (by simp)
    hb (ok_one (by kernel_rfl) rfl (okWide_bool_mk Tryz.underlying4 _))⟩

set_option maxRecDepth 100000 in
theorem laid_met (os : Os) : laidMetH Tryz.prog Rows.scriptAllUptoRow.laid ((laidWorld os).forCall (fun _ _ => 0) ⟨#[], #[.slice none 0 0], []⟩).memory := by
  rw [MakeChecks.laidMetH_plain _ _ _ (by kernel_rfl)]
  exact laidMet_of_run' 8 (by kernel_rfl) (by kernel_rfl)
theorem reads (os : Os) {H : Type} (enc : TypeId × Value → H) : ∃ places, DataW.whole enc Tryz.prog ((laidWorld os).forCall (fun _ _ => 0) ⟨#[], #[.slice none 0 0], []⟩).memory Tryz.f3.params.toList Rows.scriptAllSpec.vars false #[Value.slice none 0 0].toList 8 = some ([.nil], [], places) :=
  ⟨[], by kernel_rfl⟩

set_option maxRecDepth 100000 in
theorem lifted (os : Os) (started : os.Started) (H : Type) (enc : TypeId × Value → H) (F : Stop.Interp) :
    ReturnsInHanded {} Tryz.checked os 3 .any ((Rows.OpenSpec.upto Rows.scriptAllSpec).preRow enc Tryz.prog Tryz.f3 Rows.scriptAllUptoRow.domain false Rows.scriptAllUptoRow.laid) (((Rows.OpenSpec.upto Rows.scriptAllSpec).at F).post enc Tryz.prog Tryz.f3 false true false false) := by
  obtain ⟨places, hx⟩ := reads os enc
  refine returnsInHanded_of_row (C := Tryz.checked) (s := Rows.OpenSpec.upto Rows.scriptAllSpec) own started (by kernel_rfl) Tryz.func3
    (witness_row_atRef (enc := enc) (C := Tryz.checked) false (laidWorld os) #[.slice none 0 0] rfl (by kernel_rfl) (by kernel_rfl) (by kernel_rfl)
      (OpenSpec.preRow_of_cond 8 hx (by kernel_rfl) (fun k hk => by cases hk; kernel_rfl) (by kernel_rfl) (laid_met os))) ?_
  intro W base args ds gs before hval hW _ _ hsz hL _ _
  exact contract H enc W base args ds gs before hval hW hL hsz

theorem said : Rows.ScriptAllUptoSaid :=
  OpenClaim.holds_of_cond 3 Tryz.f3 rfl rfl rfl rfl rfl rfl rfl ⟨rfl, rfl, rfl, rfl, rfl⟩ rfl rfl rfl rfl rfl (by kernel_rfl) Tryz.func3 (by kernel_rfl)
    (of_decide_eq_true (by kernel_rfl)) (by unfold Func.isWrapper; rw [if_neg (of_decide_eq_false (by kernel_rfl))]; exact ⟨rfl, rfl⟩)
    (fun os started H enc _ F => by rw [OpenClaim.pre_eq_preRow]; exact lifted os started H enc F)

theorem plain (f : FuncId) (fn : Func) (hf : Tryz.pinned.checked.prog.funcNamed Rows.scriptAllUptoRow.func = some f) (hfn : Tryz.pinned.checked.prog.funcs[f]? = some fn) :
    true = Tryz.pinned.checked.prog.looks [] ∧ ∀ (j : Nat) t, fn.params[j]? = some t → Tryz.pinned.checked.prog.wantsStandIn t = false := by
  obtain rfl : f = 3 := Option.some.inj ((show Tryz.prog.funcNamed Rows.scriptAllUptoRow.func = some 3 by kernel_rfl).symm.trans hf) |>.symm
  obtain rfl : fn = Tryz.f3 := (Option.some.inj (Tryz.func3.symm.trans hfn)).symm
  refine ⟨by kernel_rfl, fun j t ht => ?_⟩
  rw [Tryz.params3] at ht
  obtain rfl : t = 22 := by simpa using Array.mem_of_getElem? ht
  exact (show Tryz.prog.wantsStandIn 22 = false by kernel_rfl)

/-- ScriptAll's card, the form with a bound. -/
theorem card : Rows.ScriptAllUptoCardSaid :=
  Claim7.holds_tied_plain_at .later [] _ _ _ _ said (fun _ h => by cases h) (by kernel_rfl) (fun _ h => by cases h) scriptAllUpto_row_tie rfl ⟨rfl, rfl⟩ (by kernel_rfl) rfl plain (by kernel_rfl)
end Go.Proofs.YtinobikikineiabGreatDoor.scriptAll
