/- LexisLines: the row and the card: for every list of words the law returns true. The listed variables lie as the program's text lays them (the card ties them). -/
import Derived.Test.YtinobikikineiaaDoorFrame
import Derived.Test.YtinobikikineiaaDoorLawLines
import Derived.Deep.Slices
import Derived.Deep.Fields
import Derived.ChangeSame
import Derived.Carry
namespace Go.Proofs.YtinobikikineiaaDoor.lexisLines
open Go.ChangeShapes Go.WideShapes Go.ChangeAt Go.RowKit Go.Deep
open Go.ChangeMaps (open_string shut_string)

/-- What the row's list gives. -/
theorem errs {W : World} (h : laidMetH Tryd.prog Rows.lexisLinesRow.laid W) : ∃ E, Laid E two W := by
  rw [MakeChecks.laidMetH_plain _ _ _ (by kernel_rfl)] at h
  exact laid_errs (items := itemsOf ((Rows.lexisLinesRow.laid.drop 1).take 2) [1, 0]) (rest := Rows.lexisLinesRow.laid.drop 3) (first := Rows.lexisLinesRow.laid.getD 0 (default, .nil)) h (by kernel_rfl) (by kernel_rfl) (by decide) (by kernel_rfl) (by kernel_rfl)

theorem hl : laidOutB Tryd.prog = true := by kernel_rfl
theorem readable : Tryd.prog.readableRec 22 = true := by kernel_rfl
theorem rowed : 22 < Tryd.prog.types.size := of_decide_eq_true (by kernel_rfl)
theorem tokCells : Tryd.prog.cellsOf 29 = 4 := by kernel_rfl
theorem spot_none {W : World} {a : Addr} {v : Value} (h : W.cell? a = some v) : a.spot = none := by
  cases hsp : a.spot with
  | none => rfl
  | some s =>
    simp only [World.cell?] at h
    split at h
    · simp [hsp] at h
    · cases h
theorem flat_at (ts : List TokV) (j : Nat) (u : Value) (h : (flat ts)[j]? = some u) : ∃ t, ts[j / 4]? = some t ∧ t.cells[j % 4]? = some u := by
  have hj := (List.getElem?_eq_some_iff.1 h).1
  rw [flat_length] at hj
  obtain ⟨t, ht⟩ : ∃ t, ts[j / 4]? = some t := ⟨_, List.getElem?_eq_getElem (by omega)⟩
  refine ⟨t, ht, ?_⟩
  rw [← flat_cells ts (j / 4) t ht (j % 4) (Nat.mod_lt _ (by omega)), show j / 4 * 4 + j % 4 = j by omega]
  exact h
theorem toks_of (n : Nat) (Q : Nat → TokV → Prop) (h : ∀ i, i < n → ∃ t, Q i t) : ∃ ts : List TokV, ts.length = n ∧ ∀ (i : Nat) (t : TokV), ts[i]? = some t → Q i t := by
  induction n with
  | zero => exact ⟨[], rfl, fun i t h => by simp at h⟩
  | succ n ih =>
    obtain ⟨ts, h1, h2⟩ := ih (fun i hi => h i (by omega))
    obtain ⟨t, ht⟩ := h n (by omega)
    refine ⟨ts ++ [t], by simp [h1], fun i u hu => ?_⟩
    rw [List.getElem?_append] at hu
    split at hu
    · exact h2 i u hu
    · rename_i hlt
      have hi : i = n := by
        have := (List.getElem?_eq_some_iff.1 hu).1
        simp at this; omega
      subst hi
      rw [h1, Nat.sub_self] at hu
      simp at hu
      subst hu; exact ht
theorem cI : Tryd.prog.cellsOf 3 = 1 := by kernel_rfl
theorem cS : Tryd.prog.cellsOf 9 = 1 := by kernel_rfl
/-- One word, by its four cells. -/
theorem open_tok {H : Type} {enc : TypeId × Value → H} {W : World} {base n : Nat} {spare : Nat → Bool} {held : Bool} {cs : List Value} {x : DataW H × List MemPlace} (h : DataW.trod enc Tryd.prog W base spare held n 29 cs = some x) (hlen : cs.length = 4) :
    ∃ t : TokV, cs = t.cells := by
  match cs, hlen with
  | [c0, c1, c2, c3], _ =>
    obtain ⟨ys, k, _, _, _, hyl, hf⟩ := DataW.trod_struct Tryd.underlying29 h
    match ys, hyl with
    | [y0, y1, y2, y3], _ =>
      have t0 : DataW.trod enc Tryd.prog W base spare held k 3 (([c0, c1, c2, c3].drop 0).take (Tryd.prog.cellsOf 3)) = some y0 := hf 0 _ rfl
      have t1 : DataW.trod enc Tryd.prog W base spare held k 9 (([c0, c1, c2, c3].drop 1).take (Tryd.prog.cellsOf 9)) = some y1 := hf 1 _ rfl
      have t2 : DataW.trod enc Tryd.prog W base spare held k 3 (([c0, c1, c2, c3].drop 2).take (Tryd.prog.cellsOf 3)) = some y2 := hf 2 _ rfl
      have t3 : DataW.trod enc Tryd.prog W base spare held k 3 (([c0, c1, c2, c3].drop 3).take (Tryd.prog.cellsOf 3)) = some y3 := hf 3 _ rfl
      rw [cI] at t0 t2 t3
      rw [cS] at t1
      obtain ⟨n0, e0, _, _⟩ := DataW.trod_int Tryd.underlying3 t0
      obtain ⟨s1, e1, _, _⟩ := DataW.trod_string Tryd.underlying9 t1
      obtain ⟨n2, e2, _, _⟩ := DataW.trod_int Tryd.underlying3 t2
      obtain ⟨n3, e3, _, _⟩ := DataW.trod_int Tryd.underlying3 t3
      injection e0 with e0 _
      injection e1 with e1 _
      injection e2 with e2 _
      injection e3 with e3 _
      subst e0 e1 e2 e3
      exact ⟨⟨n0, s1, n2, n3⟩, rfl⟩
/-- A list of words that came in, opened to its cells. -/
theorem open_toks {H : Type} {enc : TypeId × Value → H} {W : World} {base : Nat} {spare : Nat → Bool} {held : Bool} {fuel : Nat} {cs : List Value} {x : DataW H × List MemPlace} (h : DataW.trod enc Tryd.prog W base spare held fuel 22 cs = some x) :
    ∃ (A : Option Addr) (n c : Nat) (ts : List TokV), cs = [.slice A n c] ∧ Reads4 W (.slice A n c) ts ∧ (A = none → n = 0 ∧ c = 0) ∧ n ≤ maxLen := by
  rcases open_slice Tryd.underlying22 h with ⟨hc, _⟩ | ⟨a, len, cap, m, k, D, Pl, hc, _, hle, hm, hmm, _, hi⟩
  · exact ⟨none, 0, 0, [], hc, Reads4.nil W, fun _ => ⟨rfl, rfl⟩, by unfold maxLen; omega⟩
  · have hlm : len ≤ m := by rw [hmm]; split <;> omega
    obtain ⟨ts, hts, hq⟩ := toks_of len (fun i t => ∀ j u, t.cells[j]? = some u → W.cell? (a.add (i * 4 + j)) = some u) (fun i hil => by
      obtain ⟨cs', hcs, ht⟩ := hi i (by omega)
      rw [tokCells] at hcs
      obtain ⟨_, hcl, hat⟩ := World.cells?_some hcs
      obtain ⟨t, rfl⟩ := open_tok ht hcl
      refine ⟨t, fun j u hu => ?_⟩
      have hj : j < 4 := (List.getElem?_eq_some_iff.1 hu).1
      rw [← Go.Deep.add_add, hat j hj, hu])
    refine ⟨some a, len, cap, ts, hc, ⟨some a, cap, by rw [hts], by omega, fun hne => ?_⟩, fun h => (by cases h), by omega⟩
    obtain ⟨t, ht⟩ : ∃ t, ts[0]? = some t := ⟨_, List.getElem?_eq_getElem (List.length_pos_iff.2 hne)⟩
    have h0 := hq 0 t ht 0 _ rfl
    have hs : a.spot = none := by
      have := spot_none h0
      unfold Addr.add at this
      simpa using this
    obtain ⟨b, off, sp⟩ := a
    subst hs
    refine ⟨b, off, rfl, fun j u hu => ?_⟩
    obtain ⟨t', ht', hu'⟩ := flat_at ts j u hu
    have := hq (j / 4) t' ht' (j % 4) u hu'
    rw [show j / 4 * 4 + j % 4 = j by omega, add_of] at this
    exact this

set_option maxRecDepth 100000 in
theorem contract (H : Type) (enc : TypeId × Value → H) (W : World) (base : Nat) (args : Array Value) (ds gs : List (DataW H)) (before : List MemPlace)
    (hval : ∀ (j : Nat) t v, Tryd.f4.params[j]? = some t → args[j]? = some v → Value.okWide Tryd.prog W .any base t v)
    (hW : DataW.Whole enc Tryd.prog Tryd.f4.params.toList Rows.lexisLinesSpec.vars false W args.toList ds gs before) (hL : laidMetH Tryd.prog Rows.lexisLinesRow.laid W) :
    Calls Tryd.prog 4 args W fun e W' => ∃ v, e = .returned v ∧ Rows.lexisLinesSpec.post enc Tryd.prog Tryd.f4 false true false false W args v W' := by
  have hW' := hW
  obtain ⟨p, q, hA0, hV, rfl, hfz, hnd⟩ := hW
  have hA : DataW.TrodAll enc Tryd.prog W 0 (fun _ => true) true Tryd.f4.params.toList args.toList ds p := hA0
  rw [Tryd.params4] at hA hval
  obtain ⟨v0, d0, rfl, rfl, h0⟩ := trodAll_one hA
  obtain ⟨rfl, rfl⟩ := trodVars_none hV
  clear hA0
  simp only [List.append_nil] at hW'
  obtain ⟨a, n0, c0, rfl⟩ := okWide_slice Tryd.underlying22 (hval 0 22 v0 rfl rfl)
  have h0' := h0
  obtain ⟨fuel, hf⟩ := h0'
  obtain ⟨A, n, c, ts, hcs, hr, hA1, hn⟩ := open_toks hf
  have hcs' : ([Value.slice a n0 c0] : List Value) = [.slice A n c] := hcs
  injection hcs' with hcs' _
  rw [hcs'] at h0 hW' ⊢
  obtain ⟨E, hE⟩ := errs hL
  refine (lines_true A n c ts E W hE hr hA1 hn).mono fun e W' ⟨he, hb⟩ => ?_
  subst he
  exact ⟨_, rfl, post_below (pa := p) (pv := []) hW' (fun _ _ _ => trodAll_mk1 (shut_bool Tryd.underlying4 _)) (fun _ hsp => trodAll_mk1 (WideElems.Trod_stays hl readable rowed h0 (fun x hx => hb.same (hW'.lt x hx)) hsp)) (fun _ _ => rfl) (by simp)
    hb (ok_one (by kernel_rfl) rfl (okWide_bool_mk Tryd.underlying4 _))⟩

set_option maxRecDepth 100000 in
theorem laid_met (os : Os) : laidMetH Tryd.prog Rows.lexisLinesRow.laid ((laidWorld os).forCall (fun _ _ => 0) ⟨#[], #[.slice none 0 0], []⟩).memory := by
  rw [MakeChecks.laidMetH_plain _ _ _ (by kernel_rfl)]
  exact laidMet_of_run' 8 (by kernel_rfl) (by kernel_rfl)
theorem reads (os : Os) {H : Type} (enc : TypeId × Value → H) : ∃ places, DataW.whole enc Tryd.prog ((laidWorld os).forCall (fun _ _ => 0) ⟨#[], #[.slice none 0 0], []⟩).memory Tryd.f4.params.toList Rows.lexisLinesSpec.vars false #[Value.slice none 0 0].toList 8 = some ([.nil], [], places) :=
  ⟨[], by kernel_rfl⟩

set_option maxRecDepth 100000 in
theorem lifted (os : Os) (started : os.Started) (H : Type) (enc : TypeId × Value → H) (F : Stop.Interp) :
    ReturnsInHanded {} Tryd.checked os 4 .any ((OpenSpec.ofChange Rows.lexisLinesSpec).preRow enc Tryd.prog Tryd.f4 Rows.lexisLinesRow.domain false Rows.lexisLinesRow.laid) (((OpenSpec.ofChange Rows.lexisLinesSpec).at F).post enc Tryd.prog Tryd.f4 false true false false) := by
  obtain ⟨places, hx⟩ := reads os enc
  refine returnsInHanded_of_row (C := Tryd.checked) (s := OpenSpec.ofChange Rows.lexisLinesSpec) own started (by kernel_rfl) Tryd.func4
    (witness_row_atRef (enc := enc) (C := Tryd.checked) false (laidWorld os) #[.slice none 0 0] rfl (by kernel_rfl) (by kernel_rfl) (by kernel_rfl)
      (OpenSpec.preRow_of_cond 8 hx (by kernel_rfl) (fun k hk => by cases hk) (by kernel_rfl) (laid_met os))) ?_
  intro W base args ds gs before hval hW _ _ _ hL _ _
  exact contract H enc W base args ds gs before hval hW hL

theorem said : Rows.LexisLinesSaid :=
  OpenClaim.holds_of_cond 4 Tryd.f4 rfl rfl rfl rfl rfl rfl rfl ⟨rfl, rfl, rfl, rfl, rfl⟩ rfl rfl rfl rfl rfl (by kernel_rfl) Tryd.func4 (by kernel_rfl)
    (of_decide_eq_true (by kernel_rfl)) (by unfold Func.isWrapper; rw [if_neg (of_decide_eq_false (by kernel_rfl))]; exact ⟨rfl, rfl⟩)
    (fun os started H enc _ F => by rw [OpenClaim.pre_eq_preRow]; exact lifted os started H enc F)

theorem plain (f : FuncId) (fn : Func) (hf : Tryd.pinned.checked.prog.funcNamed Rows.lexisLinesRow.func = some f) (hfn : Tryd.pinned.checked.prog.funcs[f]? = some fn) :
    true = Tryd.pinned.checked.prog.looks [] ∧ ∀ (j : Nat) t, fn.params[j]? = some t → Tryd.pinned.checked.prog.wantsStandIn t = false := by
  obtain rfl : f = 4 := Option.some.inj ((show Tryd.prog.funcNamed Rows.lexisLinesRow.func = some 4 by kernel_rfl).symm.trans hf) |>.symm
  obtain rfl : fn = Tryd.f4 := (Option.some.inj (Tryd.func4.symm.trans hfn)).symm
  refine ⟨by kernel_rfl, fun j t ht => ?_⟩
  rw [Tryd.params4] at ht
  obtain rfl : t = 22 := by simpa using Array.mem_of_getElem? ht
  exact (show Tryd.prog.wantsStandIn 22 = false by kernel_rfl)

/-- LexisLines' card. -/
theorem card : Rows.LexisLinesCardSaid :=
  Claim7.holds_tied_plain_at .later [] _ _ _ _ said (fun _ h => by cases h) (by kernel_rfl) (fun _ h => by cases h) lexisLines_row_tie rfl ⟨rfl, rfl⟩ (by kernel_rfl) rfl plain (by kernel_rfl)
end Go.Proofs.YtinobikikineiaaDoor.lexisLines
