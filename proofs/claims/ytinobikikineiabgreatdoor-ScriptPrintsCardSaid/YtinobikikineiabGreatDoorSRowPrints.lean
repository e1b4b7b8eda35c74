/- ScriptPrints: the row and the card: for every list of commands the law returns true. The listed variables lie as the program's text lays them (the card ties them). -/
import Derived.Test.YtinobikikineiabGreatDoorSFrame
import Derived.Test.YtinobikikineiabGreatDoorSLawPrints
import Derived.Deep.Slices
import Derived.Deep.Fields
import Derived.ChangeSame
import Derived.Carry
import Derived.Lib.LaidTab
namespace Go.Proofs.YtinobikikineiabGreatDoor.scriptPrints
open Go.ChangeShapes Go.WideShapes Go.ChangeAt Go.RowKit Go.Deep
open Go.ChangeMaps (open_string shut_string)

/-- What the row's list gives. -/
theorem laid_three {L R : List (String × DataW Unit)} {a b c : String × DataW Unit} {W : World} (h : laidMet Tryz.prog L W) (hs : L = a :: b :: c :: R) : laidMet Tryz.prog (c :: R) W ∧ laidMet Tryz.prog R W := by
  subst hs
  exact ⟨h.tail.tail, h.tail.tail.tail⟩
theorem errs {W : World} (h : laidMetH Tryz.prog Rows.scriptPrintsRow.laid W) : Tab W ∧ ∃ E, Laid E nineteen W := by
  rw [MakeChecks.laidMetH_plain _ _ _ (by kernel_rfl)] at h
  obtain ⟨h1, h2⟩ := laid_three (a := Rows.scriptPrintsRow.laid.getD 0 (default, .nil)) (b := Rows.scriptPrintsRow.laid.getD 1 (default, .nil)) (c := ("internal/strconv.uint64pow10", Lib.tabData .u64 Lib.pow10Tab)) (R := Rows.scriptPrintsRow.laid.drop 3) h (by kernel_rfl)
  refine ⟨Lib.tabIs_of_head (g := 22) (t := 219) (e := 208) (n := 20) tab_named (by kernel_rfl) (by kernel_rfl) (by kernel_rfl) (by kernel_rfl) (by kernel_rfl) h1, ?_⟩
  exact laid_errs (items := itemsOf ((Rows.scriptPrintsRow.laid.drop 4).take 19) [2, 0, 3, 4, 5, 6, 7, 8, 9, 10, 11, 12, 13, 14, 15, 16, 17, 18, 1]) (rest := Rows.scriptPrintsRow.laid.drop 23) (first := Rows.scriptPrintsRow.laid.getD 3 (default, .nil)) h2 (by kernel_rfl) (by kernel_rfl) (by decide) (by kernel_rfl) (by kernel_rfl)

theorem hl : laidOutB Tryz.prog = true := by kernel_rfl
theorem readable : Tryz.prog.readableRec 38 = true := by kernel_rfl
theorem rowed : 38 < Tryz.prog.types.size := of_decide_eq_true (by kernel_rfl)
theorem cmdSize : Tryz.prog.cellsOf 52 = 3 := by kernel_rfl
theorem cI : Tryz.prog.cellsOf 3 = 1 := by kernel_rfl
theorem bI : Tryz.prog.bytesOf 3 = 8 := by kernel_rfl
theorem cS : Tryz.prog.cellsOf 9 = 1 := by kernel_rfl
theorem cL : Tryz.prog.cellsOf 50 = 1 := by kernel_rfl
theorem spot_none {W : World} {a : Addr} {v : Value} (h : W.cell? a = some v) : a.spot = none := by
  cases hsp : a.spot with
  | none => rfl
  | some s =>
    simp only [World.cell?] at h
    split at h
    · simp [hsp] at h
    · cases h
theorem add_of (b off j : Nat) : (⟨b, off, none⟩ : Addr).add j = ⟨b, off + j, none⟩ := by
  unfold Addr.add
  split
  · rename_i h; subst h; rfl
  · simp
theorem list_of {α : Type} (n : Nat) (Q : Nat → α → Prop) (h : ∀ i, i < n → ∃ t, Q i t) : ∃ ts : List α, ts.length = n ∧ ∀ (i : Nat) (t : α), ts[i]? = some t → Q i t := by
  induction n with
  | zero => exact ⟨[], rfl, fun i t h => by simp at h⟩
  | succ n ih =>
    obtain ⟨ts, h1, h2⟩ := ih (fun i hi => h i (by omega))
    obtain ⟨t, ht⟩ := h n (by omega)
    refine ⟨ts ++ [t], by simp [h1], fun i u hu => ?_⟩
    rw [List.getElem?_append] at hu
    split at hu
    · exact h2 i u hu
    · rename_i hlt
      have hi : i = n := by
        have := (List.getElem?_eq_some_iff.1 hu).1
        simp at this; omega
      subst hi
      rw [h1, Nat.sub_self] at hu
      simp at hu
      subst hu; exact ht
section
variable {H : Type} {enc : TypeId × Value → H} {W : World} {base n : Nat} {spare : Nat → Bool} {held : Bool} {cs : List Value} {x : DataW H × List MemPlace}
/-- A list of numbers that came in, opened to its cells. -/
theorem open_ints (h : DataW.trod enc Tryz.prog W base spare held n 50 cs = some x) : ∃ (A : Option Addr) (c : Nat) (l : List Int), cs = [.slice A l.length c] ∧ ReadsI W (.slice A l.length c) l ∧ l.length ≤ maxLen ∧ ∀ R, (∀ k ∈ x.1.weights Tryz.prog 50, k ≤ R) → l.length * 8 ≤ R := by
  rcases open_slice1 Tryz.underlying50 cI h with ⟨hc, _⟩ | ⟨a, len, cap, m, k, V, D, Pl, hc, _, hle, hm, hmm, hx, hi⟩
  · exact ⟨none, 0, [], hc, ReadsI.nil W, Nat.zero_le _, fun R _ => by simp⟩
  · have hlm : len ≤ m := by rw [hmm]; split <;> omega
    obtain ⟨l, hl, hq⟩ := list_of len (fun i z => W.cell? (a.add i) = some (.int .i64 z)) (fun i hil => by
      obtain ⟨h1, h2⟩ := hi i (by omega)
      obtain ⟨z, e, _, _⟩ := DataW.trod_int Tryz.underlying3 h2
      injection e with e _
      exact ⟨z, by rw [h1, e]⟩)
    have hw : ∀ R, (∀ k ∈ x.1.weights Tryz.prog 50, k ≤ R) → l.length * 8 ≤ R := by
      intro R hR
      have h1 : m * 8 ∈ x.1.weights Tryz.prog 50 := by
        rw [hx]
        refine (show m * 8 ∈ DataW.weights Tryz.prog 50 (.slice ((List.range len).map D) ((List.range (m - len)).map fun j => D (len + j))) from ?_)
        unfold DataW.weights
        rw [Tryz.underlying50]
        refine List.mem_cons.2 (.inl ?_)
        rw [bI, List.length_map, List.length_map, List.length_range, List.length_range]
        congr 1
        omega
      have h2 := hR _ h1
      omega
    refine ⟨some a, cap, l, by rw [hl]; exact hc, ⟨some a, cap, rfl, by omega, fun hne => ?_⟩, by omega, hw⟩
    obtain ⟨z, hz⟩ : ∃ z, l[0]? = some z := ⟨_, List.getElem?_eq_getElem (List.length_pos_iff.2 hne)⟩
    have h0 := hq 0 z hz
    have hs : a.spot = none := by
      have := spot_none h0
      unfold Addr.add at this
      simpa using this
    obtain ⟨b, off, sp⟩ := a
    subst hs
    exact ⟨b, off, rfl, fun j u hu => by have := hq j u hu; rwa [add_of] at this⟩
/-- One command, by its three cells. -/
theorem open_cmd (h : DataW.trod enc Tryz.prog W base spare held n 52 cs = some x) (hlen : cs.length = 3) :
    ∃ (d : Sc.Cmd) (B : Option Addr) (m : Nat), cs = [.string ⟨d.word.toArray⟩, .string ⟨d.text.toArray⟩, .slice B d.nums.length m] ∧ ReadsI W (.slice B d.nums.length m) d.nums ∧ d.nums.length ≤ maxLen ∧ ∀ R, (∀ k ∈ x.1.weights Tryz.prog 52, k ≤ R) → d.text.length ≤ R ∧ d.word.length ≤ R ∧ d.nums.length * 8 ≤ R := by
  match cs, hlen with
  | [c0, c1, c2], _ =>
    obtain ⟨ys, k, _, hx, _, hyl, hf⟩ := DataW.trod_struct Tryz.underlying52 h
    match ys, hyl with
    | [y0, y1, y2], _ =>
      have t0 : DataW.trod enc Tryz.prog W base spare held k 9 (([c0, c1, c2].drop 0).take (Tryz.prog.cellsOf 9)) = some y0 := hf 0 _ rfl
      have t1 : DataW.trod enc Tryz.prog W base spare held k 9 (([c0, c1, c2].drop 1).take (Tryz.prog.cellsOf 9)) = some y1 := hf 1 _ rfl
      have t2 : DataW.trod enc Tryz.prog W base spare held k 50 (([c0, c1, c2].drop 2).take (Tryz.prog.cellsOf 50)) = some y2 := hf 2 _ rfl
      rw [cS] at t0 t1
      rw [cL] at t2
      obtain ⟨s0, e0, hy0, _⟩ := DataW.trod_string Tryz.underlying9 t0
      obtain ⟨s1, e1, hy1, _⟩ := DataW.trod_string Tryz.underlying9 t1
      obtain ⟨B, m, l, e2, hr, hm, hl8⟩ := open_ints t2
      injection e0 with e0 _
      injection e1 with e1 _
      injection e2 with e2 _
      subst e0 e1 e2
      refine ⟨⟨s0.data.toList, s1.data.toList, l⟩, B, m, by rw [bytes_mk, bytes_mk], hr, hm, fun R hR => ?_⟩
      have sub : ∀ (j : Nat) (t : TypeId) (d : DataW H), ([9, 9, 50] : List TypeId)[j]? = some t → ([y0.1, y1.1, y2.1] : List (DataW H))[j]? = some d → ∀ k ∈ d.weights Tryz.prog t, k ≤ R := fun j t d ht hd k hk => by
        refine hR k ?_
        rw [hx]
        refine (show k ∈ DataW.weights Tryz.prog 52 (.agg [y0.1, y1.1, y2.1]) from ?_)
        unfold DataW.weights
        rw [Tryz.underlying52]
        exact DataW.weights_mem_each (j := j) (t := t) (d := d) ht hd _ hk
      refine ⟨sub 1 9 _ rfl rfl _ ?_, sub 0 9 _ rfl rfl _ ?_, hl8 R (sub 2 50 _ rfl rfl)⟩
      · rw [hy1]; unfold DataW.weights; exact List.mem_singleton.2 rfl
      · rw [hy0]; unfold DataW.weights; exact List.mem_singleton.2 rfl
/-- A list of commands that came in, opened to its cells. -/
theorem open_cmds (h : DataW.trod enc Tryz.prog W base spare held n 38 cs = some x) :
    ∃ (A : Option Addr) (k c : Nat) (ds : List Sc.Cmd), cs = [.slice A k c] ∧ ReadsC W (.slice A k c) ds ∧ k ≤ maxLen ∧ (∀ d ∈ ds, d.nums.length ≤ maxLen ∧ ∀ R, (∀ k ∈ x.1.weights Tryz.prog 38, k ≤ R) → d.text.length ≤ R ∧ d.word.length ≤ R ∧ d.nums.length * 8 ≤ R) := by
  rcases open_slice Tryz.underlying38 h with ⟨hc, _⟩ | ⟨a, len, cap, m, k, D, Pl, hc, _, hle, hm, hmm, hx, hi⟩
  · exact ⟨none, 0, 0, [], hc, ReadsC.nil W, Nat.zero_le _, fun d hd => by cases hd⟩
  · have hlm : len ≤ m := by rw [hmm]; split <;> omega
    obtain ⟨ds, hds, hq⟩ := list_of len (fun (i : Nat) (d : Sc.Cmd) => (∃ (B : Option Addr) (mm : Nat), (∀ j u, ([.string ⟨d.word.toArray⟩, .string ⟨d.text.toArray⟩, .slice B d.nums.length mm] : List Value)[j]? = some u → W.cell? (a.add (i * 3 + j)) = some u) ∧ ReadsI W (.slice B d.nums.length mm) d.nums) ∧ d.nums.length ≤ maxLen ∧ ∀ R, (∀ k ∈ (D i).weights Tryz.prog 52, k ≤ R) → d.text.length ≤ R ∧ d.word.length ≤ R ∧ d.nums.length * 8 ≤ R) (fun i hil => by
      obtain ⟨cs', hcs, ht⟩ := hi i (by omega)
      rw [cmdSize] at hcs
      obtain ⟨_, hcl, hat⟩ := World.cells?_some hcs
      obtain ⟨d, B, mm, rfl, hr, hm2, hw⟩ := open_cmd ht hcl
      refine ⟨d, ⟨B, mm, fun j u hu => ?_, hr⟩, hm2, hw⟩
      have hj : j < 3 := (List.getElem?_eq_some_iff.1 hu).1
      rw [← Go.Deep.add_add, hat j hj, hu])
    refine ⟨some a, len, cap, ds, hc, ⟨some a, cap, by rw [hds], by omega, fun hne => ?_⟩, by omega, fun d hd => ?_⟩
    · obtain ⟨d, hd⟩ : ∃ d, ds[0]? = some d := ⟨_, List.getElem?_eq_getElem (List.length_pos_iff.2 hne)⟩
      obtain ⟨⟨B, mm, h0, _⟩, _⟩ := hq 0 d hd
      have hs : a.spot = none := by
        have := spot_none (h0 0 _ rfl)
        unfold Addr.add at this
        simpa using this
      obtain ⟨b, off, sp⟩ := a
      subst hs
      refine ⟨b, off, rfl, fun j d hj => ?_⟩
      obtain ⟨⟨B, mm, h0, hr⟩, _⟩ := hq j d hj
      have e0 := h0 0 _ rfl
      have e1 := h0 1 _ rfl
      have e2 := h0 2 _ rfl
      rw [add_of] at e0 e1 e2
      exact ⟨B, mm, e0, by rw [Nat.add_assoc]; exact e1, by rw [Nat.add_assoc]; exact e2, hr⟩
    · obtain ⟨i, hi2⟩ := List.getElem?_of_mem hd
      have hil := (List.getElem?_eq_some_iff.1 hi2).1
      obtain ⟨_, hm2, hw⟩ := hq i d hi2
      refine ⟨hm2, fun R hR => hw R fun k hk => hR k ?_⟩
      rw [hx]
      refine (show k ∈ DataW.weights Tryz.prog 38 (.slice ((List.range len).map D) ((List.range (m - len)).map fun j => D (len + j))) from ?_)
      unfold DataW.weights
      rw [Tryz.underlying38]
      refine List.mem_cons_of_mem _ (List.mem_append_left _ ?_)
      have key : ∀ (l : List (DataW H)) (y : DataW H), y ∈ l → ∀ k ∈ y.weights Tryz.prog 52, k ∈ DataW.weightsAll Tryz.prog 52 l := by
        intro l
        induction l with
        | nil => intro y hy; cases hy
        | cons z l ih =>
          intro y hy k hk
          unfold DataW.weightsAll
          rcases List.mem_cons.1 hy with rfl | hy
          · exact List.mem_append_left _ hk
          · exact List.mem_append_right _ (ih y hy k hk)
      exact key _ (D i) (List.mem_map_of_mem (List.mem_range.2 (by omega))) _ hk
end

set_option maxRecDepth 100000 in
theorem contract (H : Type) (enc : TypeId × Value → H) (W : World) (base : Nat) (args : Array Value) (ds gs : List (DataW H)) (before : List MemPlace)
    (hval : ∀ (j : Nat) t v, Tryz.f4.params[j]? = some t → args[j]? = some v → Value.okWide Tryz.prog W .any base t v)
    (hW : DataW.Whole enc Tryz.prog Tryz.f4.params.toList Rows.scriptPrintsSpec.vars false W args.toList ds gs before) (hL : laidMetH Tryz.prog Rows.scriptPrintsRow.laid W)
    (hsz : (DataW.weightsEach Tryz.prog (Tryz.f4.params.toList ++ (OpenSpec.ofChange Rows.scriptPrintsSpec).bare.plain.varTypes Tryz.prog) (ds ++ gs)).all (· ≤ reachBytes) = true) :
    Calls Tryz.prog 4 args W fun e W' => ∃ v, e = .returned v ∧ Rows.scriptPrintsSpec.post enc Tryz.prog Tryz.f4 false true false false W args v W' := by
  have hW' := hW
  obtain ⟨p, q, hA0, hV, rfl, hfz, hnd⟩ := hW
  have hA : DataW.TrodAll enc Tryz.prog W 0 (fun _ => true) true Tryz.f4.params.toList args.toList ds p := hA0
  rw [Tryz.params4] at hA hval hsz
  obtain ⟨v0, d0, rfl, rfl, h0⟩ := trodAll_one hA
  obtain ⟨rfl, rfl⟩ := trodVars_none hV
  clear hA0
  simp only [List.append_nil] at hW'
  obtain ⟨a, n0, c0, rfl⟩ := okWide_slice Tryz.underlying38 (hval 0 38 v0 rfl rfl)
  have h0' := h0
  obtain ⟨fuel, hf⟩ := h0'
  obtain ⟨A, n, c, cs, hcs, hr, hn, hfit⟩ := open_cmds hf
  have hcs' : ([Value.slice a n0 c0] : List Value) = [.slice A n c] := hcs
  injection hcs' with hcs' _
  rw [hcs'] at h0 hW' ⊢
  have hall : ∀ d ∈ cs, d.text.length ≤ reachBytes ∧ d.word.length ≤ reachBytes ∧ d.nums.length * 8 ≤ reachBytes := fun d hd =>
    (hfit d hd).2 reachBytes fun k hk => by simpa using List.all_eq_true.1 hsz _ (DataW.weights_mem_each (j := 0) rfl rfl _ hk)
  have hF : Fit cs := fun d hd => ⟨Nat.le_trans (hall d hd).1 (by decide), (hfit d hd).1⟩
  have hFW : FitW cs := fun d hd => Nat.le_trans (hall d hd).2.1 (by decide)
  have hFN : FitN cs := fun d hd => (hall d hd).2.2
  clear hsz
  obtain ⟨htab, E, hE⟩ := errs hL
  refine (prints_true A n c cs E W hE htab hr hF hFW hFN hn).mono fun e W' ⟨he, hb⟩ => ?_
  subst he
  exact ⟨_, rfl, post_below (pa := p) (pv := []) hW' (fun _ _ _ => trodAll_mk1 (shut_bool Tryz.underlying4 _)) (fun _ hsp => trodAll_mk1 (WideElems.Trod_stays hl readable rowed h0 (fun x hx => hb.same (hW'.lt x (by simpa using hx))) (fun x hx => hsp x (by simpa using hx)))) (fun _ _ => rfl) (by simp)
    hb (ok_one (by kernel_rfl) rfl (okWide_bool_mk Tryz.underlying4 _))⟩

set_option maxRecDepth 100000 in
theorem laid_met (os : Os) : laidMetH Tryz.prog Rows.scriptPrintsRow.laid ((laidWorld os).forCall (fun _ _ => 0) ⟨#[], #[.slice none 0 0], []⟩).memory := by
  rw [MakeChecks.laidMetH_plain _ _ _ (by kernel_rfl)]
  exact laidMet_of_run' 8 (by kernel_rfl) (by kernel_rfl)
theorem reads (os : Os) {H : Type} (enc : TypeId × Value → H) : ∃ places, DataW.whole enc Tryz.prog ((laidWorld os).forCall (fun _ _ => 0) ⟨#[], #[.slice none 0 0], []⟩).memory Tryz.f4.params.toList Rows.scriptPrintsSpec.vars false #[Value.slice none 0 0].toList 8 = some ([.nil], [], places) :=
  ⟨[], by kernel_rfl⟩

set_option maxRecDepth 100000 in
theorem lifted (os : Os) (started : os.Started) (H : Type) (enc : TypeId × Value → H) (F : Stop.Interp) :
    ReturnsInHanded {} Tryz.checked os 4 .any ((OpenSpec.ofChange Rows.scriptPrintsSpec).preRow enc Tryz.prog Tryz.f4 Rows.scriptPrintsRow.domain false Rows.scriptPrintsRow.laid) (((OpenSpec.ofChange Rows.scriptPrintsSpec).at F).post enc Tryz.prog Tryz.f4 false true false false) := by
  obtain ⟨places, hx⟩ := reads os enc
  refine returnsInHanded_of_row (C := Tryz.checked) (s := OpenSpec.ofChange Rows.scriptPrintsSpec) own started (by kernel_rfl) Tryz.func4
    (witness_row_atRef (enc := enc) (C := Tryz.checked) false (laidWorld os) #[.slice none 0 0] rfl (by kernel_rfl) (by kernel_rfl) (by kernel_rfl)
      (OpenSpec.preRow_of_cond 8 hx (by kernel_rfl) (fun k hk => by cases hk) (by kernel_rfl) (laid_met os))) ?_
  intro W base args ds gs before hval hW _ _ hsz hL _ _
  exact contract H enc W base args ds gs before hval hW hL hsz

theorem said : Rows.ScriptPrintsSaid :=
  OpenClaim.holds_of_cond 4 Tryz.f4 rfl rfl rfl rfl rfl rfl rfl ⟨rfl, rfl, rfl, rfl, rfl⟩ rfl rfl rfl rfl rfl (by kernel_rfl) Tryz.func4 (by kernel_rfl)
    (of_decide_eq_true (by kernel_rfl)) (by unfold Func.isWrapper; rw [if_neg (of_decide_eq_false (by kernel_rfl))]; exact ⟨rfl, rfl⟩)
    (fun os started H enc _ F => by rw [OpenClaim.pre_eq_preRow]; exact lifted os started H enc F)

theorem plain (f : FuncId) (fn : Func) (hf : Tryz.pinned.checked.prog.funcNamed Rows.scriptPrintsRow.func = some f) (hfn : Tryz.pinned.checked.prog.funcs[f]? = some fn) :
    true = Tryz.pinned.checked.prog.looks [] ∧ ∀ (j : Nat) t, fn.params[j]? = some t → Tryz.pinned.checked.prog.wantsStandIn t = false := by
  obtain rfl : f = 4 := Option.some.inj ((show Tryz.prog.funcNamed Rows.scriptPrintsRow.func = some 4 by kernel_rfl).symm.trans hf) |>.symm
  obtain rfl : fn = Tryz.f4 := (Option.some.inj (Tryz.func4.symm.trans hfn)).symm
  refine ⟨by kernel_rfl, fun j t ht => ?_⟩
  rw [Tryz.params4] at ht
  obtain rfl : t = 38 := by simpa using Array.mem_of_getElem? ht
  exact (show Tryz.prog.wantsStandIn 38 = false by kernel_rfl)

/-- ScriptPrints' card. -/
theorem card : Rows.ScriptPrintsCardSaid :=
  Claim7.holds_tied_plain_at .later [] _ _ _ _ said (fun _ h => by cases h) (by kernel_rfl) (fun _ h => by cases h) scriptPrints_row_tie rfl ⟨rfl, rfl⟩ (by kernel_rfl) rfl plain (by kernel_rfl)
end Go.Proofs.YtinobikikineiabGreatDoor.scriptPrints
