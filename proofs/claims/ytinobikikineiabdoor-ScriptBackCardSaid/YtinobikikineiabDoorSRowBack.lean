/- ScriptBack: the row and the card: for every list of commands and every text the law returns true. The listed variables lie as the program's text lays them (the card ties them). -/
import Derived.Test.YtinobikikineiabDoorSFrame
import Derived.Test.YtinobikikineiabDoorSLawBack
import Derived.Deep.Slices
import Derived.Deep.Fields
import Derived.ChangeSame
import Derived.Carry
import Derived.Lib.LaidTab
namespace Go.Proofs.YtinobikikineiabDoor.scriptBack
open Go.ChangeShapes Go.WideShapes Go.ChangeAt Go.RowKit Go.Deep
open Go.ChangeMaps (open_string shut_string)

/-- What the row's list gives. -/
theorem laid_three {L R : List (String × DataW Unit)} {a b c : String × DataW Unit} {W : World} (h : laidMet Tryd.prog L W) (hs : L = a :: b :: c :: R) : laidMet Tryd.prog (c :: R) W ∧ laidMet Tryd.prog R W := by
  subst hs
  exact ⟨h.tail.tail, h.tail.tail.tail⟩
theorem errs {W : World} (h : laidMetH Tryd.prog Rows.scriptBackRow.laid W) : Tab W ∧ ∃ E, Laid E three W := by
  rw [MakeChecks.laidMetH_plain _ _ _ (by kernel_rfl)] at h
  obtain ⟨h1, h2⟩ := laid_three (a := Rows.scriptBackRow.laid.getD 0 (default, .nil)) (b := Rows.scriptBackRow.laid.getD 1 (default, .nil)) (c := ("internal/strconv.uint64pow10", Lib.tabData .u64 Lib.pow10Tab)) (R := Rows.scriptBackRow.laid.drop 3) h (by kernel_rfl)
  refine ⟨Lib.tabIs_of_head (g := 22) (t := 139) (e := 128) (n := 20) tab_named (by kernel_rfl) (by kernel_rfl) (by kernel_rfl) (by kernel_rfl) (by kernel_rfl) h1, ?_⟩
  exact laid_errs (items := itemsOf ((Rows.scriptBackRow.laid.drop 4).take 3) [0, 4, 1]) (rest := Rows.scriptBackRow.laid.drop 7) (first := Rows.scriptBackRow.laid.getD 3 (default, .nil)) h2 (by kernel_rfl) (by kernel_rfl) (by decide) (by kernel_rfl) (by kernel_rfl)

theorem hl : laidOutB Tryd.prog = true := by kernel_rfl
theorem readable : Tryd.prog.readableRec 22 = true := by kernel_rfl
theorem rowed : 22 < Tryd.prog.types.size := of_decide_eq_true (by kernel_rfl)
theorem cmdSize : Tryd.prog.cellsOf 51 = 3 := by kernel_rfl
theorem cI : Tryd.prog.cellsOf 3 = 1 := by kernel_rfl
theorem cS : Tryd.prog.cellsOf 9 = 1 := by kernel_rfl
theorem cL : Tryd.prog.cellsOf 49 = 1 := by kernel_rfl
theorem spot_none {W : World} {a : Addr} {v : Value} (h : W.cell? a = some v) : a.spot = none := by
  cases hsp : a.spot with
  | none => rfl
  | some s =>
    simp only [World.cell?] at h
    split at h
    · simp [hsp] at h
    · cases h
theorem add_of (b off j : Nat) : (⟨b, off, none⟩ : Addr).add j = ⟨b, off + j, none⟩ := by
  unfold Addr.add
  split
  · rename_i h; subst h; rfl
  · simp
theorem list_of {α : Type} (n : Nat) (Q : Nat → α → Prop) (h : ∀ i, i < n → ∃ t, Q i t) : ∃ ts : List α, ts.length = n ∧ ∀ (i : Nat) (t : α), ts[i]? = some t → Q i t := by
  induction n with
  | zero => exact ⟨[], rfl, fun i t h => by simp at h⟩
  | succ n ih =>
    obtain ⟨ts, h1, h2⟩ := ih (fun i hi => h i (by omega))
    obtain ⟨t, ht⟩ := h n (by omega)
    refine ⟨ts ++ [t], by simp [h1], fun i u hu => ?_⟩
    rw [List.getElem?_append] at hu
    split at hu
    · exact h2 i u hu
    · rename_i hlt
      have hi : i = n := by
        have := (List.getElem?_eq_some_iff.1 hu).1
        simp at this; omega
      subst hi
      rw [h1, Nat.sub_self] at hu
      simp at hu
      subst hu; exact ht
section
variable {H : Type} {enc : TypeId × Value → H} {W : World} {base n : Nat} {spare : Nat → Bool} {held : Bool} {cs : List Value} {x : DataW H × List MemPlace}
/-- A list of numbers that came in, opened to its cells. -/
theorem open_ints (h : DataW.trod enc Tryd.prog W base spare held n 49 cs = some x) : ∃ (A : Option Addr) (c : Nat) (l : List Int), cs = [.slice A l.length c] ∧ ReadsI W (.slice A l.length c) l ∧ l.length ≤ maxLen := by
  rcases open_slice1 Tryd.underlying49 cI h with ⟨hc, _⟩ | ⟨a, len, cap, m, k, V, D, Pl, hc, _, hle, hm, hmm, _, hi⟩
  · exact ⟨none, 0, [], hc, ReadsI.nil W, Nat.zero_le _⟩
  · have hlm : len ≤ m := by rw [hmm]; split <;> omega
    obtain ⟨l, hl, hq⟩ := list_of len (fun i z => W.cell? (a.add i) = some (.int .i64 z)) (fun i hil => by
      obtain ⟨h1, h2⟩ := hi i (by omega)
      obtain ⟨z, e, _, _⟩ := DataW.trod_int Tryd.underlying3 h2
      injection e with e _
      exact ⟨z, by rw [h1, e]⟩)
    refine ⟨some a, cap, l, by rw [hl]; exact hc, ⟨some a, cap, rfl, by omega, fun hne => ?_⟩, by omega⟩
    obtain ⟨z, hz⟩ : ∃ z, l[0]? = some z := ⟨_, List.getElem?_eq_getElem (List.length_pos_iff.2 hne)⟩
    have h0 := hq 0 z hz
    have hs : a.spot = none := by
      have := spot_none h0
      unfold Addr.add at this
      simpa using this
    obtain ⟨b, off, sp⟩ := a
    subst hs
    exact ⟨b, off, rfl, fun j u hu => by have := hq j u hu; rwa [add_of] at this⟩
/-- One command, by its three cells. -/
theorem open_cmd (h : DataW.trod enc Tryd.prog W base spare held n 51 cs = some x) (hlen : cs.length = 3) :
    ∃ (d : Sc.Cmd) (B : Option Addr) (m : Nat), cs = [.string ⟨d.word.toArray⟩, .string ⟨d.text.toArray⟩, .slice B d.nums.length m] ∧ ReadsI W (.slice B d.nums.length m) d.nums ∧ d.nums.length ≤ maxLen ∧ d.text.length ∈ x.1.weights Tryd.prog 51 := by
  match cs, hlen with
  | [c0, c1, c2], _ =>
    obtain ⟨ys, k, _, hx, _, hyl, hf⟩ := DataW.trod_struct Tryd.underlying51 h
    match ys, hyl with
    | [y0, y1, y2], _ =>
      have t0 : DataW.trod enc Tryd.prog W base spare held k 9 (([c0, c1, c2].drop 0).take (Tryd.prog.cellsOf 9)) = some y0 := hf 0 _ rfl
      have t1 : DataW.trod enc Tryd.prog W base spare held k 9 (([c0, c1, c2].drop 1).take (Tryd.prog.cellsOf 9)) = some y1 := hf 1 _ rfl
      have t2 : DataW.trod enc Tryd.prog W base spare held k 49 (([c0, c1, c2].drop 2).take (Tryd.prog.cellsOf 49)) = some y2 := hf 2 _ rfl
      rw [cS] at t0 t1
      rw [cL] at t2
      obtain ⟨s0, e0, _, _⟩ := DataW.trod_string Tryd.underlying9 t0
      obtain ⟨s1, e1, hy1, _⟩ := DataW.trod_string Tryd.underlying9 t1
      obtain ⟨B, m, l, e2, hr, hm⟩ := open_ints t2
      injection e0 with e0 _
      injection e1 with e1 _
      injection e2 with e2 _
      subst e0 e1 e2
      refine ⟨⟨s0.data.toList, s1.data.toList, l⟩, B, m, by rw [bytes_mk, bytes_mk], hr, hm, ?_⟩
      rw [hx, hy1]
      refine (show s1.data.toList.length ∈ DataW.weights Tryd.prog 51 (.agg [y0.1, .lit (.string s1.data.toList), y2.1]) from ?_)
      unfold DataW.weights
      rw [Tryd.underlying51]
      refine DataW.weights_mem_each (j := 1) (t := 9) (d := .lit (.string s1.data.toList)) rfl rfl _ ?_
      unfold DataW.weights
      exact List.mem_singleton.2 rfl
/-- A list of commands that came in, opened to its cells. -/
theorem open_cmds (h : DataW.trod enc Tryd.prog W base spare held n 22 cs = some x) :
    ∃ (A : Option Addr) (k c : Nat) (ds : List Sc.Cmd), cs = [.slice A k c] ∧ ReadsC W (.slice A k c) ds ∧ k ≤ maxLen ∧ (∀ d ∈ ds, d.nums.length ≤ maxLen ∧ d.text.length ∈ x.1.weights Tryd.prog 22) := by
  rcases open_slice Tryd.underlying22 h with ⟨hc, _⟩ | ⟨a, len, cap, m, k, D, Pl, hc, _, hle, hm, hmm, hx, hi⟩
  · exact ⟨none, 0, 0, [], hc, ReadsC.nil W, Nat.zero_le _, fun d hd => by cases hd⟩
  · have hlm : len ≤ m := by rw [hmm]; split <;> omega
    obtain ⟨ds, hds, hq⟩ := list_of len (fun (i : Nat) (d : Sc.Cmd) => (∃ (B : Option Addr) (mm : Nat), (∀ j u, ([.string ⟨d.word.toArray⟩, .string ⟨d.text.toArray⟩, .slice B d.nums.length mm] : List Value)[j]? = some u → W.cell? (a.add (i * 3 + j)) = some u) ∧ ReadsI W (.slice B d.nums.length mm) d.nums) ∧ d.nums.length ≤ maxLen ∧ d.text.length ∈ (D i).weights Tryd.prog 51) (fun i hil => by
      obtain ⟨cs', hcs, ht⟩ := hi i (by omega)
      rw [cmdSize] at hcs
      obtain ⟨_, hcl, hat⟩ := World.cells?_some hcs
      obtain ⟨d, B, mm, rfl, hr, hm2, hw⟩ := open_cmd ht hcl
      refine ⟨d, ⟨B, mm, fun j u hu => ?_, hr⟩, hm2, hw⟩
      have hj : j < 3 := (List.getElem?_eq_some_iff.1 hu).1
      rw [← Go.Deep.add_add, hat j hj, hu])
    refine ⟨some a, len, cap, ds, hc, ⟨some a, cap, by rw [hds], by omega, fun hne => ?_⟩, by omega, fun d hd => ?_⟩
    · obtain ⟨d, hd⟩ : ∃ d, ds[0]? = some d := ⟨_, List.getElem?_eq_getElem (List.length_pos_iff.2 hne)⟩
      obtain ⟨⟨B, mm, h0, _⟩, _⟩ := hq 0 d hd
      have hs : a.spot = none := by
        have := spot_none (h0 0 _ rfl)
        unfold Addr.add at this
        simpa using this
      obtain ⟨b, off, sp⟩ := a
      subst hs
      refine ⟨b, off, rfl, fun j d hj => ?_⟩
      obtain ⟨⟨B, mm, h0, hr⟩, _⟩ := hq j d hj
      have e0 := h0 0 _ rfl
      have e1 := h0 1 _ rfl
      have e2 := h0 2 _ rfl
      rw [add_of] at e0 e1 e2
      exact ⟨B, mm, e0, by rw [Nat.add_assoc]; exact e1, by rw [Nat.add_assoc]; exact e2, hr⟩
    · obtain ⟨i, hi2⟩ := List.getElem?_of_mem hd
      have hil := (List.getElem?_eq_some_iff.1 hi2).1
      obtain ⟨_, hm2, hw⟩ := hq i d hi2
      refine ⟨hm2, ?_⟩
      rw [hx]
      refine (show d.text.length ∈ DataW.weights Tryd.prog 22 (.slice ((List.range len).map D) ((List.range (m - len)).map fun j => D (len + j))) from ?_)
      unfold DataW.weights
      rw [Tryd.underlying22]
      refine List.mem_cons_of_mem _ (List.mem_append_left _ ?_)
      have key : ∀ (l : List (DataW H)) (y : DataW H), y ∈ l → ∀ k ∈ y.weights Tryd.prog 51, k ∈ DataW.weightsAll Tryd.prog 51 l := by
        intro l
        induction l with
        | nil => intro y hy; cases hy
        | cons z l ih =>
          intro y hy k hk
          unfold DataW.weightsAll
          rcases List.mem_cons.1 hy with rfl | hy
          · exact List.mem_append_left _ hk
          · exact List.mem_append_right _ (ih y hy k hk)
      exact key _ (D i) (List.mem_map_of_mem (List.mem_range.2 (by omega))) _ hw
end

set_option maxRecDepth 100000 in
theorem contract (H : Type) (enc : TypeId × Value → H) (W : World) (base : Nat) (args : Array Value) (ds gs : List (DataW H)) (before : List MemPlace)
    (hval : ∀ (j : Nat) t v, Tryd.f6.params[j]? = some t → args[j]? = some v → Value.okWide Tryd.prog W .any base t v)
    (hW : DataW.Whole enc Tryd.prog Tryd.f6.params.toList Rows.scriptBackSpec.vars false W args.toList ds gs before) (hL : laidMetH Tryd.prog Rows.scriptBackRow.laid W)
    (hsz : (DataW.weightsEach Tryd.prog (Tryd.f6.params.toList ++ (OpenSpec.ofChange Rows.scriptBackSpec).bare.plain.varTypes Tryd.prog) (ds ++ gs)).all (· ≤ reachBytes) = true) :
    Calls Tryd.prog 6 args W fun e W' => ∃ v, e = .returned v ∧ Rows.scriptBackSpec.post enc Tryd.prog Tryd.f6 false true false false W args v W' := by
  have hW' := hW
  obtain ⟨p, q, hA0, hV, rfl, hfz, hnd⟩ := hW
  have hA : DataW.TrodAll enc Tryd.prog W 0 (fun _ => true) true Tryd.f6.params.toList args.toList ds p := hA0
  rw [Tryd.params6] at hA hval hsz
  obtain ⟨v0, v1, d0, d1, p0, p1, rfl, rfl, rfl, h0, h1⟩ := trodAll_two hA
  obtain ⟨rfl, rfl⟩ := trodVars_none hV
  obtain ⟨s, rfl, rfl, rfl, hs⟩ := open_string Tryd.underlying9 (hval 1 9 v1 rfl rfl) h1
  have z1 : s.size ≤ 140737488355328 := by
    have := sized_string hsz (j := 1) rfl rfl
    rw [bytes_size] at this
    exact Nat.le_trans this (by decide)
  clear hA0
  simp only [List.append_nil] at hW'
  obtain ⟨a, n0, c0, rfl⟩ := okWide_slice Tryd.underlying22 (hval 0 22 v0 rfl rfl)
  have h0' := h0
  obtain ⟨fuel, hf⟩ := h0'
  obtain ⟨A, n, c, cs, hcs, hr, hn, hfit⟩ := open_cmds hf
  have hcs' : ([Value.slice a n0 c0] : List Value) = [.slice A n c] := hcs
  injection hcs' with hcs' _
  rw [hcs'] at h0 hW' ⊢
  have hF : Fit cs := fun d hd => by
    obtain ⟨h2, h3⟩ := hfit d hd
    refine ⟨?_, h2⟩
    have := List.all_eq_true.1 hsz _ (DataW.weights_mem_each (j := 0) rfl rfl _ h3)
    exact Nat.le_trans (by simpa using this) (show reachBytes ≤ 140737488355328 by decide)
  clear hsz
  obtain ⟨htab, E, hE⟩ := errs hL
  refine (sback_true A n c cs s E W hE htab hr hF hn z1).mono fun e W' ⟨he, hb⟩ => ?_
  subst he
  exact ⟨_, rfl, post_below (pa := p0 ++ []) (pv := []) hW' (fun _ _ _ => trodAll_mk1 (shut_bool Tryd.underlying4 _)) (fun _ hsp => trodAll_mk2 (WideElems.Trod_stays hl readable rowed h0 (fun x hx => hb.same (hW'.lt x (by simpa using hx))) (fun x hx => hsp x (by simpa using hx))) (shut_string Tryd.underlying9 hs)) (fun _ _ => rfl) (by simp)
    hb (ok_one (by kernel_rfl) rfl (okWide_bool_mk Tryd.underlying4 _))⟩

set_option maxRecDepth 100000 in
theorem laid_met (os : Os) : laidMetH Tryd.prog Rows.scriptBackRow.laid ((laidWorld os).forCall (fun _ _ => 0) ⟨#[], #[.slice none 0 0, .string ⟨#[]⟩], []⟩).memory := by
  rw [MakeChecks.laidMetH_plain _ _ _ (by kernel_rfl)]
  exact laidMet_of_run' 8 (by kernel_rfl) (by kernel_rfl)
theorem reads (os : Os) {H : Type} (enc : TypeId × Value → H) : ∃ places, DataW.whole enc Tryd.prog ((laidWorld os).forCall (fun _ _ => 0) ⟨#[], #[.slice none 0 0, .string ⟨#[]⟩], []⟩).memory Tryd.f6.params.toList Rows.scriptBackSpec.vars false #[Value.slice none 0 0, Value.string ⟨#[]⟩].toList 8 = some ([.nil, .lit (.string [])], [], places) :=
  ⟨[], by kernel_rfl⟩

set_option maxRecDepth 100000 in
theorem lifted (os : Os) (started : os.Started) (H : Type) (enc : TypeId × Value → H) (F : Stop.Interp) :
    ReturnsInHanded {} Tryd.checked os 6 .any ((OpenSpec.ofChange Rows.scriptBackSpec).preRow enc Tryd.prog Tryd.f6 Rows.scriptBackRow.domain false Rows.scriptBackRow.laid) (((OpenSpec.ofChange Rows.scriptBackSpec).at F).post enc Tryd.prog Tryd.f6 false true false false) := by
  obtain ⟨places, hx⟩ := reads os enc
  refine returnsInHanded_of_row (C := Tryd.checked) (s := OpenSpec.ofChange Rows.scriptBackSpec) own started (by kernel_rfl) Tryd.func6
    (witness_row_atRef (enc := enc) (C := Tryd.checked) false (laidWorld os) #[.slice none 0 0, .string ⟨#[]⟩] rfl (by kernel_rfl) (by kernel_rfl) (by kernel_rfl)
      (OpenSpec.preRow_of_cond 8 hx (by kernel_rfl) (fun k hk => by cases hk) (by kernel_rfl) (laid_met os))) ?_
  intro W base args ds gs before hval hW _ _ hsz hL _ _
  exact contract H enc W base args ds gs before hval hW hL hsz

theorem said : Rows.ScriptBackSaid :=
  OpenClaim.holds_of_cond 6 Tryd.f6 rfl rfl rfl rfl rfl rfl rfl ⟨rfl, rfl, rfl, rfl, rfl⟩ rfl rfl rfl rfl rfl (by kernel_rfl) Tryd.func6 (by kernel_rfl)
    (of_decide_eq_true (by kernel_rfl)) (by unfold Func.isWrapper; rw [if_neg (of_decide_eq_false (by kernel_rfl))]; exact ⟨rfl, rfl⟩)
    (fun os started H enc _ F => by rw [OpenClaim.pre_eq_preRow]; exact lifted os started H enc F)

theorem plain (f : FuncId) (fn : Func) (hf : Tryd.pinned.checked.prog.funcNamed Rows.scriptBackRow.func = some f) (hfn : Tryd.pinned.checked.prog.funcs[f]? = some fn) :
    true = Tryd.pinned.checked.prog.looks [] ∧ ∀ (j : Nat) t, fn.params[j]? = some t → Tryd.pinned.checked.prog.wantsStandIn t = false := by
  obtain rfl : f = 6 := Option.some.inj ((show Tryd.prog.funcNamed Rows.scriptBackRow.func = some 6 by kernel_rfl).symm.trans hf) |>.symm
  obtain rfl : fn = Tryd.f6 := (Option.some.inj (Tryd.func6.symm.trans hfn)).symm
  refine ⟨by kernel_rfl, fun j t ht => ?_⟩
  rw [Tryd.params6] at ht
  have hm : t = 22 ∨ t = 9 := by simpa using Array.mem_of_getElem? ht
  rcases hm with rfl | rfl
  · exact (show Tryd.prog.wantsStandIn 22 = false by kernel_rfl)
  · exact (show Tryd.prog.wantsStandIn 9 = false by kernel_rfl)

/-- ScriptBack' card. -/
theorem card : Rows.ScriptBackCardSaid :=
  Claim7.holds_tied_plain_at .later [] _ _ _ _ said (fun _ h => by cases h) (by kernel_rfl) (fun _ h => by cases h) scriptBack_row_tie rfl ⟨rfl, rfl⟩ (by kernel_rfl) rfl plain (by kernel_rfl)
end Go.Proofs.YtinobikikineiabDoor.scriptBack
