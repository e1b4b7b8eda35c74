/- A range over an iterator that keeps its state in blocks of its own, whatever these be: the law for the caller, such that it may be used again in an iterator's own text. Conditions: what the caller's relation says does not hang on those blocks. -/
import Derived.Test.YtinobikikineiabGreatDoorSCmd
namespace Go.Proofs.YtinobikikineiabGreatDoor
open Go.RowKit Go.Shelf

/-- What is said does not hang on blocks of S, nor on the two blocks of book-keeping at B, nor on new blocks. -/
def AsideS {α : Type} (S : Nat → Prop) (B : Nat) (I : α → World → Prop) : Prop :=
  ∀ s A A' row, I s A → A.grownBy A' row → (∀ r, row = some r → S r ∨ r = B ∨ r = B + 1) → I s A'
theorem AsideS.alloc {α : Type} {S : Nat → Prop} {B : Nat} {I : α → World → Prop} (h : AsideS S B I) {s : α} {W : World} (o : Obj) (hs : I s W) : I s (W.alloc o) :=
  h s W _ none hs (World.grownBy_alloc W o none) (fun r e => by cases e)
theorem AsideS.put {α : Type} {S : Nat → Prop} {B : Nat} {I : α → World → Prop} (h : AsideS S B I) {s : α} {W : World} {l : Nat} (o' : Obj) (hs : I s W) (hl : l = B ∨ l = B + 1) : I s (W.putObj l o') :=
  h s W _ (some l) hs (grownBy_putObj' W l o') (fun r e => by cases e; exact .inr hl)
/-- The blocks of S lie as they lay. -/
def KeepS (S : Nat → Prop) (W W' : World) : Prop := ∀ b, S b → W'.heap[b]? = W.heap[b]?
theorem KeepS.trans {S : Nat → Prop} {A B C : World} (h : KeepS S A B) (k : KeepS S B C) : KeepS S A C := fun b hb => (k b hb).trans (h b hb)

/-- The iterator's contract: it hands on the list's elements, one behind the other, as long as the rounds say 'more'; it writes blocks of S alone, all of them ahead of Z and there by the first round, and asks that a round keep them. -/
def SeqS {α : Type} (F : Fence) (n : Nat) (P : Program) (g : Nat) (lb : Array Value) (enc : α → Array Value) (S : Nat → Prop) (Z : Nat) (xs : List α) (w : World) : Prop :=
  ∀ (l : Nat) (J Jx : List α → World → Prop) (W : World), Below w.heap.size w W → W.heap.size = w.heap.size + 2 →
    (∀ s A A' row, J s A → A.grownBy A' row → (∀ r, row = some r → S r) → J s A') → (∀ s A A' row, Jx s A → A.grownBy A' row → (∀ r, row = some r → S r) → Jx s A') →
    (∀ pre x W1, J pre W1 → Z ≤ W1.heap.size → (pre ++ [x]) <+: xs → YieldAt F (n - 1) P l (enc x) W1 fun e W' =>
      (e = .returned (.bool true) ∧ J (pre ++ [x]) W' ∧ KeepS S W1 W') ∨ (e = .returned (.bool false) ∧ Jx (pre ++ [x]) W' ∧ KeepS S W1 W')) →
    J [] W →
    CallsIn F n P g (#[.func (.yield l) #[] #[]] ++ lb) W fun e W' => (∃ v, e = .returned v) ∧ (J xs W' ∨ ∃ pre, pre <+: xs ∧ Jx pre W')

/-- The two blocks of book-keeping lie as they lay. -/
def KeepB (B : Nat) (W W' : World) : Prop := W'.heap[B]? = W.heap[B]? ∧ W'.heap[B + 1]? = W.heap[B + 1]?
/-- How the body of a round may be left. -/
def setPost {α : Type} (S : Nat → Prop) (B : Nat) (I : List α → World → Prop) (Ix : Code → List α → World → Prop) (xs : List α) (W : World) : Exit → Act → World → Prop
  | .normal, _, W' => KeepB B W W' ∧ KeepS S W W' ∧ I xs W'
  | .ret, _, W' => KeepB B W W' ∧ KeepS S W W' ∧ Ix .ret xs W'
  | .exit id, _, W' => KeepB B W W' ∧ KeepS S W W' ∧ Ix (.exit id) xs W'
  | _, _, _ => False

/-- Where a fence bounds no depth, the bound says nothing. -/
theorem RoundIn.deep {F : Fence} {n m : Nat} {P : Program} {l : Nat} {f : FuncId} {tmps : Array Value} {assign body : Code} {w : World} {R : Ending → World → Prop} (hF : F.depth = none)
    (h : RoundIn F n P l f tmps assign body w R) : RoundIn F m P l f tmps assign body w R := ⟨h.1, fun c cs _ => h.2 c cs (fun d hd => by rw [hF] at hd; cases hd)⟩
theorem RoundIn.within {F : Fence} {n : Nat} {P : Program} {l k : Nat} {f : FuncId} {tmps : Array Value} {assign body : Code} {w : World} {R : Ending → World → Prop}
    (h : RoundIn F n P l f tmps assign body w R) : RoundIn (F.inRound k) n P l f tmps assign body w R := h
theorem grows {w w' : World} (h : Below w.heap.size w w') : w.grownBy w' none := ⟨h.os, h.tape, h.output, h.size, fun k hk _ => h.block k hk⟩

section
variable {F : Fence} {n : Nat} {P : Program}
theorem wpIn_rangeFunc_set {α : Type} {g : Operand} {ps : Array Tmp} {assign body : Code} {Q : Exit → Act → World → Prop} {a : Act} {w : World}
    (h1 : 1 ≤ n) {gf : Nat} {lb : Array Value} (hg : a.eval g = .func (.func gf) #[] lb) (hFg : F.fn gf) (eg : ∀ args w, (callFunc gf args).run P w = .ok (.enter gf args) w)
    {enc : α → Array Value} {S : Nat → Prop} {Z : Nat} {xs : List α} (hro : F.round = none) (hseq : SeqS F (n - 1) P gf lb enc S Z xs w) (hps : ∀ x, (enc x).size = ps.size) (hS : ¬ S w.heap.size) (hS' : ¬ S (w.heap.size + 1))
    (I : List α → World → Prop) (Ix : Code → List α → World → Prop) (hI : AsideS S w.heap.size I) (hIx : ∀ c, AsideS S w.heap.size (Ix c)) (h0 : I [] w) (a₁ : α → Act)
    (hassign : ∀ (l : Nat) (x : α) (W : World) (K : Act → World → Prop), K (a₁ x) W →
      assign.wpIn (F.inRound l) (n - 1 - 1) P (Exit.then K (fun _ _ _ => False)) { tmps := (ps.zip (enc x)).foldl (fun t (p, v) => t.setIfInBounds p v) a.tmps, defers := [] } W)
    (hbody : ∀ (l : Nat) (pre : List α) (x : α) (W : World), w.heap.size + 1 < W.heap.size → Z ≤ W.heap.size → I pre W → (pre ++ [x]) <+: xs → body.wpIn (F.inRound l) (n - 1 - 1) P (setPost S w.heap.size I Ix (pre ++ [x]) W) (a₁ x) W)
    (hdone : ∀ (D : Nat) (W : World), D = w.heap.size → I xs W → W.heap[D]? = some (.deferred (some [])) → Q .normal { a with defers := { target := .collected D, args := #[] } :: a.defers } W)
    (hstop : ∀ (D : Nat) (c : Code) (pre : List α) (W : World), D = w.heap.size → pre <+: xs → Ix c pre W → W.heap[D]? = some (.deferred (some [])) → c.wpIn F n P Q { a with defers := { target := .collected D, args := #[] } :: a.defers } W) :
    (Code.rangeFunc g ps assign body).wpIn F n P Q a w := by
  refine wpIn_rangeFunc fun fn hfn => ?_
  rw [hro]
  obtain ⟨rec, hrec⟩ : ∃ rec : LoopState → Option Code → Loop, rec = fun st pe => { state := st, pending := pe, fn, tmps := a.tmps, params := ps, assign, body, defers := w.heap.size } := ⟨_, rfl⟩
  obtain ⟨W1, hW1⟩ : ∃ W1, (w.alloc (.deferred (some []))).alloc (.loop (rec .ready none)) = W1 := ⟨_, rfl⟩
  have hL1 : W1.heap[w.heap.size + 1]? = some (.loop (rec .ready none)) := by
    have := World.alloc_heap_new (w.alloc (.deferred (some []))) (.loop (rec .ready none))
    rw [World.size_alloc] at this
    rw [← hW1]; exact this
  have hK1 : W1.heap[w.heap.size]? = some (.deferred (some [])) := by
    rw [← hW1]; exact (Below.heap_alloc _ _ _ (by simp)).trans (World.alloc_heap_new w _)
  have hI1 : I [] W1 := by rw [← hW1]; exact hI.alloc _ (hI.alloc _ h0)
  have hB1 : Below w.heap.size w W1 := by rw [← hW1]; exact ((Below.refl _ w).alloc (Nat.le_refl _) _).alloc (by simp) _
  have hz1 : W1.heap.size = w.heap.size + 2 := by rw [← hW1]; simp
  -- two blocks of book-keeping lie as they lay behind a step of the iterator's
  have still : ∀ {A A' : World} {row : Option Nat} {k : Nat} {o : Obj}, A.grownBy A' row → (∀ r, row = some r → S r) → ¬ S k → A.heap[k]? = some o → A'.heap[k]? = some o := fun hg' hr hk ho =>
    (hg'.block _ (Array.getElem?_eq_some_iff.1 ho).1 (fun e => hk (hr _ e.symm))).trans ho
  refine ⟨w.heap.size + 1, [{ target := .collected w.heap.size, args := #[] }], W1, { target := .fn (.func gf) lb, args := #[.func (.yield (w.heap.size + 1)) #[] #[]] }, W1, gf,
    #[.func (.yield (w.heap.size + 1)) #[] #[]] ++ lb, W1, ?_, ?_, ?_, ?_, fun _ => h1, ?_⟩
  · rw [← hW1, hrec]; exact run_enterLoop_outer _ _ _ _ _
  · simp only [resolve, hg]
    simp [go_sem]
  · intro f' hf'; simp [Target.leads] at hf'; subst hf'; exact hFg
  · simp [invoke, go_sem, eg]
  · refine (hseq (w.heap.size + 1)
      (fun pre W => I pre W ∧ W.heap[w.heap.size + 1]? = some (.loop (rec .ready none)) ∧ W.heap[w.heap.size]? = some (.deferred (some [])))
      (fun pre W => ∃ c, Ix c pre W ∧ W.heap[w.heap.size + 1]? = some (.loop (rec .done (some c))) ∧ W.heap[w.heap.size]? = some (.deferred (some [])))
      W1 hB1 hz1
      (fun s A A' row hs hg' hr => ⟨hI s A A' _ hs.1 hg' (fun r e => .inl (hr r e)), still hg' hr hS' hs.2.1, still hg' hr hS hs.2.2⟩)
      (fun s A A' row hs hg' hr => by
        obtain ⟨c, hc, hl, hk⟩ := hs
        exact ⟨c, hIx c s A A' _ hc hg' (fun r e => .inl (hr r e)), still hg' hr hS' hl, still hg' hr hS hk⟩)
      ?_ ⟨hI1, hL1, hK1⟩).mono ?_
    · -- one round
      rintro pre x W ⟨hi, hl, hk⟩ hZ hpre
      have hlt : w.heap.size + 1 < W.heap.size := (Array.getElem?_eq_some_iff.1 hl).1
      have hy := run_yield (P := P) (args := enc x) hl (by rw [hrec]; exact (hps x))
      rw [hrec] at hy
      refine ⟨fn, _, assign, body, hy, roundIn_of_wpIn hfn (hassign _ x W _ ?_)⟩
      refine ⟨_, run_beginRound hl (by rw [hrec]), ?_⟩
      have hl2 : (W.putObj (w.heap.size + 1) (.loop { rec .ready none with state := .busy })).heap[w.heap.size + 1]? = some (.loop { rec .ready none with state := .busy }) := World.putObj_heap_same hlt
      have hk2 : (W.putObj (w.heap.size + 1) (.loop { rec .ready none with state := .busy })).heap[w.heap.size]? = some (.deferred (some [])) := (World.putObj_heap_other (by omega)).trans hk
      have hput : ∀ (V : World) (o : Obj), KeepS S V (V.putObj (w.heap.size + 1) o) := fun V o b hb => World.putObj_heap_other (fun e => hS' (e ▸ hb))
      have hsz2 : w.heap.size + 1 < (W.putObj (w.heap.size + 1) (.loop { rec .ready none with state := .busy })).heap.size := (Array.getElem?_eq_some_iff.1 hl2).1
      refine wpIn_mono (hbody _ pre x _ hsz2 (by simpa [World.putObj] using hZ) (hI.put _ hi (.inr rfl)) hpre) ?_
      have fin : ∀ (jump : Option Code) (W3 : World), KeepB w.heap.size (W.putObj (w.heap.size + 1) (.loop { rec .ready none with state := .busy })) W3 →
          (Instr.endRound (w.heap.size + 1) jump).run P W3 = .ok (.bool jump.isNone) (W3.putObj (w.heap.size + 1) (.loop (rec (if jump.isNone then .ready else .done) jump))) ∧
          (W3.putObj (w.heap.size + 1) (.loop (rec (if jump.isNone then .ready else .done) jump))).heap[w.heap.size + 1]? = some (.loop (rec (if jump.isNone then .ready else .done) jump)) ∧
          (W3.putObj (w.heap.size + 1) (.loop (rec (if jump.isNone then .ready else .done) jump))).heap[w.heap.size]? = some (.deferred (some [])) := fun jump W3 hk3 => by
        have hl3 := hk3.2.trans hl2
        have hend := run_endRound (P := P) jump hl3
        rw [hrec] at hend hl3 ⊢
        exact ⟨hend, World.putObj_heap_same (Array.getElem?_eq_some_iff.1 hl3).1, (World.putObj_heap_other (by omega)).trans (hk3.1.trans hk2)⟩
      rintro e a3 W3 hp
      cases e with
      | normal =>
        obtain ⟨hk3, hkp3, hi3⟩ := hp
        obtain ⟨hr, hl4, hk4⟩ := fin none W3 hk3
        exact ⟨_, _, hr, .inl ⟨rfl, ⟨hI.put _ hi3 (.inr rfl), hl4, hk4⟩, ((hput _ _).trans hkp3).trans (hput _ _)⟩⟩
      | ret =>
        obtain ⟨hk3, hkp3, hi3⟩ := hp
        obtain ⟨hr, hl4, hk4⟩ := fin (some .ret) W3 hk3
        exact ⟨_, _, hr, .inr ⟨rfl, ⟨.ret, (hIx _).put _ hi3 (.inr rfl), hl4, hk4⟩, ((hput _ _).trans hkp3).trans (hput _ _)⟩⟩
      | exit id =>
        obtain ⟨hk3, hkp3, hi3⟩ := hp
        obtain ⟨hr, hl4, hk4⟩ := fin (some (.exit id)) W3 hk3
        exact ⟨_, _, hr, .inr ⟨rfl, ⟨.exit id, (hIx _).put _ hi3 (.inr rfl), hl4, hk4⟩, ((hput _ _).trans hkp3).trans (hput _ _)⟩⟩
      | goto t => exact hp.elim
      | panic ch => exact hp.elim
      | outgrown => exact hp.elim
    · -- behind the iterator
      rintro e W2 ⟨⟨v, rfl⟩, (⟨hi, hl, hk⟩ | ⟨pre, hSp, c, hi, hl, hk⟩)⟩
      · have hend := run_endLoop (P := P) hl (by rw [hrec]; simp)
        rw [hrec] at hend hl
        exact ⟨none, _, hend, hdone _ _ rfl (hI.put _ hi (.inr rfl)) ((World.putObj_heap_other (by omega)).trans hk)⟩
      · have hend := run_endLoop (P := P) hl (by rw [hrec]; simp)
        rw [hrec] at hend hl
        exact ⟨some c, _, hend, hstop _ c pre _ rfl hSp ((hIx c).put _ hi (.inr rfl)) ((World.putObj_heap_other (by omega)).trans hk)⟩
end
end Go.Proofs.YtinobikikineiabGreatDoor
