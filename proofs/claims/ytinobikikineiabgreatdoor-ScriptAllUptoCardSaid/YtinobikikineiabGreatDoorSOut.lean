/- A slice of commands of the call's own; how a script's lines give commands. No program is in sight but its types. -/
import Derived.Test.YtinobikikineiabGreatDoorSLines
namespace Go.Proofs.YtinobikikineiabGreatDoor
open Go.RowKit

/-- The commands of lines that say something. -/
def runs (count : Nat) : List (Nat × List UInt8) → Except Lx.Bad (List Sc.Cmd)
  | [] => .ok []
  | (no, t) :: rest => match Sc.command t with
    | none => .error (19, no, 0)
    | some c => if 1000 ≤ count then .error (2, no, 0) else Sc.more c (runs (count + 1) rest)
theorem from_runs (xs : List (List UInt8)) : ∀ no count, Sc.from' no count xs = runs count (said no xs) := by
  induction xs with
  | nil => intro no count; rfl
  | cons p ps ih =>
    intro no count
    unfold Sc.from'
    by_cases h : Sc.idle (Sc.trim p) = true
    · rw [if_pos h, said_idle h, ih]
    · rw [if_neg h, said_more (by simpa using h)]
      unfold runs
      cases Sc.command (Sc.trim p) with
      | none => rfl
      | some c => simp only [ih]
/-- Commands ahead of what follows. -/
def mores : List Sc.Cmd → Except Lx.Bad (List Sc.Cmd) → Except Lx.Bad (List Sc.Cmd)
  | [], r => r
  | c :: cs, r => Sc.more c (mores cs r)
theorem mores_snoc (cs : List Sc.Cmd) (c : Sc.Cmd) (r : Except Lx.Bad (List Sc.Cmd)) : mores (cs ++ [c]) r = mores cs (Sc.more c r) := by
  induction cs with
  | nil => rfl
  | cons d cs ih => simp only [List.cons_append, mores, ih]
theorem mores_error (cs : List Sc.Cmd) (b : Lx.Bad) : mores cs (.error b) = .error b := by
  induction cs with
  | nil => rfl
  | cons d cs ih => simp only [mores, ih]; rfl
theorem mores_ok (cs ds : List Sc.Cmd) : mores cs (.ok ds) = .ok (cs ++ ds) := by
  induction cs with
  | nil => rfl
  | cons d cs ih => simp only [mores, ih]; rfl
theorem more_eq (c : Sc.Cmd) (r : Except Lx.Bad (List Sc.Cmd)) : (match r with | .error b => .error b | .ok l => .ok (c :: l)) = Sc.more c r := rfl
theorem runs_step {xs pre : List (Nat × List UInt8)} {cs : List Sc.Cmd} {no : Nat} {t : List UInt8} {c : Sc.Cmd} {r : Except Lx.Bad (List Sc.Cmd)} (hrel : mores cs (runs cs.length (xs.drop pre.length)) = r) (hp : (pre ++ [(no, t)]) <+: xs) (hc : Sc.command t = some c) (hl : cs.length < 1000) :
    mores (cs ++ [c]) (runs (cs ++ [c]).length (xs.drop (pre ++ [(no, t)]).length)) = r := by
  rw [← hrel, drop_of_prefix hp, mores_snoc]
  simp only [runs, hc, if_neg (show ¬ 1000 ≤ cs.length by omega), List.length_append, List.length_cons, List.length_nil]
theorem runs_none {xs pre : List (Nat × List UInt8)} {cs : List Sc.Cmd} {no : Nat} {t : List UInt8} {r : Except Lx.Bad (List Sc.Cmd)} (hrel : mores cs (runs cs.length (xs.drop pre.length)) = r) (hp : (pre ++ [(no, t)]) <+: xs) (hc : Sc.command t = none) : r = .error (19, no, 0) := by
  rw [← hrel, drop_of_prefix hp]
  simp only [runs, hc, mores_error]
theorem runs_long {xs pre : List (Nat × List UInt8)} {cs : List Sc.Cmd} {no : Nat} {t : List UInt8} {c : Sc.Cmd} {r : Except Lx.Bad (List Sc.Cmd)} (hrel : mores cs (runs cs.length (xs.drop pre.length)) = r) (hp : (pre ++ [(no, t)]) <+: xs) (hc : Sc.command t = some c) (hl : 1000 ≤ cs.length) : r = .error (2, no, 0) := by
  rw [← hrel, drop_of_prefix hp]
  simp only [runs, hc, if_pos hl, mores_error]
theorem said_sizes (m : Nat) (xs : List (List UInt8)) (h : ∀ p ∈ xs, p.length ≤ m) : ∀ no, ∀ q ∈ said no xs, q.2.length ≤ m ∧ q.1 < no + xs.length := by
  induction xs with
  | nil => intro no q hq; simp [said] at hq
  | cons p ps ih =>
    intro no q hq
    have ih' := ih (fun p hp => h p (by simp [hp])) (no + 1)
    unfold said at hq
    split at hq
    · have := ih' q hq; rw [List.length_cons]; omega
    · rcases List.mem_cons.1 hq with rfl | hq
      · exact ⟨Nat.le_trans (Sc.trim_len p) (h p (by simp)), by simp⟩
      · have := ih' q hq; rw [List.length_cons]; omega

/-- A row of numbers that lies in one block, from base on. -/
def RowI (W : World) (base : Nat) (u : Value) (l : List Int) : Prop :=
  ∃ (A : Option Addr) (c : Nat), u = .slice A l.length c ∧ l.length ≤ c ∧ (l ≠ [] → ∃ b off cs, A = some ⟨b, off, none⟩ ∧ base ≤ b ∧ W.heap[b]? = some (.cells cs 3 (0, 0)) ∧ ∀ (j : Nat) (x : Int), l[j]? = some x → cs[off + j]? = some (.int .i64 x))
theorem RowI.keep {W W' : World} {base : Nat} {u : Value} {l : List Int} (h : RowI W base u l) (hk : ∀ (b : Nat) (cs : Array Value), base ≤ b → W.heap[b]? = some (.cells cs 3 (0, 0)) → W'.heap[b]? = some (.cells cs 3 (0, 0))) : RowI W' base u l := by
  obtain ⟨A, c, hu, hc, h⟩ := h
  refine ⟨A, c, hu, hc, fun hne => ?_⟩
  obtain ⟨b, off, cs, hA, hB, hb, hx⟩ := h hne
  exact ⟨b, off, cs, hA, hB, hk b cs hB hb, hx⟩
theorem RowI.low {W : World} {base base' : Nat} {u : Value} {l : List Int} (h : RowI W base u l) (hb : base' ≤ base) : RowI W base' u l := by
  obtain ⟨A, c, hu, hc, h⟩ := h
  refine ⟨A, c, hu, hc, fun hne => ?_⟩
  obtain ⟨b, off, cs, hA, hB, hb, hx⟩ := h hne
  exact ⟨b, off, cs, hA, by omega, hb, hx⟩
theorem RowI.below {W W' : World} {base : Nat} {u : Value} {l : List Int} (h : RowI W base u l) (hb : Below W.heap.size W W') : RowI W' base u l := h.keep fun b _ _ hh => (hb.block b (lt_of_cells hh)).trans hh
theorem RowI.reads {W : World} {base : Nat} {u : Value} {l : List Int} (h : RowI W base u l) : ReadsI W u l := by
  obtain ⟨A, c, hu, hc, h⟩ := h
  refine ⟨A, c, hu, hc, fun hne => ?_⟩
  obtain ⟨b, off, cs, hA, _, hb, hx⟩ := h hne
  exact ⟨b, off, hA, fun j x hj => by rw [cell_of_row W b (off + j) cs _ _ hb]; exact hx j x hj⟩
theorem OwnI.row {W : World} {base : Nat} {v : Value} {l : List Int} (h : OwnI W base v l) : RowI W base v l := by
  obtain ⟨_, ⟨rfl, hn⟩ | ⟨g, cap, cur, rfl, hg, hh, hc, _, hsz, ht⟩⟩ := h
  · have : l = [] := List.eq_nil_of_length_eq_zero hn
    subst this
    exact ⟨none, 0, rfl, Nat.le_refl _, fun h => absurd rfl h⟩
  · refine ⟨_, cap, rfl, by omega, fun _ => ⟨g, 0, cur, rfl, hg, hh, fun j x hx => ?_⟩⟩
    have hj := (List.getElem?_eq_some_iff.1 hx).1
    have h1 : (l.map (Value.int .i64))[j]? = some (.int .i64 x) := by rw [List.getElem?_map, hx]; rfl
    rw [← ht, List.getElem?_take_of_lt (by omega)] at h1
    rw [Nat.zero_add, ← Array.getElem?_toList]
    exact h1
/-- The cells of a command whose numbers lie at u. -/
def cmdCells (c : Sc.Cmd) (u : Value) : List Value := [.string ⟨c.word.toArray⟩, .string ⟨c.text.toArray⟩, u]
def flatC (cs : List Sc.Cmd) (us : List Value) : List Value := (cs.zip us).flatMap fun p => cmdCells p.1 p.2
theorem flatC_snoc (cs : List Sc.Cmd) (us : List Value) (c : Sc.Cmd) (u : Value) (h : us.length = cs.length) : flatC (cs ++ [c]) (us ++ [u]) = flatC cs us ++ cmdCells c u := by
  unfold flatC
  rw [List.zip_append h.symm, List.flatMap_append]
  simp
/-- A slice of commands of the call's own. -/
def OwnC (W : World) (base : Nat) (v : Value) (cs : List Sc.Cmd) : Prop :=
  ∃ us : List Value, us.length = cs.length ∧ W.ownsRow base 52 3 v cs.length (flatC cs us) ∧ ∀ (j : Nat) (c : Sc.Cmd), cs[j]? = some c → ∃ u : Value, us[j]? = some u ∧ RowI W base u c.nums
theorem OwnC.nil (W : World) (base : Nat) : OwnC W base (.slice none 0 0) [] := ⟨[], rfl, World.ownsRow_nil _ _ _ _, fun j r h => by simp at h⟩
theorem OwnC.keep {W W' : World} {base : Nat} {v : Value} {cs : List Sc.Cmd} (h : OwnC W base v cs) (hk : ∀ (b : Nat) (cs : Array Value) (t : TypeId), base ≤ b → W.heap[b]? = some (.cells cs t (0, 0)) → W'.heap[b]? = some (.cells cs t (0, 0))) : OwnC W' base v cs := by
  obtain ⟨us, h0, h1, h2⟩ := h
  refine ⟨us, h0, own_keep h1 fun k cs t hb hc => hk k cs t hb hc, fun j r hj => ?_⟩
  obtain ⟨u, h3, h4⟩ := h2 j r hj
  exact ⟨u, h3, h4.keep fun b cs hb hc => hk b cs _ hb hc⟩
theorem OwnC.low {W : World} {base base' : Nat} {v : Value} {cs : List Sc.Cmd} (h : OwnC W base v cs) (hb : base' ≤ base) : OwnC W base' v cs := by
  obtain ⟨us, h0, h1, h2⟩ := h
  refine ⟨us, h0, own_base h1 hb, fun j r hj => ?_⟩
  obtain ⟨u, h3, h4⟩ := h2 j r hj
  exact ⟨u, h3, h4.low hb⟩
/-- What an append to the commands leaves. -/
theorem OwnC.append {W W2 : World} {base : Nat} {v v2 u : Value} {cs : List Sc.Cmd} {c : Sc.Cmd} {us : List Value} (h0 : us.length = cs.length) (h1 : W.ownsRow base 52 3 v cs.length (flatC cs us)) (h2 : ∀ (j : Nat) (c : Sc.Cmd), cs[j]? = some c → ∃ u : Value, us[j]? = some u ∧ RowI W base u c.nums)
    (hr : RowI W base u c.nums) (hown : W2.ownsRow base 52 3 v2 (cs.length + 1) (flatC cs us ++ cmdCells c u)) (hg : W.grownBy W2 v.ownBlock) : OwnC W2 base v2 (cs ++ [c]) := by
  have hk : ∀ (b : Nat) (cs : Array Value), base ≤ b → W.heap[b]? = some (.cells cs 3 (0, 0)) → W2.heap[b]? = some (.cells cs 3 (0, 0)) := by
    intro b cs _ hb
    have hlt := (Array.getElem?_eq_some_iff.1 hb).1
    refine (hg.block b hlt ?_).trans hb
    intro e
    obtain ⟨_, ⟨rfl, _⟩ | ⟨g, cap, cur, rfl, _, hh2, _⟩⟩ := h1
    · cases e
    · simp only [Value.ownBlock, Option.some.injEq] at e
      subst e
      rw [hb] at hh2
      injection hh2 with hh2
      injection hh2 with _ ht _
      exact absurd ht (by decide)
  refine ⟨us ++ [u], by simp [h0], by rw [List.length_append, flatC_snoc _ _ _ _ h0]; exact hown, fun j r' hj => ?_⟩
  rw [List.getElem?_append] at hj
  split at hj
  · obtain ⟨x, hx1, hx2⟩ := h2 j r' hj
    exact ⟨x, by rw [List.getElem?_append_left (by omega)]; exact hx1, hx2.keep hk⟩
  · rename_i hlt
    have hj0 : j = cs.length := by
      have := (List.getElem?_eq_some_iff.1 hj).1
      simp at this
      omega
    subst hj0
    simp at hj
    subst hj
    exact ⟨u, by rw [List.getElem?_append_right (by omega), h0]; simp, hr.keep hk⟩
theorem said_part {s : ByteArray} {pre : List (Nat × List UInt8)} {x : Nat × List UInt8} (h : (pre ++ [x]) <+: said 1 (Lx.cuts s.data.toList)) : x.2.length ≤ s.size := by
  have hm : x ∈ said 1 (Lx.cuts s.data.toList) := h.subset (by simp)
  refine (said_sizes s.size _ (fun p hp => ?_) 1 x hm).1
  obtain ⟨a, b, hab⟩ := List.append_of_mem hp
  have := (Lx.round_facts (l := s.data.toList) rfl (pre := a) (x := p) ⟨b, by rw [hab]; simp⟩).1
  rwa [bytes_size] at this
end Go.Proofs.YtinobikikineiabGreatDoor
