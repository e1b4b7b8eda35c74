/- What the listed error variables give a walk: each holds a pointer of its own, all of them different. No conditions. -/
import Derived.Test.YtinobikikineiabGreatDoorSBase
import Derived.Stop.LaidErr
import Derived.MakeChecks
namespace Go.Proofs.YtinobikikineiabGreatDoor
open Go.RowKit Go.ChangeShapes

section
variable {P : Program} {W : World} {nm : String} {ti tp te ts : TypeId} {ms : Array (String × TypeId)} {f : Field}
/-- A listed error: its variable's name, its text, its variable's number. -/
abbrev Item := String × List UInt8 × Nat
def Item.datum (nm : String) (it : Item) : String × DataW Unit := (it.1, .iface nm (.ptr (.agg [.lit (.string it.2.1)])))
theorem sents_aux (hi : P.underlying ti = some (.interface ms)) (hrow : ∀ u, P.typeName? 3 u = some nm → u = tp)
    (hp : P.underlying tp = some (.pointer te)) (he : P.underlying te = some (.struct #[f])) (hft : f.type = ts) (hfo : f.offset = 0) (hs : P.underlying ts = some .string) (hc : P.cellsOf te = 1) (hcs : P.cellsOf ts = 1)
    (rest : List (String × DataW Unit)) : ∀ (items : List Item) (ps : List MemPlace),
    (∀ it ∈ items, P.globalNamed it.1 = some it.2.2 ∧ (P.globals[it.2.2]?).map (·.type) = some ti) → (items.map (·.2.2)).Nodup →
    DataW.LaidVars P W (items.map (Item.datum nm) ++ rest) ps → ps.Nodup →
    (∀ b off, MemPlace.cell b off ∈ ps → (∃ c t, W.heap[b]? = some (.cells c t (0, 0))) ∧ ∀ u v, W.cell? ⟨b, off, none⟩ = some (.iface u v) → Value.okWide P W .any 0 u v) →
    ∃ addr : Nat → Addr, (∀ it ∈ items, W.cell? ⟨it.2.2, 0, none⟩ = some (.iface tp (.pointer (some (addr it.2.2)))) ∧ (∃ c t, W.heap[(addr it.2.2).block]? = some (.cells c t (0, 0))) ∧ MemPlace.cell (addr it.2.2).block (addr it.2.2).off ∈ ps) ∧
      ∀ it ∈ items, ∀ jt ∈ items, it.2.2 ≠ jt.2.2 → addr it.2.2 ≠ addr jt.2.2 := by
  intro items
  induction items with
  | nil => intro ps _ _ _ _ _; exact ⟨fun _ => ⟨0, 0, none⟩, by simp, by simp⟩
  | cons it items ih =>
    intro ps hgl hnd hv hnp hrows
    obtain ⟨g0, t0, cs0, f0, p0, q0, hg0, ht0, hv0, hd0, hq, e0⟩ := hv
    obtain ⟨hg, ht⟩ := hgl it (by simp)
    obtain rfl := Option.some.inj (hg.symm.trans hg0)
    obtain rfl := Option.some.inj (ht.symm.trans ht0)
    subst e0
    rw [List.map_cons, List.nodup_cons] at hnd
    obtain ⟨addr', h1, h2⟩ := ih q0 (fun jt hj => hgl jt (by simp [hj])) hnd.2 hq (List.Nodup.sublist (List.sublist_append_right _ _) hnp) (fun b off hm => hrows b off (List.mem_append_right _ hm))
    obtain ⟨l0⟩ := cs0
    have ok0 : ∀ u v, l0 = [.iface u v] → Value.okWide P W .any 0 u v := fun u v e => by
      subst e
      exact (hrows it.2.2 0 (by simp [MemPlace.row])).2 u v (by simpa using World.var?_cell hg0 hv0 0)
    obtain ⟨a0, s0, rfl, hc0, hs0, hz0, rfl⟩ := errorString_of_trod hi hrow hp he hft hfo hs hc hcs hd0 ok0
    have hm0 : MemPlace.cell a0.block a0.off ∈ MemPlace.row ⟨it.2.2, 0, none⟩ 1 ++ MemPlace.row a0 1 ++ q0 := by simp [MemPlace.row]
    have hne : ∀ jt ∈ items, jt.2.2 ≠ it.2.2 := fun jt hj e => hnd.1 (by rw [← e]; exact List.mem_map_of_mem hj)
    have hdis : ∀ jt ∈ items, addr' jt.2.2 ≠ a0 := fun jt hj e => by
      have h3 := (h1 jt hj).2.2
      rw [e] at h3
      rw [List.nodup_append] at hnp
      exact hnp.2.2 (.cell a0.block a0.off) (by simp [MemPlace.row]) (.cell a0.block a0.off) h3 rfl
    refine ⟨fun g => if g = it.2.2 then a0 else addr' g, ?_, ?_⟩
    · intro jt hj
      rcases List.mem_cons.1 hj with rfl | hj
      · simp only [if_true]
        exact ⟨by simpa using World.var?_cell hg0 hv0 0, (hrows a0.block a0.off hm0).1, hm0⟩
      · simp only [if_neg (hne jt hj)]
        exact ⟨(h1 jt hj).1, (h1 jt hj).2.1, List.mem_append_right _ (h1 jt hj).2.2⟩
    · intro jt hj kt hk hjk
      have mem : ∀ jt ∈ it :: items, jt.2.2 ≠ it.2.2 → jt ∈ items := fun jt hj hn => by
        rcases List.mem_cons.1 hj with e | h
        · exact absurd (by rw [e]) hn
        · exact h
      by_cases hj0 : jt.2.2 = it.2.2
      · have hk0 : kt.2.2 ≠ it.2.2 := fun e => hjk (hj0.trans e.symm)
        simp only [if_pos hj0, if_neg hk0]
        exact (hdis kt (mem kt hk hk0)).symm
      · by_cases hk0 : kt.2.2 = it.2.2
        · simp only [if_neg hj0, if_pos hk0]
          exact hdis jt (mem jt hj hj0)
        · simp only [if_neg hj0, if_neg hk0]
          exact h2 jt (mem jt hj hj0) kt (mem kt hk hk0) hjk
end
/-- The name of the one type of errors, off a listed datum. -/
def nameOf (d : DataW Unit) : String := match d with
  | .iface n _ => n
  | _ => default
def textOf (d : DataW Unit) : List UInt8 := match d with
  | .iface _ (.ptr (.agg [.lit (.string t)])) => t
  | _ => []
def errName : String := nameOf Rows.laid_semblance_api_ErrLong
theorem errRow (u : TypeId) (h : Tryz.prog.typeName? 3 u = some errName) : u = 228 :=
  typeName_ptr_named (nm := "errors.errorString") (by kernel_rfl) (by kernel_rfl) (by decide) u (h.trans (by kernel_rfl))
theorem cellsE : Tryz.prog.cellsOf 251 = 1 := by kernel_rfl
theorem cellsS : Tryz.prog.cellsOf 9 = 1 := by kernel_rfl
/-- The items of a list of listed data, with their variables' numbers. -/
def itemsOf (l : List (String × DataW Unit)) (gs : List Nat) : List Item := (l.zip gs).map fun x => (x.1.1, textOf x.1.2, x.2)
theorem laid_errs {L rest : List (String × DataW Unit)} {first : String × DataW Unit} {items : List Item} {codes : List Nat} {W : World} (hL : laidMet Tryz.prog L W)
    (hs : L = first :: (items.map (Item.datum errName) ++ rest)) (hall : (items.all fun it => Tryz.prog.globalNamed it.1 == some it.2.2 && ((Tryz.prog.globals[it.2.2]?).map (·.type) == some 40)) = true)
    (hnd : (items.map (·.2.2)).Nodup) (hcov : (codes.all fun k => items.any fun it => it.2.2 == gOf k) = true) (hinj : (codes.all fun j => codes.all fun k => j == k || gOf j != gOf k) = true) : ∃ E, Laid E codes W := by
  subst hs
  obtain ⟨ps, hv, hnp, hrows⟩ := hL.tail
  obtain ⟨addr, h1, h2⟩ := sents_aux Tryz.underlying40 errRow Tryz.underlying228 Tryz.underlying251 rfl rfl Tryz.underlying9 cellsE cellsS rest items ps
    (fun it hit => by
      have := List.all_eq_true.1 hall it hit
      simp only [Bool.and_eq_true, beq_iff_eq] at this
      exact this) hnd hv hnp hrows
  have hc : ∀ k ∈ codes, ∃ it ∈ items, it.2.2 = gOf k := fun k hk => by
    have := List.all_eq_true.1 hcov k hk
    obtain ⟨it, hit, he⟩ := List.any_eq_true.1 this
    exact ⟨it, hit, by simpa using he⟩
  refine ⟨⟨fun k => addr (gOf k)⟩, ⟨fun k hk => ?_, fun k hk => ?_, fun j hj k hk hjk => ?_⟩⟩
  · obtain ⟨it, hit, he⟩ := hc k hk
    have := (h1 it hit).1
    rw [he] at this
    exact this
  · obtain ⟨it, hit, he⟩ := hc k hk
    have := (h1 it hit).2.1
    rw [he] at this
    exact this
  · obtain ⟨it, hit, he⟩ := hc j hj
    obtain ⟨jt, hjt, he2⟩ := hc k hk
    have h3 := List.all_eq_true.1 (List.all_eq_true.1 hinj j hj) k hk
    have h4 : gOf j ≠ gOf k := by
      simp only [Bool.or_eq_true, beq_iff_eq, bne_iff_ne] at h3
      rcases h3 with h3 | h3
      · exact absurd h3 hjk
      · exact h3
    have := h2 it hit jt hjt (by rw [he, he2]; exact h4)
    rw [he, he2] at this
    exact this
end Go.Proofs.YtinobikikineiabGreatDoor
