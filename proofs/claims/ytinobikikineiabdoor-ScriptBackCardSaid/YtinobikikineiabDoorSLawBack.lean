/- The walk of the law ScriptBack: for every list and every text it returns true. Conditions: three error variables and the table of strconv lie as the program lays them; the texts' sizes. -/
import Derived.Test.YtinobikikineiabDoorSPrint
namespace Go.Proofs.YtinobikikineiabDoor
open Go.RowKit Go.Shelf

namespace Sc
theorem command_text_len {l : List UInt8} {c : Cmd} (h : command l = some c) : c.text.length ≤ l.length := by
  have hl := congrArg List.length (head_tail l)
  rw [List.length_append] at hl
  have ht := trim_len (tailW l)
  unfold command at h
  simp only [] at h
  split at h
  · split at h
    · injection h with h; subst h; simp only []; omega
    · cases h
  · split at h
    · cases h
    · split at h
      · injection h with h; subst h; simp
      · cases h
theorem from_texts (m : Nat) (ps : List (List UInt8)) : (∀ p ∈ ps, p.length ≤ m) → ∀ (no count : Nat) (r : List Cmd), from' no count ps = .ok r → ∀ c ∈ r, c.text.length ≤ m := by
  induction ps with
  | nil => intro _ no count r h c hc; simp only [from', Except.ok.injEq] at h; subst h; cases hc
  | cons p ps ih =>
    intro hp no count r h c hc
    have ih' := ih (fun q hq => hp q (by simp [hq]))
    rcases from_cases p with h1 | ⟨h1, h2⟩ | ⟨d, h1, h2⟩
    · rw [from_idle _ _ _ _ h1] at h; exact ih' _ _ r h c hc
    · rw [from_none _ _ _ _ h1 h2] at h; cases h
    · by_cases hn : 1000 ≤ count
      · rw [from_full _ _ _ _ _ h1 h2 hn] at h; cases h
      · rw [from_some _ _ _ _ _ h1 h2 (by omega)] at h
        cases hr : from' (no + 1) (count + 1) ps with
        | error b => rw [hr] at h; cases h
        | ok r' =>
          rw [hr] at h
          simp only [more, Except.ok.injEq] at h
          subst h
          rcases List.mem_cons.1 hc with rfl | hc
          · exact Nat.le_trans (command_text_len h2) (Nat.le_trans (trim_len p) (hp p (by simp)))
          · exact ih' _ _ r' hr c hc
theorem parse_texts {l : List UInt8} {r : List Cmd} (h : parse l = .ok r) : ∀ c ∈ r, c.text.length ≤ 65536 := by
  unfold parse at h
  split at h
  · cases h
  · rename_i hs
    have hsz : l.length ≤ size l := by unfold size; split <;> omega
    refine from_texts 65536 _ (fun p hp => ?_) 1 0 r h
    obtain ⟨a, b, hab⟩ := List.append_of_mem hp
    have := (Lx.round_facts (l := l) rfl (pre := a) (x := p) ⟨b, by rw [hab]; simp⟩).1
    omega
end Sc
theorem nums_small {l : List UInt8} {cs : List Sc.Cmd} (h : Sc.parse l = .ok cs) : ∀ x ∈ cs, x.nums.length ≤ 3 := by
  intro x hx
  exact (Sc.cmd_parts ((Sc.parse_print h).1 x hx)).2.1
theorem fit_parsed {l : List UInt8} {cs : List Sc.Cmd} (h : Sc.parse l = .ok cs) : Fit cs := fun c hc => ⟨Nat.le_trans (Sc.parse_texts h c hc) (by decide), Nat.le_trans (nums_small h c hc) (by unfold maxLen; omega)⟩
theorem print_ok (A : Option Addr) (n c : Nat) (cs : List Sc.Cmd) (E : Errs) (w : World) (hE : Laid E three w) (htab : Tab w) (hr : ReadsC w (.slice A n c) cs) (hf : Fit cs) (hn : n ≤ maxLen) (t : List UInt8) (h : Sc.print cs = .ok t) :
    Calls Tryd.prog 13 #[.slice A n c] w fun e w' => e = .returned (.tuple #[.string ⟨t.toArray⟩, .nilIface]) ∧ Below w.heap.size w w' :=
  (print_any A n c cs E w hE htab hr hf hn).mono fun e w' ⟨hb, hv⟩ => by
    rcases hv with ⟨t', h1, h2⟩ | ⟨k, v, h1, _⟩
    · rw [h] at h1; injection h1 with h1; subst h1; exact ⟨h2, hb⟩
    · rw [h] at h1; cases h1
theorem print_err (A : Option Addr) (n c : Nat) (cs : List Sc.Cmd) (E : Errs) (w : World) (hE : Laid E three w) (htab : Tab w) (hr : ReadsC w (.slice A n c) cs) (hf : Fit cs) (hn : n ≤ maxLen) (k : Nat) (h : Sc.print cs = .error k) :
    Calls Tryd.prog 13 #[.slice A n c] w fun e w' => ∃ b, e = .returned (.tuple #[.string ⟨#[]⟩, .iface 36 (.pointer (some ⟨b, 0, none⟩))]) ∧ Below w.heap.size w w' ∧
      w'.heap[b]? = some (.cells #[.string scriptB, .int .i64 0, .int .i64 0, E.val k] 39 (0, 0)) :=
  (print_any A n c cs E w hE htab hr hf hn).mono fun e w' ⟨hb, hv⟩ => by
    rcases hv with ⟨t', h1, h2⟩ | ⟨k', v, h1, _, h2, b, _, h3, h4⟩
    · rw [h] at h1; cases h1
    · rw [h] at h1; injection h1 with h1; subst h1; exact ⟨b, by rw [h2, h3], hb, h4⟩

set_option maxHeartbeats 1000000 in
theorem back_many (A : Option Addr) (n c : Nat) (s : ByteArray) (E : Errs) (w : World) (hE : Laid E three w) (h : 1200 < n) (hn : n ≤ maxLen) :
    Calls Tryd.prog 6 #[.slice A n c, .string s] w fun e w' => e = .returned (.bool true) ∧ Below w.heap.size w w' := by
  unfold maxLen at hn
  go_enter Tryd.func6, Tryd.ntmps6
  go_wp2_with (first
    | (go_at_call 9; refine (alive3 E _ hE).mono ?_; rintro e w2 ⟨rfl, hb2⟩))
  go_ret
  exact ⟨rfl, hb2⟩

set_option maxRecDepth 100000 in
set_option maxHeartbeats 4000000 in
theorem back_ok_bad (A : Option Addr) (n c : Nat) (cs : List Sc.Cmd) (s : ByteArray) (E : Errs) (w : World) (hE : Laid E three w) (htab : Tab w) (hr : ReadsC w (.slice A n c) cs) (hf : Fit cs) (hn : n ≤ 1200) (hs : s.size ≤ 140737488355328) (t : List UInt8) (hp : Sc.print cs = .ok t) (k2 l2 c2 : Nat) (hq : Sc.parse s.data.toList = .error (k2, l2, c2)) :
    Calls Tryd.prog 6 #[.slice A n c, .string s] w fun e w' => e = .returned (.bool true) ∧ Below w.heap.size w w' := by
  have hnm : n ≤ maxLen := by unfold maxLen; omega
  have HF := Lib.hid hf
  have HP := Lib.hid hp
  have HQ := Lib.hid hq
  obtain ⟨hpp, hpt, htl, hpa, hpb⟩ := Sc.print_parse hp
  obtain ⟨tb, htb⟩ : ∃ tb : ByteArray, ⟨t.toArray⟩ = tb := ⟨_, rfl⟩
  have htbl : tb.data.toList = t := by rw [← htb]
  have hts : tb.size ≤ 281474976710656 := by rw [← bytes_size, htbl]; omega
  have HTB := Lib.hid htb
  have HPP : Hid (Sc.parse tb.data.toList = .ok cs) := by show _ = _; rw [htbl]; exact hpp
  have HL := Lib.hid hr.len
  have HN1 : Hid (∀ x ∈ cs, x.nums.length ≤ maxLen) := fun x hx => (HF.out x hx).2
  clear hpp htl hpt hpa hpb htb htbl
  have tokA : True := trivial
  have tokP : True := trivial
  clear hf hp hq
  go_enter Tryd.func6, Tryd.ntmps6
  go_wp2_with (first
    | (go_at_call 13; have _t := tokA; refine (print_ok _ _ _ cs E _ ?hE ?ht ?hr ?hf ?hn t ?h).mono ?_; (case h => with_reducible exact HP.out); (case hr => with_reducible exact hr); (case hE => exact hE); (case ht => exact htab); (case hf => exact HF.out); (case hn => exact hnm); rintro e w1 ⟨rfl, hb1⟩; rw [HTB.out]; clear _t tokA)
    | (go_at_call 7; have _t := tokP; refine (parse_good3 _ E _ ?hE ?hs cs ?h).mono ?_; (case h => with_reducible exact HPP.out); (case hs => exact hts); (case hE => exact hE.below hb1); rintro e w2 ⟨A2, cc2, rfl, hb2, ho2, _⟩; rw [HL.out] at ho2 ⊢; clear _t tokP)
    | (go_at_call 11; have _t := ho2; refine (sameCmds_true _ _ _ _ _ cs _ ((hr.below hb1).below hb2) ho2.reads hnm HN1.out).mono ?_; rintro e w3 ⟨rfl, m3, hw3⟩; have hb3 : Below w.heap.size w w3 := (by rw [hw3]; exact below_drewN' (hb1.trans (hb2.mono hb1.size)) m3); clear hw3 _t ho2)
    | (go_at_call 7; refine (parse_bad3 _ E _ ?hE ?hs k2 l2 c2 ?h).mono ?_; (case h => with_reducible exact HQ.out); (case hs => omega); (case hE => exact hE.below hb3); rintro e w4 ⟨b4, rfl, hb4, _, _, _⟩)
    | (go_at_call 9; refine (alive3 E _ ((hE.below hb3).below hb4)).mono ?_; rintro e w5 ⟨rfl, hb5⟩))
  go_ret
  exact ⟨rfl, (hb3.trans (hb4.mono hb3.size)).trans (hb5.mono (Nat.le_trans hb3.size hb4.size))⟩

set_option maxRecDepth 100000 in
set_option maxHeartbeats 4000000 in
theorem back_ok_long (A : Option Addr) (n c : Nat) (cs : List Sc.Cmd) (s : ByteArray) (E : Errs) (w : World) (hE : Laid E three w) (htab : Tab w) (hr : ReadsC w (.slice A n c) cs) (hf : Fit cs) (hn : n ≤ 1200) (hs : s.size ≤ 140737488355328) (t : List UInt8) (hp : Sc.print cs = .ok t) (r : List Sc.Cmd) (hq : Sc.parse s.data.toList = .ok r) (hpr : Sc.print r = .error 2) :
    Calls Tryd.prog 6 #[.slice A n c, .string s] w fun e w' => e = .returned (.bool true) ∧ Below w.heap.size w w' := by
  have hnm : n ≤ maxLen := by unfold maxLen; omega
  have HF := Lib.hid hf
  have HP := Lib.hid hp
  have HQ := Lib.hid hq
  obtain ⟨hpp, hpt, htl, hpa, hpb⟩ := Sc.print_parse hp
  obtain ⟨tb, htb⟩ : ∃ tb : ByteArray, ⟨t.toArray⟩ = tb := ⟨_, rfl⟩
  have htbl : tb.data.toList = t := by rw [← htb]
  have hts : tb.size ≤ 281474976710656 := by rw [← bytes_size, htbl]; omega
  have HTB := Lib.hid htb
  have HPP : Hid (Sc.parse tb.data.toList = .ok cs) := by show _ = _; rw [htbl]; exact hpp
  have HL := Lib.hid hr.len
  have HN1 : Hid (∀ x ∈ cs, x.nums.length ≤ maxLen) := fun x hx => (HF.out x hx).2
  clear hpp htl hpt hpa hpb htb htbl
  have HFR := Lib.hid (fit_parsed hq)
  have HPR := Lib.hid hpr
  have tokB : True := trivial
  have tokA : True := trivial
  have tokP : True := trivial
  clear hf hp hq hpr
  go_enter Tryd.func6, Tryd.ntmps6
  go_wp2_with (first
    | (go_at_call 13; have _t := tokA; refine (print_ok _ _ _ cs E _ ?hE ?ht ?hr ?hf ?hn t ?h).mono ?_; (case h => with_reducible exact HP.out); (case hr => with_reducible exact hr); (case hE => exact hE); (case ht => exact htab); (case hf => exact HF.out); (case hn => exact hnm); rintro e w1 ⟨rfl, hb1⟩; rw [HTB.out]; clear _t tokA)
    | (go_at_call 7; have _t := tokP; refine (parse_good3 _ E _ ?hE ?hs cs ?h).mono ?_; (case h => with_reducible exact HPP.out); (case hs => exact hts); (case hE => exact hE.below hb1); rintro e w2 ⟨A2, cc2, rfl, hb2, ho2, _⟩; rw [HL.out] at ho2 ⊢; clear _t tokP)
    | (go_at_call 11; have _t := ho2; refine (sameCmds_true _ _ _ _ _ cs _ ((hr.below hb1).below hb2) ho2.reads hnm HN1.out).mono ?_; rintro e w3 ⟨rfl, m3, hw3⟩; have hb3 : Below w.heap.size w w3 := (by rw [hw3]; exact below_drewN' (hb1.trans (hb2.mono hb1.size)) m3); clear hw3 _t ho2)
    | (go_at_call 7; refine (parse_good3 _ E _ ?hE ?hs r ?h).mono ?_; (case h => with_reducible exact HQ.out); (case hs => omega); (case hE => exact hE.below hb3); rintro e w4 ⟨A4, c4, rfl, hb4, ho4, hl4⟩; have hbw4 : Below w.heap.size w w4 := hb3.trans (hb4.mono hb3.size); have hn4 : r.length ≤ maxLen := (by unfold maxLen; omega))
    | (go_at_call 13; have _t := tokB; refine (print_err _ _ _ r E _ ?hE ?ht ?hr ?hf ?hn 2 ?h).mono ?_; (case h => with_reducible exact HPR.out); (case hr => exact ho4.reads); (case hE => exact hE.below hbw4); (case ht => exact htab.below hbw4); (case hf => exact HFR.out); (case hn => exact hn4); rintro e w5 ⟨b5, rfl, hb5, hf5⟩; have hbw5 : Below w.heap.size w w5 := hbw4.trans (hb5.mono hbw4.size); clear _t tokB)
    | (go_at_call 9; refine (alive3 E _ (hE.below hbw5)).mono ?_; rintro e w6 ⟨rfl, hb6⟩; have hbw6 : Below w.heap.size w w6 := hbw5.trans (hb6.mono hbw5.size); have hg2 : w6.cell? ⟨0, 0, none⟩ = some (E.val 2) := (hE.below hbw6).cell 2 (by simp); have hq6 : w6.cell? ⟨b5, 3, none⟩ = some (E.val 2) := cell_of_row w6 b5 3 _ _ _ ((hb6.block _ (lt_of hf5)).trans hf5))
    | (go_at_call 14; refine (is_fault_code E three _ 2 2 _ ?hE ?hk (by simp) (by simp)).mono ?_; (case hk => exact hq6); (case hE => exact hE.below hbw6); rintro e w7 ⟨rfl, rfl⟩; simp only [beq_self_eq_true]))
  go_ret
  exact ⟨rfl, hbw6⟩

set_option maxRecDepth 100000 in
set_option maxHeartbeats 4000000 in
theorem back_ok_ok (A : Option Addr) (n c : Nat) (cs : List Sc.Cmd) (s : ByteArray) (E : Errs) (w : World) (hE : Laid E three w) (htab : Tab w) (hr : ReadsC w (.slice A n c) cs) (hf : Fit cs) (hn : n ≤ 1200) (hs : s.size ≤ 140737488355328) (t : List UInt8) (hp : Sc.print cs = .ok t) (r : List Sc.Cmd) (hq : Sc.parse s.data.toList = .ok r) (hpr : Sc.print r = .ok (Sc.textOf r)) :
    Calls Tryd.prog 6 #[.slice A n c, .string s] w fun e w' => e = .returned (.bool true) ∧ Below w.heap.size w w' := by
  have hnm : n ≤ maxLen := by unfold maxLen; omega
  have HF := Lib.hid hf
  have HP := Lib.hid hp
  have HQ := Lib.hid hq
  obtain ⟨hpp, hpt, htl, hpa, hpb⟩ := Sc.print_parse hp
  obtain ⟨tb, htb⟩ : ∃ tb : ByteArray, ⟨t.toArray⟩ = tb := ⟨_, rfl⟩
  have htbl : tb.data.toList = t := by rw [← htb]
  have hts : tb.size ≤ 281474976710656 := by rw [← bytes_size, htbl]; omega
  have HTB := Lib.hid htb
  have HPP : Hid (Sc.parse tb.data.toList = .ok cs) := by show _ = _; rw [htbl]; exact hpp
  have HL := Lib.hid hr.len
  have HN1 : Hid (∀ x ∈ cs, x.nums.length ≤ maxLen) := fun x hx => (HF.out x hx).2
  clear hpp htl hpt hpa hpb htb htbl
  have HFR := Lib.hid (fit_parsed hq)
  have HPR := Lib.hid hpr
  have tokB : True := trivial
  have hpr2 := Sc.print_parse hpr
  obtain ⟨rb, hrb⟩ : ∃ rb : ByteArray, ⟨(Sc.textOf r).toArray⟩ = rb := ⟨_, rfl⟩
  have hrbl : rb.data.toList = Sc.textOf r := by rw [← hrb]
  have htr : rb.size ≤ 281474976710656 := by have := hpr2.2.2.1; rw [← bytes_size, hrbl]; omega
  have HRB := Lib.hid hrb
  have HPR2 : Hid (Sc.parse rb.data.toList = .ok r) := by show _ = _; rw [hrbl]; exact hpr2.1
  have HNR : Hid (∀ x ∈ r, x.nums.length ≤ maxLen) := fun x hx => (HFR.out x hx).2
  clear hpr2 hrb hrbl
  have tokA : True := trivial
  have tokP : True := trivial
  clear hf hp hq hpr
  go_enter Tryd.func6, Tryd.ntmps6
  go_wp2_with (first
    | (go_at_call 13; have _t := tokA; refine (print_ok _ _ _ cs E _ ?hE ?ht ?hr ?hf ?hn t ?h).mono ?_; (case h => with_reducible exact HP.out); (case hr => with_reducible exact hr); (case hE => exact hE); (case ht => exact htab); (case hf => exact HF.out); (case hn => exact hnm); rintro e w1 ⟨rfl, hb1⟩; rw [HTB.out]; clear _t tokA)
    | (go_at_call 7; have _t := tokP; refine (parse_good3 _ E _ ?hE ?hs cs ?h).mono ?_; (case h => with_reducible exact HPP.out); (case hs => exact hts); (case hE => exact hE.below hb1); rintro e w2 ⟨A2, cc2, rfl, hb2, ho2, _⟩; rw [HL.out] at ho2 ⊢; clear _t tokP)
    | (go_at_call 11; have _t := ho2; refine (sameCmds_true _ _ _ _ _ cs _ ((hr.below hb1).below hb2) ho2.reads hnm HN1.out).mono ?_; rintro e w3 ⟨rfl, m3, hw3⟩; have hb3 : Below w.heap.size w w3 := (by rw [hw3]; exact below_drewN' (hb1.trans (hb2.mono hb1.size)) m3); clear hw3 _t ho2)
    | (go_at_call 7; refine (parse_good3 _ E _ ?hE ?hs r ?h).mono ?_; (case h => with_reducible exact HQ.out); (case hs => omega); (case hE => exact hE.below hb3); rintro e w4 ⟨A4, c4, rfl, hb4, ho4, hl4⟩; have hbw4 : Below w.heap.size w w4 := hb3.trans (hb4.mono hb3.size); have hn4 : r.length ≤ maxLen := (by unfold maxLen; omega))
    | (go_at_call 13; have _t := tokB; refine (print_ok _ _ _ r E _ ?hE ?ht ?hr ?hf ?hn (Sc.textOf r) ?h).mono ?_; (case h => with_reducible exact HPR.out); (case hr => exact ho4.reads); (case hE => exact hE.below hbw4); (case ht => exact htab.below hbw4); (case hf => exact HFR.out); (case hn => exact hn4); rintro e w5 ⟨rfl, hb5⟩; rw [HRB.out]; have hbw5 : Below w.heap.size w w5 := hbw4.trans (hb5.mono hbw4.size); clear _t tokB)
    | (go_at_call 7; refine (parse_good3 _ E _ ?hE ?hs r ?h).mono ?_; (case h => with_reducible exact HPR2.out); (case hs => exact htr); (case hE => exact hE.below hbw5); rintro e w6 ⟨A6, c6, rfl, hb6, ho6, _⟩; have hbw6 : Below w.heap.size w w6 := hbw5.trans (hb6.mono hbw5.size))
    | (go_at_call 13; refine (print_ok _ _ _ r E _ ?hE ?ht ?hr ?hf ?hn (Sc.textOf r) ?h).mono ?_; (case h => with_reducible exact HPR.out); (case hr => exact ho6.reads); (case hE => exact hE.below hbw6); (case ht => exact htab.below hbw6); (case hf => exact HFR.out); (case hn => exact hn4); rintro e w7 ⟨rfl, hb7⟩; rw [HRB.out]; have hbw7 : Below w.heap.size w w7 := hbw6.trans (hb7.mono hbw6.size))
    | (go_at_call 9; refine (alive3 E _ (hE.below hbw7)).mono ?_; rintro e w8 ⟨rfl, hb8⟩; have hbw8 : Below w.heap.size w w8 := hbw7.trans (hb8.mono hbw7.size))
    | (go_at_call 11; refine (sameCmds_true _ _ _ _ _ r _ ?ha ?hb hn4 HNR.out).mono ?_; (case ha => exact (((ho4.reads.below hb5).below hb6).below hb7).below hb8); (case hb => exact (ho6.reads.below hb7).below hb8); rintro e w9 ⟨rfl, m9, rfl⟩))
  go_ret
  exact ⟨rfl, below_drewN' hbw8 m9⟩

set_option maxRecDepth 100000 in
set_option maxHeartbeats 4000000 in
theorem back_no_bad (A : Option Addr) (n c : Nat) (cs : List Sc.Cmd) (s : ByteArray) (E : Errs) (w : World) (hE : Laid E three w) (htab : Tab w) (hr : ReadsC w (.slice A n c) cs) (hf : Fit cs) (hn : n ≤ 1200) (hs : s.size ≤ 140737488355328) (k : Nat) (hp : Sc.print cs = .error k) (k2 l2 c2 : Nat) (hq : Sc.parse s.data.toList = .error (k2, l2, c2)) :
    Calls Tryd.prog 6 #[.slice A n c, .string s] w fun e w' => e = .returned (.bool true) ∧ Below w.heap.size w w' := by
  have hnm : n ≤ maxLen := by unfold maxLen; omega
  have HF := Lib.hid hf
  have HP := Lib.hid hp
  have HQ := Lib.hid hq
  have tokA : True := trivial
  have tokP : True := trivial
  clear hf hp hq
  go_enter Tryd.func6, Tryd.ntmps6
  go_wp2_with (first
    | (go_at_call 13; have _t := tokA; refine (print_err _ _ _ cs E _ ?hE ?ht ?hr ?hf ?hn k ?h).mono ?_; (case h => with_reducible exact HP.out); (case hr => with_reducible exact hr); (case hE => exact hE); (case ht => exact htab); (case hf => exact HF.out); (case hn => exact hnm); rintro e w3 ⟨b1, rfl, hb3, _⟩; clear _t tokA)
    | (go_at_call 7; refine (parse_bad3 _ E _ ?hE ?hs k2 l2 c2 ?h).mono ?_; (case h => with_reducible exact HQ.out); (case hs => omega); (case hE => exact hE.below hb3); rintro e w4 ⟨b4, rfl, hb4, _, _, _⟩)
    | (go_at_call 9; refine (alive3 E _ ((hE.below hb3).below hb4)).mono ?_; rintro e w5 ⟨rfl, hb5⟩))
  go_ret
  exact ⟨rfl, (hb3.trans (hb4.mono hb3.size)).trans (hb5.mono (Nat.le_trans hb3.size hb4.size))⟩

set_option maxRecDepth 100000 in
set_option maxHeartbeats 4000000 in
theorem back_no_long (A : Option Addr) (n c : Nat) (cs : List Sc.Cmd) (s : ByteArray) (E : Errs) (w : World) (hE : Laid E three w) (htab : Tab w) (hr : ReadsC w (.slice A n c) cs) (hf : Fit cs) (hn : n ≤ 1200) (hs : s.size ≤ 140737488355328) (k : Nat) (hp : Sc.print cs = .error k) (r : List Sc.Cmd) (hq : Sc.parse s.data.toList = .ok r) (hpr : Sc.print r = .error 2) :
    Calls Tryd.prog 6 #[.slice A n c, .string s] w fun e w' => e = .returned (.bool true) ∧ Below w.heap.size w w' := by
  have hnm : n ≤ maxLen := by unfold maxLen; omega
  have HF := Lib.hid hf
  have HP := Lib.hid hp
  have HQ := Lib.hid hq
  have HFR := Lib.hid (fit_parsed hq)
  have HPR := Lib.hid hpr
  have tokB : True := trivial
  have tokA : True := trivial
  have tokP : True := trivial
  clear hf hp hq hpr
  go_enter Tryd.func6, Tryd.ntmps6
  go_wp2_with (first
    | (go_at_call 13; have _t := tokA; refine (print_err _ _ _ cs E _ ?hE ?ht ?hr ?hf ?hn k ?h).mono ?_; (case h => with_reducible exact HP.out); (case hr => with_reducible exact hr); (case hE => exact hE); (case ht => exact htab); (case hf => exact HF.out); (case hn => exact hnm); rintro e w3 ⟨b1, rfl, hb3, _⟩; clear _t tokA)
    | (go_at_call 7; refine (parse_good3 _ E _ ?hE ?hs r ?h).mono ?_; (case h => with_reducible exact HQ.out); (case hs => omega); (case hE => exact hE.below hb3); rintro e w4 ⟨A4, c4, rfl, hb4, ho4, hl4⟩; have hbw4 : Below w.heap.size w w4 := hb3.trans (hb4.mono hb3.size); have hn4 : r.length ≤ maxLen := (by unfold maxLen; omega))
    | (go_at_call 13; have _t := tokB; refine (print_err _ _ _ r E _ ?hE ?ht ?hr ?hf ?hn 2 ?h).mono ?_; (case h => with_reducible exact HPR.out); (case hr => exact ho4.reads); (case hE => exact hE.below hbw4); (case ht => exact htab.below hbw4); (case hf => exact HFR.out); (case hn => exact hn4); rintro e w5 ⟨b5, rfl, hb5, hf5⟩; have hbw5 : Below w.heap.size w w5 := hbw4.trans (hb5.mono hbw4.size); clear _t tokB)
    | (go_at_call 9; refine (alive3 E _ (hE.below hbw5)).mono ?_; rintro e w6 ⟨rfl, hb6⟩; have hbw6 : Below w.heap.size w w6 := hbw5.trans (hb6.mono hbw5.size); have hg2 : w6.cell? ⟨0, 0, none⟩ = some (E.val 2) := (hE.below hbw6).cell 2 (by simp); have hq6 : w6.cell? ⟨b5, 3, none⟩ = some (E.val 2) := cell_of_row w6 b5 3 _ _ _ ((hb6.block _ (lt_of hf5)).trans hf5))
    | (go_at_call 14; refine (is_fault_code E three _ 2 2 _ ?hE ?hk (by simp) (by simp)).mono ?_; (case hk => exact hq6); (case hE => exact hE.below hbw6); rintro e w7 ⟨rfl, rfl⟩; simp only [beq_self_eq_true]))
  go_ret
  exact ⟨rfl, hbw6⟩

set_option maxRecDepth 100000 in
set_option maxHeartbeats 4000000 in
theorem back_no_ok (A : Option Addr) (n c : Nat) (cs : List Sc.Cmd) (s : ByteArray) (E : Errs) (w : World) (hE : Laid E three w) (htab : Tab w) (hr : ReadsC w (.slice A n c) cs) (hf : Fit cs) (hn : n ≤ 1200) (hs : s.size ≤ 140737488355328) (k : Nat) (hp : Sc.print cs = .error k) (r : List Sc.Cmd) (hq : Sc.parse s.data.toList = .ok r) (hpr : Sc.print r = .ok (Sc.textOf r)) :
    Calls Tryd.prog 6 #[.slice A n c, .string s] w fun e w' => e = .returned (.bool true) ∧ Below w.heap.size w w' := by
  have hnm : n ≤ maxLen := by unfold maxLen; omega
  have HF := Lib.hid hf
  have HP := Lib.hid hp
  have HQ := Lib.hid hq
  have HFR := Lib.hid (fit_parsed hq)
  have HPR := Lib.hid hpr
  have tokB : True := trivial
  have hpr2 := Sc.print_parse hpr
  obtain ⟨rb, hrb⟩ : ∃ rb : ByteArray, ⟨(Sc.textOf r).toArray⟩ = rb := ⟨_, rfl⟩
  have hrbl : rb.data.toList = Sc.textOf r := by rw [← hrb]
  have htr : rb.size ≤ 281474976710656 := by have := hpr2.2.2.1; rw [← bytes_size, hrbl]; omega
  have HRB := Lib.hid hrb
  have HPR2 : Hid (Sc.parse rb.data.toList = .ok r) := by show _ = _; rw [hrbl]; exact hpr2.1
  have HNR : Hid (∀ x ∈ r, x.nums.length ≤ maxLen) := fun x hx => (HFR.out x hx).2
  clear hpr2 hrb hrbl
  have tokA : True := trivial
  have tokP : True := trivial
  clear hf hp hq hpr
  go_enter Tryd.func6, Tryd.ntmps6
  go_wp2_with (first
    | (go_at_call 13; have _t := tokA; refine (print_err _ _ _ cs E _ ?hE ?ht ?hr ?hf ?hn k ?h).mono ?_; (case h => with_reducible exact HP.out); (case hr => with_reducible exact hr); (case hE => exact hE); (case ht => exact htab); (case hf => exact HF.out); (case hn => exact hnm); rintro e w3 ⟨b1, rfl, hb3, _⟩; clear _t tokA)
    | (go_at_call 7; refine (parse_good3 _ E _ ?hE ?hs r ?h).mono ?_; (case h => with_reducible exact HQ.out); (case hs => omega); (case hE => exact hE.below hb3); rintro e w4 ⟨A4, c4, rfl, hb4, ho4, hl4⟩; have hbw4 : Below w.heap.size w w4 := hb3.trans (hb4.mono hb3.size); have hn4 : r.length ≤ maxLen := (by unfold maxLen; omega))
    | (go_at_call 13; have _t := tokB; refine (print_ok _ _ _ r E _ ?hE ?ht ?hr ?hf ?hn (Sc.textOf r) ?h).mono ?_; (case h => with_reducible exact HPR.out); (case hr => exact ho4.reads); (case hE => exact hE.below hbw4); (case ht => exact htab.below hbw4); (case hf => exact HFR.out); (case hn => exact hn4); rintro e w5 ⟨rfl, hb5⟩; rw [HRB.out]; have hbw5 : Below w.heap.size w w5 := hbw4.trans (hb5.mono hbw4.size); clear _t tokB)
    | (go_at_call 7; refine (parse_good3 _ E _ ?hE ?hs r ?h).mono ?_; (case h => with_reducible exact HPR2.out); (case hs => exact htr); (case hE => exact hE.below hbw5); rintro e w6 ⟨A6, c6, rfl, hb6, ho6, _⟩; have hbw6 : Below w.heap.size w w6 := hbw5.trans (hb6.mono hbw5.size))
    | (go_at_call 13; refine (print_ok _ _ _ r E _ ?hE ?ht ?hr ?hf ?hn (Sc.textOf r) ?h).mono ?_; (case h => with_reducible exact HPR.out); (case hr => exact ho6.reads); (case hE => exact hE.below hbw6); (case ht => exact htab.below hbw6); (case hf => exact HFR.out); (case hn => exact hn4); rintro e w7 ⟨rfl, hb7⟩; rw [HRB.out]; have hbw7 : Below w.heap.size w w7 := hbw6.trans (hb7.mono hbw6.size))
    | (go_at_call 9; refine (alive3 E _ (hE.below hbw7)).mono ?_; rintro e w8 ⟨rfl, hb8⟩; have hbw8 : Below w.heap.size w w8 := hbw7.trans (hb8.mono hbw7.size))
    | (go_at_call 11; refine (sameCmds_true _ _ _ _ _ r _ ?ha ?hb hn4 HNR.out).mono ?_; (case ha => exact (((ho4.reads.below hb5).below hb6).below hb7).below hb8); (case hb => exact (ho6.reads.below hb7).below hb8); rintro e w9 ⟨rfl, m9, rfl⟩))
  go_ret
  exact ⟨rfl, below_drewN' hbw8 m9⟩

/-- ScriptBack returns true. -/
theorem sback_true (A : Option Addr) (n c : Nat) (cs : List Sc.Cmd) (s : ByteArray) (E : Errs) (w : World) (hE : Laid E three w) (htab : Tab w) (hr : ReadsC w (.slice A n c) cs) (hf : Fit cs) (hn : n ≤ maxLen) (hs : s.size ≤ 140737488355328) :
    Calls Tryd.prog 6 #[.slice A n c, .string s] w fun e w' => e = .returned (.bool true) ∧ Below w.heap.size w w' := by
  by_cases h : 1200 < n
  · exact back_many A n c s E w hE h hn
  · have hn' : n ≤ 1200 := by omega
    cases hp : Sc.print cs with
    | ok t =>
      cases hq : Sc.parse s.data.toList with
      | error b => obtain ⟨k2, l2, c2⟩ := b; exact back_ok_bad A n c cs s E w hE htab hr hf hn' hs t hp k2 l2 c2 hq
      | ok r =>
        rcases (Sc.parse_print hq).2.2 with h2 | h2
        · exact back_ok_long A n c cs s E w hE htab hr hf hn' hs t hp r hq h2
        · exact back_ok_ok A n c cs s E w hE htab hr hf hn' hs t hp r hq h2
    | error k =>
      cases hq : Sc.parse s.data.toList with
      | error b => obtain ⟨k2, l2, c2⟩ := b; exact back_no_bad A n c cs s E w hE htab hr hf hn' hs k hp k2 l2 c2 hq
      | ok r =>
        rcases (Sc.parse_print hq).2.2 with h2 | h2
        · exact back_no_long A n c cs s E w hE htab hr hf hn' hs k hp r hq h2
        · exact back_no_ok A n c cs s E w hE htab hr hf hn' hs k hp r hq h2
end Go.Proofs.YtinobikikineiabDoor
