/- The walk of the law ScriptLines: for every two texts it returns true. Condition: the error variables lie as the program lays them. -/
import Derived.Test.YtinobikikineiabDoorSLawBlanks
import Derived.Test.YtinobikikineiabDoorSAppend
import Derived.Deep.RegionHeld3
import Derived.IntWalk
namespace Go.Proofs.YtinobikikineiabDoor
open Go.RowKit Go.Shelf

namespace Sc
theorem count_cuts (l : List UInt8) : (Lx.cuts l).length = 1 + l.count 10 := by
  induction l with
  | nil => rfl
  | cons c t ih =>
    by_cases hc : c = 10
    · subst hc; rw [Lx.cuts_nl, List.length_cons, ih, List.count_cons_self]; omega
    · obtain ⟨q, qs, hq⟩ : ∃ q qs, Lx.cuts t = q :: qs := by
        cases hh : Lx.cuts t with
        | nil => exact absurd hh (Lx.cuts_ne t)
        | cons q qs => exact ⟨q, qs, rfl⟩
      rw [hq] at ih
      rw [Lx.cuts_other c t q qs hc hq, List.count_cons_of_ne hc]
      exact ih
theorem count_take (l : List UInt8) (k : Nat) (c : UInt8) (h : l[k]? = some c) : (l.take (k + 1)).count 10 = (l.take k).count 10 + (if c = 10 then 1 else 0) := by
  rw [List.take_add_one, h, List.count_append]
  congr 1
  by_cases hc : c = 10
  · subst hc; simp
  · rw [if_neg hc]; simp [List.count_cons_of_ne hc]
end Sc
/-- Parse's two results, whatever they are. -/
theorem parse_some (s : ByteArray) (E : Errs) (w : World) (hE : Laid E nineteen w) (hs : s.size ≤ 281474976710656) :
    Calls Tryd.prog 7 #[.string s] w fun e w' => ∃ A n c ev, e = .returned (.tuple #[.slice A n c, ev]) ∧ Below w.heap.size w w' := by
  refine (parse_any s E w hE.three_of hs).mono fun e w' ⟨hb, h⟩ => ?_
  rcases h with ⟨cs, v, _, rfl, ho, _⟩ | ⟨c, l, co, v, _, _, rfl, _⟩
  · obtain ⟨A, c, rfl⟩ := ho.slice
    exact ⟨A, _, c, _, rfl, hb⟩
  · exact ⟨_, _, _, _, rfl, hb⟩

set_option maxHeartbeats 1000000 in
theorem lines_long (s t : ByteArray) (E : Errs) (w : World) (hE : Laid E nineteen w) (h : 60000 < s.size + t.size) (hs : s.size ≤ 140737488355328) (ht : t.size ≤ 140737488355328) :
    Calls Tryd.prog 5 #[.string s, .string t] w fun e w' => e = .returned (.bool true) ∧ Below w.heap.size w w' := by
  go_enter Tryd.func5, Tryd.ntmps5
  go_wp2_with (first
    | (go_at_call 9; refine (alive_any E _ hE).mono ?_; rintro e w2 ⟨rfl, hb2⟩))
  go_ret
  exact ⟨rfl, hb2⟩

set_option maxRecDepth 100000 in
set_option maxHeartbeats 2000000 in
theorem lines_bad (s t : ByteArray) (E : Errs) (w : World) (hE : Laid E nineteen w) (h : s.size + t.size ≤ 60000) (c l1 c1 : Nat) (hp : Sc.parse s.data.toList = .error (c, l1, c1)) :
    Calls Tryd.prog 5 #[.string s, .string t] w fun e w' => e = .returned (.bool true) ∧ Below w.heap.size w w' := by
  have H1 := Lib.hid hp
  clear hp
  have tok : True := trivial
  go_enter Tryd.func5, Tryd.ntmps5
  go_wp2_with (first
    | (go_at_call 7; have _t := tok; refine (parse_bad _ E _ ?hE ?hs c l1 c1 ?h).mono ?_; (case h => with_reducible exact H1.out); (case hs => omega); (case hE => exact hE); rintro e w1 ⟨b1, rfl, hb1, hB1, hf1, hc⟩; clear tok _t)
    | (go_at_call 7; refine (parse_some _ E _ ?hE ?hs).mono ?_; (case hs => omega); (case hE => exact hE.below hb1); rintro e w2 ⟨A, n, k, ev, rfl, hb2⟩)
    | (go_at_call 9; refine (alive_any E _ ((hE.below hb1).below hb2)).mono ?_; rintro e w3 ⟨rfl, hb3⟩))
  go_ret
  exact ⟨rfl, (hb1.trans (hb2.mono hb1.size)).trans (hb3.mono (Nat.le_trans hb1.size hb2.size))⟩

set_option maxRecDepth 100000 in
set_option maxHeartbeats 2000000 in
theorem lines_many (s t : ByteArray) (E : Errs) (w : World) (hE : Laid E nineteen w) (h : s.size + t.size ≤ 60000) (r m : List Sc.Cmd) (hp : Sc.parse s.data.toList = .ok r) (hq : Sc.parse t.data.toList = .ok m) (hm : 1000 < r.length + m.length) :
    Calls Tryd.prog 5 #[.string s, .string t] w fun e w' => e = .returned (.bool true) ∧ Below w.heap.size w w' := by
  have H1 := Lib.hid hp
  have H2 := Lib.hid hq
  clear hp hq
  have tok : True := trivial
  go_enter Tryd.func5, Tryd.ntmps5
  go_wp2_with (first
    | (go_at_call 7; have _t := tok; refine (parse_good _ E _ ?hE ?hs r ?h).mono ?_; (case h => with_reducible exact H1.out); (case hs => omega); (case hE => exact hE); rintro e w1 ⟨A1, k1, rfl, hb1, ho1, hl1⟩; clear tok _t)
    | (go_at_call 7; refine (parse_good _ E _ ?hE ?hs m ?h).mono ?_; (case h => with_reducible exact H2.out); (case hs => omega); (case hE => exact hE.below hb1); rintro e w2 ⟨A2, k2, rfl, hb2, ho2, hl2⟩)
    | (go_at_call 9; refine (alive_any E _ ((hE.below hb1).below hb2)).mono ?_; rintro e w3 ⟨rfl, hb3⟩))
  go_ret
  exact ⟨rfl, (hb1.trans (hb2.mono hb1.size)).trans (hb3.mono (Nat.le_trans hb1.size hb2.size))⟩

theorem behind_size (s t : ByteArray) (h : s.size + t.size ≤ 60000) : (s ++ ⟨#[10]⟩ ++ t).size ≤ 70000 := by
  have z : (⟨#[10]⟩ : ByteArray).size = 1 := rfl
  rw [ByteArray.size_append, ByteArray.size_append, z]; omega
theorem behind (s t : ByteArray) : (s ++ ⟨#[10]⟩ ++ t).data.toList = s.data.toList ++ 10 :: t.data.toList := by simp
/-- The loop that counts lines (kept shut). -/
def CountRel (s : ByteArray) (n i : Value) : Prop := ∃ k : Nat, k ≤ s.size ∧ i = .int .i64 k ∧ n = .int .i64 ((1 + (s.data.toList.take k).count 10 : Nat) : Int) ∧ (s.data.toList.take k).count 10 ≤ k
theorem count_end (s : ByteArray) : 1 + (s.data.toList.take s.size).count 10 = (Lx.cuts s.data.toList).length := by
  rw [List.take_of_length_le (by rw [bytes_size]; exact Nat.le_refl _), Sc.count_cuts]
set_option maxRecDepth 100000 in
set_option maxHeartbeats 4000000 in
theorem lines_ok (s t : ByteArray) (E : Errs) (w : World) (hE : Laid E nineteen w) (h : s.size + t.size ≤ 60000) (r m : List Sc.Cmd) (hp : Sc.parse s.data.toList = .ok r) (hq : Sc.parse t.data.toList = .ok m) (hm : r.length + m.length ≤ 1000) :
    Calls Tryd.prog 5 #[.string s, .string t] w fun e w' => e = .returned (.bool true) ∧ Below w.heap.size w w' := by
  obtain ⟨i0, hi, hz0, hz1, hz2'⟩ := info_parts infoCmd
  have hlaw := (Sc.lines_law s.data.toList t.data.toList r (by rw [bytes_size, bytes_size]; exact h) hp).1 m hq hm
  rw [← behind] at hlaw
  have HN := Lib.hid (nums_three hlaw)
  have hlen := Lib.hid ((List.length_append : (r ++ m).length = r.length + m.length))
  have H1 := Lib.hid hp
  have H2 := Lib.hid hq
  have H3 := Lib.hid hlaw
  clear hp hq hlaw
  have hsz3 := behind_size s t h
  have tok : True := trivial
  have tok2 : True := trivial
  go_enter Tryd.func5, Tryd.ntmps5
  go_wp2_with (first
    | (go_at_call 7; have _t := tok; refine (parse_good _ E _ ?hE ?hs r ?h).mono ?_; (case h => with_reducible exact H1.out); (case hs => omega); (case hE => exact hE); rintro e w1 ⟨A1, k1, rfl, hb1, ho1, hl1⟩; clear tok _t)
    | (go_at_call 7; have _t := tok2; refine (parse_good _ E _ ?hE ?hs m ?h).mono ?_; (case h => with_reducible exact H2.out); (case hs => omega); (case hE => exact hE.below hb1); rintro e w2 ⟨A2, k2, rfl, hb2, ho2, hl2⟩; clear tok2 _t))
  have hE2 := (hE.below hb1).below hb2
  have hb12 := hb1.trans (hb2.mono hb1.size)
  go_loop [9, 10] (fun n i => CountRel s n i) (fun _ i => s.size - (intOf i).toNat)
  case atStart => exact ⟨0, Nat.zero_le _, rfl, rfl, by simp⟩
  case round =>
    obtain ⟨k, hk, rfl, rfl, hcl⟩ := hrel
    by_cases hlt : k < s.size
    · have hbyte := bytes_get s k hlt
      by_cases h10 : s[k] = 10
      · have e2 : ((s[k].toNat : Int) == 10) = true := by rw [h10]; rfl
        have HC := Lib.hid (Sc.count_take s.data.toList k 10 (by rw [hbyte, h10]))
        have hcc := HC.out
        rw [if_pos rfl] at hcc
        clear h10 hbyte
        go_wp2
        go_round
        case rel => exact ⟨k + 1, by omega, by go_num, by rw [hcc]; go_num, by omega⟩
        case measure => simp [intOf]; omega
      · have e2 : ((s[k].toNat : Int) == 10) = false := by
          rw [beq_eq_false_iff_ne]
          exact fun e => h10 (UInt8.toNat_inj.1 (by show s[k].toNat = 10; omega))
        have HC := Lib.hid (Sc.count_take s.data.toList k _ hbyte)
        have hcc := HC.out
        rw [if_neg h10] at hcc
        clear h10 hbyte
        go_wp2
        go_round
        case rel => exact ⟨k + 1, by omega, by go_num, by rw [hcc]; rfl, by omega⟩
        case measure => simp [intOf]; omega
    · obtain rfl : k = s.size := by omega
      have hce := count_end s
      clear hcl hce
      go_wp2_with (first
        | (go_at_call 7; refine (parse_good _ E _ ?hE ?hs (r ++ m) ?h).mono ?_; (case h => with_reducible exact H3.out); (case hs => omega); (case hE => exact hE2); rintro e w3 ⟨A3, k3, rfl, hb3, ho3, hl3⟩; rw [hlen.out] at ho3 ⊢)
        | (go_at_call 9; refine (alive_any E _ (hE2.below hb3)).mono ?_; rintro e w4 ⟨rfl, hb4⟩;
            obtain ⟨us, hus⟩ := (ho1.keep fun b _ _ _ hh => (hb4.block b (Nat.lt_of_lt_of_le (Nat.lt_of_lt_of_le (lt_of_cells hh) hb2.size) hb3.size)).trans ((hb3.block b (Nat.lt_of_lt_of_le (lt_of_cells hh) hb2.size)).trans ((hb2.block b (lt_of_cells hh)).trans hh))).at;
            obtain ⟨vs, hvs⟩ := (ho2.keep fun b _ _ _ hh => (hb4.block b (Nat.lt_of_lt_of_le (lt_of_cells hh) hb3.size)).trans ((hb3.block b (lt_of_cells hh)).trans hh)).at)
        | (at_builtin; have _t := hus; refine wpList_append_src _ rfl _ _ 22 rfl w4.heap.size 51 i0 _ 3 56 Tryd.underlying22 hi hz0 hz1 hz2' rfl (by decide) _ 0 [] rfl (World.ownsRow_nil _ _ _ _) w.heap.size _ r.length (flatC r us) rfl hus.own hus.one (by unfold maxLen; omega) (by omega) (Nat.le_refl _) ?_; intro v5 w5 hown5 hg5; rw [Nat.zero_add, List.nil_append] at hown5;
            have hb5 := below_append hb4 (World.ownsRow_nil w4 w4.heap.size 51 3) hb4.size hb4.size hg5;
            have hbz : w.heap.size ≤ w4.heap.size := (by have := hb1.size; have := hb2.size; have := hb3.size; have := hb4.size; omega); have hc5 := CmdsAt.first hus hown5 hbz hg5;
            have hv5 := (hvs.low hb1.size).grown hg5; clear _t hus; obtain ⟨A5, cap5, rfl⟩ := own_slice hown5)
        | (at_builtin; refine wpList_append_src _ rfl _ _ 22 rfl w4.heap.size 51 i0 _ 3 56 Tryd.underlying22 hi hz0 hz1 hz2' rfl (by decide) _ _ _ rfl hown5 w.heap.size _ m.length (flatC m vs) rfl hv5.own hv5.one (by unfold maxLen; omega) (by omega) hg5.size ?_; intro v6 w6 hown6 hg6; obtain ⟨A6, cap6, rfl⟩ := own_slice hown6;
            have hb6 := below_append hb5 hown5 hb4.size hb5.size hg6;
            have hc6 := CmdsAt.copy hc5 hv5 hown6 hbz (ints_kept hown5 hg6))
        | (go_at_call 11; refine (sameCmds_true _ _ _ _ _ (r ++ m) _ (ho3.reads.below hb6) hc6.owns.reads ?_ ?_).mono ?_; (unfold maxLen; omega); (exact fun x hx => Nat.le_trans (HN.out x hx) (by unfold maxLen; omega)); rintro e w7 ⟨rfl, mm, rfl⟩))
      go_ret
      exact ⟨rfl, below_drewN' ((hb12.trans (hb3.mono hb12.size)).trans (hb6.mono (Nat.le_trans hb12.size hb3.size))) mm⟩


set_option maxRecDepth 100000 in
set_option maxHeartbeats 4000000 in
theorem lines_two (s t : ByteArray) (E : Errs) (w : World) (hE : Laid E nineteen w) (h : s.size + t.size ≤ 60000) (r : List Sc.Cmd) (hp : Sc.parse s.data.toList = .ok r) (a l1 c1 b l2 c2 : Nat) (hq : Sc.parse t.data.toList = .error (a, l1, c1))
    (h3 : Sc.parse (s ++ ⟨#[10]⟩ ++ t).data.toList = .error (b, l2, c2)) (hab : a = 2 ∨ (a = 19 ∧ b = 2)) :
    Calls Tryd.prog 5 #[.string s, .string t] w fun e w' => e = .returned (.bool true) ∧ Below w.heap.size w w' := by
  have H1 := Lib.hid hp
  have H2 := Lib.hid hq
  have H3 := Lib.hid h3
  clear hp hq h3
  have aF := assertFault
  have hsz3 := behind_size s t h
  have tok : True := trivial
  have tok2 : True := trivial
  have HAB : Hid ((((a : Nat) : Int) == 2) = true ∨ ((((a : Nat) : Int) == 2) = false ∧ (((b : Nat) : Int) == 2) = true)) := by
    rcases hab with rfl | ⟨rfl, rfl⟩
    · exact .inl rfl
    · exact .inr ⟨rfl, rfl⟩
  go_enter Tryd.func5, Tryd.ntmps5
  go_wp2_with (first
    | (go_at_call 7; have _t := tok; refine (parse_good _ E _ ?hE ?hs r ?h).mono ?_; (case h => with_reducible exact H1.out); (case hs => omega); (case hE => exact hE); rintro e w1 ⟨A1, k1, rfl, hb1, ho1, hl1⟩; clear tok _t)
    | (go_at_call 7; have _t := tok2; refine (parse_bad _ E _ ?hE ?hs a l1 c1 ?h).mono ?_; (case h => with_reducible exact H2.out); (case hs => omega); (case hE => exact hE.below hb1); rintro e w2 ⟨b2, rfl, hb2, hB2, hf2, hc2⟩; clear tok2 _t))
  have hE2 := (hE.below hb1).below hb2
  have hb12 := hb1.trans (hb2.mono hb1.size)
  go_loop [9, 10] (fun n i => CountRel s n i) (fun _ i => s.size - (intOf i).toNat)
  case atStart => exact ⟨0, Nat.zero_le _, rfl, rfl, by simp⟩
  case round =>
    obtain ⟨k, hk, rfl, rfl, hcl⟩ := hrel
    by_cases hlt : k < s.size
    · have hbyte := bytes_get s k hlt
      by_cases h10 : s[k] = 10
      · have e2 : ((s[k].toNat : Int) == 10) = true := by rw [h10]; rfl
        have HC := Lib.hid (Sc.count_take s.data.toList k 10 (by rw [hbyte, h10]))
        have hcc := HC.out
        rw [if_pos rfl] at hcc
        clear h10 hbyte
        go_wp2
        go_round
        case rel => exact ⟨k + 1, by omega, by go_num, by rw [hcc]; go_num, by omega⟩
        case measure => simp [intOf]; omega
      · have e2 : ((s[k].toNat : Int) == 10) = false := by
          rw [beq_eq_false_iff_ne]
          exact fun e => h10 (UInt8.toNat_inj.1 (by show s[k].toNat = 10; omega))
        have HC := Lib.hid (Sc.count_take s.data.toList k _ hbyte)
        have hcc := HC.out
        rw [if_neg h10] at hcc
        clear h10 hbyte
        go_wp2
        go_round
        case rel => exact ⟨k + 1, by omega, by go_num, by rw [hcc]; rfl, by omega⟩
        case measure => simp [intOf]; omega
    · obtain rfl : k = s.size := by omega
      have hce := count_end s
      clear hcl hce
      rcases HAB.out with x1 | ⟨x1, x2⟩
      all_goals
        go_wp2_with (first
          | (go_at_call 7; refine (parse_bad _ E _ ?hE ?hs b l2 c2 ?h).mono ?_; (case h => with_reducible exact H3.out); (case hs => omega); (case hE => exact hE2); rintro e w3 ⟨b3, rfl, hb3, hB3, hf3, hc3⟩;
              have q1 : w3.cell? ⟨b2, 3, none⟩ = some (E.val a) := cell_of_row w3 b2 3 _ _ _ ((hb3.block _ (lt_of_cells hf2)).trans hf2); have q2 : w3.cell? ⟨b3, 3, none⟩ = some (E.val b) := cell_of_row w3 b3 3 _ _ _ hf3)
          | (go_at_call 12; refine (codeF_any E _ a hc2 _ ?hE ?hk).mono ?_; (case hk => with_reducible exact q1); (case hE => exact hE2.below hb3); rintro e w4 ⟨rfl, rfl⟩)
          | (go_at_call 12; refine (codeF_any E _ b hc3 _ ?hE ?hk).mono ?_; (case hk => with_reducible exact q2); (case hE => exact hE2.below hb3); rintro e w4 ⟨rfl, rfl⟩)
          | (go_at_call 9; refine (alive_any E _ (hE2.below hb3)).mono ?_; rintro e w5 ⟨rfl, hb5⟩))
        go_ret
        have hb123 := hb12.trans (hb3.mono hb12.size)
        exact ⟨rfl, hb123.trans (hb5.mono hb123.size)⟩

/-- What the last region of the errors' way needs of the world, but the cells that it loads. -/
structure LnE (E : Errs) (w : World) (b g : Nat) (x : World) : Prop where
  f : x.cell? ⟨b, 3, none⟩ = some (E.val 19)
  s : x.cell? ⟨g, 3, none⟩ = some (E.val 19)
  laid : Laid E nineteen x
  below : Below w.heap.size w x
def LnS (E : Errs) (w : World) (b g l k : Nat) (x : World) : Prop :=
  x.cell? ⟨b, 1, none⟩ = some (.int .i64 (l : Int)) ∧ x.cell? ⟨g, 1, none⟩ = some (.int .i64 ((l + k : Nat) : Int)) ∧ LnE E w b g x
theorem LnS.below {E : Errs} {w x y : World} {b g l k : Nat} (h : LnS E w b g l k x) (hb : Below x.heap.size x y) : LnS E w b g l k y := by
  obtain ⟨h1, h2, h3, h4, h5, h6⟩ := h
  have hc : ∀ {k o v}, x.cell? ⟨k, o, none⟩ = some v → y.cell? ⟨k, o, none⟩ = some v := fun {k o v} hv => (hb.cell (p := ⟨k, o, none⟩) (cell_lt hv)).trans hv
  exact ⟨hc h1, hc h2, hc h3, hc h4, h5.below hb, h6.trans (hb.mono h6.size)⟩
theorem LnS.laid {E : Errs} {w x : World} {b g l k : Nat} (h : LnS E w b g l k x) : Laid E nineteen x := h.2.2.laid
theorem LnS.first {E : Errs} {w x : World} {b g l k : Nat} (h : LnS E w b g l k x) : x.cell? ⟨b, 3, none⟩ = some (E.val 19) := h.2.2.f
theorem LnS.second {E : Errs} {w x : World} {b g l k : Nat} (h : LnS E w b g l k x) : x.cell? ⟨g, 3, none⟩ = some (E.val 19) := h.2.2.s
theorem LnS.out {E : Errs} {w x : World} {b g l k : Nat} (h : LnS E w b g l k x) : Below w.heap.size w x := h.2.2.below
theorem LnS.drew {E : Errs} {w x : World} {b g l k : Nat} (h : LnS E w b g l k x) : LnS E w b g l k x.drew := by
  obtain ⟨h1, h2, h3, h4, h5, h6⟩ := h
  exact ⟨h1, h2, h3, h4, h5.drew, below_drewN' h6 1⟩

set_option maxRecDepth 100000 in
set_option maxHeartbeats 4000000 in
theorem lines_script (s t : ByteArray) (E : Errs) (w : World) (hE : Laid E nineteen w) (h : s.size + t.size ≤ 60000) (r : List Sc.Cmd) (hp : Sc.parse s.data.toList = .ok r) (l1 c1 c2 : Nat) (hq : Sc.parse t.data.toList = .error (19, l1, c1)) (hl1 : l1 ≤ 60001)
    (h3 : Sc.parse (s ++ ⟨#[10]⟩ ++ t).data.toList = .error (19, l1 + (Lx.cuts s.data.toList).length, c2)) :
    Calls Tryd.prog 5 #[.string s, .string t] w fun e w' => e = .returned (.bool true) ∧ Below w.heap.size w w' := by
  have H1 := Lib.hid hp
  have H2 := Lib.hid hq
  have H3 := Lib.hid h3
  clear hp hq h3
  have hcl0 : (Lx.cuts s.data.toList).length ≤ 60001 := by have := Lx.cuts_len s.data.toList; rw [bytes_size] at this; omega
  obtain ⟨nc, hnc⟩ : ∃ nc, (Lx.cuts s.data.toList).length = nc := ⟨_, rfl⟩
  rw [hnc] at H3 hcl0
  have aF := assertFault
  have hsz3 := behind_size s t h
  have tok : True := trivial
  have tok2 : True := trivial
  go_enter Tryd.func5, Tryd.ntmps5
  go_wp2_with (first
    | (go_at_call 7; have _t := tok; refine (parse_good _ E _ ?hE ?hs r ?h).mono ?_; (case h => with_reducible exact H1.out); (case hs => omega); (case hE => exact hE); rintro e w1 ⟨A1, k1, rfl, hb1, ho1, hl1⟩; clear tok _t)
    | (go_at_call 7; have _t := tok2; refine (parse_bad _ E _ ?hE ?hs 19 l1 c1 ?h).mono ?_; (case h => with_reducible exact H2.out); (case hs => omega); (case hE => exact hE.below hb1); rintro e w2 ⟨b2, rfl, hb2, hB2, hf2, hc2⟩; clear tok2 _t))
  have hE2 := (hE.below hb1).below hb2
  have hb12 := hb1.trans (hb2.mono hb1.size)
  go_loop [9, 10] (fun n i => CountRel s n i) (fun _ i => s.size - (intOf i).toNat)
  case atStart => exact ⟨0, Nat.zero_le _, rfl, rfl, by simp⟩
  case round =>
    obtain ⟨k, hk, rfl, rfl, hcl⟩ := hrel
    by_cases hlt : k < s.size
    · have hbyte := bytes_get s k hlt
      by_cases h10 : s[k] = 10
      · have e2 : ((s[k].toNat : Int) == 10) = true := by rw [h10]; rfl
        have HC := Lib.hid (Sc.count_take s.data.toList k 10 (by rw [hbyte, h10]))
        have hcc := HC.out
        rw [if_pos rfl] at hcc
        clear h10 hbyte
        go_wp2
        go_round
        case rel => exact ⟨k + 1, by omega, by go_num, by rw [hcc]; go_num, by omega⟩
        case measure => simp [intOf]; omega
      · have e2 : ((s[k].toNat : Int) == 10) = false := by
          rw [beq_eq_false_iff_ne]
          exact fun e => h10 (UInt8.toNat_inj.1 (by show s[k].toNat = 10; omega))
        have HC := Lib.hid (Sc.count_take s.data.toList k _ hbyte)
        have hcc := HC.out
        rw [if_neg h10] at hcc
        clear h10 hbyte
        go_wp2
        go_round
        case rel => exact ⟨k + 1, by omega, by go_num, by rw [hcc]; rfl, by omega⟩
        case measure => simp [intOf]; omega
    · obtain rfl : k = s.size := by omega
      have hce := count_end s
      rw [hce, hnc]
      clear hcl hce hnc
      go_wp2_with (first
        | (go_at_call 7; refine (parse_bad _ E _ ?hE ?hs 19 (l1 + nc) c2 ?h).mono ?_; (case h => with_reducible exact H3.out); (case hs => omega); (case hE => exact hE2); rintro e w3 ⟨b3, rfl, hb3, hB3, hf3, hc3⟩;
            have q1 : w3.cell? ⟨b2, 3, none⟩ = some (E.val 19) := cell_of_row w3 b2 3 _ _ _ ((hb3.block _ (lt_of_cells hf2)).trans hf2); have q2 : w3.cell? ⟨b3, 3, none⟩ = some (E.val 19) := cell_of_row w3 b3 3 _ _ _ hf3)
        | (go_at_call 12; refine (codeF_any E _ 19 (.inr rfl) _ ?hE ?hk).mono ?_; (case hk => (first | with_reducible exact q1 | with_reducible exact q2)); (case hE => exact hE2.below hb3); rintro e w4 ⟨rfl, rfl⟩))
      have hb123 := hb12.trans (hb3.mono hb12.size)
      have hh2 := (hb3.block _ (lt_of_cells hf2)).trans hf2
      have hS : LnS E w b2 b3 l1 nc w3 := ⟨cell_of_row _ _ 1 _ _ _ hh2, cell_of_row _ _ 1 _ _ _ hf3, q1, q2, hE2.below hb3, hb123⟩
      have hwr : IntKind.i64.wrap ((l1 : Int) + (nc : Int)) = ((l1 + nc : Nat) : Int) := by rw [IntWalk.i64_in _ (by omega)]; rfl
      clear hf2 hf3 hh2 hb2 hb3 hB2 hB3 q1 q2 H1 H2 H3 ho1
      go_region_held3 (fun x => x.cell? ⟨b2, 1, none⟩ = some (.int .i64 (l1 : Int)) ∧ x.cell? ⟨b3, 1, none⟩ = some (.int .i64 ((l1 + nc : Nat) : Int)) ∧ LnE E w b2 b3 x)
        (first | exact hS | exact LnS.drew hS | (refine LnS.below ?_ hb3; assumption) | assumption)
        (first
          | (go_at_call 9; refine (alive_any E _ ?hE).mono ?_; (case hE => (refine (LnS.laid (w := w) (b := b2) (g := b3) (l := l1) (k := nc) ?_); assumption)); rintro e w3 ⟨rfl, hb3⟩)
          | (go_at_call 12; refine (codeF_any E _ 19 (.inr rfl) _ ?hE ?hk).mono ?_; (case hE => (refine LnS.laid (w := w) (b := b2) (g := b3) (l := l1) (k := nc) ?_; assumption)); (case hk => (first | (refine LnS.first (w := w) (b := b2) (g := b3) (l := l1) (k := nc) ?_; assumption) | (refine LnS.second (w := w) (b := b2) (g := b3) (l := l1) (k := nc) ?_; assumption))); rintro e w6 ⟨rfl, rfl⟩))
      all_goals
        go_wp2
        go_ret
        exact ⟨rfl, (LnS.out (w := w) (b := b2) (g := b3) (l := l1) (k := nc) (by assumption))⟩

/-- ScriptLines returns true. -/
theorem slines_true (s t : ByteArray) (E : Errs) (w : World) (hE : Laid E nineteen w) (hs : s.size ≤ 140737488355328) (ht : t.size ≤ 140737488355328) :
    Calls Tryd.prog 5 #[.string s, .string t] w fun e w' => e = .returned (.bool true) ∧ Below w.heap.size w w' := by
  by_cases h : 60000 < s.size + t.size
  · exact lines_long s t E w hE h hs ht
  · have h' : s.size + t.size ≤ 60000 := by omega
    cases hp : Sc.parse s.data.toList with
    | error b =>
      obtain ⟨c, l1, c1⟩ := b
      exact lines_bad s t E w hE h' c l1 c1 hp
    | ok r =>
      cases hq : Sc.parse t.data.toList with
      | ok m =>
        by_cases hm : r.length + m.length ≤ 1000
        · exact lines_ok s t E w hE h' r m hp hq hm
        · exact lines_many s t E w hE h' r m hp hq (by omega)
      | error b =>
        obtain ⟨a, l1, c1⟩ := b
        obtain ⟨ha, _, hl⟩ := Sc.parse_code hq
        rw [bytes_size] at hl
        simp only [] at ha hl
        obtain ⟨c, l, h3, hc⟩ := (Sc.lines_law s.data.toList t.data.toList r (by rw [bytes_size, bytes_size]; exact h') hp).2 _ hq
        rw [← behind] at h3
        rcases ha with rfl | rfl
        · exact lines_two s t E w hE h' r hp 2 l1 c1 c l 0 hq h3 (.inl rfl)
        · rcases hc with rfl | ⟨rfl, rfl⟩
          · exact lines_two s t E w hE h' r hp 19 l1 c1 2 l 0 hq h3 (.inr ⟨rfl, rfl⟩)
          · exact lines_script s t E w hE h' r hp l1 c1 0 hq (by omega) h3
end Go.Proofs.YtinobikikineiabDoor
