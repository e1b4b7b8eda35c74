/- Lists of commands as a walk reads them; contracts of Parse by its outcome; the walks of SameInts, SameCommands at lists that are alike, and of 'alive'. Condition: the error variables lie as the program lays them. -/
import Derived.Test.YtinobikikineiabGreatDoorSParse
import Derived.BigQuiet
import Derived.Deep.QuietTactic
namespace Go.Proofs.YtinobikikineiabGreatDoor
open Go.RowKit Go.Shelf

theorem flatC_at (cs : List Sc.Cmd) : ∀ (us : List Value), us.length = cs.length → ∀ (j : Nat) (c : Sc.Cmd) (u : Value), cs[j]? = some c → us[j]? = some u → ∀ i, i < 3 → (flatC cs us)[j * 3 + i]? = (cmdCells c u)[i]? := by
  induction cs with
  | nil => intro us _ j c u hc; simp at hc
  | cons d ds ih =>
    intro us hl j c u hc hu i hi
    cases us with
    | nil => simp at hl
    | cons x xs =>
      have e : flatC (d :: ds) (x :: xs) = cmdCells d x ++ flatC ds xs := rfl
      have h3 : (cmdCells d x).length = 3 := rfl
      cases j with
      | zero =>
        simp only [List.getElem?_cons_zero, Option.some.injEq] at hc hu
        subst hc; subst hu
        rw [e, List.getElem?_append_left (by omega), Nat.zero_mul, Nat.zero_add]
      | succ j =>
        simp only [List.getElem?_cons_succ] at hc hu
        rw [e, List.getElem?_append_right (by omega), h3, show (j + 1) * 3 + i - 3 = j * 3 + i by omega]
        exact ih xs (by simpa using hl) j c u hc hu i hi
/-- A list of commands that a value reads as. -/
def ReadsC (w : World) (v : Value) (cs : List Sc.Cmd) : Prop :=
  ∃ (A : Option Addr) (c : Nat), v = .slice A cs.length c ∧ cs.length ≤ c ∧ (cs ≠ [] → ∃ b off, A = some ⟨b, off, none⟩ ∧ ∀ (j : Nat) (d : Sc.Cmd), cs[j]? = some d →
    ∃ (B : Option Addr) (k : Nat), w.cell? ⟨b, off + j * 3, none⟩ = some (.string ⟨d.word.toArray⟩) ∧ w.cell? ⟨b, off + j * 3 + 1, none⟩ = some (.string ⟨d.text.toArray⟩) ∧
      w.cell? ⟨b, off + j * 3 + 2, none⟩ = some (.slice B d.nums.length k) ∧ ReadsI w (.slice B d.nums.length k) d.nums)
theorem ReadsC.below {w w' : World} {v : Value} {cs : List Sc.Cmd} (h : ReadsC w v cs) (hb : Below w.heap.size w w') : ReadsC w' v cs := by
  obtain ⟨A, c, hv, hc, h⟩ := h
  refine ⟨A, c, hv, hc, fun hne => ?_⟩
  obtain ⟨b, off, hA, hcell⟩ := h hne
  refine ⟨b, off, hA, fun j d hj => ?_⟩
  obtain ⟨B, k, h0, h1, h2, h3⟩ := hcell j d hj
  have hl := cell_lt h0
  exact ⟨B, k, (hb.cell (p := ⟨b, off + j * 3, none⟩) hl).trans h0, (hb.cell (p := ⟨b, off + j * 3 + 1, none⟩) hl).trans h1, (hb.cell (p := ⟨b, off + j * 3 + 2, none⟩) hl).trans h2, h3.below hb⟩
theorem ReadsC.drewN {w : World} {v : Value} {cs : List Sc.Cmd} (h : ReadsC w v cs) (n : Nat) : ReadsC (w.drewN n) v cs := h
theorem ReadsC.nil (w : World) : ReadsC w (.slice none 0 0) [] := ⟨none, 0, rfl, Nat.le_refl _, fun h => absurd rfl h⟩
theorem ReadsC.len {w : World} {A : Option Addr} {n c : Nat} {cs : List Sc.Cmd} (h : ReadsC w (.slice A n c) cs) : cs.length = n := by
  obtain ⟨A', c', hv, _⟩ := h
  injection hv with h1 h2 h3
  exact h2.symm
theorem ReadsC.cell {w : World} {A : Option Addr} {n c : Nat} {cs : List Sc.Cmd} (h : ReadsC w (.slice A n c) cs) (k : Nat) (hk : k < n) :
    ∃ b off d B m, A = some ⟨b, off, none⟩ ∧ cs[k]? = some d ∧ w.cell? ⟨b, off + k * 3, none⟩ = some (.string ⟨d.word.toArray⟩) ∧ w.cell? ⟨b, off + k * 3 + 1, none⟩ = some (.string ⟨d.text.toArray⟩) ∧
      w.cell? ⟨b, off + k * 3 + 2, none⟩ = some (.slice B d.nums.length m) ∧ ReadsI w (.slice B d.nums.length m) d.nums := by
  obtain ⟨A', c', hv, _, h⟩ := h
  injection hv with h1 h2 h3
  subst h1; subst h2
  have hne : cs ≠ [] := by intro e; subst e; simp at hk
  obtain ⟨b, off, hA, hc⟩ := h hne
  obtain ⟨B, m, h0, h1, h2, h3⟩ := hc k cs[k] (List.getElem?_eq_getElem hk)
  exact ⟨b, off, cs[k], B, m, hA, List.getElem?_eq_getElem hk, h0, h1, h2, h3⟩
theorem OwnC.reads {w : World} {base : Nat} {v : Value} {cs : List Sc.Cmd} (h : OwnC w base v cs) : ReadsC w v cs := by
  obtain ⟨us, h0, h1, h2⟩ := h
  obtain ⟨hl, ⟨rfl, hn⟩ | ⟨g, cap, cur, rfl, hg, hh, hc, _, hsz, ht⟩⟩ := h1
  · have : cs = [] := List.eq_nil_of_length_eq_zero hn
    subst this
    exact ReadsC.nil w
  · refine ⟨_, cap, rfl, by omega, fun _ => ⟨g, 0, rfl, fun j d hj => ?_⟩⟩
    have hjl := (List.getElem?_eq_some_iff.1 hj).1
    obtain ⟨u, hu, hr⟩ := h2 j d hj
    have hR := hr.reads
    obtain ⟨B, k, rfl, hk, _⟩ := hr
    have at' : ∀ i, i < 3 → w.cell? ⟨g, 0 + j * 3 + i, none⟩ = (cmdCells d (.slice B d.nums.length k))[i]? := fun i hi => by
      rw [cell_of_row w g (0 + j * 3 + i) cur _ _ hh, ← flatC_at cs us h0 j d _ hj hu i hi, ← ht, Nat.zero_add, List.getElem?_take_of_lt (by omega), Array.getElem?_toList]
    exact ⟨B, k, at' 0 (by omega), at' 1 (by omega), at' 2 (by omega), hR⟩
theorem OwnC.slice {w : World} {base : Nat} {v : Value} {cs : List Sc.Cmd} (h : OwnC w base v cs) : ∃ A c, v = .slice A cs.length c := by
  obtain ⟨us, h0, h1, h2⟩ := h
  exact own_slice h1

theorem parse_good3 (s : ByteArray) (E : Errs) (w : World) (hE : Laid E three w) (hs : s.size ≤ 281474976710656) (cs : List Sc.Cmd) (h : Sc.parse s.data.toList = .ok cs) :
    Calls Tryz.prog 6 #[.string s] w fun e w' => ∃ A c, e = .returned (.tuple #[.slice A cs.length c, .nilIface]) ∧ Below w.heap.size w w' ∧ OwnC w' w.heap.size (.slice A cs.length c) cs ∧ cs.length ≤ 1000 :=
  (parse_any s E w hE hs).mono fun e w' hv => by
    rcases hv with ⟨hb, ⟨cs', v, h1, h2, h3, h4⟩ | ⟨c, line, col, v, h1, _⟩⟩
    · rw [h] at h1; injection h1 with h1; subst h1
      obtain ⟨A, c, rfl⟩ := h3.slice
      exact ⟨A, c, h2, hb, h3, h4⟩
    · rw [h] at h1; cases h1
theorem parse_bad3 (s : ByteArray) (E : Errs) (w : World) (hE : Laid E three w) (hs : s.size ≤ 281474976710656) (c line col : Nat) (h : Sc.parse s.data.toList = .error (c, line, col)) :
    Calls Tryz.prog 6 #[.string s] w fun e w' => ∃ b, e = .returned (.tuple #[.slice none 0 0, .iface 72 (.pointer (some ⟨b, 0, none⟩))]) ∧ Below w.heap.size w w' ∧ w.heap.size ≤ b ∧
      w'.heap[b]? = some (.cells #[.string scriptB, .int .i64 (line : Int), .int .i64 (col : Int), E.val c] 75 (0, 0)) ∧ (c = 2 ∨ c = 19) :=
  (parse_any s E w hE hs).mono fun e w' hv => by
    rcases hv with ⟨hb, ⟨cs', v, h1, _⟩ | ⟨c', line', col', v, h1, hc, h2, b, hB, hv, hh⟩⟩
    · rw [h] at h1; cases h1
    · rw [h] at h1; injection h1 with h1; injection h1 with h3 h4; injection h4 with h4 h5
      subst h3; subst h4; subst h5
      exact ⟨b, by rw [h2, hv], hb, hB, hh, hc⟩

theorem parse_good (s : ByteArray) (E : Errs) (w : World) (hE : Laid E nineteen w) (hs : s.size ≤ 281474976710656) (cs : List Sc.Cmd) (h : Sc.parse s.data.toList = .ok cs) :
    Calls Tryz.prog 6 #[.string s] w fun e w' => ∃ A c, e = .returned (.tuple #[.slice A cs.length c, .nilIface]) ∧ Below w.heap.size w w' ∧ OwnC w' w.heap.size (.slice A cs.length c) cs ∧ cs.length ≤ 1000 := parse_good3 s E w hE.three_of hs cs h
theorem parse_bad (s : ByteArray) (E : Errs) (w : World) (hE : Laid E nineteen w) (hs : s.size ≤ 281474976710656) (c line col : Nat) (h : Sc.parse s.data.toList = .error (c, line, col)) :
    Calls Tryz.prog 6 #[.string s] w fun e w' => ∃ b, e = .returned (.tuple #[.slice none 0 0, .iface 72 (.pointer (some ⟨b, 0, none⟩))]) ∧ Below w.heap.size w w' ∧ w.heap.size ≤ b ∧
      w'.heap[b]? = some (.cells #[.string scriptB, .int .i64 (line : Int), .int .i64 (col : Int), E.val c] 75 (0, 0)) ∧ (c = 2 ∨ c = 19) := parse_bad3 s E w hE.three_of hs c line col h

set_option maxRecDepth 100000 in
set_option maxHeartbeats 1000000 in
theorem sameInts_true (A B : Option Addr) (n c d : Nat) (l : List Int) (w : World) (ha : ReadsI w (.slice A n c) l) (hb : ReadsI w (.slice B n d) l) (hn : n ≤ maxLen) :
    Calls Tryz.prog 25 #[.slice A n c, .slice B n d] w fun e w' => e = .returned (.bool true) ∧ ∃ m, w' = w.drewN m := by
  unfold maxLen at hn
  go_enter Tryz.func25, Tryz.ntmps25
  go_wp2_with fail
  go_loopw [5] (fun i wr => ∃ k m : Nat, k ≤ n ∧ i = .int .i64 k ∧ wr = w.drewN m) (fun i _ => n - (intOf i).toNat)
  case atStart => exact ⟨0, 0, Nat.zero_le _, rfl, rfl⟩
  case round =>
    obtain ⟨k, m, hk, rfl, rfl⟩ := hrel
    by_cases hlt : k < n
    · obtain ⟨b, off, z, rfl, hz, a0⟩ := ha.cell k hlt
      obtain ⟨b', off', z', rfl, hz', b0⟩ := hb.cell k hlt
      obtain rfl : z = z' := by rw [hz] at hz'; exact Option.some.inj hz'
      clear hz hz' ha hb
      go_wp2_with fail
      (try (go_quiet (fail)))
      (try (go_wp2))
      go_roundw
      case rel => exact ⟨k + 1, _, by omega, by go_num, rfl⟩
      case measure => simp [intOf]; omega
    · go_wp2_with fail
      go_ret
      exact ⟨rfl, m, rfl⟩

set_option maxRecDepth 100000 in
set_option maxHeartbeats 2000000 in
theorem sameCmds_true (A B : Option Addr) (n c d : Nat) (cs : List Sc.Cmd) (w : World) (ha : ReadsC w (.slice A n c) cs) (hb : ReadsC w (.slice B n d) cs) (hn : n ≤ maxLen) (hs : ∀ x ∈ cs, x.nums.length ≤ maxLen) :
    Calls Tryz.prog 9 #[.slice A n c, .slice B n d] w fun e w' => e = .returned (.bool true) ∧ ∃ m, w' = w.drewN m := by
  unfold maxLen at hn
  have HS := Lib.hid hs
  clear hs
  go_enter Tryz.func9, Tryz.ntmps9
  go_wp2_with fail
  go_loopw [5] (fun i wr => ∃ k m : Nat, k ≤ n ∧ i = .int .i64 k ∧ wr = w.drewN m) (fun i _ => n - (intOf i).toNat)
  case atStart => exact ⟨0, 0, Nat.zero_le _, rfl, rfl⟩
  case round =>
    obtain ⟨k, m, hk, rfl, hwr⟩ := hrel
    by_cases hlt : k < n
    · obtain ⟨b, off, x, B1, m1, rfl, hx, a0, a1, a2, hR⟩ := ha.cell k hlt
      obtain ⟨b', off', x', B2, m2, rfl, hx', b0, b1, b2, hR'⟩ := hb.cell k hlt
      obtain rfl : x = x' := by rw [hx] at hx'; exact Option.some.inj hx'
      have hrl := HS.out x (List.mem_of_getElem? hx)
      have x0 : wr.cell? ⟨b, off + k * 3, none⟩ = some (.string ⟨x.word.toArray⟩) := by rw [hwr]; exact a0
      have x1 : wr.cell? ⟨b, off + k * 3 + 1, none⟩ = some (.string ⟨x.text.toArray⟩) := by rw [hwr]; exact a1
      have x2 : wr.cell? ⟨b, off + k * 3 + 2, none⟩ = some (.slice B1 x.nums.length m1) := by rw [hwr]; exact a2
      have y0 : wr.cell? ⟨b', off' + k * 3, none⟩ = some (.string ⟨x.word.toArray⟩) := by rw [hwr]; exact b0
      have y1 : wr.cell? ⟨b', off' + k * 3 + 1, none⟩ = some (.string ⟨x.text.toArray⟩) := by rw [hwr]; exact b1
      have y2 : wr.cell? ⟨b', off' + k * 3 + 2, none⟩ = some (.slice B2 x.nums.length m2) := by rw [hwr]; exact b2
      have X := Lib.hid (show ReadsI wr (.slice B1 x.nums.length m1) x.nums by rw [hwr]; exact hR)
      have Y := Lib.hid (show ReadsI wr (.slice B2 x.nums.length m2) x.nums by rw [hwr]; exact hR')
      have HW := Lib.hid hwr
      clear hx hx' ha hb a0 a1 a2 b0 b1 b2 hR hR' hwr
      go_wp2_with fail
      go_quiet ((go_at_call 25; exact Calls.quiet_of (sameInts_true _ _ _ _ _ _ _ (X.out.drewN _) (Y.out.drewN _) hrl)))
      go_wp2
      go_roundw
      case rel => exact ⟨k + 1, _, by omega, by go_num, by rw [HW.out, World.drewN_drewN]⟩
      case measure => simp [intOf]; omega
    · go_wp2_with fail
      go_ret
      exact ⟨rfl, m, rfl⟩

/-- "# x\n def P = a.P # y\n\ncompare 0  1\n" -/
def aliveB : ByteArray := ⟨#[35, 32, 120, 10, 32, 100, 101, 102, 32, 80, 32, 61, 32, 97, 46, 80, 32, 35, 32, 121, 10, 10, 99, 111, 109, 112, 97, 114, 101, 32, 48, 32, 32, 49, 10]⟩
def aliveT : List UInt8 := [80, 32, 61, 32, 97, 46, 80, 32, 35, 32, 121]
def aliveC : List Sc.Cmd := [⟨[100, 101, 102], aliveT, []⟩, ⟨[99, 111, 109, 112, 97, 114, 101], [], [0, 1]⟩]
theorem alive_parse : Sc.parse aliveB.data.toList = .ok aliveC := by rfl
theorem alive_call (E : Errs) (w : World) (hE : Laid E three w) :
    Calls Tryz.prog 6 #[.string aliveB] w fun e w' => ∃ b off c b2 off2 k, e = .returned (.tuple #[.slice (some ⟨b, off, none⟩) 2 c, .nilIface]) ∧ Below w.heap.size w w' ∧
      w'.cell? ⟨b, off + 1, none⟩ = some (.string ⟨#[80, 32, 61, 32, 97, 46, 80, 32, 35, 32, 121]⟩) ∧ w'.cell? ⟨b, off + 3 + 2, none⟩ = some (.slice (some ⟨b2, off2, none⟩) 2 k) ∧ w'.cell? ⟨b2, off2 + 1, none⟩ = some (.int .i64 1) :=
  (parse_good3 aliveB E w hE (by decide) aliveC alive_parse).mono fun e w' ⟨A, c, h1, h2, h3, _⟩ => by
    have hr := h3.reads
    obtain ⟨b, off, d, B, m, rfl, hd, _, ht, _⟩ := ReadsC.cell (n := 2) hr 0 (by decide)
    obtain ⟨b', off', d', B', m', hA, hd', _, _, hn', hR⟩ := ReadsC.cell (n := 2) hr 1 (by decide)
    injection hA with hA
    injection hA with hb ho _
    subst hb; subst ho
    have e0 : (⟨[100, 101, 102], aliveT, []⟩ : Sc.Cmd) = d := Option.some.inj hd
    have e1 : (⟨[99, 111, 109, 112, 97, 114, 101], [], [0, 1]⟩ : Sc.Cmd) = d' := Option.some.inj hd'
    subst e0; subst e1
    obtain ⟨b2, off2, z, rfl, hz, hc⟩ := ReadsI.cell (n := 2) hR 1 (by decide)
    have ez : (1 : Int) = z := Option.some.inj hz
    subst ez
    exact ⟨b, off, c, b2, off2, m', h1, h2, ht, hn', hc⟩
set_option maxHeartbeats 400000 in
theorem alive3 (E : Errs) (w : World) (hE : Laid E three w) :
    Calls Tryz.prog 5 #[] w fun e w' => e = .returned (.bool true) ∧ Below w.heap.size w w' := by
  go_enter Tryz.func5, Tryz.ntmps5
  go_wp2_with (first | (go_at_call 6; refine (alive_call E _ hE).mono ?_; rintro e w1 ⟨b, off, c, b2, off2, k, rfl, hb, h2, h3, h4⟩))
  go_ret
  exact ⟨rfl, hb⟩
theorem alive_any (E : Errs) (w : World) (hE : Laid E nineteen w) :
    Calls Tryz.prog 5 #[] w fun e w' => e = .returned (.bool true) ∧ Below w.heap.size w w' := alive3 E w hE.three_of
set_option maxHeartbeats 400000 in
theorem code_nil (w : World) : Calls Tryz.prog 24 #[.nilIface] w fun e w' => e = .returned (.int .i64 0) ∧ w = w' := by
  go_enter Tryz.func24, Tryz.ntmps24
  go_wp2
  go_ret
  exact ⟨rfl, rfl⟩
end Go.Proofs.YtinobikikineiabGreatDoor
