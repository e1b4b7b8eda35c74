/- The walk of the law ScriptAll: for every list of texts it returns true. Condition: the error variables lie as the program lays them, and the texts are of a size that a machine can hold. -/
import Derived.Test.YtinobikikineiabGreatDoorSBookApart
import Derived.Test.YtinobikikineiabGreatDoorSParseD
import Derived.Test.YtinobikikineiabGreatDoorSRefParse
namespace Go.Proofs.YtinobikikineiabGreatDoor
open Go.RowKit Go.Shelf

theorem nums_three' {l : List UInt8} {cs : List Sc.Cmd} (h : Sc.parse l = .ok cs) : ∀ x ∈ cs, x.nums.length ≤ 3 := by
  intro x hx
  have h1 := (Sc.parse_print h).1 x hx
  unfold Sc.isCommand Sc.areNumbers at h1
  simp only [Bool.and_eq_true, decide_eq_true_eq] at h1
  rw [h1.2.1]
  unfold Sc.many
  split <;> (try split) <;> omega
theorem refParse_ok (s : ByteArray) (w : World) (hs : s.size ≤ 281474976710656) (cs : List Sc.Cmd) (h : Sc.parse s.data.toList = .ok cs) :
    Calls Tryz.prog 7 #[.string s] w fun e w' => ∃ A c, e = .returned (.tuple #[.slice A cs.length c, refErr 0 0 0 ⟨#[]⟩]) ∧ Below w.heap.size w w' ∧ ReadsC w' (.slice A cs.length c) cs :=
  (refParse_any s w hs).mono fun e w' hv => by
    rcases hv with ⟨hb, ⟨cs', A, c, h1, h2, h3⟩ | ⟨c, line, col, h1, _⟩⟩
    · rw [h] at h1; injection h1 with h1; subst h1
      exact ⟨A, c, h2, hb, h3.reads⟩
    · rw [h] at h1; cases h1
theorem refParse_err (s : ByteArray) (w : World) (hs : s.size ≤ 281474976710656) (c line col : Nat) (h : Sc.parse s.data.toList = .error (c, line, col)) :
    Calls Tryz.prog 7 #[.string s] w fun e w' => e = .returned (.tuple #[.slice none 0 0, refErr (c : Int) (line : Int) (col : Int) (scriptB ++ ⟨#[32]⟩)]) ∧ Below w.heap.size w w' :=
  (refParse_any s w hs).mono fun e w' hv => by
    rcases hv with ⟨hb, ⟨cs', A, c, h1, h2, h3⟩ | ⟨c', line', col', h1, h2⟩⟩
    · rw [h] at h1; cases h1
    · rw [h] at h1; injection h1 with h1; injection h1 with h3 h4; injection h4 with h4 h5
      subst h3; subst h4; subst h5
      exact ⟨h2, hb⟩

/-- A list of texts that a value reads as. -/
def ReadsS (w : World) (v : Value) (ts : List ByteArray) : Prop :=
  ∃ (A : Option Addr) (c : Nat), v = .slice A ts.length c ∧ ts.length ≤ c ∧ (ts ≠ [] → ∃ b off, A = some ⟨b, off, none⟩ ∧ ∀ (j : Nat) (t : ByteArray), ts[j]? = some t → w.cell? ⟨b, off + j, none⟩ = some (.string t))
theorem ReadsS.below {w w' : World} {v : Value} {ts : List ByteArray} (h : ReadsS w v ts) (hb : Below w.heap.size w w') : ReadsS w' v ts := by
  obtain ⟨A, c, hv, hc, h⟩ := h
  refine ⟨A, c, hv, hc, fun hne => ?_⟩
  obtain ⟨b, off, hA, hcell⟩ := h hne
  exact ⟨b, off, hA, fun j t hj => (hb.cell (p := ⟨b, off + j, none⟩) (cell_lt (hcell j t hj))).trans (hcell j t hj)⟩
theorem ReadsS.len {w : World} {A : Option Addr} {n c : Nat} {ts : List ByteArray} (h : ReadsS w (.slice A n c) ts) : ts.length = n := by
  obtain ⟨A', c', hv, _⟩ := h
  injection hv with h1 h2 h3
  exact h2.symm
theorem ReadsS.cell {w : World} {A : Option Addr} {n c : Nat} {ts : List ByteArray} (h : ReadsS w (.slice A n c) ts) (k : Nat) (hk : k < n) :
    ∃ b off t, A = some ⟨b, off, none⟩ ∧ ts[k]? = some t ∧ w.cell? ⟨b, off + k, none⟩ = some (.string t) := by
  obtain ⟨A', c', hv, _, h⟩ := h
  injection hv with h1 h2 h3
  subst h1; subst h2
  obtain ⟨b, off, hA, hc⟩ := h (by intro e; subst e; simp at hk)
  exact ⟨b, off, ts[k], hA, List.getElem?_eq_getElem hk, hc k _ (List.getElem?_eq_getElem hk)⟩

theorem OwnD.below {W W' : World} {base : Nat} {v : Value} {cs : List Sc.Cmd} {us : List Value} (h : OwnD W base v cs us) (hb : Below W.heap.size W W') : OwnD W' base v cs us :=
  h.keep fun b _ _ _ _ hh => (hb.block b (lt_of_cells hh)).trans hh
theorem OwnD.drewN {W : World} {base : Nat} {v : Value} {cs : List Sc.Cmd} {us : List Value} (h : OwnD W base v cs us) (m : Nat) : OwnD (W.drewN m) base v cs us :=
  h.keep fun _ _ _ _ _ hh => hh
theorem OwnD.cell {W : World} {base n c : Nat} {A : Option Addr} {cs : List Sc.Cmd} {us : List Value} (h : OwnD W base (.slice A n c) cs us) (k : Nat) (hk : k < cs.length) :
    ∃ g d u, A = some ⟨g, 0, none⟩ ∧ cs[k]? = some d ∧ us[k]? = some u ∧ OwnI W base u d.nums ∧ W.cell? ⟨g, k * 3 + 2, none⟩ = some u := by
  obtain ⟨h0, h1, h2, _⟩ := h
  obtain ⟨u, hu, ho⟩ := h2 k cs[k] (List.getElem?_eq_getElem hk)
  obtain ⟨hl, ⟨hv, hn⟩ | ⟨g, cap, cur, hv, hg, hh, hc, _, hsz, ht⟩⟩ := h1
  · omega
  · injection hv with e1 e2 e3
    refine ⟨g, cs[k], u, e1, List.getElem?_eq_getElem hk, hu, ho, ?_⟩
    rw [cell_of_row W g (k * 3 + 2) cur _ _ hh]
    have := flatC_at cs us h0 k cs[k] u (List.getElem?_eq_getElem hk) hu 2 (by decide)
    rw [show (cmdCells cs[k] u)[2]? = some u from rfl, ← ht, List.getElem?_take_of_lt (by omega), Array.getElem?_toList] at this
    exact this
theorem OwnD.high {W : World} {base : Nat} {v : Value} {cs : List Sc.Cmd} {us : List Value} (h : OwnD W base v cs us) : ∀ y ∈ us, ∀ g, y.ownBlock = some g → base ≤ g := by
  intro y hy g hg
  obtain ⟨j, hj⟩ := List.getElem?_of_mem hy
  obtain ⟨h0, _, h2, _⟩ := h
  obtain ⟨u, hu, ho⟩ := h2 j _ (List.getElem?_eq_getElem (by rw [← h0]; exact (List.getElem?_eq_some_iff.1 hj).1))
  rw [hj] at hu
  obtain rfl := Option.some.inj hu
  exact (ho.lt g hg).1

/-- The Book, whatever it keeps. -/
def Bk (W : World) (base B : Nat) (us : List Value) : Prop := ∃ I X vs ls, BookAt W base B I X us vs ls ∧ ls.length ≤ 400 ∧ ∀ l ∈ ls, l.length ≤ 1000
theorem Bk.below {W W' : World} {base B : Nat} {us : List Value} (h : Bk W base B us) (hb : Below W.heap.size W W') : Bk W' base B us := by
  obtain ⟨I, X, vs, ls, h1, h2⟩ := h
  exact ⟨I, X, vs, ls, h1.below hb, h2⟩
theorem Bk.drewN {W : World} {base B : Nat} {us : List Value} (h : Bk W base B us) (m : Nat) : Bk (W.drewN m) base B us := by
  obtain ⟨I, X, vs, ls, h1, h2⟩ := h
  exact ⟨I, X, vs, ls, h1.drewN m, h2⟩
theorem Bk.first {W : World} {B : Nat} (h : W.heap[B]? = some (.cells (bookCells (.slice none 0 0) (.slice none 0 0)) 37 (0, 0))) : Bk W (B + 1) B [] :=
  ⟨_, _, [], [], ⟨h, rfl, rfl, World.ownsRow_nil _ _ _ _, World.ownsRow_nil _ _ _ _, (fun g hg => by cases hg), (fun j l hj => by simp at hj), (fun j l hj => by simp at hj), Apart.nil, Nat.lt_succ_self B⟩, Nat.zero_le _, fun l hl => by cases hl⟩
theorem Bk.lt {W : World} {base B : Nat} {us : List Value} (h : Bk W base B us) : ∀ x ∈ us, ∀ g, x.ownBlock = some g → g < W.heap.size := by
  intro x hx g hg
  obtain ⟨I, X, vs, ls, h1, _⟩ := h
  obtain ⟨j, hj⟩ := List.getElem?_of_mem hx
  obtain ⟨u, hu, ho⟩ := h1.ru j _ (List.getElem?_eq_getElem (by rw [← h1.lu]; exact (List.getElem?_eq_some_iff.1 hj).1))
  rw [hj] at hu
  obtain rfl := Option.some.inj hu
  exact (ho.lt g hg).2
theorem ints_any (base B : Nat) (us : List Value) (A : Option Addr) (n c : Nat) (l : List Int) (W : World) (h : Bk W base B us) (hu : OwnI W base (.slice A n c) l) (hn : l.length = n) (hn3 : n ≤ 1000)
    (hap : ∀ x ∈ us, ∀ g, x.ownBlock = some g → (Value.slice A n c).ownBlock ≠ some g) (hbw : base ≤ W.heap.size) :
    Calls Tryz.prog 10 #[.pointer (some ⟨B, 0, none⟩), .slice A n c] W fun e w' => e = .returned (.tuple #[]) ∧ ∃ us', Bk w' base B us' ∧ (∀ x ∈ us', x ∈ us ∨ x = .slice A n c) ∧ KeepT W w' ∧ Below B W w' := by
  obtain ⟨I, X, vs, ls, h1, h2, h3⟩ := h
  rcases Nat.lt_or_ge ls.length 400 with hl | hl
  · refine (ints_more base B I X us vs ls A n c l W h1 hl hu hn hn3 hap hbw).mono ?_
    rintro e w' ⟨rfl, I', X', v', h4, h5, h6⟩
    refine ⟨rfl, _, ⟨I', X', _, _, h4, by rw [List.length_append]; simp; omega, fun m hm => ?_⟩, fun x hx => by simpa [List.mem_append] using hx, h5, h6⟩
    rcases List.mem_append.1 hm with hm | hm
    · exact h3 m hm
    · rw [List.mem_singleton] at hm; subst hm; omega
  · refine (ints_full base B I X us vs ls (.slice A n c) W h1 (by omega)).mono ?_
    rintro e w' ⟨rfl, rfl⟩
    exact ⟨rfl, us, ⟨I, X, vs, ls, h1, h2, h3⟩, fun x hx => .inl hx, KeepT.refl _, Below.refl _ _⟩
theorem book_apart (base B : Nat) (us : List Value) (W : World) (h : Bk W base B us) (hbs : base ≤ W.heap.size) :
    Calls Tryz.prog 11 #[.pointer (some ⟨B, 0, none⟩)] W fun e w' => e = .returned (.bool true) ∧ Below B W w' := by
  obtain ⟨I, X, vs, ls, h1, h2, h3⟩ := h
  exact apart_any base B I X us vs ls W h1 h2 h3 hbs

/-- What the inner loop holds (kept shut). -/
def InAt (w1 : World) (base B : Nat) (v : Value) (cs : List Sc.Cmd) (us' : List Value) (i : Value) (wr : World) : Prop :=
  ∃ (k : Nat) (us : List Value), k ≤ cs.length ∧ i = .int .i64 k ∧ Bk wr base B us ∧ OwnD wr base v cs us' ∧ (∀ x ∈ us, ∀ g, x.ownBlock = some g → ∀ (j : Nat) (y : Value), k ≤ j → us'[j]? = some y → y.ownBlock ≠ some g) ∧ Below B w1 wr ∧ base ≤ wr.heap.size
/-- The outer one. -/
def AllAt (w : World) (B n : Nat) (k : Value) (wr : World) : Prop :=
  ∃ (j : Nat) (us : List Value), j ≤ 2 * n ∧ k = .int .i64 j ∧ Bk wr (B + 1) B us ∧ Below w.heap.size w wr ∧ B + 1 ≤ wr.heap.size

set_option maxRecDepth 100000 in
set_option maxHeartbeats 2000000 in
theorem all_many (A : Option Addr) (n c : Nat) (E : Errs) (w : World) (hE : Laid E nineteen w) (hn : 20 < n) :
    Calls Tryz.prog 3 #[.slice A n c] w fun e w' => e = .returned (.bool true) ∧ Below w.heap.size w w' := by
  have tok1 : True := trivial
  go_enter Tryz.func3, Tryz.ntmps3
  go_wp2_with (first
    | (go_at_call 5; have _t := tok1; refine (alive_any E _ hE).mono ?_; rintro e w1 ⟨rfl, hb1⟩; clear _t tok1)
    | (go_at_call 5; refine (alive_any E _ (hE.below hb1)).mono ?_; rintro e w2 ⟨rfl, hb2⟩))
  go_ret
  exact ⟨rfl, hb1.trans (hb2.mono hb1.size)⟩

set_option maxRecDepth 100000 in
set_option maxHeartbeats 8000000 in
theorem all_few (A : Option Addr) (n c : Nat) (ts : List ByteArray) (E : Errs) (w : World) (hE : Laid E nineteen w) (hr : ReadsS w (.slice A n c) ts) (hts : ∀ t ∈ ts, t.size ≤ 281474976710656) (hn : n ≤ 20) :
    Calls Tryz.prog 3 #[.slice A n c] w fun e w' => e = .returned (.bool true) ∧ Below w.heap.size w w' := by
  have HE := Lib.hid hE
  have HR := Lib.hid hr
  have HT := Lib.hid hts
  clear hE hr hts
  have tok1 : True := trivial
  go_enter Tryz.func3, Tryz.ntmps3
  go_wp2_with (first
    | (go_at_call 5; have _t := tok1; refine (alive_any E _ HE.out).mono ?_; rintro e w1 ⟨rfl, hb1⟩; clear _t tok1))
  have hz1 := hb1.size
  go_loopw [4] (fun k wr => AllAt w w1.heap.size n k wr) (fun k _ => 2 * n - (intOf k).toNat)
  case atStart => exact ⟨0, [], Nat.zero_le _, rfl, Bk.first (heap_alloc_new w1 _), hb1.alloc hb1.size _, by simp⟩
  case round =>
    obtain ⟨j, us, hj, rfl, hbk, hbw, hsz⟩ := hrel
    by_cases hlt : j < 2 * n
    · have hn0 : 0 < n := by omega
      obtain ⟨q, hq, hmod⟩ : ∃ q : Nat, q < n ∧ (j : Int) % (n : Int) = (q : Int) := ⟨j % n, Nat.mod_lt _ hn0, by omega⟩
      obtain ⟨b, off, t, rfl, ht, ct⟩ := HR.out.cell q hq
      have ct' : wr.cell? ⟨b, off + q, none⟩ = some (.string t) := (hbw.cell (p := ⟨b, off + q, none⟩) (cell_lt ct)).trans ct
      have htz := HT.out t (List.mem_of_getElem? ht)
      have HB := Lib.hid hbk
      have HEr := Lib.hid (HE.out.below hbw)
      clear hbk ht ct
      cases hP : Sc.parse t.data.toList with
      | error bad =>
        obtain ⟨ec, el, eo⟩ := bad
        have HP := Lib.hid hP
        have HC := Lib.hid (Sc.parse_code hP).1
        have hc0 : (ec : Int) ≠ 0 := by have := HC.out; omega
        clear hP
        go_wp2_with (first
          | (go_at_call 6; refine (parse_bad t E _ HEr.out htz ec el eo HP.out).mono ?_; rintro e w2 ⟨p, rfl, hb2, hB, hh, _⟩; have ct2 := (hb2.cell (p := ⟨b, off + q, none⟩) (cell_lt ct')).trans ct'; have hs2 := hb2.size; have hpl := lt_of_cells hh)
          | (go_at_call 7; refine (refParse_err t _ htz ec el eo HP.out).mono ?_; rintro e w3 ⟨rfl, hb3⟩; have hs3 := hb3.size; have hh3 := (hb3.block p hpl).trans hh)
          | (go_at_call 8; refine (told_fault E nineteen p ec el eo scriptB (codeF_any E p ec HC.out) (codeB_any E ec HC.out) hc0 (by decide) _ (((HEr.out.below hb2).below hb3).alloc _) (cell_of_row _ _ 0 _ _ _ (alloc_old hh3 _)) (cell_of_row _ _ 1 _ _ _ (alloc_old hh3 _)) (cell_of_row _ _ 2 _ _ _ (alloc_old hh3 _)) (cell_of_row _ _ 3 _ _ _ (alloc_old hh3 _))).mono ?_; rintro e w4 ⟨rfl, hb4⟩)
          | (go_at_call 9; refine (sameCmds_true _ _ _ _ _ [] _ (ReadsC.nil _) (ReadsC.nil _) (by decide) ?_).mono ?_; (exact fun x hx => by cases hx); rintro e w5 ⟨rfl, m, rfl⟩))
        have hs4 := hb4.size
        simp only [World.size_alloc] at hs4
        have h2 := hbw.trans (hb2.mono hbw.size)
        have h3 := h2.trans (hb3.mono h2.size)
        have h4 := (h3.alloc h3.size _).trans (hb4.mono (by simp only [World.size_alloc]; have := h3.size; omega))
        have hB4 := (((HB.out.below hb2).below hb3).below ((Below.refl _ w3).alloc (Nat.le_refl _) _)).below hb4
        refine wp_loop_rounds 1 ?_
        rw [rounds_succ]
        go_wp2_with fail
        go_roundw
        case rel => exact ⟨j + 1, us, by omega, by go_num, hB4.drewN m, below_drewN' h4 m, by show w1.heap.size + 1 ≤ w4.heap.size; omega⟩
        case measure => simp [intOf]; omega
      | ok cs =>
        have HP := Lib.hid hP
        have HN := Lib.hid (nums_three' hP)
        clear hP
        go_wp2_with (first
          | (go_at_call 6; refine (parseD_good t E _ HEr.out htz cs HP.out).mono ?_; rintro e w2 ⟨A2, c2, us', rfl, hb2, hD2, hl2⟩; have HD := Lib.hid hD2; clear hD2; have ct2 := (hb2.cell (p := ⟨b, off + q, none⟩) (cell_lt ct')).trans ct'; have hs2 := hb2.size)
          | (go_at_call 7; refine (refParse_ok t _ htz cs HP.out).mono ?_; rintro e w3 ⟨A3, c3, rfl, hb3, hr3⟩; have HR3 := Lib.hid hr3; clear hr3; have hs3 := hb3.size)
          | (go_at_call 8; refine (told_nil _ _ _ _).mono ?_; rintro e w4 ⟨rfl, hb4⟩)
          | (go_at_call 9; refine (sameCmds_true _ _ _ _ _ cs _ ((((HD.out.below hb3).below ((Below.refl _ w3).alloc (Nat.le_refl _) _)).below hb4).owns.reads) (((HR3.out.below ((Below.refl _ w3).alloc (Nat.le_refl _) _)).below hb4)) ?_ ?_).mono ?_; (unfold maxLen; omega); (exact fun x hx => Nat.le_trans (HN.out x hx) (by unfold maxLen; omega)); rintro e w5 ⟨rfl, m, rfl⟩))
        have hs4 := hb4.size
        simp only [World.size_alloc] at hs4
        have h2 := hbw.trans (hb2.mono hbw.size)
        have h3 := h2.trans (hb3.mono h2.size)
        have h4 := below_drewN' ((h3.alloc h3.size _).trans (hb4.mono (by simp only [World.size_alloc]; have := h3.size; omega))) m
        have hB4 := Lib.hid (((((HB.out.below hb2).below hb3).below ((Below.refl _ w3).alloc (Nat.le_refl _) _)).below hb4).drewN m)
        have hD4 := Lib.hid ((((HD.out.below hb3).below ((Below.refl _ w3).alloc (Nat.le_refl _) _)).below hb4).drewN m)
        have hz4 : w1.heap.size + 1 ≤ (w4.drewN m).heap.size := by show w1.heap.size + 1 ≤ w4.heap.size; omega
        have hlt2 := HB.out.lt
        generalize w4.drewN m = w5 at h4 hB4 hD4 hz4 ⊢
        go_loopw [9] (fun i wv => InAt w5 (w1.heap.size + 1) w1.heap.size (.slice A2 cs.length c2) cs us' i wv) (fun i _ => cs.length - (intOf i).toNat)
        case atStart =>
          refine ⟨0, us, Nat.zero_le _, rfl, hB4.out, hD4.out.low hsz, fun x hx g hg k y _ hy hyg => ?_, Below.refl _ _, hz4⟩
          have := hlt2 x hx g hg
          have := hD4.out.high y (List.mem_of_getElem? hy) g hyg
          omega
        case round =>
          obtain ⟨k, us2, hk, rfl, hbk2, hD6, hsep, hbv, hsv⟩ := hrel
          by_cases hlk : k < cs.length
          · obtain ⟨g, d, u, rfl, hd, hu, ho, cu⟩ := hD6.cell k hlk
            obtain ⟨Au, cu', rfl⟩ := ho.slice
            have hd3 := HN.out d (List.mem_of_getElem? hd)
            have HB6 := Lib.hid hbk2
            have HD6 := Lib.hid hD6
            have HO := Lib.hid ho
            have HU := Lib.hid hu
            have HSEP := Lib.hid hsep
            clear hbk2 hD6 ho hu hsep hd
            go_wp2_with (first
              | (go_at_call 10; refine (ints_any (w1.heap.size + 1) w1.heap.size us2 Au d.nums.length cu' d.nums _ HB6.out HO.out rfl (by omega) (fun x hx g hg => HSEP.out x hx g hg k _ (Nat.le_refl _) HU.out) hsv).mono ?_; rintro e w7 ⟨rfl, us7, hb7, hsub, hk7, hbl7⟩))
            go_roundw
            case rel =>
              refine ⟨k + 1, us7, by omega, by go_num, hb7, HD6.out.keepT hk7, fun x hx g hg i y hi hy => ?_, hbv.trans hbl7, Nat.le_trans hsv hbl7.size⟩
              rcases hsub x hx with h | rfl
              · exact HSEP.out x h g hg i y (by omega) hy
              · exact HD6.out.2.2.2 k i _ y (by omega) HU.out hy g hg
            case measure => simp [intOf]; omega
          · go_wp2_with fail
            go_roundw
            case rel => exact ⟨j + 1, us2, by omega, by go_num, hbk2, h4.trans (hbv.mono hz1), hsv⟩
            case measure => simp [intOf]; omega
    · go_wp2_with (first
        | (go_at_call 11; refine (book_apart (w1.heap.size + 1) w1.heap.size us _ hbk hsz).mono ?_; rintro e w6 ⟨rfl, hb6⟩))
      go_ret
      exact ⟨rfl, hbw.trans (hb6.mono hz1)⟩

/-- ScriptAll returns true. -/
theorem all_true (A : Option Addr) (n c : Nat) (ts : List ByteArray) (E : Errs) (w : World) (hE : Laid E nineteen w) (hr : ReadsS w (.slice A n c) ts) (hts : ∀ t ∈ ts, t.size ≤ 281474976710656) :
    Calls Tryz.prog 3 #[.slice A n c] w fun e w' => e = .returned (.bool true) ∧ Below w.heap.size w w' := by
  rcases Nat.lt_or_ge 20 n with h | h
  · exact all_many A n c E w hE h
  · exact all_few A n c ts E w hE hr hts h
end Go.Proofs.YtinobikikineiabGreatDoor
