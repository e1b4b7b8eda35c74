/- The walk of script's lines: the iterator hands on the lines that say something, with their numbers. Conditions: the text's size. -/
import Derived.Test.YtinobikikineiabGreatDoorSSplit
namespace Go.Proofs.YtinobikikineiabGreatDoor
open Go.RowKit Go.Shelf

/-- The lines that say something, with their numbers. -/
def said (no : Nat) : List (List UInt8) → List (Nat × List UInt8)
  | [] => []
  | p :: ps => if Sc.idle (Sc.trim p) then said (no + 1) ps else (no, Sc.trim p) :: said (no + 1) ps
theorem said_idle {no : Nat} {p : List UInt8} {ps : List (List UInt8)} (h : Sc.idle (Sc.trim p) = true) : said no (p :: ps) = said (no + 1) ps := by simp [said, h]
theorem said_more {no : Nat} {p : List UInt8} {ps : List (List UInt8)} (h : Sc.idle (Sc.trim p) = false) : said no (p :: ps) = (no, Sc.trim p) :: said (no + 1) ps := by simp [said, h]

theorem lines_any (s : ByteArray) (w : World) :
    Calls Tryz.prog 18 #[.string s] w fun e w' =>
      e = .returned (.func (.func 75) #[] #[.pointer (some ⟨w.heap.size, 0, none⟩)]) ∧ w' = w.alloc (.cells #[.string s] 9) := by
  go_enter Tryz.func18, Tryz.ntmps18
  go_wp2
  go_ret
  exact ⟨rfl, rfl⟩

theorem lt_of_cells {W : World} {k : Nat} {o : Obj} (h : W.heap[k]? = some o) : k < W.heap.size := (Array.getElem?_eq_some_iff.1 h).1
/-- The blocks that a call of the iterator lays from M on. -/
def Seven (M : Nat) (b : Nat) : Prop := M ≤ b ∧ b < M + 7
/-- What the loop over all lines holds. -/
structure LinesAt (M l : Nat) (xs : List (List UInt8)) (J : List (Nat × List UInt8) → World → Prop) (pre : List (List UInt8)) (done : List (Nat × List UInt8)) (W : World) : Prop where
  yield : W.heap[M]? = some (.cells #[.func (.yield l) #[] #[]] 109 (0, 0))
  no : W.heap[M + 1]? = some (.cells #[.int .i64 (pre.length : Int)] 3 (0, 0))
  size : M + 5 ≤ W.heap.size
  rel : done ++ said (pre.length + 1) (xs.drop pre.length) = said 1 xs
  j : J done W
def LinesI (M l : Nat) (xs : List (List UInt8)) (J : List (Nat × List UInt8) → World → Prop) (pre : List (List UInt8)) (W : World) : Prop := ∃ done, LinesAt M l xs J pre done W
def LinesX (xs : List (List UInt8)) (Jx : List (Nat × List UInt8) → World → Prop) (c : Code) (_pre : List (List UInt8)) (W : World) : Prop := c = .ret ∧ ∃ p, p <+: said 1 xs ∧ Jx p W

theorem linesI_aside {M l : Nat} {xs : List (List UInt8)} {J : List (Nat × List UInt8) → World → Prop} (hJ : ∀ s A A' row, J s A → A.grownBy A' row → (∀ r, row = some r → Seven M r) → J s A') :
    AsideS (Three (M + 2)) (M + 5) (LinesI M l xs J) := by
  rintro pre A A' row ⟨done, h⟩ hg hr
  have hrow : ∀ r, row = some r → M + 2 ≤ r ∧ r < M + 7 := fun r e => by rcases hr r e with h1 | h1 | h1 <;> (try unfold Three at h1) <;> omega
  have far : ∀ {k : Nat} {o : Obj}, k < M + 2 → A.heap[k]? = some o → A'.heap[k]? = some o := fun {k o} hk ho => (hg.block k (Array.getElem?_eq_some_iff.1 ho).1 (fun e => by have := hrow k e.symm; omega)).trans ho
  exact ⟨done, far (by omega) h.yield, far (by omega) h.no, Nat.le_trans h.size hg.size, h.rel, hJ _ A A' row h.j hg (fun r e => ⟨by have := hrow r e; omega, by have := hrow r e; omega⟩)⟩
theorem linesX_aside {M : Nat} {xs : List (List UInt8)} {Jx : List (Nat × List UInt8) → World → Prop} (hJ : ∀ s A A' row, Jx s A → A.grownBy A' row → (∀ r, row = some r → Seven M r) → Jx s A') (c : Code) :
    AsideS (Three (M + 2)) (M + 5) (LinesX xs Jx c) := by
  rintro pre A A' row ⟨hc, p, hp, h⟩ hg hr
  exact ⟨hc, p, hp, hJ _ A A' row h hg (fun r e => by rcases hr r e with h1 | h1 | h1 <;> (try unfold Three at h1) <;> exact ⟨by omega, by omega⟩)⟩
theorem drop_of_prefix {α : Type} {pre : List α} {x : α} {xs : List α} (h : (pre ++ [x]) <+: xs) : xs.drop pre.length = x :: xs.drop (pre.length + 1) := by
  obtain ⟨t, rfl⟩ := h
  simp [List.drop_append]

theorem trim_list (x : List UInt8) (w : World) (hs : x.length ≤ 65536) :
    Calls Tryz.prog 77 #[.string ⟨x.toArray⟩, .string ⟨#[32, 9, 13]⟩] w fun e w' => e = .returned (.string ⟨(Sc.trim x).toArray⟩) ∧ Below w.heap.size w w' :=
  trim_any ⟨x.toArray⟩ w (by simp [ByteArray.size]; omega)
attribute [local go_sem] Oper.semAt_some
set_option maxRecDepth 100000 in
set_option maxHeartbeats 2000000 in
theorem lines_seq (n n0 : Nat) (s : ByteArray) (w : World) (hbox : w.heap[n0]? = some (.cells #[.string s] 9 (0, 0))) (hs : s.size ≤ 65536) :
    SeqS Fence.wide n Tryz.prog 75 #[.pointer (some ⟨n0, 0, none⟩)] (fun x : Nat × List UInt8 => #[.int .i64 (x.1 : Int), .string ⟨x.2.toArray⟩]) (Seven (w.heap.size + 2)) (w.heap.size + 9) (said 1 (Lx.cuts s.data.toList)) w := by
  intro l J Jx W hb hz hJ hJx hY h0
  refine callsIn_wide.2 ((callsIn_wide (n := 5)).1 ?_)
  have hbx : W.heap[n0]? = some (.cells #[.string s] 9 (0, 0)) := (hb.block _ (Array.getElem?_eq_some_iff.1 hbox).1).trans hbox
  have hlt : n0 < W.heap.size := (Array.getElem?_eq_some_iff.1 hbx).1
  have hc := block_cell hbx
  have hc2 := block_cell (alloc_old (alloc_old hbx (.cells #[.func (.yield l) #[] #[]] 109)) (.cells #[.int .i64 0] 3))
  have HZ := Lib.hid hz
  clear hz
  refine callsIn_of_wp_marks Tryz.func75 rfl trivial ?_ rfl
  simp only [Tryz.ntmps75, List.size_toArray, List.length_cons, List.length_nil, Nat.reduceAdd, Nat.reduceSub, Array.replicate_succ, Array.replicate_zero, List.push_toArray, List.append_toArray, List.nil_append, List.cons_append]
  gi_wp2_with (first | (refine ⟨trivial, ?_⟩; gi_at_call 76; refine (callsIn_wide.2 (splitSeq_any _ _)).mono ?_; rintro e w' ⟨rfl, rfl⟩))
  have hS : Seven (w.heap.size + 2) = Seven W.heap.size := by rw [HZ.out]
  have h9 : w.heap.size + 9 = W.heap.size + 7 := by rw [HZ.out]
  rw [hS] at hJ hJx hY
  rw [h9] at hY
  refine wpIn_rangeFunc_set (by omega) (gf := 140) (lb := #[.pointer (some ⟨W.heap.size + 3, 0, none⟩), .pointer (some ⟨W.heap.size + 2, 0, none⟩), .pointer (some ⟨W.heap.size + 4, 0, none⟩)]) ?hg trivial (enters_of Tryz.func140 (by kernel_rfl) rfl)
    (enc := fun x : List UInt8 => #[.string ⟨x.toArray⟩]) (S := Three (W.heap.size + 2)) (Z := W.heap.size + 5) (xs := Lx.cuts s.data.toList) rfl ?hseq (fun _ => rfl) (by simp [Three]) (by simp [Three])
    (LinesI W.heap.size l (Lx.cuts s.data.toList) J) (LinesX (Lx.cuts s.data.toList) Jx) ?hI ?hIx ?h0 (fun x => { tmps := #[.func (.yield l) #[] #[], .pointer (some ⟨n0, 0, none⟩), .pointer (some ⟨W.heap.size, 0, none⟩), .pointer (some ⟨W.heap.size + 1, 0, none⟩), .string ⟨x.toArray⟩, .string s, .func (.func 140) #[] #[.pointer (some ⟨W.heap.size + 1 + 1 + 1, 0, none⟩), .pointer (some ⟨W.heap.size + 1 + 1, 0, none⟩), .pointer (some ⟨W.heap.size + 1 + 1 + 2, 0, none⟩)], .string ⟨x.toArray⟩, undef, undef, undef, undef, undef, undef, undef, undef, undef, undef, undef, undef, undef, undef, undef, undef], defers := [] }) ?assign ?body ?done ?stop
  case hg => rfl
  case hseq => exact split_seq _ (W.heap.size + 2) s _ ⟨alloc_old (alloc_old (alloc_at _ _ _ (by simp)) _) _, alloc_old (alloc_at _ _ _ (by simp)) _, alloc_at _ _ _ (by simp)⟩ (by simp) hs
  case hI => simpa using linesI_aside (M := W.heap.size) (l := l) (xs := Lx.cuts s.data.toList) hJ
  case hIx => intro c; simpa using linesX_aside (M := W.heap.size) (xs := Lx.cuts s.data.toList) hJx c
  case h0 =>
    refine ⟨[], alloc_old (alloc_old (alloc_old (alloc_old (alloc_at _ _ _ rfl) _) _) _) _, alloc_old (alloc_old (alloc_old (alloc_at _ _ _ (by simp)) _) _) _, by simp, by simp, ?_⟩
    have al : ∀ (A : World) (o : Obj), J [] A → J [] (A.alloc o) := fun A o hA => hJ _ A _ none hA (World.grownBy_alloc A o none) (fun r e => by cases e)
    exact al _ _ (al _ _ (al _ _ (al _ _ (al _ _ h0))))
  case assign =>
    intro l x W K hK
    gi_wp2
    exact hK
  case body =>
    rintro l2 pre x Wc hlt2 hZ2 ⟨done, h⟩ hpre
    obtain ⟨hxl, hpl, hdx⟩ := Lx.round_facts rfl hpre
    rw [bytes_size] at hxl hpl
    have HD := Lib.hid hdx
    have HR := Lib.hid h.rel
    clear hdx hpre
    have hcy := block_cell h.yield
    have hcn := block_cell h.no
    have hfn := block_frozen h.no 0
    have hln := lt_of_cells h.no
    obtain ⟨W2, hW2⟩ : ∃ W2, Wc.setCell ⟨W.heap.size + 1, 0, none⟩ (.int .i64 ((pre.length : Int) + 1)) = W2 := ⟨_, rfl⟩
    have hz2 : W2.heap.size = Wc.heap.size := by rw [← hW2]; simp [World.setCell]
    have hfar2 : ∀ k o, Wc.heap[k]? = some o → k ≠ W.heap.size + 1 → W2.heap[k]? = some o := fun k o hk hne => by rw [← hW2]; exact block_far hk hne _
    have h23 : W2.heap[W.heap.size + 1]? = some (.cells #[.int .i64 ((pre.length : Int) + 1)] 3 (0, 0)) := by rw [← hW2]; exact block_set h.no _
    have hj2 : J done W2 := by rw [← hW2]; exact hJ _ _ _ _ h.j (grownBy_setCell' _ _ _) (fun r e => by cases e; exact ⟨by omega, by omega⟩)
    have HW2 := Lib.hid hW2
    have hlen7 : 7 + W.heap.size ≤ Wc.heap.size := by simp at hlt2; omega
    clear hW2
    have keepB : ∀ {w1 : World}, Below W2.heap.size W2 w1 → ∀ k o, Wc.heap[k]? = some o → k ≠ W.heap.size + 1 → w1.heap[k]? = some o := fun hb1 k o hk hne => (hb1.block k (by rw [hz2]; exact lt_of_cells hk)).trans (hfar2 k o hk hne)
    by_cases hid : Sc.idle (Sc.trim x) = true
    · have HN : Hid (done ++ said (pre.length + 1 + 1) ((Lx.cuts s.data.toList).drop (pre.length + 1)) = said 1 (Lx.cuts s.data.toList)) := by
        have := HR.out
        rw [HD.out, said_idle hid] at this
        exact this
      have ways : Sc.trim x = [] ∨ ∃ r, Sc.trim x = 35 :: r := by
        cases ht : Sc.trim x with
        | nil => exact .inl rfl
        | cons c r => 
          rw [ht] at hid
          refine .inr ⟨r, ?_⟩
          have : c = 35 := by simpa [Sc.idle] using hid
          rw [this]
      clear hid
      rcases ways with ht | ⟨r, ht⟩
      all_goals
        have HT := Lib.hid ht
        clear ht
        gi_wp2_with (first
          | (refine ⟨trivial, ?_⟩; gi_at_call 77; rw [HW2.out]; refine (CallsIn.inRound l2 (callsIn_wide.2 (trim_list x W2 (by omega)))).mono ?_; rintro e w1 ⟨rfl, hb1⟩; rw [HT.out]))
        have far := keepB hb1
        have hs1 := hb1.size
        simp only [World.size_alloc]
        refine ⟨⟨?_, ?_⟩, ?_, done, far _ _ h.yield (by omega), ?_, by omega, ?_, hJ _ _ _ none hj2 (grows hb1) (fun r e => by cases e)⟩
        · obtain ⟨o, ho⟩ : ∃ o, Wc.heap[W.heap.size + 1 + 1 + 1 + 1 + 1]? = some o := ⟨_, Array.getElem?_eq_getElem (by omega)⟩
          exact (far _ _ ho (by omega)).trans ho.symm
        · obtain ⟨o, ho⟩ : ∃ o, Wc.heap[W.heap.size + 1 + 1 + 1 + 1 + 1 + 1]? = some o := ⟨_, Array.getElem?_eq_getElem (by omega)⟩
          exact (far _ _ ho (by omega)).trans ho.symm
        · rintro b ⟨hb3, hb4⟩
          obtain ⟨o, ho⟩ : ∃ o, Wc.heap[b]? = some o := ⟨_, Array.getElem?_eq_getElem (by omega)⟩
          exact (far _ _ ho (by omega)).trans ho.symm
        · rw [List.length_append]; exact (hb1.block _ (lt_of_cells h23)).trans h23
        · rw [List.length_append]; exact HN.out
    · have hid' : Sc.idle (Sc.trim x) = false := by simpa using hid
      have HN : Hid ((done ++ [(pre.length + 1, Sc.trim x)]) ++ said (pre.length + 1 + 1) ((Lx.cuts s.data.toList).drop (pre.length + 1)) = said 1 (Lx.cuts s.data.toList)) := by
        have := HR.out
        rw [HD.out, said_more hid'] at this
        rw [List.append_assoc]
        exact this
      have HPre : Hid ((done ++ [(pre.length + 1, Sc.trim x)]) <+: said 1 (Lx.cuts s.data.toList)) := ⟨_, HN.out⟩
      obtain ⟨c, r, ht, hc35⟩ : ∃ c r, Sc.trim x = c :: r ∧ c ≠ 35 := by
        cases ht : Sc.trim x with
        | nil => rw [ht] at hid; exact absurd rfl hid
        | cons c r =>
          rw [ht] at hid
          exact ⟨c, r, rfl, fun e => hid (by rw [e]; rfl)⟩
      clear hid hid'
      rw [ht] at HPre HN
      have HT := Lib.hid ht
      clear ht
      have hnat : ((((⟨(c :: r).toArray⟩ : ByteArray)[0]'(by simp [ByteArray.size])).toNat : Int) == 35) = false := by
        rw [beq_eq_false_iff_ne]
        exact fun e => hc35 (UInt8.toNat_inj.1 (by show c.toNat = 35; simp [ByteArray.getElem_eq_getElem_data] at e; omega))
      have hY' : ∀ w1, J done w1 → W.heap.size + 7 ≤ w1.heap.size → YieldAt Fence.wide (n - 1) Tryz.prog l #[.int .i64 ((pre.length : Int) + 1), .string ⟨(c :: r).toArray⟩] w1 fun e W' =>
            e = .returned (.bool true) ∧ J (done ++ [(pre.length + 1, c :: r)]) W' ∧ KeepS (Seven W.heap.size) w1 W' ∨
              e = .returned (.bool false) ∧ Jx (done ++ [(pre.length + 1, c :: r)]) W' ∧ KeepS (Seven W.heap.size) w1 W' := fun w1 hj hz => hY done (pre.length + 1, c :: r) w1 hj hz HPre.out
      gi_wp2_with (first
        | (refine ⟨trivial, ?_⟩; gi_at_call 77; rw [HW2.out]; refine (CallsIn.inRound l2 (callsIn_wide.2 (trim_list x W2 (by omega)))).mono ?_; rintro e w1 ⟨rfl, hb1⟩; rw [HT.out]; have HF := Lib.hid (keepB hb1); have hs1 := hb1.size;
            have k0 := block_cell (HF.out _ _ h.yield (by omega)); have k1 := block_cell ((hb1.block _ (lt_of_cells h23)).trans h23);
            obtain ⟨fn, tmps, assign, body, hy, hR⟩ := hY' w1 (hJ _ _ _ none hj2 (grows hb1) (fun r e => by cases e)) (by omega)))
      refine RoundIn.mono (RoundIn.within (k := l2) (RoundIn.deep (m := 2) rfl hR)) ?_
      rintro e W3 (⟨rfl, hj3, hk3⟩ | ⟨rfl, hj3, hk3⟩)
      all_goals
        have far : ∀ k o, Wc.heap[k]? = some o → Seven W.heap.size k → k ≠ W.heap.size + 1 → W3.heap[k]? = some o := fun k o hk h7 hne => (hk3 k h7).trans (HF.out k o hk hne)
        gi_wp2
      · simp only [World.size_alloc]
        have far2 : ∀ k, W.heap.size ≤ k → k < W.heap.size + 7 → k ≠ W.heap.size + 1 → W3.heap[k]? = Wc.heap[k]? := fun k h1 h2 h3 => by
          obtain ⟨o, ho⟩ : ∃ o, Wc.heap[k]? = some o := ⟨_, Array.getElem?_eq_getElem (by omega)⟩
          exact (far k o ho ⟨h1, h2⟩ h3).trans ho.symm
        have h4 := far2 (W.heap.size + 6) (by omega) (by omega) (by omega)
        obtain ⟨o, ho⟩ : ∃ o, Wc.heap[W.heap.size + 6]? = some o := ⟨_, Array.getElem?_eq_getElem (by omega)⟩
        have h5 := lt_of_cells (h4.trans ho)
        refine ⟨⟨far2 _ (by omega) (by omega) (by omega), far2 _ (by omega) (by omega) (by omega)⟩, fun b hb3 => far2 b (by have := hb3.1; omega) (by have := hb3.2; omega) (by have := hb3.1; omega), _, far _ _ h.yield ⟨by omega, by omega⟩ (by omega), ?_, by omega, ?_, hj3⟩
        · rw [List.length_append]; exact (hk3 _ ⟨by omega, by omega⟩).trans ((hb1.block _ (lt_of_cells h23)).trans h23)
        · rw [List.length_append]; exact HN.out
      · simp only [World.size_alloc]
        have far2 : ∀ k, W.heap.size ≤ k → k < W.heap.size + 7 → k ≠ W.heap.size + 1 → W3.heap[k]? = Wc.heap[k]? := fun k h1 h2 h3 => by
          obtain ⟨o, ho⟩ : ∃ o, Wc.heap[k]? = some o := ⟨_, Array.getElem?_eq_getElem (by omega)⟩
          exact (far k o ho ⟨h1, h2⟩ h3).trans ho.symm
        exact ⟨⟨far2 _ (by omega) (by omega) (by omega), far2 _ (by omega) (by omega) (by omega)⟩, fun b hb3 => far2 b (by have := hb3.1; omega) (by have := hb3.2; omega) (by have := hb3.1; omega), rfl, _, HPre.out, hj3⟩
  case done =>
    rintro D Wd rfl ⟨done, h⟩ hK
    gi_wp2
    refine ⟨by simp, .inl ⟨_, _, rfl, run_takeDeferred hK, ?_⟩⟩
    refine ⟨.tuple #[], (by simp [results, Tryz.results75, go_sem]), ⟨_, rfl⟩, .inl ?_⟩
    have ht := h.rel
    rw [List.drop_length] at ht
    simp only [said, List.append_nil] at ht
    subst ht
    exact hJ _ _ _ _ h.j (grownBy_putObj' _ _ _) (fun r e => by cases e; simp only [World.size_alloc]; exact ⟨by omega, by omega⟩)
  case stop =>
    rintro D c pre Wd rfl hpre ⟨rfl, p, hp, hjx⟩ hK
    gi_wp2
    refine ⟨by simp, .inl ⟨_, _, rfl, run_takeDeferred hK, ?_⟩⟩
    refine ⟨.tuple #[], (by simp [results, Tryz.results75, go_sem]), ⟨_, rfl⟩, .inr ⟨p, hp, ?_⟩⟩
    exact hJx _ _ _ _ hjx (grownBy_putObj' _ _ _) (fun r e => by cases e; simp only [World.size_alloc]; exact ⟨by omega, by omega⟩)
end Go.Proofs.YtinobikikineiabGreatDoor
