/- The walk of script's Line: a command that can be written, as its line. Conditions: the command is one; the table of strconv lies as Go's library lays it; the text's size. -/
import Derived.Test.YtinobikikineiabGreatDoorSCmdNums
import Derived.Test.YtinobikikineiabGreatDoorShelfTwo
import Derived.Room.Shelf.Join48
import Derived.Lib.AppendIntMem
import Derived.Lib.ItoaLen
namespace Go.Proofs.YtinobikikineiabGreatDoor
open Go.RowKit Go.Shelf

/-- strconv's table lies so. -/
abbrev Tab (w : World) : Prop := Lib.TabIs Tryz.prog w "internal/strconv.uint64pow10" .u64 Lib.pow10Tab
theorem tab_named : Tryz.prog.globalNamed "internal/strconv.uint64pow10" = some 22 := by kernel_rfl
theorem var_below {w w' : World} {nm : String} {g : Nat} (hg : Tryz.prog.globalNamed nm = some g) {cs : Array Value} (h : w.var? Tryz.prog nm = some cs) (hb : Below w.heap.size w w') : w'.var? Tryz.prog nm = some cs := by
  unfold World.var? at h ⊢
  rw [hg] at h ⊢
  simp only [Option.bind_some] at h ⊢
  cases hh : w.heap[g]? with
  | none => rw [hh] at h; simp at h
  | some o =>
    rw [hh] at h
    rw [(hb.block g (lt_of hh)).trans hh]
    exact h
theorem Tab.below {w w' : World} (h : Tab w) (hb : Below w.heap.size w w') : Tab w' := var_below tab_named h hb
theorem itoa_any (n : Int) (h0 : 0 ≤ n) (h1 : n ≤ 1073741824) (w : World) (ht : Tab w) :
    Calls Tryz.prog 115 #[.int .i64 n] w fun e w' => e = .returned (.string ⟨(Sc.digits n).toArray⟩) ∧ Below w.heap.size w w' :=
  (Tryz.strconv_Itoa n (by omega) (by omega) w ht).mono fun e w' ⟨he, k, os, hw⟩ => ⟨he, by rw [hw]; exact Lib.below_grow _ w (Nat.le_refl _) k os⟩

namespace Sc
theorem digits_len (n : Int) (h0 : 0 ≤ n) (h1 : n ≤ 1073741824) : (digits n).length ≤ 20 := by
  obtain ⟨k, rfl⟩ : ∃ k : Nat, n = (k : Int) := ⟨n.toNat, by omega⟩
  have e : digits (k : Int) = Lib.decDigits k := by unfold digits Lib.itoa; rw [if_neg (by omega)]; rfl
  rw [e, Lib.decDigits_length]
  exact Lib.nDigits_le20 k (by omega)
theorem tailN_len (l : List Int) (h : ∀ n ∈ l, 0 ≤ n ∧ n ≤ 1073741824) : (tailN l).length ≤ 21 * l.length := by
  induction l with
  | nil => exact Nat.le_refl _
  | cons n l ih =>
    have e : tailN (n :: l) = 32 :: (digits n ++ tailN l) := by simp [tailN]
    have h1 := digits_len n (h n (by simp)).1 (h n (by simp)).2
    have h2 := ih (fun m hm => h m (by simp [hm]))
    rw [e]
    simp only [List.length_cons, List.length_append]
    omega
/-- What a command that can be written is. -/
theorem cmd_parts {c : Cmd} (h : isCommand c = true) : c.word.length ≤ 10 ∧ c.nums.length ≤ 3 ∧ ∀ n ∈ c.nums, 0 ≤ n ∧ n ≤ 1073741824 := by
  have hg := (good_iff c).1 h
  unfold isCommand areNumbers at h
  simp only [Bool.and_eq_true, decide_eq_true_eq, List.all_eq_true] at h
  refine ⟨(word_good hg.word).1, ?_, fun n hn => by simpa using h.2.2 n hn⟩
  rw [h.2.1]
  unfold many
  split <;> (try split) <;> omega
theorem line_len {c : Cmd} (h : isCommand c = true) : (lineOf c).length ≤ c.text.length + 100 := by
  obtain ⟨h1, h2, h3⟩ := cmd_parts h
  have h4 := tailN_len c.nums h3
  rw [line_eq]
  simp only [List.length_append]
  split <;> simp only [List.length_cons, List.length_nil] <;> omega
end Sc

/-- The words of a line. -/
def lineWords (word text : ByteArray) (l : List Int) : List ByteArray := word :: ((if text.data.toList.isEmpty then [] else [text]) ++ l.map fun n => ⟨(Sc.digits n).toArray⟩)
theorem lineWords_join (word text : ByteArray) (l : List Int) : Lib.join ((lineWords word text l).map (·.data.toList)) (⟨#[32]⟩ : ByteArray).data.toList = Sc.lineOf ⟨word.data.toList, text.data.toList, l⟩ := by
  unfold lineWords Sc.lineOf Sc.sep
  have e : ((l.map fun n => (⟨(Sc.digits n).toArray⟩ : ByteArray)).map (·.data.toList)) = l.map Sc.digits := by
    rw [List.map_map]
    exact List.map_congr_left fun n _ => by simp
  simp only [List.map_cons, List.map_append, e]
  split
  · rename_i h; rfl
  · rename_i h; rfl
theorem lineWords_snoc (word text : ByteArray) (l : List Int) (j : Nat) (z : Int) (h : l[j]? = some z) : lineWords word text (l.take (j + 1)) = lineWords word text (l.take j) ++ [⟨(Sc.digits z).toArray⟩] := by
  unfold lineWords
  rw [List.take_add_one, h]
  simp
theorem lineWords_len (word text : ByteArray) (l : List Int) : (lineWords word text l).length ≤ l.length + 2 := by
  unfold lineWords
  split <;> simp
theorem infoStr : (Tryz.prog.info? 9).map (fun i => (i.zero, i.size, i.bytes)) = some (some (.string ⟨#[]⟩), 1, 16) := by kernel_rfl
theorem own_one (w : World) (v : Value) (t : TypeId) (o : Obj) : ((w.alloc o).alloc (.cells #[v] t)).ownsRow (w.heap.size + 1) t 1 (.slice (some ⟨w.heap.size + 1, 0, none⟩) 1 1) 1 [v] :=
  ⟨rfl, .inr ⟨w.heap.size + 1, 1, #[v], rfl, Nat.le_refl _, alloc_at _ _ _ (by simp), Nat.le_refl _, by unfold maxLen; omega, rfl, rfl⟩⟩

theorem join_any (bk c : Nat) (xs : List ByteArray) (w : World) (hcells : ∀ (j : Nat) x, xs[j]? = some x → w.cell? ⟨bk, 0 + j, none⟩ = some (.string x)) (hbk : bk < w.heap.size) (hN : xs.length ≤ 140737488355328) (hcap : xs.length ≤ c)
    (hlen : (Lib.join (xs.map (·.data.toList)) (⟨#[32]⟩ : ByteArray).data.toList).length ≤ 281474976710656) :
    Calls Tryz.prog 116 #[.slice (some ⟨bk, 0, none⟩) xs.length c, .string ⟨#[32]⟩] w fun e w' => e = .returned (.string ⟨(Lib.join (xs.map (·.data.toList)) (⟨#[32]⟩ : ByteArray).data.toList).toArray⟩) ∧ Below w.heap.size w w' :=
  Any.strings_Join_48 Tryz.lays156 Tryz.Builder_Extra_156 bk 0 c xs ⟨#[32]⟩ w hcells hbk hN hcap hlen
/-- A row of words, as Join reads it. -/
theorem own_words {w : World} {base n cap : Nat} {A : Option Addr} {xs : List ByteArray} (h : w.ownsRow base 9 1 (.slice A n cap) n (xs.map Value.string)) (hx : xs.length = n) (hn : 0 < n) :
    ∃ g, A = some ⟨g, 0, none⟩ ∧ g < w.heap.size ∧ n ≤ cap ∧ ∀ (j : Nat) x, xs[j]? = some x → w.cell? ⟨g, 0 + j, none⟩ = some (.string x) := by
  obtain ⟨_, ⟨hv, h0⟩ | ⟨g, cap', cur, hv, hg, hh, hc, _, hcs, htk⟩⟩ := h
  · omega
  · injection hv with h1 h2 h3
    subst h3
    refine ⟨g, h1, lt_of hh, hc, fun j x hj => ?_⟩
    have hjl := (List.getElem?_eq_some_iff.1 hj).1
    have h4 : (xs.map Value.string)[j]? = some (.string x) := by rw [List.getElem?_map, hj]; rfl
    rw [Nat.zero_add, cell_of_row w g j cur _ _ hh, ← h4, ← htk, List.getElem?_take_of_lt (by omega), Array.getElem?_toList]

/-- What the loop over the numbers holds at a round's head (kept shut). -/
def LineAt (w : World) (word text : ByteArray) (l : List Int) (v i : Value) (wr : World) : Prop :=
  ∃ (j : Nat) (A : Option Addr) (cap : Nat), j ≤ l.length ∧ i = .int .i64 j ∧ v = .slice A (lineWords word text (l.take j)).length cap ∧
    wr.ownsRow (w.heap.size + 1) 9 1 (.slice A (lineWords word text (l.take j)).length cap) (lineWords word text (l.take j)).length ((lineWords word text (l.take j)).map Value.string) ∧ Below w.heap.size w wr ∧ w.heap.size + 1 ≤ wr.heap.size

set_option maxRecDepth 100000 in
set_option maxHeartbeats 8000000 in
theorem line_any (word text : ByteArray) (A : Option Addr) (n c : Nat) (l : List Int) (w : World) (hr : ReadsI w (.slice A n c) l) (hc : Sc.isCommand ⟨word.data.toList, text.data.toList, l⟩ = true) (ht : text.size ≤ 140737488355328) (htab : Tab w) :
    Calls Tryz.prog 71 #[.agg #[.string word, .string text, .slice A n c]] w fun e w' => e = .returned (.string ⟨(Sc.lineOf ⟨word.data.toList, text.data.toList, l⟩).toArray⟩) ∧ Below w.heap.size w w' := by
  obtain ⟨i0, ii, iz0, iz1, iz2⟩ := info_parts infoStr
  have hll := Sc.line_len hc
  obtain ⟨_, hl3, hrange⟩ := Sc.cmd_parts hc
  simp only [] at hl3 hrange hll
  rw [bytes_size] at hll
  have HRG := Lib.hid hrange
  have HL := Lib.hid hr.len
  have hn3 : n ≤ 3 := by have := hr.len; omega
  have HRd := Lib.hid hr
  have HLen := Lib.hid hll
  clear hc hrange hll hr hl3
  have hemp := empty_list text
  have hw0 : Hid (lineWords word text ((l.take 0)) = word :: (if text.data.toList.isEmpty then [] else [text])) := by show _ = _; simp [lineWords]
  cases he : text.data.toList.isEmpty with
  | true =>
    have e1 : text.toList = [] := by rw [hemp]; simpa using he
    have e2 : text.toList.isEmpty = true := by rw [e1]; rfl
    have HW0 : Hid (lineWords word text (l.take 0) = [word]) := by show _ = _; rw [hw0.out, he]; rfl
    clear he hemp hw0
    go_enter Tryz.func71, Tryz.ntmps71
    go_wp2_with fail
    go_loopw [3, 20] (fun v i wr => LineAt w word text l v i wr) (fun _ i _ => n - (intOf i).toNat)
    case atStart => exact ⟨0, some ⟨w.heap.size + 1, 0, none⟩, 1, Nat.zero_le _, rfl, by rw [HW0.out]; rfl, by rw [HW0.out]; exact own_one w _ _ _, ((Below.refl _ w).alloc (Nat.le_refl _) _).alloc (by simp) _, by simp⟩
    case round =>
      obtain ⟨j, A1, cap, hj, rfl, rfl, hown, hbw, hzr⟩ := hrel
      have hwl := lineWords_len word text (l.take j)
      rw [List.length_take] at hwl
      have hwl5 : (lineWords word text (l.take j)).length ≤ 5 := by have := HL.out; omega
      have hwp : 0 < (lineWords word text (l.take j)).length := by simp [lineWords]
      by_cases hlt : j < n
      · obtain ⟨b, off, z, rfl, hz, a0⟩ := HRd.out.cell j hlt
        have b0 : wr.cell? ⟨b, off + j, none⟩ = some (.int .i64 z) := (hbw.cell (p := ⟨b, off + j, none⟩) (cell_lt a0)).trans a0
        obtain ⟨hz0, hz1⟩ := HRG.out z (List.mem_of_getElem? hz)
        have HS := Lib.hid (lineWords_snoc word text l j z hz)
        clear hz a0
        go_wp2_with (first
          | (go_at_call 115; refine (itoa_any z hz0 hz1 _ (htab.below hbw)).mono ?_; rintro e w2 ⟨rfl, hb2⟩; have hown2 := own_below hown hb2; have hbw2 : Below w.heap.size w w2 := hbw.trans (hb2.mono hbw.size); have hz2 := hb2.size)
          | (at_builtin; refine wpList_append_own _ rfl _ _ 22 rfl (w.heap.size + 1) 9 i0 _ 1 16 Tryz.underlying22 ii iz0 iz1 iz2 rfl (by decide) _ _ _ rfl (hown2.alloc _) ⟨w2.heap.size, 0, none⟩ 1 1 [.string ⟨(Sc.digits z).toArray⟩] rfl rfl (new_cells w2 [.string ⟨(Sc.digits z).toArray⟩] 9) (fun u hu => by rw [List.mem_singleton] at hu; subst hu; rfl) (by unfold maxLen; omega) (by omega) (by simp; omega) ?_; intro v3 w3 hown3 hg3 _; obtain ⟨A3, cap3, rfl⟩ := own_slice hown3))
        go_roundw
        case rel =>
          have hsz := hg3.size
          simp at hsz
          exact ⟨j + 1, A3, cap3, by have := HL.out; omega, by go_num, by rw [HS.out, List.length_append]; rfl, by rw [HS.out, List.length_append, List.map_append]; exact hown3, below_append (hbw2.alloc hbw2.size _) (hown2.alloc _) (by omega) (by simp; omega) hg3, by omega⟩
        case measure => simp [intOf]; omega
      · obtain ⟨g, rfl, hgl, hgc, hgx⟩ := own_words hown rfl hwp
        have hje : l.take j = l := List.take_of_length_le (by have := HL.out; omega)
        have HJ : Hid (Lib.join ((lineWords word text (l.take j)).map (·.data.toList)) (⟨#[32]⟩ : ByteArray).data.toList = Sc.lineOf ⟨word.data.toList, text.data.toList, l⟩) := by show _ = _; rw [hje, lineWords_join]
        have hjl : (Lib.join ((lineWords word text (l.take j)).map (·.data.toList)) (⟨#[32]⟩ : ByteArray).data.toList).length ≤ 281474976710656 := by rw [HJ.out]; have := HLen.out; omega
        have HGX := Lib.hid hgx
        clear hgx hje
        go_wp2_with (first
          | (go_at_call 116; refine (join_any g cap (lineWords word text (l.take j)) _ HGX.out hgl (by omega) hgc hjl).mono ?_; rintro e w2 ⟨rfl, hb2⟩))
        go_ret
        exact ⟨by rw [← HJ.out]; rfl, hbw.trans (hb2.mono hbw.size)⟩
  | false =>
    have e1 : text.toList ≠ [] := by rw [hemp]; simpa using he
    have e2 : text.toList.isEmpty = false := by rw [hemp]; exact he
    have HW0 : Hid (lineWords word text (l.take 0) = [word] ++ [text]) := by show _ = _; rw [hw0.out, he]; rfl
    clear he hemp hw0
    have hown0 := own_one w (.string word) 9 (.cells #[.string word, .string text, .slice A n c] 52)
    have hnew := new_cells ((w.alloc (.cells #[.string word, .string text, .slice A n c] 52)).alloc (.cells #[.string word] 9)) [.string text] 9
    rw [World.size_alloc, World.size_alloc] at hnew
    have HNew := Lib.hid hnew
    clear hnew
    go_enter Tryz.func71, Tryz.ntmps71
    go_wp2_with (at_builtin; refine wpList_append_own _ rfl _ _ 22 rfl (w.heap.size + 1) 9 i0 _ 1 16 Tryz.underlying22 ii iz0 iz1 iz2 rfl (by decide) _ _ _ rfl (hown0.alloc _) ⟨w.heap.size + 1 + 1, 0, none⟩ 1 1 [.string text] rfl rfl HNew.out (fun u hu => by rw [List.mem_singleton] at hu; subst hu; rfl) (by unfold maxLen; omega) (by omega) (by simp) ?_; intro v3 w3 hown3 hg3 _; obtain ⟨A3, cap3, rfl⟩ := own_slice hown3; have hbox : w3.heap[w.heap.size]? = some (.cells #[.string word, .string text, .slice A n c] 52 (0, 0)) := (hg3.block _ (by simp; omega) (fun e => by have := (own_lt hown0 _ e.symm).1; omega)).trans (alloc_old (alloc_old (heap_alloc_new w _) _) _); have d2 : w3.cell? ⟨w.heap.size, 2, none⟩ = some (.slice A n c) := (by rw [cell_of_row w3 _ 2 _ _ _ hbox]; rfl))
    go_loopw [3, 20] (fun v i wr => LineAt w word text l v i wr) (fun _ i _ => n - (intOf i).toNat)
    case atStart => 
      have hsz := hg3.size
      simp at hsz
      exact ⟨0, A3, cap3, Nat.zero_le _, rfl, by rw [HW0.out]; rfl, by rw [HW0.out]; exact hown3, below_append ((((Below.refl _ w).alloc (Nat.le_refl _) _).alloc (by simp) _).alloc (by simp; omega) _) (hown0.alloc _) (by omega) (by simp; omega) hg3, by omega⟩
    case round =>
      obtain ⟨j, A1, cap, hj, rfl, rfl, hown, hbw, hzr⟩ := hrel
      have hwl := lineWords_len word text (l.take j)
      rw [List.length_take] at hwl
      have hwl5 : (lineWords word text (l.take j)).length ≤ 5 := by have := HL.out; omega
      have hwp : 0 < (lineWords word text (l.take j)).length := by simp [lineWords]
      by_cases hlt : j < n
      · obtain ⟨b, off, z, rfl, hz, a0⟩ := HRd.out.cell j hlt
        have b0 : wr.cell? ⟨b, off + j, none⟩ = some (.int .i64 z) := (hbw.cell (p := ⟨b, off + j, none⟩) (cell_lt a0)).trans a0
        obtain ⟨hz0, hz1⟩ := HRG.out z (List.mem_of_getElem? hz)
        have HS := Lib.hid (lineWords_snoc word text l j z hz)
        clear hz a0
        go_wp2_with (first
          | (go_at_call 115; refine (itoa_any z hz0 hz1 _ (htab.below hbw)).mono ?_; rintro e w2 ⟨rfl, hb2⟩; have hown2 := own_below hown hb2; have hbw2 : Below w.heap.size w w2 := hbw.trans (hb2.mono hbw.size); have hz2 := hb2.size)
          | (at_builtin; refine wpList_append_own _ rfl _ _ 22 rfl (w.heap.size + 1) 9 i0 _ 1 16 Tryz.underlying22 ii iz0 iz1 iz2 rfl (by decide) _ _ _ rfl (hown2.alloc _) ⟨w2.heap.size, 0, none⟩ 1 1 [.string ⟨(Sc.digits z).toArray⟩] rfl rfl (new_cells w2 [.string ⟨(Sc.digits z).toArray⟩] 9) (fun u hu => by rw [List.mem_singleton] at hu; subst hu; rfl) (by unfold maxLen; omega) (by omega) (by simp; omega) ?_; intro v3 w3 hown3 hg3 _; obtain ⟨A3, cap3, rfl⟩ := own_slice hown3))
        go_roundw
        case rel =>
          have hsz := hg3.size
          simp at hsz
          exact ⟨j + 1, A3, cap3, by have := HL.out; omega, by go_num, by rw [HS.out, List.length_append]; rfl, by rw [HS.out, List.length_append, List.map_append]; exact hown3, below_append (hbw2.alloc hbw2.size _) (hown2.alloc _) (by omega) (by simp; omega) hg3, by omega⟩
        case measure => simp [intOf]; omega
      · obtain ⟨g, rfl, hgl, hgc, hgx⟩ := own_words hown rfl hwp
        have hje : l.take j = l := List.take_of_length_le (by have := HL.out; omega)
        have HJ : Hid (Lib.join ((lineWords word text (l.take j)).map (·.data.toList)) (⟨#[32]⟩ : ByteArray).data.toList = Sc.lineOf ⟨word.data.toList, text.data.toList, l⟩) := by show _ = _; rw [hje, lineWords_join]
        have hjl : (Lib.join ((lineWords word text (l.take j)).map (·.data.toList)) (⟨#[32]⟩ : ByteArray).data.toList).length ≤ 281474976710656 := by rw [HJ.out]; have := HLen.out; omega
        have HGX := Lib.hid hgx
        clear hgx hje
        go_wp2_with (first
          | (go_at_call 116; refine (join_any g cap (lineWords word text (l.take j)) _ HGX.out hgl (by omega) hgc hjl).mono ?_; rintro e w2 ⟨rfl, hb2⟩))
        go_ret
        exact ⟨by rw [← HJ.out]; rfl, hbw.trans (hb2.mono hbw.size)⟩
end Go.Proofs.YtinobikikineiabGreatDoor
