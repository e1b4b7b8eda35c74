/- The walk of the document's decimal digits. Conditions: the number is one that a script may have. -/
import Derived.Test.YtinobikikineiabGreatDoorSAppend
import Derived.Test.YtinobikikineiabGreatDoorSLine
import Derived.Laws.IdiomStrings
namespace Go.Proofs.YtinobikikineiabGreatDoor
open Go.RowKit Go.Shelf

set_option maxRecDepth 100000 in
theorem conv_own {w : World} {base n cap : Nat} {A : Option Addr} {l : List UInt8} (h : w.ownsRow base 5 1 (.slice A n cap) n (Lib.byteCells l)) (hl : l.length = n) :
    (convert 101 9 (.slice A n cap)).run Tryz.prog w = .ok (.string ⟨l.toArray⟩) w := by
  obtain ⟨_, ⟨hv, h0⟩ | ⟨g, cap', cur, hv, _, hh, hc, _, hcs, htk⟩⟩ := h
  · injection hv with h1 h2 h3
    subst h1; subst h2; subst h3
    have : l = [] := List.eq_nil_of_length_eq_zero hl
    subst this
    rw [run_convert_bytes_string w 101 9 5 none 0 0 Tryz.underlying101 Tryz.underlying5 Tryz.underlying9]
    rfl
  · injection hv with h1 h2 h3
    subst h1
    subst hl
    refine run_convert_bytes_back w 101 9 5 ⟨g, 0, none⟩ cap l Tryz.underlying101 Tryz.underlying5 Tryz.underlying9 (fun j hj => ?_)
    have ha : ((⟨g, 0, none⟩ : Addr).add j) = ⟨g, j, none⟩ := by
      unfold Addr.add
      split
      · rename_i h; subst h; rfl
      · simp
    have h4 : (Lib.byteCells l)[j]? = some (.int .u8 (l[j].toNat : Int)) := by simp [Lib.byteCells, hj]
    rw [ha, cell_of_row w g j cur _ _ hh, ← h4, ← htk, List.getElem?_take_of_lt (by omega), Array.getElem?_toList]
theorem infoByte : (Tryz.prog.info? 5).map (fun i => (i.zero, i.size, i.bytes)) = some (some (.int .u8 0), 1, 1) := by kernel_rfl
theorem byteCells_one' (l : List UInt8) : ∀ u ∈ Lib.byteCells l, u.oneCell' = true := by
  intro u hu
  obtain ⟨b, _, rfl⟩ := List.mem_map.1 hu
  rfl
theorem own_new (w : World) (v : Value) (t : TypeId) : (w.alloc (.cells #[v] t)).ownsRow w.heap.size t 1 (.slice (some ⟨w.heap.size, 0, none⟩) 1 1) 1 [v] :=
  ⟨rfl, .inr ⟨w.heap.size, 1, #[v], rfl, Nat.le_refl _, heap_alloc_new w _, Nat.le_refl _, by unfold maxLen; omega, rfl, rfl⟩⟩

/-- What the loop holds at a round's head (kept shut). -/
def DigAt (w : World) (V : Nat) (v b : Value) (wr : World) : Prop :=
  ∃ (u : Nat) (bs : List UInt8) (A : Option Addr) (cap : Nat), v = .int .i64 u ∧ b = .slice A bs.length cap ∧ u ≤ 1073741824 ∧ bs.length ≤ 20 ∧ wr.ownsRow w.heap.size 5 1 (.slice A bs.length cap) bs.length (Lib.byteCells bs) ∧ Below w.heap.size w wr ∧
    (0 < u → Lib.decDigits V = Lib.decDigits u ++ bs) ∧ (u = 0 → Lib.decDigits V = bs)
theorem dig_step {V u : Nat} {bs : List UInt8} (hu : 0 < u) (h : Lib.decDigits V = Lib.decDigits u ++ bs) :
    (0 < u / 10 → Lib.decDigits V = Lib.decDigits (u / 10) ++ ([UInt8.ofNat (48 + u % 10)] ++ bs)) ∧ (u / 10 = 0 → Lib.decDigits V = [UInt8.ofNat (48 + u % 10)] ++ bs) := by
  have e1 : 10 ≤ u → Lib.decDigits u = Lib.decDigits (u / 10) ++ [UInt8.ofNat (48 + u % 10)] := fun h => by rw [Lib.decDigits, dif_neg (by omega)]
  have e2 : u < 10 → Lib.decDigits u = [UInt8.ofNat (48 + u)] := fun h => by rw [Lib.decDigits, dif_pos h]
  constructor
  · intro h10
    rw [h, e1 (by omega), List.append_assoc]
  · intro h10
    rw [h, e2 (by omega), Nat.mod_eq_of_lt (by omega)]
set_option maxRecDepth 100000 in
set_option maxHeartbeats 2000000 in
theorem refDigits_any (n : Int) (h0 : 0 ≤ n) (h1 : n ≤ 1073741824) (w : World) :
    Calls Tryz.prog 118 #[.int .i64 n] w fun e w' => e = .returned (.string ⟨(Sc.digits n).toArray⟩) ∧ Below w.heap.size w w' := by
  obtain ⟨i0, ii, iz0, iz1, iz2⟩ := info_parts infoByte
  obtain ⟨V, rfl⟩ : ∃ V : Nat, n = (V : Int) := ⟨n.toNat, by omega⟩
  have HD : Hid (Sc.digits (V : Int) = Lib.decDigits V) := by show _ = _; unfold Sc.digits Lib.itoa; rw [if_neg (by omega)]; rfl
  by_cases hV : V = 0
  · subst hV
    have HE : Hid (Sc.digits ((0 : Nat) : Int) = [48]) := by show _ = _; rw [HD.out, Lib.decDigits]; rfl
    go_enter Tryz.func118, Tryz.ntmps118
    go_wp2_with fail
    go_ret
    exact ⟨by rw [HE.out]; rfl, Below.refl _ _⟩
  · have hV1 : 0 < V := by omega
    have hVm : V ≤ 1073741824 := by omega
    have hV0 : ((V : Int) == 0) = false := by rw [beq_eq_false_iff_ne]; omega
    have HL : Hid ((Lib.decDigits V).length ≤ 20) := by show _ ≤ _; rw [Lib.decDigits_length]; exact Lib.nDigits_le20 V (by omega)
    clear hV h0 h1
    go_enter Tryz.func118, Tryz.ntmps118
    go_wp2_with fail
    go_loopw [0, 3] (fun v b wr => DigAt w V v b wr) (fun v _ _ => (intOf v).toNat)
    case atStart => exact ⟨V, [], none, 0, rfl, rfl, hVm, Nat.zero_le _, World.ownsRow_nil _ _ _ _, Below.refl _ _, fun _ => by simp, fun h => by omega⟩
    case round =>
      obtain ⟨u, bs, A, cap, rfl, rfl, hum, hbl, hown, hbw, hp, hz⟩ := hrel
      by_cases hu : 0 < u
      · have HS := Lib.hid (dig_step hu (hp hu))
        have hlen : bs.length + 1 ≤ 20 := by
          have h2 := congrArg List.length (hp hu)
          rw [List.length_append] at h2
          have h3 : 1 ≤ (Lib.decDigits u).length := by rw [Lib.decDigits_length]; exact Lib.nDigits_pos u
          have := HL.out
          omega
        obtain ⟨d, hd⟩ : ∃ d, u % 10 = d := ⟨_, rfl⟩
        obtain ⟨q, hq⟩ : ∃ q, u / 10 = q := ⟨_, rfl⟩
        have hmod : (u : Int) % 10 = (d : Int) := by omega
        have hquo : (u : Int) / 10 = (q : Int) := by omega
        have hqu : q < u := by omega
        have hd9 : d ≤ 9 := by omega
        rw [hd, hq] at HS
        have hnew := own_new wr (.int .u8 (48 + (d : Int))) 5
        have hbyte : Hid (Lib.byteCells ([UInt8.ofNat (48 + d)] ++ bs) = [Value.int .u8 (48 + (d : Int))] ++ Lib.byteCells bs) := by
          show _ = _
          rw [Lib.byteCells_append]
          congr 1
          simp only [Lib.byteCells, List.map_cons, List.map_nil]
          rw [show (UInt8.ofNat (48 + d)).toNat = 48 + d by simp; omega]
          simp
        clear hp hz hd hq
        go_wp2_with (at_builtin; refine wpList_append_src _ rfl _ _ 101 rfl wr.heap.size 5 i0 _ 1 1 Tryz.underlying101 ii iz0 iz1 iz2 rfl (by decide) _ 1 _ rfl hnew w.heap.size _ bs.length (Lib.byteCells bs) rfl (hown.alloc _) (byteCells_one' bs) (by unfold maxLen; omega) (by omega) (by simp) ?_; intro v2 w2 hown2 hg2; obtain ⟨A2, cap2, rfl⟩ := own_slice hown2)
        go_roundw
        case rel => exact ⟨q, [UInt8.ofNat (48 + d)] ++ bs, A2, cap2, rfl, by rw [List.length_append]; rfl, by omega, by rw [List.length_append, List.length_singleton]; omega, by rw [hbyte.out, List.length_append]; exact own_base hown2 hbw.size, below_append (hbw.alloc hbw.size _) hnew hbw.size (by have := hbw.size; simp; omega) hg2, HS.out.1, HS.out.2⟩
        case measure => simp [intOf]; omega
      · obtain rfl : u = 0 := by omega
        have hcv := conv_own hown rfl
        have HE : Hid (Lib.decDigits V = bs) := hz rfl
        clear hp hz
        go_wp2_with fail
        go_ret
        exact ⟨by rw [HD.out, HE.out]; rfl, hbw⟩
end Go.Proofs.YtinobikikineiabGreatDoor
