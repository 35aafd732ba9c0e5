/- The walk of Unseal: the body of a frame, or why there is none. -/
import Derived.Test.YthfmfcgjcilagaaPSeal
import Derived.Test.YthfmfcgjcilagaaPEye
import Derived.Deep.DeepCutAuto
namespace Go.Proofs.Ythfmfcgjcilagaa.PW
open Go.ChangeShapes Go.WideShapes Go.ChangeAt Go.RowKit
open Go.Proofs.Ythfmfcgjcilagaa.B Go.Proofs.Ythfmfcgjcilagaa.PM Go.Proofs.Ythfmfcgjcilagaa.LM
set_option linter.unusedVariables false

/-- The number of a frame's body, as its head tells. -/
def lenOf (bs : List UInt8) : Nat := wordTo (at8 (bs.drop 4)) 4
/-- The check sum that a frame bears. -/
def sumOf (bs : List UInt8) : Nat := wordTo (at8 (bs.drop (bs.length - 4))) 4
/-- What Unseal answers. -/
def unsealed (v : UInt8) (bs : List UInt8) : List UInt8 × Nat :=
  if bs.length < 12 then ([], 40) else
  if bs.take 3 ≠ [82, 68, 76] then ([], 41) else
  if bs.getD 3 0 ≠ v then ([], 42) else
  if bs.length - 12 < lenOf bs then ([], 40) else
  if lenOf bs < bs.length - 12 then ([], 43) else
  if sumOf bs ≠ (crc (bs.take (bs.length - 4))).toNat then ([], 44) else ((bs.take (bs.length - 4)).drop 8, 0)
/-- A body in memory of the call's own, or nil, and a number. -/
def Unsealed (w : World) (r : List UInt8 × Nat) (e : Ending) (w' : World) : Prop :=
  ∃ A' m c', e = .returned (.tuple #[.slice A' m c', .int .i64 (r.2 : Int)]) ∧ w'.ownsRow w.heap.size 5 1 (.slice A' m c') m (u8s r.1) ∧ Below w.heap.size w w'
theorem unsealed_none {w w' : World} {k : Nat} (h : Below w.heap.size w w') : Unsealed w ([], k) (.returned (.tuple #[.slice none 0 0, .int .i64 (k : Int)])) w' :=
  ⟨none, 0, 0, rfl, World.ownsRow_nil w' _ _ _, h⟩

/-- What the statement that lays out the body and its check sum leaves. -/
def Cut13 (w : World) (ad : Addr) (n c : Nat) (bs : List UInt8) (s9 s10 : Value) (wx : World) : Prop :=
  s9 = .slice (some ad) (n - 4) c ∧ ∃ g A' c', s10 = .pointer (some ⟨g, 0, none⟩) ∧ Blk wx g 64 #[.slice A' 4 c'] ∧ w.heap.size ≤ g ∧ Rd wx wx.heap.size 1 A' 4 c' (u8s (bs.drop (n - 4))) ∧ Below w.heap.size w wx

theorem cut13_close {w w2 w3 : World} {ad : Addr} {n c g A3 c3} {bs : List UInt8} (hn : 4 ≤ n) (hb : Below w.heap.size w w2) (h : Blk w3 g 64 #[.slice A3 (n - (n - 4)) c3] ∧ w2.drew.heap.size ≤ g ∧ w3.ownsRow w2.drew.heap.size 5 1 (.slice A3 (n - (n - 4)) c3) (n - (n - 4)) (u8s (bs.drop (n - 4))) ∧ Below w2.drew.heap.size w2.drew w3) :
    Cut13 w ad n c bs (.slice (some ad) (n - 4) c) (.pointer (some ⟨g, 0, none⟩)) w3 := by
  obtain ⟨h1, h2, h3, h4⟩ := h
  have hz : w.heap.size ≤ w2.drew.heap.size := hb.size
  have h5 := Rd.of_own h3
  rw [show n - (n - 4) = 4 by omega] at h1 h5
  exact ⟨rfl, g, A3, c3, rfl, h1, Nat.le_trans hz h2, h5, hb.drew.trans (h4.mono hz)⟩
theorem sumOf_lt (bs : List UInt8) : sumOf bs < 4294967296 := wordTo_lt _ 4 fun j _ => at8_lt _ _
theorem lenOf_lt (bs : List UInt8) : lenOf bs < 4294967296 := wordTo_lt _ 4 fun j _ => at8_lt _ _

set_option maxHeartbeats 2000000 in
theorem unseal_any {w : World} {n c : Nat} {A : Option Addr} {bs : List UInt8} (v : UInt8) (h : Rd w w.heap.size 1 A n c (u8s bs)) (hn : n ≤ 140737488351232) :
    Calls Try.prog 24 #[.int .u8 (v.toNat : Int), .slice A n c] w (Unsealed w (unsealed v bs)) := by
  have hl := h.length8
  have hcap := h.cap
  have hmax := h.max
  unfold maxLen at hmax
  have HR := hide h
  clear h
  by_cases h12 : n < 12
  · have e : unsealed v bs = ([], 40) := by rw [unsealed, if_pos (by omega)]
    rw [e]
    go_enter Try.func24, Try.ntmps24
    go_wp2_with fail
    go_ret2
    exact unsealed_none (Below.refl _ _)
  obtain ⟨ad, rfl, hadB, hc3⟩ := HR.out.byte (i := 3) (by omega)
  rw [show ad.add 3 = ⟨ad.block, ad.off + 3, none⟩ from rfl] at hc3
  have ks := run_str (P := Try.prog) 25 9 5 Try.underlying25 Try.underlying5 Try.underlying9 (HR.out.head8 (j := 3) (by omega))
  have hmg : (bs.take 3 = [82, 68, 76]) ↔ (str (bs.take 3) = ⟨#[82, 68, 76]⟩) := ⟨fun h => by rw [h]; rfl, fun h => str_inj (by rw [h]; rfl)⟩
  have hv3 : (at8 bs 3 = v.toNat) ↔ bs.getD 3 0 = v := ⟨fun h => UInt8.toNat_inj.1 h, fun h => by rw [at8, h]⟩
  have HV3 := hide hv3
  have HMG := hide hmg
  clear hmg hv3
  go_enter Try.func24, Try.ntmps24
  by_cases hm : ¬ bs.take 3 = [82, 68, 76]
  · have e : unsealed v bs = ([], 41) := by rw [unsealed, if_neg (by omega), if_pos hm]
    rw [e]
    have hm' : ((str (bs.take 3)).toList == [82, 68, 76]) = false := by
      rw [show (str (bs.take 3)).toList = bs.take 3 from ByteArray.toList_mk _]
      simpa using hm
    generalize str (bs.take 3) = m at *
    go_wp2_with fail
    go_ret2
    exact unsealed_none (Below.refl _ _)
  have hm0 : bs.take 3 = [82, 68, 76] := by simpa using hm
  have hms : str (bs.take 3) = ⟨#[82, 68, 76]⟩ := HMG.out.1 hm0
  rw [hms] at ks
  clear hm hms
  by_cases hvv : ¬ bs.getD 3 0 = v
  · have e : unsealed v bs = ([], 42) := by rw [unsealed, if_neg (by omega), if_neg (by simpa using hm0), if_pos hvv]
    rw [e]
    have hv' : ¬ ((at8 bs 3 : Nat) : Int) = (v.toNat : Int) := fun h => hvv (HV3.out.1 (Int.ofNat.inj h))
    have HV' := hide hvv
    have HM0 := hide hm0
    clear hvv hm0
    generalize at8 bs 3 = b3 at *
    go_wp2_with fail
    go_ret2
    exact unsealed_none (Below.refl _ _)
  have hv0 : bs.getD 3 0 = v := by simpa using hvv
  have hv' : ((at8 bs 3 : Nat) : Int) = (v.toNat : Int) := congrArg Int.ofNat (HV3.out.2 hv0)
  rw [hv'] at hc3
  have e : unsealed v bs = if bs.length - 12 < lenOf bs then ([], 40) else if lenOf bs < bs.length - 12 then ([], 43) else if sumOf bs ≠ (crc (bs.take (bs.length - 4))).toNat then ([], 44) else ((bs.take (bs.length - 4)).drop 8, 0) := by
    rw [unsealed, if_neg (by omega), if_neg (by simpa using hm0), if_neg (by simpa using hv0)]
  generalize unsealed v bs = r at *
  have HE := hide e
  clear hvv hv' hm0 hv0 e HV3 HMG
  go_wp2_with fail
  have hT4 : Rd w w.heap.size 1 (some ⟨ad.block, ad.off + 4, none⟩) (n - 4) (c - 4) (u8s (bs.drop 4)) := by
    have := HR.out.tail8 (i := 4) (by omega)
    rwa [if_neg (by omega)] at this
  refine (newEye_any hT4 (by omega)).mono ?_
  rintro e w1 ⟨g, A1, c1, rfl, hb1, hg1, ho1, hbl1⟩
  have hR1 := Rd.of_own ho1
  have HX1 := hide (show _ ∧ _ ∧ _ ∧ _ ∧ _ from ⟨hb1, hg1, ho1, hbl1, hR1⟩)
  clear hb1 hg1 ho1 hbl1 hR1 hT4
  go_wp2_with fail
  refine (eyeUint_ok (size := 4) HX1.out.1 HX1.out.2.2.2.2 (by omega) (by omega) (by omega)).mono ?_
  rintro e w2 ⟨A2, c2, rfl, rfl, -, -⟩
  rw [show wordTo (at8 (bs.drop 4)) 4 = lenOf bs from rfl]
  have hbl2 : Below w.heap.size w (w1.setCell ⟨g, 0, none⟩ (.slice A2 (n - 4 - 4) c2)) := by
    obtain ⟨hb1, hg1, ho1, hbl1, hR1⟩ := HX1.out
    exact hbl1.setCell hg1 _
  generalize w1.setCell ⟨g, 0, none⟩ (.slice A2 (n - 4 - 4) c2) = w2 at *
  have HB2 := hide hbl2
  clear hbl2 HX1 hc3
  have hN := lenOf_lt bs
  generalize lenOf bs = N at *
  have hw1 : IntKind.i64.wrap ((n : Int) - 8) = (n : Int) - 8 := IntWalk.i64_in _ (by omega)
  have hw2 : IntKind.i64.wrap ((n : Int) - 8 - 4) = (n : Int) - 8 - 4 := IntWalk.i64_in _ (by omega)
  have hw3 : IntKind.u64.wrap ((n : Int) - 8 - 4) = (n : Int) - 8 - 4 := IntWalk.u64_in _ ⟨by omega, by omega⟩
  by_cases hlt : n - 12 < N
  · have hr : r = ([], 40) := by rw [HE.out, if_pos (by omega)]

    have hlt' : (n : Int) - 8 - 4 < (N : Int) := by omega
    go_wp2_with fail
    go_ret2

    rw [hr]; exact unsealed_none HB2.out
  have hlt' : ¬ (n : Int) - 8 - 4 < (N : Int) := by omega
  by_cases hgt : N < n - 12
  · have hr : r = ([], 43) := by rw [HE.out, if_neg (by omega), if_pos (by omega)]

    have hgt' : (N : Int) < (n : Int) - 8 - 4 := by omega
    go_wp2_with fail
    go_ret2

    rw [hr]; exact unsealed_none HB2.out
  have hgt' : ¬ (N : Int) < (n : Int) - 8 - 4 := by omega
  have hr : r = if sumOf bs ≠ (crc (bs.take (bs.length - 4))).toNat then ([], 44) else ((bs.take (bs.length - 4)).drop 8, 0) := by rw [HE.out, if_neg (by omega), if_neg (by omega)]
  have HRR := hide hr
  clear hr HE
  go_wp2_with fail
  have hw4 : IntKind.i64.wrap ((n : Int) - 4) = (n : Int) - 4 := IntWalk.i64_in _ (by omega)
  have ht4 : ((n : Int) - 4).toNat = n - 4 := by omega
  have hn4 : (0 : Int) ≤ (n : Int) - 4 := by omega
  have hn4' : (n : Int) - 4 ≤ (n : Int) := by omega
  have hn4c : (n : Int) - 4 ≤ (c : Int) := by omega
  clear hlt hlt' hgt hgt' hw1 hw2 hw3 ks
  have hT : Rd w2 w2.heap.size 1 (if c = n - 4 then some ad else some (ad.add (n - 4))) (n - (n - 4)) (c - (n - 4)) (u8s (bs.drop (n - 4))) := by
    have := (HR.out.over HB2.out).tail8 (i := n - 4) (by omega)
    rwa [Nat.mul_one] at this
  have HT := hide hT
  rw [if_neg (by omega)] at hT
  have HT2 := hide hT
  clear hT
  go_cut [9, 10] (Cut13 w ad n c bs)
  case first =>
    go_region_with (go_at_call 17; refine (newEye_any (by first | exact HT.out | exact HT.out.drew | exact HT2.out | exact HT2.out.drew) (by omega)).mono ?_; rintro e w3 ⟨g3, A3, c3, rfl, hb3, hg3, ho3, hbl3⟩; have H3 := hide (show _ ∧ _ ∧ _ ∧ _ from ⟨hb3, hg3, ho3, hbl3⟩); clear hb3 hg3 ho3 hbl3)
    all_goals (go_wp2_with fail; go_meet; exact cut13_close (by omega) HB2.out H3.out)
  case rest =>
    clear HT HT2 HB2
    obtain ⟨rfl, g3, A3, c3, rfl, hb3, hg3, hR3, hbl3⟩ := hcut
    have HX := hide (show _ ∧ _ ∧ _ ∧ _ from ⟨hb3, hg3, hR3, hbl3⟩)
    clear hb3 hg3 hR3 hbl3
    go_wp2_with fail
    refine (eyeUint_ok (size := 4) HX.out.1 HX.out.2.2.1 (by omega) (by omega) (by omega)).mono ?_
    rintro e w5 ⟨A5, c5, rfl, rfl, -, -⟩
    have hsm : wordTo (at8 (bs.drop (n - 4))) 4 = sumOf bs := by rw [sumOf, hl]
    rw [hsm]
    obtain ⟨hb3, hg3, hR3, hbl3⟩ := HX.out
    have hbl5 := hbl3.setCell (p := ⟨g3, 0, none⟩) hg3 (.slice A5 (4 - 4) c5)
    generalize World.setCell _ ⟨g3, 0, none⟩ (.slice A5 (4 - 4) c5) = w5 at *
    have HB5 := hide hbl5
    clear hb3 hg3 hR3 hbl3 hbl5 HX hsm
    have hs32 := sumOf_lt bs
    have hws : IntKind.u32.wrap (sumOf bs : Int) = (sumOf bs : Int) := IntWalk.u32_in _ ⟨by omega, by omega⟩
    go_wp2_with fail
    refine (sum_any (bs := bs.take (n - 4)) ((HR.out.head8 (j := n - 4) (by omega)).over HB5.out)).mono ?_
    rintro e w6 ⟨rfl, rfl⟩
    have hV : V (crc (bs.take (n - 4))) = ((crc (bs.take (n - 4))).toNat : Int) := rfl
    rw [hl] at HRR
    generalize (crc (bs.take (n - 4))).toNat = T at *
    rw [hV]
    clear hV hws
    generalize sumOf bs = S at *
    by_cases hst : S = T
    · have hr : r = ((bs.take (n - 4)).drop 8, 0) := by rw [HRR.out, if_neg (by simpa using hst)]
      have hst' : (S : Int) = (T : Int) := by omega
      go_wp2_with fail
      have hT8 : Rd w5 w5.heap.size 1 (some ⟨ad.block, ad.off + 8, none⟩) (n - 4 - 8) (c - 8) (u8s ((bs.take (n - 4)).drop 8)) := by
        have := (((HR.out.head8 (j := n - 4) (by omega)).over HB5.out)).tail8 (i := 8) (by omega)
        rwa [if_neg (by omega)] at this
      refine (clone_any hT8 (by omega)).mono ?_
      rintro e w7 ⟨A7, c7, rfl, ho7, hbl7⟩
      have H7 := hide (show _ ∧ _ from ⟨ho7, hbl7⟩)
      clear ho7 hbl7 hT8
      go_wp2_with fail
      go_ret2
      first | rw [hr] | skip
      exact ⟨A7, _, c7, rfl, own_lower H7.out.1 HB5.out.size, HB5.out.trans (H7.out.2.mono HB5.out.size)⟩
    · have hr : r = ([], 44) := by rw [HRR.out, if_pos hst]
      have hst' : ¬ (S : Int) = (T : Int) := by omega
      go_wp2_with fail
      go_ret2
      rw [hr]; exact unsealed_none HB5.out
end Go.Proofs.Ythfmfcgjcilagaa.PW
