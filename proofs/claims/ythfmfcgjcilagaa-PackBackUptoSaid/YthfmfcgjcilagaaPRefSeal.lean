/- The walk of the document's Seal and Unseal. -/
import Derived.Test.YthfmfcgjcilagaaPUnseal
import Derived.Test.YthfmfcgjcilagaaPRef2
namespace Go.Proofs.Ythfmfcgjcilagaa.PW
open Go.ChangeShapes Go.WideShapes Go.ChangeAt Go.RowKit
open Go.Proofs.Ythfmfcgjcilagaa.B Go.Proofs.Ythfmfcgjcilagaa.PM Go.Proofs.Ythfmfcgjcilagaa.LM
set_option linter.unusedVariables false

theorem refSeal_any {w : World} {n c : Nat} {A : Option Addr} {body : List UInt8} (v : UInt8) (h : Rd w w.heap.size 1 A n c (u8s body)) (hn : n < 4294967296) :
    Calls Try.prog 26 #[.int .u8 (v.toNat : Int), .slice A n c] w fun e w' => ∃ A' c', e = .returned (.slice A' (n + 12) c') ∧ w'.ownsRow w.heap.size 5 1 (.slice A' (n + 12) c') (n + 12) (u8s (sealed v body)) ∧ Below w.heap.size w w' := by
  obtain ⟨i0, hi0, hz0, hz1, hz2⟩ := info_parts info_u8
  have hl := h.length8
  have HR := hide (h.alloc (Nat.le_refl _) (.cells #[.int .u8 82, .int .u8 68, .int .u8 76, .int .u8 (v.toNat : Int)] 5))
  have ho1 := World.ownsRow_lit (base := w.heap.size) (e := 5) (size := 1) w #[.int .u8 82, .int .u8 68, .int .u8 76, .int .u8 (v.toNat : Int)] 4 (Nat.le_refl _) (by simp [maxLen]) rfl
  have hbl1 := (Below.refl w.heap.size w).alloc (Nat.le_refl _) (.cells #[.int .u8 82, .int .u8 68, .int .u8 76, .int .u8 (v.toNat : Int)] 5)
  have hz : w.heap.size + 1 ≤ (w.alloc (.cells #[.int .u8 82, .int .u8 68, .int .u8 76, .int .u8 (v.toNat : Int)] 5)).heap.size := by show _ ≤ (w.heap.push _).size; simp
  have HO1 := hide ho1
  have HB1 := hide hbl1
  have HZ := hide hz
  clear h ho1 hbl1 hz
  go_enter Try.func26, Try.ntmps26
  go_wp2_with fail
  generalize w.alloc _ = w1 at *
  have hz := HZ.out
  refine (refBytes_any (HR.out.more (by omega)) hn).mono ?_
  rintro e w2 ⟨A2, c2, rfl, ho2, hbl2⟩
  have hs2 := hbl2.size
  have ho12 : w2.ownsRow w.heap.size 5 1 (.slice (some ⟨w.heap.size, 0, none⟩) 4 4) 4 (u8s [82, 68, 76, v]) :=
    own_fr HO1.out (Fr.new hbl2 (S := fun _ => False)) (fun _ _ h => h)
  have HO12 := hide ho12
  have HR2 := hide (Rd.of_own ho2)
  have HB2 := hide (HB1.out.trans (hbl2.mono (by omega)))
  clear ho2 hbl2 ho12 HR HO1 HB1 HZ
  go_wp2_with (at_builtin; refine wpList_append_rd _ rfl (.tmp 9) (.tmp 11) _ rfl w.heap.size 5 i0 _ 1 1 Try.underlying25 hi0 hz0 hz1 hz2 rfl (by omega) _ 4 _ rfl HO12.out w2.heap.size A2 (4 + n) c2 (u8s (le n 4 ++ body)) rfl HR2.out (u8s_one _) (by simp only [maxLen]; omega) (by omega) (by omega) ?_; intro A3 c3 w3 hown3 hg3 hat3)
  have hb3 : Below w.heap.size w w3 := HB2.out.trans (below_grown HO12.out hg3 (Nat.le_refl _) (by omega))
  have ho3 : w3.ownsRow w.heap.size 5 1 (.slice A3 (4 + (4 + n)) c3) (4 + (4 + n)) (u8s (sealHead v body)) := by
    rw [sealHead, u8s_append, hl]; exact hown3
  clear hown3 hg3 hat3 HO12 HR2 HB2
  have hsz3 := hb3.size
  have HO3 := hide ho3
  have HB3 := hide hb3
  clear ho3 hb3
  go_wp2_with fail
  refine (refSum_any (bs := sealHead v body) (Rd.of_own HO3.out)).mono ?_
  rintro e w4 ⟨rfl, rfl⟩
  have hV : V (crc (sealHead v body)) = ((crc (sealHead v body)).toNat : Int) := rfl
  have h32 := (crc (sealHead v body)).isLt
  have hsd : sealed v body = sealHead v body ++ le (crc (sealHead v body)).toNat 4 := rfl
  have HS := hide hsd
  clear hsd
  rw [hV]
  clear hV
  generalize (crc (sealHead v body)).toNat = T at *
  have hw : IntKind.u64.wrap (T : Int) = (T : Int) := IntWalk.u64_in _ ⟨by omega, by omega⟩
  have hru : refU T ((4 : Nat) : Int) = (le T 4, 0) := by
    rw [refU, if_neg (by omega), if_neg (by simp; omega)]; rfl
  have HU := hide hru
  clear hru
  go_wp2_with fail
  refine (refUint_ok (N := T) (size := 4) (by omega) (by omega) (by omega)).mono ?_
  rw [HU.out]
  rintro e w5 ⟨A5, c5, rfl, ho5, hb5⟩
  rw [le_length] at *
  have HO5 := hide (own_fr HO3.out (Fr.new hb5 (S := fun _ => False)) (fun _ _ h => h))
  have HR5 := hide (Rd.of_own ho5)
  have HB5 := hide (HB3.out.trans (hb5.mono (by omega)))
  have hs5 := HB5.out.size
  clear ho5 hb5 HO3 HB3
  go_wp2_with (at_builtin; refine wpList_append_rd _ rfl (.tmp 20) (.tmp 21) _ rfl w.heap.size 5 i0 _ 1 1 Try.underlying25 hi0 hz0 hz1 hz2 rfl (by omega) _ (4 + (4 + n)) _ rfl HO5.out w5.heap.size A5 4 c5 (u8s (le T 4)) rfl HR5.out (u8s_one _) (by simp only [maxLen]; omega) (by omega) (by omega) ?_; intro A6 c6 w6 hown6 hg6 hat6)
  have hb6 : Below w.heap.size w w6 := HB5.out.trans (below_grown HO5.out hg6 (Nat.le_refl _) (by omega))
  rw [← u8s_append, show 4 + (4 + n) + 4 = n + 12 by omega, ← HS.out] at hown6
  have HX := hide (show _ ∧ _ from ⟨hown6, hb6⟩)
  clear hown6 hb6 hg6 hat6
  go_ret
  exact ⟨A6, c6, (by show Ending.returned (.slice A6 (4 + (4 + n) + 4) c6) = _; rw [show 4 + (4 + n) + 4 = n + 12 by omega]), HX.out⟩

theorem below_drewN {B : Nat} {w w' : World} (h : Below B w w') (hB : B ≤ w.heap.size) (n : Nat) : Below B w (w'.drewN n) :=
  (Fr.of_below h (S := fun k => B ≤ k) (fun k h _ => h)).drewN n |>.below (fun k h => h) hB
theorem three_of (bs : List UInt8) (h : 3 ≤ bs.length) : bs.take 3 = [82, 68, 76] ↔ at8 bs 0 = 82 ∧ at8 bs 1 = 68 ∧ at8 bs 2 = 76 := by
  rcases bs with _ | ⟨a, _ | ⟨b, _ | ⟨c, r⟩⟩⟩
  · simp at h
  · simp at h
  · simp at h
  · simp [at8, ← UInt8.toNat_inj]

set_option maxHeartbeats 2000000 in
theorem refUnseal_any {w : World} {n c : Nat} {A : Option Addr} {bs : List UInt8} (v : UInt8) (h : Rd w w.heap.size 1 A n c (u8s bs)) (hn : n ≤ 140737488351232) :
    Calls Try.prog 27 #[.int .u8 (v.toNat : Int), .slice A n c] w (Unsealed w (unsealed v bs)) := by
  obtain ⟨i0, hi0, hz0, hz1, hz2⟩ := info_parts info_u8
  have hl := h.length8
  have hcap := h.cap
  have hmax := h.max
  unfold maxLen at hmax
  have hnone : ∀ (k : Nat) (x : World), x = w.alloc (.cells #[] 5) ∨ (∃ m, x = (w.alloc (.cells #[] 5)).drewN m) → Unsealed w ([], k) (.returned (.tuple #[.slice (some ⟨w.heap.size, 0, none⟩) 0 0, .int .i64 (k : Int)])) x := by
    rintro k x (rfl | ⟨m, rfl⟩)
    · exact ⟨_, 0, 0, rfl, own_empty w _, (Below.refl _ _).alloc (Nat.le_refl _) _⟩
    · exact ⟨_, 0, 0, rfl, own_empty w _, ((Fr.refl w (fun _ => False)).alloc _).drewN _ |>.below (fun _ h => h.elim) (Nat.le_refl _)⟩
  have HN := hide hnone
  have HR := hide h
  clear h hnone
  by_cases h12 : n < 12
  · have e : unsealed v bs = ([], 40) := by rw [unsealed, if_pos (by omega)]
    rw [e]
    go_enter Try.func27, Try.ntmps27
    go_wp2_with fail
    go_ret2
    exact HN.out 40 _ (.inl rfl)
  obtain ⟨ad, rfl, hadB, hc3⟩ := HR.out.byte (i := 3) (by omega)
  have hq : ∀ i, i < n → w.cell? (ad.add i) = some (.int .u8 (at8 bs i : Int)) := fun i hi => by
    obtain ⟨ad', e, _, h⟩ := HR.out.byte (i := i) hi
    cases e
    exact h
  have hc0 := hq 0 (by omega)
  have hc1 := hq 1 (by omega)
  have hc2 := hq 2 (by omega)
  rw [show ad.add 3 = ⟨ad.block, ad.off + 3, none⟩ from rfl] at hc3
  rw [show ad.add 2 = ⟨ad.block, ad.off + 2, none⟩ from rfl] at hc2
  rw [show ad.add 1 = ⟨ad.block, ad.off + 1, none⟩ from rfl] at hc1
  rw [show ad.add 0 = ad from rfl] at hc0
  have hmg := three_of bs (by omega)
  have HMG := hide hmg
  have hv3 : (at8 bs 3 = v.toNat) ↔ bs.getD 3 0 = v := ⟨fun h => UInt8.toNat_inj.1 h, fun h => by rw [at8, h]⟩
  have HV3 := hide hv3
  clear hq hmg hv3
  go_enter Try.func27, Try.ntmps27
  by_cases hm : ¬ bs.take 3 = [82, 68, 76]
  · have e : unsealed v bs = ([], 41) := by rw [unsealed, if_neg (by omega), if_pos hm]
    rw [e]
    have hm' := fun h => hm (HMG.out.2 h)
    clear hm HMG HV3 e
    generalize at8 bs 0 = b0 at *
    generalize at8 bs 1 = b1 at *
    generalize at8 bs 2 = b2 at *
    by_cases e0 : b0 = 82
    · subst e0
      by_cases e1 : b1 = 68
      · subst e1
        have e2 : ¬ (b2 : Int) = 76 := fun h => hm' ⟨rfl, rfl, by omega⟩
        clear hm'
        go_wp2_with fail
        go_ret2
        exact HN.out 41 _ (.inl rfl)
      · have e2 : ¬ (b1 : Int) = 68 := by omega
        clear hm'
        go_wp2_with fail
        go_ret2
        exact HN.out 41 _ (.inl rfl)
    · have e2 : ¬ (b0 : Int) = 82 := by omega
      clear hm'
      go_wp2_with fail
      go_ret2
      exact HN.out 41 _ (.inl rfl)
  have hm0 : bs.take 3 = [82, 68, 76] := by simpa using hm
  obtain ⟨e0, e1, e2⟩ := HMG.out.1 hm0
  rw [e0] at hc0
  rw [e1] at hc1
  rw [e2] at hc2
  clear hm e0 e1 e2 HMG
  by_cases hvv : ¬ bs.getD 3 0 = v
  · have e : unsealed v bs = ([], 42) := by rw [unsealed, if_neg (by omega), if_neg (by simpa using hm0), if_pos hvv]
    rw [e]
    have hv' : ¬ ((at8 bs 3 : Nat) : Int) = (v.toNat : Int) := fun h => hvv (HV3.out.1 (Int.ofNat.inj h))
    clear hvv hm0 e HV3
    generalize at8 bs 3 = b3 at *
    go_wp2_with fail
    go_ret2
    exact HN.out 42 _ (.inl rfl)
  have hv0 : bs.getD 3 0 = v := by simpa using hvv
  have hv' : ((at8 bs 3 : Nat) : Int) = (v.toNat : Int) := congrArg Int.ofNat (HV3.out.2 hv0)
  rw [hv'] at hc3
  have e : unsealed v bs = if bs.length - 12 < lenOf bs then ([], 40) else if lenOf bs < bs.length - 12 then ([], 43) else if sumOf bs ≠ (crc (bs.take (bs.length - 4))).toNat then ([], 44) else ((bs.take (bs.length - 4)).drop 8, 0) := by
    rw [unsealed, if_neg (by omega), if_neg (by simpa using hm0), if_neg (by simpa using hv0)]
  generalize unsealed v bs = r at *
  have HE := hide e
  clear hvv hv' hm0 hv0 e HV3
  have hNl := lenOf_lt bs
  have hln : wordTo (at8 ((bs.drop 4).take 4)) 4 = lenOf bs := wordTo_congr _ _ _ fun j hj => at8_take _ _ _ hj
  have HLN := hide hln
  clear hln
  have hw1 : IntKind.i64.wrap ((n : Int) - 12) = (n : Int) - 12 := IntWalk.i64_in _ (by omega)
  have hw3 : IntKind.u64.wrap ((n : Int) - 12) = (n : Int) - 12 := IntWalk.u64_in _ ⟨by omega, by omega⟩
  go_wp2_with fail
  refine (number_any (n := 4) (bs := (bs.drop 4).take 4) (by
    have := (HR.out.alloc (Nat.le_refl _) (.cells #[] 5)).cut8 (i := 4) (j := 8) (by omega) (by omega)
    rw [if_neg (by omega)] at this
    exact this) (by omega)).mono ?_
  rintro e w2 ⟨rfl, rfl⟩
  rw [HLN.out]
  clear HLN hc0 hc1 hc2 hc3
  generalize lenOf bs = N at *
  by_cases hlt : n - 12 < N
  · have hr : r = ([], 40) := by rw [HE.out, if_pos (by omega)]
    have hlt' : (n : Int) - 12 < (N : Int) := by omega
    go_wp2_with fail
    go_ret2
    rw [hr]; exact HN.out 40 _ (.inl rfl)
  have hlt' : ¬ (n : Int) - 12 < (N : Int) := by omega
  by_cases hgt : N < n - 12
  · have hr : r = ([], 43) := by rw [HE.out, if_neg (by omega), if_pos (by omega)]
    have hgt' : (N : Int) < (n : Int) - 12 := by omega
    go_wp2_with fail
    go_ret2
    rw [hr]; exact HN.out 43 _ (.inl rfl)
  have hgt' : ¬ (N : Int) < (n : Int) - 12 := by omega
  have hr : r = if sumOf bs ≠ (crc (bs.take (bs.length - 4))).toNat then ([], 44) else ((bs.take (bs.length - 4)).drop 8, 0) := by rw [HE.out, if_neg (by omega), if_neg (by omega)]
  have HRR := hide hr
  clear hr HE
  go_wp2_with fail
  have hw4 : IntKind.i64.wrap ((n : Int) - 4) = (n : Int) - 4 := IntWalk.i64_in _ (by omega)
  have ht4 : ((n : Int) - 4).toNat = n - 4 := by omega
  have hn4 : (0 : Int) ≤ (n : Int) - 4 := by omega
  have hn4' : (n : Int) - 4 ≤ (n : Int) := by omega
  have hn4c : (n : Int) - 4 ≤ (c : Int) := by omega
  clear hlt hlt' hgt hgt' hw1 hw3
  obtain ⟨T, hT⟩ : ∃ T, T = (crc (bs.take (n - 4))).toNat := ⟨_, rfl⟩
  have hTl := (crc (bs.take (n - 4))).isLt
  rw [hl, ← hT] at HRR
  rw [← hT] at hTl
  have HV := hide (show V (crc (bs.take (n - 4))) = (T : Int) by rw [hT]; rfl)
  have HSM := hide (show wordTo (at8 (bs.drop (n - 4))) (n - (n - 4)) = sumOf bs by rw [sumOf, hl, show n - (n - 4) = 4 by omega])
  clear hT
  have hwT : IntKind.u64.wrap (T : Int) = (T : Int) := IntWalk.u64_in _ ⟨by omega, by omega⟩
  have hRa := HR.out.alloc (Nat.le_refl _) (.cells #[] 5)
  have HT0 := hide hRa
  have hT := hRa.tail8 (i := n - 4) (by omega)
  rw [Nat.mul_one] at hT
  have HT1 := hide hT
  rw [if_neg (by omega)] at hT
  have HT2 := hide hT
  have HH := hide (hRa.head8 (j := n - 4) (by omega))
  clear hT hRa
  have hs32 := sumOf_lt bs
  generalize sumOf bs = S at *
  have hal : Below w.heap.size w (w.alloc (.cells #[] 5)) := (Below.refl _ _).alloc (Nat.le_refl _) _
  have hoe := own_empty w 5
  have HW := hide (show _ ∧ _ from ⟨hal, hoe⟩)
  clear hal hoe
  obtain ⟨wa, hwa⟩ : ∃ x, x = w.alloc (.cells #[] 5) := ⟨_, rfl⟩
  rw [← hwa] at HW HH HT1 HT2 HT0 ⊢
  have kN : ∀ m, Calls Try.prog 29 #[.slice (some (ad.add (n - 4))) (n - (n - 4)) (c - (n - 4))] (wa.drewN m) fun e w' => e = .returned (.int .u64 (S : Int)) ∧ wa.drewN m = w' := fun m => by
    have := number_any (HT2.out.drewN m) (by omega)
    rwa [HSM.out] at this
  have kS : ∀ m, Calls Try.prog 25 #[.slice (some ad) (n - 4) c] (wa.drewN m) fun e w' => e = .returned (.int .u32 (T : Int)) ∧ wa.drewN m = w' := fun m => by
    have := refSum_any (HH.out.drewN m)
    rwa [HV.out] at this
  have KN := hide kN
  have KS := hide kS
  have hcn : ¬ c = n - 4 := by omega
  have HWA := hide hwa
  clear kN kS hwa HSM HV HT1 HT2 HH
  go_quiet ((first | (go_at_call 29; exact quiet_left (KN.out _)) | (go_at_call 25; exact quiet_left (KS.out _))))
  clear KN KS
  have hal := below_drewN HW.out.1 (Nat.le_refl _) nq
  by_cases hst : S = T
  · have hr : r = ((bs.take (n - 4)).drop 8, 0) := by rw [HRR.out, if_neg (by simpa using hst)]
    have HRF := hide hr
    clear hr
    have hst' : (S : Int) = (T : Int) := by omega
    have k8 : (8 : Int) ≤ (n : Int) - 4 := by omega
    have hR8 := (HT0.out.head8 (j := n - 4) (by omega)).tail8 (i := 8) (by omega)
    rw [if_neg (by omega)] at hR8
    have HR8 := hide (((hR8.more HW.out.1.size).drewN nq))
    have HO := hide (own_fr HW.out.2 ((Fr.refl wa (fun _ => False)).drewN nq) (fun _ _ h => h))
    have HAL := hide hal
    have hsz : w.heap.size ≤ wa.heap.size := HW.out.1.size
    clear hal HT0 hR8
    go_wp2_with (at_builtin; go_loud (refine wpList_append_rd _ rfl (.tmp 67) (.tmp 72) _ rfl w.heap.size 5 i0 _ 1 1 Try.underlying25 hi0 hz0 hz1 hz2 rfl (by omega) _ 0 _ rfl HO.out wa.heap.size _ (n - 4 - 8) (c - 8) (u8s ((bs.take (n - 4)).drop 8)) rfl HR8.out (u8s_one _) (by simp only [maxLen]; omega) (by omega) (by simpa using hsz) ?_; intro A6 c6 w6 hown6 hg6 hat6))
    have hb6 := HAL.out.trans (below_grown HO.out hg6 (Nat.le_refl _) (by simpa using hsz))
    have HX := hide (show _ ∧ _ from ⟨hown6, hb6⟩)
    clear hown6 hb6 hg6 hat6
    go_ret2
    rw [HRF.out]
    refine ⟨A6, n - 4 - 8, c6, rfl, ?_, HX.out.2⟩
    have := HX.out.1
    simpa [u8s] using this
  · have hr : r = ([], 44) := by rw [HRR.out, if_pos hst]
    have hst' : ¬ (S : Int) = (T : Int) := by omega
    go_wp2_with fail
    go_ret2
    rw [hr]; exact HN.out 44 _ (.inr ⟨nq, by rw [HWA.out]⟩)
end Go.Proofs.Ythfmfcgjcilagaa.PW
