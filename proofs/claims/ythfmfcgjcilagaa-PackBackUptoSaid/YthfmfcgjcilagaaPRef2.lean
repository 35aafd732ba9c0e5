/- The walk of the model's eye for bytes, where the bytes are there. -/
import Derived.Test.YthfmfcgjcilagaaPRef
namespace Go.Proofs.Ythfmfcgjcilagaa.PW
open Go.ChangeShapes Go.WideShapes Go.ChangeAt Go.RowKit
open Go.Proofs.Ythfmfcgjcilagaa.B
open Go.Proofs.Ythfmfcgjcilagaa.LM (wordTo wordTo_or' wordTo_congr wordTo_lt)
set_option linter.unusedVariables false

set_option maxHeartbeats 2000000 in
theorem refEyeBytes_ok {w : World} {B g n c I N : Nat} {A : Option Addr} {bs : List UInt8} (hP : Blk w g 46 #[.slice A n c, .int .i64 (I : Int)]) (hR : Rd w B 1 A n c (u8s bs)) (hB : B ≤ w.heap.size) (hn : n ≤ 140737488351232) (hs : I + 4 ≤ n) (hNw : wordTo (at8 (bs.drop I)) 4 = N) (hN : I + 4 + N ≤ n) :
    Calls Try.prog 21 #[.pointer (some ⟨g, 0, none⟩)] w (RefGot w g n c I N A bs) := by
  obtain ⟨i0, hi0, hz0, hz1, hz2⟩ := info_parts info_u8
  have hc0 := hP.at_ (i := 0) rfl
  have hc1 := hP.at_ (i := 1) rfl
  have hlg := hP.lt
  have hcap := hR.cap
  have hmax := hR.max
  unfold maxLen at hmax
  have hw : IntKind.i64.wrap ((n : Int) - (I : Int)) = (n : Int) - (I : Int) := IntWalk.i64_in _ (by omega)
  have hw1 : IntKind.u64.wrap ((n : Int) - (I : Int)) = (n : Int) - (I : Int) := by rw [IntKind.wrap_u64]; omega
  have hw2 : IntKind.i64.wrap ((I : Int) + 4) = (I : Int) + 4 := IntWalk.i64_in _ (by omega)
  have j0 : (0 : Int) ≤ (I : Int) + 4 := by omega
  have j1 : (I : Int) ≤ (I : Int) + 4 := by omega
  have j2 : (I : Int) + 4 ≤ (c : Int) := by omega
  have j3 : ((I : Int) + 4).toNat = I + 4 := by omega
  have hlt := wordTo_lt (at8 (bs.drop I)) 4 (fun j _ => at8_lt _ j)
  rw [show (2 : Nat) ^ (8 * 4) = 4294967296 from rfl] at hlt
  have hci : ¬ c = I := by omega
  have hRc := hR.cut8 (i := I) (j := I + 4) (by omega) hs
  rw [if_neg hci, Nat.mul_one, Nat.add_sub_cancel_left] at hRc
  rw [wordTo_congr (at8 (bs.drop I)) (at8 ((bs.drop I).take 4)) 4 (fun j hj => (at8_take _ _ _ hj).symm)] at hNw hlt
  have HR := hide hRc
  have HRR := hide hR
  have HP := hide hP
  rw [hNw] at hlt
  have HW := hide hNw
  clear hP hR hRc hNw
  go_enter Try.func21, Try.ntmps21
  go_wp2_with fail
  go_quiet (fail)
  obtain ⟨m, rfl⟩ : ∃ m, m = nq := ⟨_, rfl⟩
  go_wp2_with fail
  go_quiet ((go_at_call 29; exact quiet_add_left (HW.out ▸ number_any (HR.out.drewN _) (by decide))))
  clear hw1
  go_wp2_with fail
  obtain ⟨wd, hwd⟩ : ∃ wd, wd = w.drewN (m + nq) := ⟨_, rfl⟩
  rw [← hwd]
  have hd0 : wd.cell? ⟨g, 0, none⟩ = some (.slice A n c) := by rw [hwd]; exact hc0
  have hd1 : wd.cell? ⟨g, 1, none⟩ = some (.int .i64 (I : Int)) := by rw [hwd]; exact hc1
  have hds : wd.heap.size = w.heap.size := by rw [hwd]; rfl
  have hdg : g < wd.heap.size := by rw [hds]; exact hlg
  have hdB : B ≤ wd.heap.size := by rw [hds]; exact hB
  have hdR : Rd wd B 1 A n c (u8s bs) := by rw [hwd]; exact HRR.out.drewN _
  have hdP : Blk wd g 46 #[.slice A n c, .int .i64 (I : Int)] := by rw [hwd]; exact HP.out.drewN _
  have hdF : Fr w wd (fun _ => False) := by rw [hwd]; exact (Fr.refl _ _).drewN _
  have HdR := hide hdR
  have HdP := hide hdP
  have HdF := hide hdF
  have HdS := hide hds
  clear hwd hc0 hc1 hlg hdR hdP hdF hds HRR HP HR HW
  have hw3 : IntKind.i64.wrap ((I : Int) + 4 + (N : Int)) = (I : Int) + 4 + (N : Int) := IntWalk.i64_in _ (by omega)
  have hw4 : IntKind.i64.wrap (N : Int) = (N : Int) := IntWalk.i64_in _ (by omega)
  have k0 : (0 : Int) ≤ (I : Int) + 4 + (N : Int) := by omega
  have k1 : (I : Int) + 4 ≤ (I : Int) + 4 + (N : Int) := by omega
  have k2 : (I : Int) + 4 + (N : Int) ≤ (c : Int) := by omega
  have k3 : ((I : Int) + 4 + (N : Int)).toNat = I + 4 + N := by omega
  have hRd := HdR.out.cut8 (i := I + 4) (j := I + 4 + N) (by omega) hN
  rw [Nat.mul_one, Nat.add_sub_cancel_left] at hRd
  have HRD := hide ((hRd.more hdB).alloc (Nat.le_refl _) (.cells #[] 5))
  clear hRd
  go_region_law ((refine step_append_rd _ (by rfl) (.tmp 41) (.tmp 59) 25 (by rfl) wd.heap.size 5 i0 _ 1 1 Try.underlying25 hi0 hz0 hz1 hz2 rfl (by omega) (.slice (some ⟨wd.heap.size, 0, none⟩) 0 0) 0 (u8s []) (by rfl) ((own_empty wd _).drew) wd.heap.size (if c = I + 4 then A else A.map (·.add (I + 4))) N (c - (I + 4)) _ (by rfl) HRD.out.drew (u8s_one _) (by simp only [maxLen]; omega) (by omega) (by simp) ?_; intro A2 c2 w2 hown2 hg2 hat2))
  all_goals
    clear HRD
    have hbk := (HdP.out.alloc (.cells #[] 5)).drew.grown hg2 (by simp [Value.ownBlock]; omega)
    have hc1' := hbk.at_ (i := 1) rfl
    have hz1' := hbk.frozen 1
    have hfr := ((HdF.out.alloc (.cells #[] 5)).drew).grown hg2 (fun k hk hlt => by simp [Value.ownBlock] at hk; have := HdS.out; omega)
    have HX := hide (show _ ∧ _ ∧ _ from ⟨hown2, hbk, hfr⟩)
    clear hown2 hbk hfr hg2 hat2 hw3 hw4 hw k0 k1 k2 k3 j0 j1 j2 j3 hw2 hd0 hd1
    go_wp2_with fail
    all_goals go_ret2
    all_goals first | exact refGot_close HdS.out HX.out.1 HX.out.2.1 HX.out.2.2 (by omega) | (have hcc : c = I + 4 := (by assumption); rw [← hcc]; exact refGot_close HdS.out HX.out.1 HX.out.2.1 HX.out.2.2 (by omega))
end Go.Proofs.Ythfmfcgjcilagaa.PW
