/- The walk of the law's speaks: the document's example. -/
import Derived.Test.YtkjpcincjoaeeaaTStream
import Derived.Lib.SmallJoins
namespace Go.Proofs.Ytkjpcincjoaeeaa.TW
open Go.ChangeShapes Go.WideShapes Go.ChangeAt Go.RowKit
open Go.Proofs.Ytkjpcincjoaeeaa.B Go.Proofs.Ytkjpcincjoaeeaa.AM Go.Proofs.Ytkjpcincjoaeeaa.AW Go.Proofs.Ytkjpcincjoaeeaa.TM
set_option linter.unusedVariables false

def exLs : List T := [[104, 101], [115, 104, 101]]
theorem ex_check : checkNo exLs = 0 := by decide
theorem ex_1 : feedOut exLs [] [117, 115] = [] := by decide
theorem ex_2 : feedOut exLs ([] ++ [117, 115]) [104, 101] = [(0, 4), (1, 4)] := by decide
theorem ex_3 : feedOut exLs (([] ++ [117, 115]) ++ [104, 101]) [114] = [] := by decide
theorem ex_4 : (tailOf (mostOf exLs) ((([] ++ [117, 115]) ++ [104, 101]) ++ [114])).length = 2 := by decide
/-- Values that are written out, as they are read. -/
theorem rd_cells (w : World) (xs : List Value) (C : Array Value) (t : TypeId) (f : Nat × Nat) (size n : Nat) (hC : C.toList = xs) (hl : xs.length = n * size) (hm : n ≤ maxLen) :
    Rd (w.alloc (.cells C t f)) (w.heap.size + 1) size (some ⟨w.heap.size, 0, none⟩) n n xs :=
  ⟨hl, Nat.le_refl _, hm, fun _ => ⟨_, rfl, by simp, fun j u hu => by
    rw [add_lit, Nat.zero_add, cell_of_row _ _ _ C t f (heap_alloc_new w _)]
    rw [← hC] at hu
    simpa using hu⟩⟩
theorem ex_texts (w : World) : ∃ w4, (((w.alloc (.cells #[.int .u8 104, .int .u8 101] 5 (2, 3))).alloc (.cells #[.int .u8 115, .int .u8 104, .int .u8 101] 5 (3, 4))).alloc (.cells #[.slice (some ⟨w.heap.size, 0, none⟩) 2 2, .slice (some ⟨w.heap.size + 1, 0, none⟩) 3 3] 32)) = w4 ∧
    Texts w4 w4.heap.size (some ⟨w.heap.size + 1 + 1, 0, none⟩) 2 2 exLs ∧ Below w.heap.size w w4 := by
  refine ⟨_, rfl, ?_, ?_⟩
  · have r1 := rd_cells w (u8s [104, 101]) #[.int .u8 104, .int .u8 101] 5 (2, 3) 1 2 rfl rfl (by decide)
    have z1 : (w.alloc (.cells #[.int .u8 104, .int .u8 101] 5 (2, 3))).heap.size = w.heap.size + 1 := by simp
    generalize w.alloc (.cells #[.int .u8 104, .int .u8 101] 5 (2, 3)) = w1 at *
    have r2 := rd_cells w1 (u8s [115, 104, 101]) #[.int .u8 115, .int .u8 104, .int .u8 101] 5 (3, 4) 1 3 rfl rfl (by decide)
    have z2 : (w1.alloc (.cells #[.int .u8 115, .int .u8 104, .int .u8 101] 5 (3, 4))).heap.size = w1.heap.size + 1 := by simp
    have r12 := r1.alloc (w := w1) (by omega) (.cells #[.int .u8 115, .int .u8 104, .int .u8 101] 5 (3, 4))
    generalize w1.alloc (.cells #[.int .u8 115, .int .u8 104, .int .u8 101] 5 (3, 4)) = w3 at *
    rw [z1] at r2
    have hz : w3.heap.size = w.heap.size + 1 + 1 := by omega
    rw [← hz]
    obtain ⟨o, ho⟩ : ∃ o, Obj.cells #[.slice (some ⟨w.heap.size, 0, none⟩) 2 2, .slice (some ⟨w.heap.size + 1, 0, none⟩) 3 3] 32 (0, 0) = o := ⟨_, rfl⟩
    have c0 := fun i => cell_of_row (w3.alloc o) w3.heap.size i #[.slice (some ⟨w.heap.size, 0, none⟩) 2 2, .slice (some ⟨w.heap.size + 1, 0, none⟩) 3 3] 32 (0, 0) (by rw [ho]; exact heap_alloc_new w3 _)
    have hs : (w3.alloc o).heap.size = w3.heap.size + 1 := by simp
    have q1 := (r12.alloc (w := w3) (by omega) o).more (B' := (w3.alloc o).heap.size) (by omega)
    have q2 := (r2.alloc (w := w3) (by omega) o).more (B' := (w3.alloc o).heap.size) (by omega)
    rw [ho]
    refine ⟨rfl, by decide, by decide, fun _ => ⟨_, rfl, by simp, fun i l hl => ?_⟩⟩
    rw [add_lit, Nat.zero_add, c0]
    match i, hl with
    | 0, hl => injection hl with hl; subst hl; exact ⟨_, 2, rfl, q1⟩
    | 1, hl => injection hl with hl; subst hl; exact ⟨_, 3, rfl, q2⟩
    | i + 2, hl => simp [exLs] at hl
  · refine (((Below.refl _ _).alloc (Nat.le_refl _) _).alloc ?_ _).alloc ?_ _ <;> simp <;> omega
set_option maxRecDepth 10000 in
set_option maxHeartbeats 1000000 in
theorem speaks_any (w : World) : Calls Try.prog 7 #[] w fun e w' => e = .returned (.bool true) ∧ Below w.heap.size w w' := by
  have kc := fun (w : World) (C : Array Value) (n c : Nat) => Lib.run_convert_bytes_const (P := Try.prog) w 32 5 C n c Try.underlying32 Try.underlying5
  have kc2 := fun (w : World) (o : Obj) (C : Array Value) (n c : Nat) => Go.Joins.run_convert_bytes_const_at (P := Try.prog) (w.alloc o) 32 5 C n c (w.heap.size + 1) (by simp) Try.underlying32 Try.underlying5
  go_enter Try.func7, Try.ntmps7
  go_wp2_with fail
  obtain ⟨w4, hw, hT, hB⟩ := ex_texts w
  rw [hw]
  have HB := hide hB
  have hN := fnew_any hT
  have HN := hide hN
  clear hw hT hB hN kc2
  go_wp2_with fail
  refine HN.out.mono ?_
  rintro e w5 (⟨hc, _⟩ | ⟨_, g, AL, cL, vs, bs, lo, hi, rfl, hF⟩)
  · exact absurd ex_check hc
  have HF := hide hF
  clear hF HN
  go_wp2_with fail
  refine (stream_any (m := mostOf exLs)).mono ?_
  rintro e w6 ⟨rfl, hS, hb6⟩
  have hus : w4.heap.size ≤ w5.heap.size := HF.out.below.size
  have H6 := hide (show _ ∧ _ ∧ _ from ⟨HF.out.over hb6, hS, hb6.size⟩)
  have HUS := hide hus
  have hlt6 : w5.heap.size < w6.heap.size := hS.blk.lt
  clear hS hb6 HF hus
  have hbn : ∀ l ∈ exLs, l.length ≤ 200 := by decide
  have hb0 : ∀ l ∈ exLs, l ≠ [] := by decide
  have HBN := hide hbn
  have HB0 := hide hb0
  clear hbn hb0
  go_wp2_with fail
  have hl1 := (Below.refl w6.heap.size w6).alloc (Nat.le_refl _) (.cells #[.int .u8 117, .int .u8 115] 5 (2, 3))
  have hr1 := rd_cells w6 (u8s [117, 115]) #[.int .u8 117, .int .u8 115] 5 (2, 3) 1 2 rfl rfl (by decide)
  have hz1 : (w6.alloc (.cells #[.int .u8 117, .int .u8 115] 5 (2, 3))).heap.size = w6.heap.size + 1 := by simp
  rw [← hz1] at hr1
  have hF1 := H6.out.1.over hl1
  have hS1 := H6.out.2.1.over hl1
  have hsz1 : w5.heap.size ≤ w6.heap.size := H6.out.2.2
  generalize w6.alloc (.cells #[.int .u8 117, .int .u8 115] 5 (2, 3)) = w7 at *
  have hfd1 := feed_both hF1 hS1 (x := [117, 115]) hr1 (by omega) HUS.out (by decide) HBN.out HB0.out (by decide) (by decide)
  have HFD1 := hide hfd1
  have HLL1 := hide hl1
  clear hl1 hr1 hF1 hS1 hfd1
  refine HFD1.out.mono ?_
  rintro e w8 ⟨B1, d1, E1, f1, rfl, ho1, hs1, hf1, hfr1⟩
  rw [ex_1] at ho1 ⊢
  have HO1 := hide ho1
  have H6x := hide (show _ ∧ _ ∧ _ from ⟨hf1, hs1, (show w5.heap.size ≤ w8.heap.size by have := hfr1.size; omega)⟩)
  have HFR1 := hide hfr1
  have hwl1 : w6.heap.size ≤ w7.heap.size := by omega
  clear ho1 hs1 hf1 hfr1 HFD1 H6
  go_wp2_with fail
  have hl2 := (Below.refl w8.heap.size w8).alloc (Nat.le_refl _) (.cells #[.int .u8 104, .int .u8 101] 5 (2, 3))
  have hr2 := rd_cells w8 (u8s [104, 101]) #[.int .u8 104, .int .u8 101] 5 (2, 3) 1 2 rfl rfl (by decide)
  have hz2 : (w8.alloc (.cells #[.int .u8 104, .int .u8 101] 5 (2, 3))).heap.size = w8.heap.size + 1 := by simp
  rw [← hz2] at hr2
  have hF2 := H6x.out.1.over hl2
  have hS2 := H6x.out.2.1.over hl2
  have hsz2 : w5.heap.size ≤ w8.heap.size := H6x.out.2.2
  generalize w8.alloc (.cells #[.int .u8 104, .int .u8 101] 5 (2, 3)) = w9 at *
  have hfd2 := feed_both hF2 hS2 (x := [104, 101]) hr2 (by omega) HUS.out (by decide) HBN.out HB0.out (by decide) (by decide)
  have HFD2 := hide hfd2
  have HLL2 := hide hl2
  clear hl2 hr2 hF2 hS2 hfd2
  refine HFD2.out.mono ?_
  rintro e w10 ⟨B2, d2, E2, f2, rfl, ho2, hs2, hf2, hfr2⟩
  rw [ex_2] at ho2 ⊢
  have HO2 := hide ho2
  have H6xx := hide (show _ ∧ _ ∧ _ from ⟨hf2, hs2, (show w5.heap.size ≤ w10.heap.size by have := hfr2.size; omega)⟩)
  have HFR2 := hide hfr2
  have hwl2 : w8.heap.size ≤ w9.heap.size := by omega
  clear ho2 hs2 hf2 hfr2 HFD2 H6x
  go_wp2_with fail
  have hl3 := (Below.refl w10.heap.size w10).alloc (Nat.le_refl _) (.cells #[.int .u8 114] 5 (1, 2))
  have hr3 := rd_cells w10 (u8s [114]) #[.int .u8 114] 5 (1, 2) 1 1 rfl rfl (by decide)
  have hz3 : (w10.alloc (.cells #[.int .u8 114] 5 (1, 2))).heap.size = w10.heap.size + 1 := by simp
  rw [← hz3] at hr3
  have hF3 := H6xx.out.1.over hl3
  have hS3 := H6xx.out.2.1.over hl3
  have hsz3 : w5.heap.size ≤ w10.heap.size := H6xx.out.2.2
  generalize w10.alloc (.cells #[.int .u8 114] 5 (1, 2)) = w11 at *
  have hfd3 := feed_both hF3 hS3 (x := [114]) hr3 (by omega) HUS.out (by decide) HBN.out HB0.out (by decide) (by decide)
  have HFD3 := hide hfd3
  have HLL3 := hide hl3
  clear hl3 hr3 hF3 hS3 hfd3
  refine HFD3.out.mono ?_
  rintro e w12 ⟨B3, d3, E3, f3, rfl, ho3, hs3, hf3, hfr3⟩
  rw [ex_3] at ho3 ⊢
  have HO3 := hide ho3
  have H6xxx := hide (show _ ∧ _ ∧ _ from ⟨hf3, hs3, (show w5.heap.size ≤ w12.heap.size by have := hfr3.size; omega)⟩)
  have HFR3 := hide hfr3
  have hwl3 : w10.heap.size ≤ w11.heap.size := by omega
  clear ho3 hs3 hf3 hfr3 HFD3 H6xx
  have hb11 := own_over HO2.out HLL3.out
  have hb12 := own_fr hb11 HFR3.out (fun k hk e => by have := (own_block hb11 k hk).1; omega)
  have hr13 := rd_cells w12 (hitCells [(0, 4), (1, 4)]) #[.int .i64 0, .int .i64 4, .int .i64 1, .int .i64 4] 51 (0, 0) 2 2 rfl rfl (by decide)
  have hsm := same_any ((Rd.of_own hb12).alloc (Nat.le_refl _) (.cells #[.int .i64 0, .int .i64 4, .int .i64 1, .int .i64 4] 51 (0, 0))) hr13
  rw [decide_eq_true rfl] at hsm
  have HSM := hide hsm
  have hal := (Below.refl w12.heap.size w12).alloc (Nat.le_refl _) (.cells #[.int .i64 0, .int .i64 4, .int .i64 1, .int .i64 4] 51 (0, 0))
  have HAL := hide hal
  clear hb11 hb12 hr13 hsm hal
  go_wp2_with fail
  refine HSM.out.mono ?_
  rintro e w13 ⟨rfl, hd⟩
  have hkp := kept_any (H6xxx.out.2.1.over (Bl HAL.out hd.below))
  rw [ex_4] at hkp
  have HKP := hide hkp
  have HE := hide (Bl HB.out ((H6xxx.out.1.over (Bl HAL.out hd.below)).below))
  clear hkp hd HSM
  go_wp2_with fail
  refine HKP.out.mono ?_
  rintro e w14 ⟨rfl, rfl⟩
  go_wp2_with fail
  go_ret
  exact ⟨rfl, HE.out⟩
end Go.Proofs.Ytkjpcincjoaeeaa.TW
