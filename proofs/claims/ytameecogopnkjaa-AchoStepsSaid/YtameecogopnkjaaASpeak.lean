/- The walk of the law's speaks: the document's example. -/
import Derived.Test.YtameecogopnkjaaASpoil
import Derived.Lib.SmallJoins
namespace Go.Proofs.Ytameecogopnkjaa.AW
open Go.ChangeShapes Go.WideShapes Go.ChangeAt Go.RowKit
open Go.Proofs.Ytameecogopnkjaa.B Go.Proofs.Ytameecogopnkjaa.AM
set_option linter.unusedVariables false

def exLs : List T := [[104, 101], [115, 104, 101], [104, 101, 114, 115]]
def exPs : List T := [[], [104], [104, 101], [115], [115, 104], [115, 104, 101], [104, 101, 114], [104, 101, 114, 115]]
def exT : T := [117, 115, 104, 101, 114, 115]
theorem ex_check : checkNo exLs = 0 := by decide
theorem ex_met : exPs.Nodup ∧ ∀ x, x ∈ exPs ↔ isPre exLs x = true := by
  refine ⟨by decide, fun x => ?_⟩
  rw [isPre_iff]
  simp only [exPs, exLs, List.mem_cons, List.not_mem_nil, or_false, exists_eq_or_imp, exists_eq_left, List.prefix_cons_iff, List.prefix_nil]
  constructor
  · rintro (rfl | rfl | rfl | rfl | rfl | rfl | rfl | rfl) <;> simp
  · rintro (rfl | (rfl | ⟨t, rfl, (rfl | ⟨t, rfl, rfl⟩)⟩) | (rfl | ⟨t, rfl, (rfl | ⟨t, rfl, (rfl | ⟨t, rfl, rfl⟩)⟩)⟩) | (rfl | ⟨t, rfl, (rfl | ⟨t, rfl, (rfl | ⟨t, rfl, (rfl | ⟨t, rfl, rfl⟩)⟩)⟩)⟩)) <;> simp
theorem ex_scan : scanTo exLs exT 6 = [(0, 4), (1, 4), (2, 6)] := by decide
theorem ex_states {ns : List Nd} (h : AM.Good exLs ns) : ns.length = 8 := by
  have := met_len h.pres ex_met
  rw [List.length_map] at this
  exact this.symm

/-- Values that are written out, as they are read. -/
theorem rd_cells (w : World) (xs : List Value) (C : Array Value) (t : TypeId) (f : Nat × Nat) (size n : Nat) (hC : C.toList = xs) (hl : xs.length = n * size) (hm : n ≤ maxLen) :
    Rd (w.alloc (.cells C t f)) (w.heap.size + 1) size (some ⟨w.heap.size, 0, none⟩) n n xs :=
  ⟨hl, Nat.le_refl _, hm, fun _ => ⟨_, rfl, by simp, fun j u hu => by
    rw [add_lit, Nat.zero_add, cell_of_row _ _ _ C t f (heap_alloc_new w _)]
    rw [← hC] at hu
    simpa using hu⟩⟩
theorem ex_texts (w : World) : ∃ w4, ((((w.alloc (.cells #[.int .u8 104, .int .u8 101] 5 (2, 3))).alloc (.cells #[.int .u8 115, .int .u8 104, .int .u8 101] 5 (3, 4))).alloc (.cells #[.int .u8 104, .int .u8 101, .int .u8 114, .int .u8 115] 5 (4, 5))).alloc (.cells #[.slice (some ⟨w.heap.size, 0, none⟩) 2 2, .slice (some ⟨w.heap.size + 1, 0, none⟩) 3 3, .slice (some ⟨w.heap.size + 1 + 1, 0, none⟩) 4 4] 23)) = w4 ∧
    Texts w4 w4.heap.size (some ⟨w.heap.size + 1 + 1 + 1, 0, none⟩) 3 3 exLs ∧ Below w.heap.size w w4 := by
  refine ⟨_, rfl, ?_, ?_⟩
  · have r1 := rd_cells w (u8s [104, 101]) #[.int .u8 104, .int .u8 101] 5 (2, 3) 1 2 rfl rfl (by decide)
    have z1 : (w.alloc (.cells #[.int .u8 104, .int .u8 101] 5 (2, 3))).heap.size = w.heap.size + 1 := by simp
    generalize w.alloc (.cells #[.int .u8 104, .int .u8 101] 5 (2, 3)) = w1 at *
    have r2 := rd_cells w1 (u8s [115, 104, 101]) #[.int .u8 115, .int .u8 104, .int .u8 101] 5 (3, 4) 1 3 rfl rfl (by decide)
    have z2 : (w1.alloc (.cells #[.int .u8 115, .int .u8 104, .int .u8 101] 5 (3, 4))).heap.size = w1.heap.size + 1 := by simp
    have r12 := r1.alloc (w := w1) (by omega) (.cells #[.int .u8 115, .int .u8 104, .int .u8 101] 5 (3, 4))
    generalize w1.alloc (.cells #[.int .u8 115, .int .u8 104, .int .u8 101] 5 (3, 4)) = w2 at *
    have r3 := rd_cells w2 (u8s [104, 101, 114, 115]) #[.int .u8 104, .int .u8 101, .int .u8 114, .int .u8 115] 5 (4, 5) 1 4 rfl rfl (by decide)
    have z3 : (w2.alloc (.cells #[.int .u8 104, .int .u8 101, .int .u8 114, .int .u8 115] 5 (4, 5))).heap.size = w2.heap.size + 1 := by simp
    have r13 := r12.alloc (w := w2) (by omega) (.cells #[.int .u8 104, .int .u8 101, .int .u8 114, .int .u8 115] 5 (4, 5))
    have r23 := r2.alloc (w := w2) (by omega) (.cells #[.int .u8 104, .int .u8 101, .int .u8 114, .int .u8 115] 5 (4, 5))
    generalize w2.alloc (.cells #[.int .u8 104, .int .u8 101, .int .u8 114, .int .u8 115] 5 (4, 5)) = w3 at *
    rw [z1] at r2 r23
    rw [z2, z1] at r3
    have hz : w3.heap.size = w.heap.size + 1 + 1 + 1 := by omega
    rw [← hz]
    obtain ⟨o, ho⟩ : ∃ o, Obj.cells #[.slice (some ⟨w.heap.size, 0, none⟩) 2 2, .slice (some ⟨w.heap.size + 1, 0, none⟩) 3 3, .slice (some ⟨w.heap.size + 1 + 1, 0, none⟩) 4 4] 23 (0, 0) = o := ⟨_, rfl⟩
    have c0 := fun i => cell_of_row (w3.alloc o) w3.heap.size i #[.slice (some ⟨w.heap.size, 0, none⟩) 2 2, .slice (some ⟨w.heap.size + 1, 0, none⟩) 3 3, .slice (some ⟨w.heap.size + 1 + 1, 0, none⟩) 4 4] 23 (0, 0) (by rw [ho]; exact heap_alloc_new w3 _)
    have hs : (w3.alloc o).heap.size = w3.heap.size + 1 := by simp
    have q1 := (r13.alloc (w := w3) (by omega) o).more (B' := (w3.alloc o).heap.size) (by omega)
    have q2 := (r23.alloc (w := w3) (by omega) o).more (B' := (w3.alloc o).heap.size) (by omega)
    have q3 := (r3.alloc (w := w3) (by omega) o).more (B' := (w3.alloc o).heap.size) (by omega)
    rw [ho]
    refine ⟨rfl, by decide, by decide, fun _ => ⟨_, rfl, by simp, fun i l hl => ?_⟩⟩
    rw [add_lit, Nat.zero_add, c0]
    match i, hl with
    | 0, hl => injection hl with hl; subst hl; exact ⟨_, 2, rfl, q1⟩
    | 1, hl => injection hl with hl; subst hl; exact ⟨_, 3, rfl, q2⟩
    | 2, hl => injection hl with hl; subst hl; exact ⟨_, 4, rfl, q3⟩
    | i + 3, hl => simp [exLs] at hl
  · refine ((((Below.refl _ _).alloc (Nat.le_refl _) _).alloc ?_ _).alloc ?_ _).alloc ?_ _ <;> simp <;> omega
set_option maxRecDepth 10000 in
set_option maxHeartbeats 1000000 in
theorem speaks_any (w : World) : Calls Try.prog 7 #[] w fun e w' => e = .returned (.bool true) ∧ Below w.heap.size w w' := by
  have kc := fun (w : World) (C : Array Value) (n c : Nat) => Lib.run_convert_bytes_const (P := Try.prog) w 23 5 C n c Try.underlying23 Try.underlying5
  have kc2 := fun (w : World) (o : Obj) (C : Array Value) (n c : Nat) => Go.Joins.run_convert_bytes_const_at (P := Try.prog) (w.alloc o) 23 5 C n c (w.heap.size + 1) (by simp) Try.underlying23 Try.underlying5
  have kc3 := fun (w : World) (o o' : Obj) (C : Array Value) (n c : Nat) => Go.Joins.run_convert_bytes_const_at (P := Try.prog) ((w.alloc o).alloc o') 23 5 C n c (w.heap.size + 1 + 1) (by simp) Try.underlying23 Try.underlying5
  go_enter Try.func7, Try.ntmps7
  go_wp2_with fail
  obtain ⟨w4, hw, hT, hB⟩ := ex_texts w
  rw [hw]
  have HB := hide hB
  have hN := new_any hT
  have HN := hide hN
  clear hw hT hB hN kc2 kc3
  go_wp2_with fail
  refine HN.out.mono ?_
  rintro e w5 (⟨hc, _⟩ | ⟨_, g, ns, ad, cn, rfl, hM, hG, _⟩)
  · exact absurd ex_check hc
  have HM := hide hM
  have HG := hide hG
  clear hM hG HN
  have hns := ex_states HG.out
  go_wp2_with fail
  refine (states_any HM.out).mono ?_
  rintro e w6 ⟨rfl, rfl⟩
  rw [hns]
  clear hns
  go_wp2_with fail
  have hb6 := (Below.refl w5.heap.size w5).alloc (Nat.le_refl _) (.cells #[.int .u8 117, .int .u8 115, .int .u8 104, .int .u8 101, .int .u8 114, .int .u8 115] 5 (6, 7))
  have hr6 := rd_cells w5 (u8s exT) #[.int .u8 117, .int .u8 115, .int .u8 104, .int .u8 101, .int .u8 114, .int .u8 115] 5 (6, 7) 1 6 rfl rfl (by decide)
  have hz6 : (w5.alloc (.cells #[.int .u8 117, .int .u8 115, .int .u8 104, .int .u8 101, .int .u8 114, .int .u8 115] 5 (6, 7))).heap.size = w5.heap.size + 1 := by simp
  rw [← hz6] at hr6
  have hm6 := HM.out.over hb6
  generalize w5.alloc (.cells #[.int .u8 117, .int .u8 115, .int .u8 104, .int .u8 101, .int .u8 114, .int .u8 115] 5 (6, 7)) = w6 at *
  have hsc := scan_any hm6 HG.out hr6 (by decide) (by decide)
  rw [ex_scan] at hsc
  have HSC := hide hsc
  have HB6 := hide (HB.out.trans ((HM.out.below.trans (hb6.mono HM.out.below.size)).mono HB.out.size))
  clear hsc hm6 hr6 hb6 hz6 HM HG kc
  refine HSC.out.mono ?_
  rintro e w7 ⟨A7, c7, rfl, ho7, hb7⟩
  have HO7 := hide ho7
  have HB7 := hide (HB6.out.trans (hb7.mono HB6.out.size))
  clear ho7 hb7 HSC HB6 HB
  go_wp2_with fail
  have hr8 := rd_cells w7 (hitCells [(0, 4), (1, 4), (2, 6)]) #[.int .i64 0, .int .i64 4, .int .i64 1, .int .i64 4, .int .i64 2, .int .i64 6] 41 (0, 0) 2 3 rfl rfl (by decide)
  have hs := same_any ((Rd.of_own HO7.out).alloc (Nat.le_refl _) (.cells #[.int .i64 0, .int .i64 4, .int .i64 1, .int .i64 4, .int .i64 2, .int .i64 6] 41 (0, 0))) hr8
  have hb8 := HB7.out.alloc HB7.out.size (.cells #[.int .i64 0, .int .i64 4, .int .i64 1, .int .i64 4, .int .i64 2, .int .i64 6] 41 (0, 0))
  have HS := hide hs
  have HB8 := hide hb8
  clear hr8 hs hb8 HO7 HB7
  refine HS.out.mono ?_
  rintro e w9 ⟨rfl, hd⟩
  have HB9 := hide (HB8.out.trans (hd.below.mono HB8.out.size))
  clear hd HB8 HS
  rw [decide_eq_true rfl]
  go_wp2_with fail
  go_ret
  exact ⟨rfl, HB9.out⟩
end Go.Proofs.Ytameecogopnkjaa.AW
