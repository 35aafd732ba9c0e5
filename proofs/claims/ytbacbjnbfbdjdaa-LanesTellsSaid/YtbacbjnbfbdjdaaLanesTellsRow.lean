/- LanesTells: one byte in each lane, the highest bits, what a table has, and lanes moved up, are exact. No condition: for every word, every table and every number the law answers true, and nothing that was there is changed. -/
import Derived.Test.YtbacbjnbfbdjdaaRows
import Derived.WalkKit
import Derived.ProofKit
import Derived.OpenShut
import Derived.ShutString
import Derived.ChangeOld
import Derived.Below
import Derived.Test.YtbacbjnbfbdjdaaMem
import Derived.Test.YtbacbjnbfbdjdaaLLoad
import Derived.BigQuiet
import Derived.Deep.QuietTactic
import Derived.Deep.RegionWith
import Derived.Deep.MidRow
namespace Go.Proofs.Ytbacbjnbfbdjdaa.lanesTells
open Go.ChangeShapes Go.WideShapes Go.ChangeAt Go.RowKit
open Go.ChangeMaps (open_string shut_string)
open Go.Proofs.Ytbacbjnbfbdjdaa.B
open Go.Proofs.Ytbacbjnbfbdjdaa.LM Go.Proofs.Ytbacbjnbfbdjdaa.LW
set_option linter.unusedVariables false

theorem own : ownKnob Try.prog.godebug = none := by kernel_rfl
theorem laidOut : laidOutB Try.prog = true := by kernel_rfl
theorem pick_arr (f : Nat → Int) (t : Nat → Nat) (h : cellsOf .u8 16 f = cellsOf .u8 16 (fun i => (t i : Int))) (ht : ∀ i, i < 16 → t i < 256) (x : BitVec 64) (w : World) :
    Calls Try.prog 24 #[.agg #[.int .u8 (f 0), .int .u8 (f 1), .int .u8 (f 2), .int .u8 (f 3), .int .u8 (f 4), .int .u8 (f 5), .int .u8 (f 6), .int .u8 (f 7), .int .u8 (f 8), .int .u8 (f 9), .int .u8 (f 10), .int .u8 (f 11), .int .u8 (f 12), .int .u8 (f 13), .int .u8 (f 14), .int .u8 (f 15)], .int .u64 (W x)] w fun e w' => e = .returned (.int .u64 (wordTo (fun k => t (lane x k % 16)) 8 : Int)) ∧ Below w.heap.size w w' := by
  rw [show (#[.int .u8 (f 0), .int .u8 (f 1), .int .u8 (f 2), .int .u8 (f 3), .int .u8 (f 4), .int .u8 (f 5), .int .u8 (f 6), .int .u8 (f 7), .int .u8 (f 8), .int .u8 (f 9), .int .u8 (f 10), .int .u8 (f 11), .int .u8 (f 12), .int .u8 (f 13), .int .u8 (f 14), .int .u8 (f 15)] : Array Value) = cellsOf .u8 16 f from rfl, h]
  exact pick_any t ht x w
theorem refPick_arr (f : Nat → Int) (t : Nat → Nat) (h : cellsOf .u8 16 f = cellsOf .u8 16 (fun i => (t i : Int))) (ht : ∀ i, i < 16 → t i < 256) (x : BitVec 64) (w : World) :
    Calls Try.prog 25 #[.agg #[.int .u8 (f 0), .int .u8 (f 1), .int .u8 (f 2), .int .u8 (f 3), .int .u8 (f 4), .int .u8 (f 5), .int .u8 (f 6), .int .u8 (f 7), .int .u8 (f 8), .int .u8 (f 9), .int .u8 (f 10), .int .u8 (f 11), .int .u8 (f 12), .int .u8 (f 13), .int .u8 (f 14), .int .u8 (f 15)], .int .u64 (W x)] w fun e w' => e = .returned (.int .u64 (wordTo (fun k => t (lane x k % 16)) 8 : Int)) ∧ Below w.heap.size w w' := by
  rw [show (#[.int .u8 (f 0), .int .u8 (f 1), .int .u8 (f 2), .int .u8 (f 3), .int .u8 (f 4), .int .u8 (f 5), .int .u8 (f 6), .int .u8 (f 7), .int .u8 (f 8), .int .u8 (f 9), .int .u8 (f 10), .int .u8 (f 11), .int .u8 (f 12), .int .u8 (f 13), .int .u8 (f 14), .int .u8 (f 15)] : Array Value) = cellsOf .u8 16 f from rfl, h]
  exact refPick_any t ht x w
theorem word_arr (b : Nat) (hb : b < 256) (w : World) :
    Calls Try.prog 22 #[.agg #[.int .i64 (b : Int), .int .i64 (b : Int), .int .i64 (b : Int), .int .i64 (b : Int), .int .i64 (b : Int), .int .i64 (b : Int), .int .i64 (b : Int), .int .i64 (b : Int)]] w fun e w' => e = .returned (.int .u64 (wordTo (fun _ => b) 8 : Int)) ∧ Below w.heap.size w w' := by
  exact refWord_any (fun _ => b) (fun _ _ => hb) w
attribute [local go_sem] setCell_drewN

set_option maxHeartbeats 400000 in
theorem walk (w : World) (a0 : Int) (w0 : (Lit.int .u64 a0).wf = true) (f1 : Nat → Int) (w1 : ∀ i, i < 16 → (Lit.int .u8 (f1 i)).wf = true) (a2 : Int) (w2 : (Lit.int .i64 a2).wf = true) :
    Calls Try.prog 8 #[.int .u64 a0, .agg (cellsOf .u8 16 f1), .int .i64 a2] w fun e w' => e = .returned (.bool true) ∧ Below w.heap.size w w' := by
  obtain ⟨x, rfl⟩ := W_of_wf w0
  have i2 : -9223372036854775808 ≤ a2 ∧ a2 ≤ 9223372036854775807 := by simpa [Lit.wf, IntKind.min, IntKind.max, IntKind.signed, IntKind.bits] using w2
  obtain ⟨i2a, i2b⟩ := i2
  obtain ⟨t, hft, ht⟩ : ∃ t : Nat → Nat, cellsOf .u8 16 f1 = cellsOf .u8 16 (fun i => (t i : Int)) ∧ ∀ i, i < 16 → t i < 256 := by
    refine ⟨fun i => (f1 i).toNat, cellsOf_congr _ _ fun i hi => ?_, fun i hi => ?_⟩
    · have h := w1 i hi
      have : 0 ≤ f1 i ∧ f1 i ≤ 255 := by simpa [Lit.wf, IntKind.min, IntKind.max, IntKind.signed, IntKind.bits] using h
      show f1 i = ((f1 i).toNat : Int)
      omega
    · have h := w1 i hi
      have : 0 ≤ f1 i ∧ f1 i ≤ 255 := by simpa [Lit.wf, IntKind.min, IntKind.max, IntKind.signed, IntKind.bits] using h
      show (f1 i).toNat < 256
      omega
  have HFT := hide hft
  have HT := hide ht
  clear w0 w1 w2 hft ht
  have hlane : W x % 256 = (lane x 0 : Int) := by rw [← lane_W]; simp
  have hl := lane_lt x 0
  obtain ⟨b, hb⟩ : ∃ b, b = lane x 0 := ⟨_, rfl⟩
  rw [← hb] at hlane hl
  have e1 : (W (spread b) == (wordTo (fun _ => b) 8 : Int)) = true := by
    rw [W_of_wordTo (spread b) (fun _ => b) (fun k hk => lane_spread b hl k hk)]; exact beq_self_eq_true _
  clear hb
  have E1 := hide e1
  clear e1
  go_enter Try.func8, Try.ntmps8
  go_wp2_with fail
  refine (speaks_any _).mono ?_
  rintro e u1 ⟨rfl, b1⟩
  have hb1 : Below w.heap.size w u1 := Bl_trans ((Below.refl _ _).alloc (Nat.le_refl _) _) b1 (by simp)
  have hr1 : ∀ j, j < 16 → u1.cell? ⟨w.heap.size, j, none⟩ = some (.int .u8 (f1 j)) := fun j hj => by
    rw [b1.cell (by simp), World.cell?_alloc_new]
    exact cellsOf_at .u8 16 f1 j hj
  have hlt1 : w.heap.size < u1.heap.size := by have := b1.size; simp at this; omega
  have HR1 := hide hr1
  have HB1 := hide hb1
  clear b1 hr1 hb1
  go_wp2_with fail
  go_loopw [15] (fun i wr => ∃ k : Nat, k ≤ 8 ∧ i = .int .i64 k ∧ wr = u1.alloc (.cells (cellsOf .i64 8 (fun j => if j < k then (b : Int) else 0)) 33)) (fun i _ => 8 - (intOf i).toNat)
  case atStart => exact ⟨0, by omega, rfl, rfl⟩
  case round =>
    obtain ⟨k, hk, rfl, rfl⟩ := hrel
    by_cases hlt : k < 8
    · have hc0 := cellsOf_at .i64 8 (fun j => if j < k then (b : Int) else 0) k hlt
      go_wp2_with fail
      go_roundw
      case rel => exact ⟨k + 1, by omega, by go_num, by rw [cells_step .i64 8 (fun _ => (b : Int)) k _ rfl]⟩
      case measure => simp [intOf]; omega
    · obtain rfl : k = 8 := by omega
      rw [show cellsOf .i64 8 (fun j => if j < 8 then (b : Int) else 0) = cellsOf .i64 8 (fun _ => (b : Int)) from cellsOf_congr _ _ fun i hi => if_pos hi]
      obtain ⟨u2, hu2⟩ : ∃ u2, u2 = u1.alloc (.cells (cellsOf .i64 8 (fun _ => (b : Int))) 33) := ⟨_, rfl⟩
      rw [← hu2]
      have hr8 : ∀ j, j < 8 → u2.cell? ⟨u1.heap.size, j, none⟩ = some (.int .i64 (b : Int)) := fun j hj => by
        rw [hu2, World.cell?_alloc_new]
        exact cellsOf_at .i64 8 (fun _ => (b : Int)) j hj
      have hr4 : ∀ j, j < 16 → u2.cell? ⟨w.heap.size, j, none⟩ = some (.int .u8 (f1 j)) := fun j hj => by
        rw [hu2, World.cell?_alloc_lt _ _ _ (by exact hlt1)]
        exact HR1.out j hj
      have hs8 : u1.heap.size < u2.heap.size := by rw [hu2]; simp
      have hs4 : w.heap.size < u2.heap.size := by omega
      have hB2 : Below w.heap.size w u2 := by rw [hu2]; exact HB1.out.alloc HB1.out.size _
      clear hu2 HR1 HB1
      have e1 := E1.out
      have l8 : ∀ (x : Later u2.heap.size u2) (j : Nat), j < 8 → x.w.cell? ⟨u1.heap.size, j, none⟩ = some (.int .i64 (b : Int)) := fun x j hj => (x.cell (by exact hs8)).trans (hr8 j hj)
      have l4 : ∀ (x : Later u2.heap.size u2) (j : Nat), j < 16 → x.w.cell? ⟨w.heap.size, j, none⟩ = some (.int .u8 (f1 j)) := fun x j hj => (x.cell (by exact hs4)).trans (hr4 j hj)
      have HB2 := hide hB2
      clear hr8 hr4 hB2 hs8 hs4 hlt1
      go_wp2_with fail
      refine wp_region_later u2.heap.size (by kernel_rfl) (by kernel_rfl) ?_
      repeat (any_goals (first | go_big_quiet_step (first | (go_at_call 15; exact Calls.later_same (spread_any b hl _)) | (go_at_call 22; exact Calls.later (Nat.le_refl _) (word_arr b hl _)) | (go_at_call 20; exact Calls.later_same (top_any _ _)) | (go_at_call 23; exact Calls.later (Nat.le_refl _) (refTop_any _ _)) | (go_at_call 24; exact Calls.later (Nat.le_refl _) (pick_arr f1 t HFT.out HT.out _ _)) | (go_at_call 25; exact Calls.later (Nat.le_refl _) (refPick_arr f1 t HFT.out HT.out _ _)) | (go_at_call 21; exact Calls.later_same (up_any _ _ i2a i2b _)) | (go_at_call 26; exact Calls.later (Nat.le_refl _) (refUp_any _ _ i2a i2b _)))))
      refine wpQuiet_nil ?_
      intro _ hw'
      obtain ⟨y, hy⟩ := hw'
      subst hy
      go_wp2_with fail
      go_ret
      exact ⟨rfl, Bl HB2.out y.below⟩

set_option maxRecDepth 100000 in
theorem lifted (os : Os) (started : os.Started) (H : Type) (enc : TypeId × Value → H) :
    ReturnsInHanded {} Try.checked os 8 .any (Rows.lanesTellsSpec.pre6 enc Try.prog Try.f8 Rows.lanesTellsRow.domain false) (Rows.lanesTellsSpec.post enc Try.prog Try.f8 false true false false) := by
  refine returnsInHanded_of_change (C := Try.checked) own started (by kernel_rfl) Try.func8
    (ChangeSpec.witness6 (enc := enc) (C := Try.checked) false ⟨#[], #[.int .u64 0, .agg #[.int .u8 0, .int .u8 0, .int .u8 0, .int .u8 0, .int .u8 0, .int .u8 0, .int .u8 0, .int .u8 0, .int .u8 0, .int .u8 0, .int .u8 0, .int .u8 0, .int .u8 0, .int .u8 0, .int .u8 0, .int .u8 0], .int .i64 0], []⟩ 8 (by kernel_rfl) (by kernel_rfl) (by kernel_rfl) (by kernel_rfl)) ?_
  intro W base args ds gs before hval0 hW hcnd _
  have hval : ∀ (j : Nat) t v, Try.f8.params[j]? = some t → args[j]? = some v → Value.okWide Try.prog W .any base t v := hval0
  have hW' := hW
  obtain ⟨p, q, hA0, hV, rfl, hfz, hnd⟩ := hW
  have hA : DataW.TrodAll enc Try.prog W 0 (fun _ => true) true Try.f8.params.toList args.toList ds p := hA0
  rw [Try.params8] at hA hval
  obtain ⟨v0, vs0, d0, ds0, p0, q0, hargs, rfl, rfl, h0, r0⟩ := trodAll_cons hA
  obtain ⟨v1, vs1, d1, ds1, p1, q1, rfl, rfl, rfl, h1, r1⟩ := trodAll_cons r0
  obtain ⟨v2, vs2, d2, ds2, p2, q2, rfl, rfl, rfl, h2, r2⟩ := trodAll_cons r1
  obtain ⟨rfl, rfl, rfl⟩ := trodAll_nil r2
  obtain rfl : args = #[v0, v1, v2] := by cases args; simp_all
  obtain ⟨rfl, rfl⟩ := trodVars_none hV
  obtain ⟨a0, rfl, rfl, rfl, w0⟩ := open_int Try.underlying22 (hval 0 22 v0 rfl rfl) h0
  obtain ⟨cs1, rfl, hsz1, _⟩ : ∃ cs, v1 = .agg cs ∧ cs.size = Try.prog.cellsOf 41 ∧ Row.okWide Try.prog W .any base 41 cs := by
    have := hval 1 41 v1 rfl rfl
    simpa [Value.okWide, Try.underlying41] using this
  have k1 := h1
  have lt1 : ∀ x ∈ p1, x.block < W.heap.size := by obtain ⟨m, hm⟩ := k1; exact DataW.trod_lt m _ _ _ hm
  obtain ⟨f1, e1, w1⟩ : ∃ f : Nat → Int, cs1 = cellsOf .u8 16 f ∧ ∀ i, i < 16 → (Lit.int .u8 (f i)).wf = true := by
    obtain ⟨fuel, hf⟩ := h1
    simpa [Value.cells] using arr_ints Try.underlying41 Try.underlying5 (by kernel_rfl) (by kernel_rfl) hf
  subst e1
  obtain ⟨a2, rfl, rfl, rfl, w2⟩ := open_int Try.underlying3 (hval 2 3 v2 rfl rfl) h2
  clear hA0 hval0
  refine (walk W a0 w0 f1 w1 a2 w2).mono fun e W' ⟨he, bel⟩ => ?_
  subst he
  exact ⟨_, rfl, _, _, _, [], _, [], hW', trodAll_mk1 (shut_bool Try.underlying4 _), (trodAll_cons_mk (shut_int Try.underlying22 w0) (trodAll_cons_mk (Below.trod laidOut (by kernel_rfl) (of_decide_eq_true (by kernel_rfl)) k1 bel lt1) (trodAll_cons_mk (shut_int Try.underlying3 w2) trodAll_mk0))), rfl, bel.frame _, fun h => by cases h⟩

theorem over : Rows.lanesTellsRow.holds Try.pinned (OpenSpec.ofChange Rows.lanesTellsSpec) :=
  OpenClaim.holds_of_wide 8 Try.f8 rfl rfl rfl rfl rfl rfl rfl ⟨rfl, rfl, rfl, rfl, rfl⟩ rfl rfl rfl rfl rfl (by kernel_rfl) Try.func8 (by kernel_rfl)
    (of_decide_eq_true (by kernel_rfl)) (by unfold Func.isWrapper; first | (rw [if_pos (by decide +kernel)]; kernel_rfl) | (rw [if_neg (by decide +kernel)]; exact ⟨rfl, rfl⟩))
    (fun os started H enc _ => lifted os started H enc)

/-- The statement. -/
theorem proved : Rows.LanesTellsSaid := over
#print axioms proved
end Go.Proofs.Ytbacbjnbfbdjdaa.lanesTells
