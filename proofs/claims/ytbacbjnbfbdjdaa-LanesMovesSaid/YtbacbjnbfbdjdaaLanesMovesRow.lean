/- LanesMoves: lanes moved up by some, and by some more, are moved up by both. No condition: for every word and every two numbers the law answers true, and nothing that was there is changed. -/
import Derived.Test.YtbacbjnbfbdjdaaRows
import Derived.WalkKit
import Derived.ProofKit
import Derived.OpenShut
import Derived.ShutString
import Derived.ChangeOld
import Derived.Below
import Derived.Test.YtbacbjnbfbdjdaaMem
import Derived.Test.YtbacbjnbfbdjdaaLSpeak
namespace Go.Proofs.Ytbacbjnbfbdjdaa.lanesMoves
open Go.ChangeShapes Go.WideShapes Go.ChangeAt Go.RowKit
open Go.ChangeMaps (open_string shut_string)
open Go.Proofs.Ytbacbjnbfbdjdaa.B
open Go.Proofs.Ytbacbjnbfbdjdaa.LM Go.Proofs.Ytbacbjnbfbdjdaa.B Go.Proofs.Ytbacbjnbfbdjdaa.LW
set_option linter.unusedVariables false

theorem own : ownKnob Try.prog.godebug = none := by kernel_rfl
theorem laidOut : laidOutB Try.prog = true := by kernel_rfl
theorem beq_W {x y : BitVec 64} (h : ∀ k, k < 8 → lane x k = lane y k) : (W x == W y) = true := by
  rw [eq_of_lanes x y h]; exact beq_self_eq_true _
theorem m1 (x : BitVec 64) (m n : Int) (hm : 0 ≤ m) (hn : 0 ≤ n) : (W (up (up x m) n) == W (up x (m + n))) = true := beq_W fun k hk => by
  rw [lane_up _ _ k hk hn, lane_up _ _ k hk (by omega)]
  by_cases h : n < 8 ∧ n ≤ k
  · rw [if_pos h, lane_up _ _ _ (by omega) hm]
    by_cases h2 : m < 8 ∧ m ≤ (k - n.toNat : Nat)
    · rw [if_pos h2, if_pos (by omega), show k - n.toNat - m.toNat = k - (m + n).toNat by omega]
    · rw [if_neg h2, if_neg (by omega)]
  · rw [if_neg h, if_neg (by omega)]
theorem m2 (x : BitVec 64) : (W (least x x) == W x) = true := beq_W fun k hk => by
  rw [lane_least _ _ k hk, if_neg (Nat.lt_irrefl _)]

theorem walk (w : World) (a0 : Int) (w0 : (Lit.int .u64 a0).wf = true) (a1 : Int) (w1 : (Lit.int .i64 a1).wf = true) (a2 : Int) (w2 : (Lit.int .i64 a2).wf = true) :
    Calls Try.prog 7 #[.int .u64 a0, .int .i64 a1, .int .i64 a2] w fun e w' => e = .returned (.bool true) ∧ Below w.heap.size w w' := by
  obtain ⟨x, rfl⟩ := W_of_wf w0
  have i1 : -9223372036854775808 ≤ a1 ∧ a1 ≤ 9223372036854775807 := by simpa [Lit.wf, IntKind.min, IntKind.max, IntKind.signed, IntKind.bits] using w1
  have i2 : -9223372036854775808 ≤ a2 ∧ a2 ≤ 9223372036854775807 := by simpa [Lit.wf, IntKind.min, IntKind.max, IntKind.signed, IntKind.bits] using w2
  obtain ⟨i1a, i1b⟩ := i1
  obtain ⟨i2a, i2b⟩ := i2
  by_cases c1 : a1 < 0
  · go_enter Try.func7, Try.ntmps7
    go_wp2_with fail
    refine (speaks_any _).mono ?_
    rintro e u1 ⟨rfl, b1⟩
    go_wp2_with fail
    go_ret
    exact ⟨rfl, b1⟩
  · by_cases c2 : a2 < 0
    · go_enter Try.func7, Try.ntmps7
      go_wp2_with fail
      refine (speaks_any _).mono ?_
      rintro e u1 ⟨rfl, b1⟩
      go_wp2_with fail
      go_ret
      exact ⟨rfl, b1⟩
    · by_cases c3 : 100 < a1
      · go_enter Try.func7, Try.ntmps7
        go_wp2_with fail
        refine (speaks_any _).mono ?_
        rintro e u1 ⟨rfl, b1⟩
        go_wp2_with fail
        go_ret
        exact ⟨rfl, b1⟩
      · by_cases c4 : 100 < a2
        · go_enter Try.func7, Try.ntmps7
          go_wp2_with fail
          refine (speaks_any _).mono ?_
          rintro e u1 ⟨rfl, b1⟩
          go_wp2_with fail
          go_ret
          exact ⟨rfl, b1⟩
        · have e1 := m1 x a1 a2 (by omega) (by omega)
          have e2 := m2 (up x a1)
          go_enter Try.func7, Try.ntmps7
          go_wp2_with fail
          refine (speaks_any _).mono ?_
          rintro e u1 ⟨rfl, b1⟩
          go_wp2_with fail
          refine (up_any _ _ (by omega) (by omega) _).mono ?_
          rintro e u ⟨rfl, rfl⟩
          go_wp2_with fail
          refine (up_any _ _ (by omega) (by omega) _).mono ?_
          rintro e u ⟨rfl, rfl⟩
          go_wp2_with fail
          refine (up_any _ _ (by omega) (by omega) _).mono ?_
          rintro e u ⟨rfl, rfl⟩
          go_wp2_with fail
          refine (up_any _ _ (by omega) (by omega) _).mono ?_
          rintro e u ⟨rfl, rfl⟩
          go_wp2_with fail
          refine (up_any _ _ (by omega) (by omega) _).mono ?_
          rintro e u ⟨rfl, rfl⟩
          go_wp2_with fail
          refine (least_any _ _ _).mono ?_
          rintro e u ⟨rfl, rfl⟩
          go_wp2_with fail
          refine (up_any _ _ (by omega) (by omega) _).mono ?_
          rintro e u ⟨rfl, rfl⟩
          go_wp2_with fail
          go_ret
          exact ⟨rfl, b1⟩

set_option maxRecDepth 100000 in
theorem lifted (os : Os) (started : os.Started) (H : Type) (enc : TypeId × Value → H) :
    ReturnsInHanded {} Try.checked os 7 .any (Rows.lanesMovesSpec.pre6 enc Try.prog Try.f7 Rows.lanesMovesRow.domain false) (Rows.lanesMovesSpec.post enc Try.prog Try.f7 false true false false) := by
  refine returnsInHanded_of_change (C := Try.checked) own started (by kernel_rfl) Try.func7
    (ChangeSpec.witness6 (enc := enc) (C := Try.checked) false ⟨#[], #[.int .u64 0, .int .i64 0, .int .i64 0], []⟩ 8 (by kernel_rfl) (by kernel_rfl) (by kernel_rfl) (by kernel_rfl)) ?_
  intro W base args ds gs before hval0 hW hcnd _
  have hval : ∀ (j : Nat) t v, Try.f7.params[j]? = some t → args[j]? = some v → Value.okWide Try.prog W .any base t v := hval0
  have hW' := hW
  obtain ⟨p, q, hA0, hV, rfl, hfz, hnd⟩ := hW
  have hA : DataW.TrodAll enc Try.prog W 0 (fun _ => true) true Try.f7.params.toList args.toList ds p := hA0
  rw [Try.params7] at hA hval
  obtain ⟨v0, vs0, d0, ds0, p0, q0, hargs, rfl, rfl, h0, r0⟩ := trodAll_cons hA
  obtain ⟨v1, vs1, d1, ds1, p1, q1, rfl, rfl, rfl, h1, r1⟩ := trodAll_cons r0
  obtain ⟨v2, vs2, d2, ds2, p2, q2, rfl, rfl, rfl, h2, r2⟩ := trodAll_cons r1
  obtain ⟨rfl, rfl, rfl⟩ := trodAll_nil r2
  obtain rfl : args = #[v0, v1, v2] := by cases args; simp_all
  obtain ⟨rfl, rfl⟩ := trodVars_none hV
  obtain ⟨a0, rfl, rfl, rfl, w0⟩ := open_int Try.underlying22 (hval 0 22 v0 rfl rfl) h0
  obtain ⟨a1, rfl, rfl, rfl, w1⟩ := open_int Try.underlying3 (hval 1 3 v1 rfl rfl) h1
  obtain ⟨a2, rfl, rfl, rfl, w2⟩ := open_int Try.underlying3 (hval 2 3 v2 rfl rfl) h2
  clear hA0 hval0
  refine (walk W a0 w0 a1 w1 a2 w2).mono fun e W' ⟨he, bel⟩ => ?_
  subst he
  exact ⟨_, rfl, _, _, _, [], _, [], hW', trodAll_mk1 (shut_bool Try.underlying4 _), (trodAll_cons_mk (shut_int Try.underlying22 w0) (trodAll_cons_mk (shut_int Try.underlying3 w1) (trodAll_cons_mk (shut_int Try.underlying3 w2) trodAll_mk0))), rfl, bel.frame _, fun h => by cases h⟩

theorem over : Rows.lanesMovesRow.holds Try.pinned (OpenSpec.ofChange Rows.lanesMovesSpec) :=
  OpenClaim.holds_of_wide 7 Try.f7 rfl rfl rfl rfl rfl rfl rfl ⟨rfl, rfl, rfl, rfl, rfl⟩ rfl rfl rfl rfl rfl (by kernel_rfl) Try.func7 (by kernel_rfl)
    (of_decide_eq_true (by kernel_rfl)) (by unfold Func.isWrapper; first | (rw [if_pos (by decide +kernel)]; kernel_rfl) | (rw [if_neg (by decide +kernel)]; exact ⟨rfl, rfl⟩))
    (fun os started H enc _ => lifted os started H enc)

/-- The statement. -/
theorem proved : Rows.LanesMovesSaid := over
#print axioms proved
end Go.Proofs.Ytbacbjnbfbdjdaa.lanesMoves
