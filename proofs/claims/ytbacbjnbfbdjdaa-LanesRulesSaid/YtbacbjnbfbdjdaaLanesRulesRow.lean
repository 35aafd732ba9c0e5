/- LanesRules: the lesser one of two is one of them; equal lanes are equal both ways; a sum up to 255 is never less than what was there; least and sum hang on no order. No condition: for every three words the law answers true, and nothing that was there is changed. -/
import Derived.Test.YtbacbjnbfbdjdaaRows
import Derived.WalkKit
import Derived.ProofKit
import Derived.OpenShut
import Derived.ShutString
import Derived.ChangeOld
import Derived.Below
import Derived.Test.YtbacbjnbfbdjdaaMem
import Derived.Test.YtbacbjnbfbdjdaaLSpeak
namespace Go.Proofs.Ytbacbjnbfbdjdaa.lanesRules
open Go.ChangeShapes Go.WideShapes Go.ChangeAt Go.RowKit
open Go.ChangeMaps (open_string shut_string)
open Go.Proofs.Ytbacbjnbfbdjdaa.B
open Go.Proofs.Ytbacbjnbfbdjdaa.LM Go.Proofs.Ytbacbjnbfbdjdaa.B Go.Proofs.Ytbacbjnbfbdjdaa.LW
set_option linter.unusedVariables false

theorem own : ownKnob Try.prog.godebug = none := by kernel_rfl
theorem laidOut : laidOutB Try.prog = true := by kernel_rfl
theorem beq_W {x y : BitVec 64} (h : ∀ k, k < 8 → lane x k = lane y k) : (W x == W y) = true := by
  rw [eq_of_lanes x y h]; exact beq_self_eq_true _
theorem r1 (x y : BitVec 64) : (W (equal (least x y) x ||| equal (least x y) y) == W (spread 255)) = true := beq_W fun k hk => by
  rw [lane_spread _ (by decide) k hk, lane_or, lane_equal _ _ k hk, lane_equal _ _ k hk, lane_least _ _ k hk]
  by_cases h : lane y k < lane x k
  · rw [if_pos h, if_pos rfl]
    split <;> rfl
  · rw [if_neg h, if_pos rfl]
    split <;> rfl
theorem r2 (x z : BitVec 64) : (W (least (addCap x z) x) == W x) = true := beq_W fun k hk => by
  have := lane_lt x k
  have := lane_lt z k
  rw [lane_least _ _ k hk, lane_addCap _ _ k hk]
  repeat' split
  all_goals omega
theorem r3 (x y : BitVec 64) : (W (equal x y) == W (equal y x)) = true := beq_W fun k hk => by
  rw [lane_equal _ _ k hk, lane_equal _ _ k hk]
  repeat' split
  all_goals omega
theorem r4 (x y z : BitVec 64) : (W (least (least x y) z) == W (least x (least y z))) = true := beq_W fun k hk => by
  rw [lane_least _ _ k hk, lane_least _ _ k hk, lane_least _ _ k hk, lane_least _ _ k hk]
  repeat' split
  all_goals omega
theorem r5 (x y z : BitVec 64) : (W (add (add x y) z) == W (add x (add y z))) = true := beq_W fun k hk => by
  rw [lane_add' _ _ k hk, lane_add' _ _ k hk, lane_add' _ _ k hk, lane_add' _ _ k hk]
  omega
attribute [local go_sem] bor

theorem walk (w : World) (a0 : Int) (w0 : (Lit.int .u64 a0).wf = true) (a1 : Int) (w1 : (Lit.int .u64 a1).wf = true) (a2 : Int) (w2 : (Lit.int .u64 a2).wf = true) :
    Calls Try.prog 4 #[.int .u64 a0, .int .u64 a1, .int .u64 a2] w fun e w' => e = .returned (.bool true) ∧ Below w.heap.size w w' := by
  obtain ⟨x, rfl⟩ := W_of_wf w0
  obtain ⟨y, rfl⟩ := W_of_wf w1
  obtain ⟨z, rfl⟩ := W_of_wf w2
  have e1 := r1 x y
  have e2 := r2 x z
  have e3 := r3 x y
  have e4 := r4 x y z
  have e5 := r5 x y z
  go_enter Try.func4, Try.ntmps4
  go_wp2_with fail
  refine (speaks_any _).mono ?_
  rintro e u1 ⟨rfl, b1⟩
  go_wp2_with fail
  refine (least_any _ _ _).mono ?_
  rintro e u ⟨rfl, rfl⟩
  go_wp2_with fail
  refine (equal_any _ _ _).mono ?_
  rintro e u ⟨rfl, rfl⟩
  go_wp2_with fail
  refine (equal_any _ _ _).mono ?_
  rintro e u ⟨rfl, rfl⟩
  go_wp2_with fail
  refine (addCap_any _ _ _).mono ?_
  rintro e u ⟨rfl, rfl⟩
  go_wp2_with fail
  refine (spread_any 255 (by decide) _).mono ?_
  rintro e u ⟨rfl, rfl⟩
  go_wp2_with fail
  refine (least_any _ _ _).mono ?_
  rintro e u ⟨rfl, rfl⟩
  go_wp2_with fail
  refine (equal_any _ _ _).mono ?_
  rintro e u ⟨rfl, rfl⟩
  go_wp2_with fail
  refine (equal_any _ _ _).mono ?_
  rintro e u ⟨rfl, rfl⟩
  go_wp2_with fail
  refine (least_any _ _ _).mono ?_
  rintro e u ⟨rfl, rfl⟩
  go_wp2_with fail
  refine (least_any _ _ _).mono ?_
  rintro e u ⟨rfl, rfl⟩
  go_wp2_with fail
  refine (least_any _ _ _).mono ?_
  rintro e u ⟨rfl, rfl⟩
  go_wp2_with fail
  refine (least_any _ _ _).mono ?_
  rintro e u ⟨rfl, rfl⟩
  go_wp2_with fail
  refine (add_any _ _ _).mono ?_
  rintro e u ⟨rfl, rfl⟩
  go_wp2_with fail
  refine (add_any _ _ _).mono ?_
  rintro e u ⟨rfl, rfl⟩
  go_wp2_with fail
  refine (add_any _ _ _).mono ?_
  rintro e u ⟨rfl, rfl⟩
  go_wp2_with fail
  refine (add_any _ _ _).mono ?_
  rintro e u ⟨rfl, rfl⟩
  go_wp2_with fail
  go_ret
  exact ⟨rfl, b1⟩

set_option maxRecDepth 100000 in
theorem lifted (os : Os) (started : os.Started) (H : Type) (enc : TypeId × Value → H) :
    ReturnsInHanded {} Try.checked os 4 .any (Rows.lanesRulesSpec.pre6 enc Try.prog Try.f4 Rows.lanesRulesRow.domain false) (Rows.lanesRulesSpec.post enc Try.prog Try.f4 false true false false) := by
  refine returnsInHanded_of_change (C := Try.checked) own started (by kernel_rfl) Try.func4
    (ChangeSpec.witness6 (enc := enc) (C := Try.checked) false ⟨#[], #[.int .u64 0, .int .u64 0, .int .u64 0], []⟩ 8 (by kernel_rfl) (by kernel_rfl) (by kernel_rfl) (by kernel_rfl)) ?_
  intro W base args ds gs before hval0 hW hcnd _
  have hval : ∀ (j : Nat) t v, Try.f4.params[j]? = some t → args[j]? = some v → Value.okWide Try.prog W .any base t v := hval0
  have hW' := hW
  obtain ⟨p, q, hA0, hV, rfl, hfz, hnd⟩ := hW
  have hA : DataW.TrodAll enc Try.prog W 0 (fun _ => true) true Try.f4.params.toList args.toList ds p := hA0
  rw [Try.params4] at hA hval
  obtain ⟨v0, vs0, d0, ds0, p0, q0, hargs, rfl, rfl, h0, r0⟩ := trodAll_cons hA
  obtain ⟨v1, vs1, d1, ds1, p1, q1, rfl, rfl, rfl, h1, r1⟩ := trodAll_cons r0
  obtain ⟨v2, vs2, d2, ds2, p2, q2, rfl, rfl, rfl, h2, r2⟩ := trodAll_cons r1
  obtain ⟨rfl, rfl, rfl⟩ := trodAll_nil r2
  obtain rfl : args = #[v0, v1, v2] := by cases args; simp_all
  obtain ⟨rfl, rfl⟩ := trodVars_none hV
  obtain ⟨a0, rfl, rfl, rfl, w0⟩ := open_int Try.underlying22 (hval 0 22 v0 rfl rfl) h0
  obtain ⟨a1, rfl, rfl, rfl, w1⟩ := open_int Try.underlying22 (hval 1 22 v1 rfl rfl) h1
  obtain ⟨a2, rfl, rfl, rfl, w2⟩ := open_int Try.underlying22 (hval 2 22 v2 rfl rfl) h2
  clear hA0 hval0
  refine (walk W a0 w0 a1 w1 a2 w2).mono fun e W' ⟨he, bel⟩ => ?_
  subst he
  exact ⟨_, rfl, _, _, _, [], _, [], hW', trodAll_mk1 (shut_bool Try.underlying4 _), (trodAll_cons_mk (shut_int Try.underlying22 w0) (trodAll_cons_mk (shut_int Try.underlying22 w1) (trodAll_cons_mk (shut_int Try.underlying22 w2) trodAll_mk0))), rfl, bel.frame _, fun h => by cases h⟩

theorem over : Rows.lanesRulesRow.holds Try.pinned (OpenSpec.ofChange Rows.lanesRulesSpec) :=
  OpenClaim.holds_of_wide 4 Try.f4 rfl rfl rfl rfl rfl rfl rfl ⟨rfl, rfl, rfl, rfl, rfl⟩ rfl rfl rfl rfl rfl (by kernel_rfl) Try.func4 (by kernel_rfl)
    (of_decide_eq_true (by kernel_rfl)) (by unfold Func.isWrapper; first | (rw [if_pos (by decide +kernel)]; kernel_rfl) | (rw [if_neg (by decide +kernel)]; exact ⟨rfl, rfl⟩))
    (fun os started H enc _ => lifted os started H enc)

/-- The statement. -/
theorem proved : Rows.LanesRulesSaid := over
#print axioms proved
end Go.Proofs.Ytbacbjnbfbdjdaa.lanesRules
