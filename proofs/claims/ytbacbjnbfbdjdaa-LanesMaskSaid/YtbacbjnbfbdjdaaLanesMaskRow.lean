/- LanesMask: the highest bits of the lanes that are equal to a byte tell where it stands. No condition: for every word and every byte the law answers true, and nothing that was there is changed. -/
import Derived.Test.YtbacbjnbfbdjdaaRows
import Derived.WalkKit
import Derived.ProofKit
import Derived.OpenShut
import Derived.ShutString
import Derived.ChangeOld
import Derived.Below
import Derived.Test.YtbacbjnbfbdjdaaMem
import Derived.Test.YtbacbjnbfbdjdaaLSpeak
namespace Go.Proofs.Ytbacbjnbfbdjdaa.lanesMask
open Go.ChangeShapes Go.WideShapes Go.ChangeAt Go.RowKit
open Go.ChangeMaps (open_string shut_string)
open Go.Proofs.Ytbacbjnbfbdjdaa.B
open Go.Proofs.Ytbacbjnbfbdjdaa.LM Go.Proofs.Ytbacbjnbfbdjdaa.B Go.Proofs.Ytbacbjnbfbdjdaa.LW
set_option linter.unusedVariables false

theorem own : ownKnob Try.prog.godebug = none := by kernel_rfl
theorem laidOut : laidOutB Try.prog = true := by kernel_rfl
theorem topN_bit (x : BitVec 64) (n k : Nat) (h : k < n) : topN x n / 2 ^ k % 2 = lane x k / 128 := by
  induction n with
  | zero => omega
  | succ n ih =>
    have hl := lane_lt x n
    rw [topN]
    by_cases e : k = n
    · subst e
      have h1 := topN_lt x k
      rw [Nat.add_mul_div_right _ _ (Nat.two_pow_pos k), Nat.div_eq_of_lt h1]
      omega
    · have hkn : k < n := by omega
      have e2 : lane x n / 128 * 2 ^ n = (lane x n / 128 * 2 ^ (n - k - 1) * 2) * 2 ^ k := by
        rw [show n = (n - k - 1) + 1 + k by omega, Nat.pow_add, Nat.pow_succ]
        rw [show n - k - 1 + 1 + k - k - 1 = n - k - 1 by omega]
        rw [← Nat.mul_assoc, ← Nat.mul_assoc]
      rw [e2, Nat.add_mul_div_right _ _ (Nat.two_pow_pos k), Nat.add_mul_mod_self_right, ih hkn]
theorem mask_bit (x y : BitVec 64) (b : Nat) (hy : ∀ k, k < 8 → lane y k = b) (k : Nat) (hk : k < 8) : (bits BinOp.and IntKind.u8 ((topN (equal x y) 8 : Int) / 2 ^ k) 1 == 1) = ((lane x k : Int) == (b : Int)) := by
  have h1 := topN_bit (equal x y) 8 k hk
  have h2 := topN_lt (equal x y) 8
  have e1 : ((topN (equal x y) 8 : Int) / 2 ^ k) = ((topN (equal x y) 8 / 2 ^ k : Nat) : Int) := by
    rw [Int.natCast_ediv, Int.natCast_pow]; rfl
  have h3 : topN (equal x y) 8 / 2 ^ k < 256 := Nat.lt_of_le_of_lt (Nat.div_le_self _ _) h2
  rw [e1, show (1 : Int) = ((1 : Nat) : Int) from rfl, u8_and_nat _ _ h3 (by decide), Nat.and_one_is_mod, h1, lane_equal _ _ k hk, hy k hk, Bool.eq_iff_iff, beq_iff_eq, beq_iff_eq]
  split <;> omega

theorem walk (w : World) (a0 : Int) (w0 : (Lit.int .u64 a0).wf = true) (a1 : Int) (w1 : (Lit.int .u8 a1).wf = true) :
    Calls Try.prog 6 #[.int .u64 a0, .int .u8 a1] w fun e w' => e = .returned (.bool true) ∧ Below w.heap.size w w' := by
  obtain ⟨x, rfl⟩ := W_of_wf w0
  have i1 : 0 ≤ a1 ∧ a1 ≤ 255 := by simpa [Lit.wf, IntKind.min, IntKind.max, IntKind.signed, IntKind.bits] using w1
  obtain ⟨i1a, i1b⟩ := i1
  obtain ⟨b, rfl⟩ := Int.eq_ofNat_of_zero_le i1a
  have hb : b < 256 := by omega
  clear w0 w1 i1a i1b
  have HM := hide (mask_bit x (spread b) b (lane_spread b hb))
  go_enter Try.func6, Try.ntmps6
  go_wp2_with fail
  refine (speaks_any _).mono ?_
  rintro e u1 ⟨rfl, b1⟩
  go_wp2_with fail
  refine (spread_any b hb _).mono ?_
  rintro e u ⟨rfl, rfl⟩
  go_wp2_with fail
  refine (equal_any _ _ _).mono ?_
  rintro e u ⟨rfl, rfl⟩
  go_wp2_with fail
  refine (top_any _ _).mono ?_
  rintro e u ⟨rfl, rfl⟩
  go_wp2_with fail
  refine (store_any _ _).mono ?_
  rintro e u2 ⟨rfl, b2⟩
  have hB := Bl b1 b2
  clear b1 b2
  have HT := hide (topN_lt (equal x (spread b)) 8)
  go_wp2_with fail
  go_loop [17] (fun i => ∃ k : Nat, k ≤ 8 ∧ i = .int .i64 k) (fun i => 8 - (intOf i).toNat)
  case atStart => exact ⟨0, by omega, rfl⟩
  case round =>
    obtain ⟨k, hk, rfl⟩ := hrel
    by_cases hlt : k < 8
    · have hix := index_u8 (fun j => (lane x j : Int)) k hlt
      have hm := HM.out k hlt
      go_wp2
      go_round
      case rel => exact ⟨k + 1, by omega, by go_num⟩
      case measure => simp [intOf]; omega
    · obtain rfl : k = 8 := by omega
      go_wp2
      go_ret
      exact ⟨rfl, hB⟩

set_option maxRecDepth 100000 in
theorem lifted (os : Os) (started : os.Started) (H : Type) (enc : TypeId × Value → H) :
    ReturnsInHanded {} Try.checked os 6 .any (Rows.lanesMaskSpec.pre6 enc Try.prog Try.f6 Rows.lanesMaskRow.domain false) (Rows.lanesMaskSpec.post enc Try.prog Try.f6 false true false false) := by
  refine returnsInHanded_of_change (C := Try.checked) own started (by kernel_rfl) Try.func6
    (ChangeSpec.witness6 (enc := enc) (C := Try.checked) false ⟨#[], #[.int .u64 0, .int .u8 0], []⟩ 8 (by kernel_rfl) (by kernel_rfl) (by kernel_rfl) (by kernel_rfl)) ?_
  intro W base args ds gs before hval0 hW hcnd _
  have hval : ∀ (j : Nat) t v, Try.f6.params[j]? = some t → args[j]? = some v → Value.okWide Try.prog W .any base t v := hval0
  have hW' := hW
  obtain ⟨p, q, hA0, hV, rfl, hfz, hnd⟩ := hW
  have hA : DataW.TrodAll enc Try.prog W 0 (fun _ => true) true Try.f6.params.toList args.toList ds p := hA0
  rw [Try.params6] at hA hval
  obtain ⟨v0, vs0, d0, ds0, p0, q0, hargs, rfl, rfl, h0, r0⟩ := trodAll_cons hA
  obtain ⟨v1, vs1, d1, ds1, p1, q1, rfl, rfl, rfl, h1, r1⟩ := trodAll_cons r0
  obtain ⟨rfl, rfl, rfl⟩ := trodAll_nil r1
  obtain rfl : args = #[v0, v1] := by cases args; simp_all
  obtain ⟨rfl, rfl⟩ := trodVars_none hV
  obtain ⟨a0, rfl, rfl, rfl, w0⟩ := open_int Try.underlying22 (hval 0 22 v0 rfl rfl) h0
  obtain ⟨a1, rfl, rfl, rfl, w1⟩ := open_int Try.underlying5 (hval 1 5 v1 rfl rfl) h1
  clear hA0 hval0
  refine (walk W a0 w0 a1 w1).mono fun e W' ⟨he, bel⟩ => ?_
  subst he
  exact ⟨_, rfl, _, _, _, [], _, [], hW', trodAll_mk1 (shut_bool Try.underlying4 _), (trodAll_cons_mk (shut_int Try.underlying22 w0) (trodAll_cons_mk (shut_int Try.underlying5 w1) trodAll_mk0)), rfl, bel.frame _, fun h => by cases h⟩

theorem over : Rows.lanesMaskRow.holds Try.pinned (OpenSpec.ofChange Rows.lanesMaskSpec) :=
  OpenClaim.holds_of_wide 6 Try.f6 rfl rfl rfl rfl rfl rfl rfl ⟨rfl, rfl, rfl, rfl, rfl⟩ rfl rfl rfl rfl rfl (by kernel_rfl) Try.func6 (by kernel_rfl)
    (of_decide_eq_true (by kernel_rfl)) (by unfold Func.isWrapper; first | (rw [if_pos (by decide +kernel)]; kernel_rfl) | (rw [if_neg (by decide +kernel)]; exact ⟨rfl, rfl⟩))
    (fun os started H enc _ => lifted os started H enc)

/-- The statement. -/
theorem proved : Rows.LanesMaskSaid := over
#print axioms proved
end Go.Proofs.Ytbacbjnbfbdjdaa.lanesMask
