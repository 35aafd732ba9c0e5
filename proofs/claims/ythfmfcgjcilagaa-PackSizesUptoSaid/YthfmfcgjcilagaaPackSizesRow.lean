/- PackSizes: a frame has twelve bytes more than its body, and begins and goes on as its version tells. Condition: what comes in has a bulk of at most 1,048,576 (the second form). -/
import Derived.Test.YthfmfcgjcilagaaRows
import Derived.WalkKit
import Derived.ProofKit
import Derived.OpenShut
import Derived.ShutString
import Derived.ChangeOld
import Derived.Below
import Derived.Test.YthfmfcgjcilagaaMem
import Derived.JoinedCond
import Derived.Test.YthfmfcgjcilagaaBulk
import Derived.Test.YthfmfcgjcilagaaPSpeak
import Derived.Test.YthfmfcgjcilagaaPFrame
import Derived.BigQuiet
import Derived.Deep.QuietTactic
namespace Go.Proofs.Ythfmfcgjcilagaa.packSizes
open Go.ChangeShapes Go.WideShapes Go.ChangeAt Go.RowKit
open Go.ChangeMaps (open_string shut_string)
open Go.Proofs.Ythfmfcgjcilagaa.B
open Go.Proofs.Ythfmfcgjcilagaa.LM Go.Proofs.Ythfmfcgjcilagaa.PM Go.Proofs.Ythfmfcgjcilagaa.PW
set_option linter.unusedVariables false

theorem own : ownKnob Try.prog.godebug = none := by kernel_rfl
theorem laidOut : laidOutB Try.prog = true := by kernel_rfl
theorem Bl_drewN {B : Nat} {a w : World} (h : Below B a w) (n : Nat) : Below B a (w.drewN n) := ⟨h.os, h.tape, h.output, h.size, h.block⟩
theorem byte_of (a : Int) (h : (Lit.int .u8 a).wf = true) : ∃ v : UInt8, a = (v.toNat : Int) := by
  have i : 0 ≤ a ∧ a ≤ 255 := by simpa [Lit.wf, IntKind.min, IntKind.max, IntKind.signed, IntKind.bits] using h
  exact ⟨UInt8.ofNat a.toNat, by rw [UInt8.toNat_ofNat']; omega⟩
theorem byte_next (v : UInt8) : IntKind.u8.wrap ((v.toNat : Int) + 1) = ((v + 1).toNat : Int) := by
  rw [IntKind.wrap_u8', UInt8.toNat_add]
  rfl
theorem byte_ne (v : UInt8) : v ≠ v + 1 := by
  intro h
  have h2 := congrArg UInt8.toNat h
  have hv := UInt8.toNat_lt v
  rw [UInt8.toNat_add] at h2
  simp at h2
  omega

set_option maxHeartbeats 1000000 in
theorem walk (w : World) (a0 : Int) (w0 : (Lit.int .u8 a0).wf = true) (a1 : Option Addr) (len1 cap1 : Nat) (z1 : List Int) (w1 : IsRow .u8 w a1 len1 cap1 z1) (s1 : len1 ≤ 1048576) :
    Calls Try.prog 9 #[.int .u8 a0, .slice a1 len1 cap1] w fun e w' => e = .returned (.bool true) ∧ Below w.heap.size w w' := by
  obtain ⟨xs, hx⟩ := rd_of_row w1
  obtain ⟨v, rfl⟩ := byte_of a0 w0
  have hl := hx.length8
  have hv := byte_next v
  clear w0 w1
  go_enter Try.func9, Try.ntmps9
  go_wp2_with fail
  refine (speaks_any _).mono ?_
  rintro e u1 ⟨rfl, b1⟩
  have HX := hide (hx.over b1)
  have HB := hide b1
  clear hx b1
  go_wp2_with fail
  refine (seal_any v HX.out (by omega)).mono ?_
  rintro e u2 ⟨A2, c2, rfl, ho2, b2⟩
  have HX2 := hide (HX.out.over b2)
  have HF2 := hide (Rd.of_own ho2)
  have HB2 := hide (Bl HB.out b2)
  clear HX HB ho2 b2
  go_wp2_with fail
  refine (seal_any (v + 1) HX2.out (by omega)).mono ?_
  rintro e u3 ⟨A3, c3, rfl, ho3, b3⟩
  have HX3 := hide (HX2.out.over b3)
  have HF3 := hide (HF2.out.over b3)
  have HG3 := hide (Rd.of_own ho3)
  have HB3 := hide (Bl HB2.out b3)
  clear HX2 HF2 HB2 ho3 b3
  go_wp2_with fail
  refine (unseal_any (v + 1) HF3.out (by omega)).mono ?_
  rw [unsealed_version v (v + 1) xs (byte_ne v)]
  rintro e u4 ⟨A4, m4, c4, rfl, _, b4⟩
  have HX4 := hide (HX3.out.over b4)
  have HF4 := hide (HF3.out.over b4)
  have HG4 := hide (HG3.out.over b4)
  have HB4 := hide (Bl HB3.out b4)
  clear HX3 HF3 HB3 HG3 b4
  obtain ⟨ad2, rfl, _, hc3⟩ := HF4.out.byte (i := 3) (by omega)
  rw [show ad2.add 3 = ⟨ad2.block, ad2.off + 3, none⟩ from rfl, at8, sealed_3] at hc3
  have hcf := HF4.out.cap
  have hcm := HF4.out.max
  have hcg := HG4.out.cap
  have s1 := fun m => run_str (P := Try.prog) 25 9 5 Try.underlying25 Try.underlying5 Try.underlying9 ((HF4.out.head8 (j := 3) (by omega)).drewN m)
  have s2 := fun m => run_str (P := Try.prog) 25 9 5 Try.underlying25 Try.underlying5 Try.underlying9 ((HG4.out.head8 (j := 3) (by omega)).drewN m)
  have s3 := fun m => run_str (P := Try.prog) 25 9 5 Try.underlying25 Try.underlying5 Try.underlying9 ((HF4.out.cut8 (i := 8) (j := 8 + len1) (by omega) (by omega)).drewN m)
  have s4 := fun m => run_str (P := Try.prog) 25 9 5 Try.underlying25 Try.underlying5 Try.underlying9 (HX4.out.drewN m)
  simp only [sealed_take3] at s1 s2
  have hb := sealed_body v xs
  rw [hl] at hb
  simp only [Nat.add_sub_cancel_left, hb, if_neg (show ¬ c2 = 8 by omega)] at s3
  have s3' : ∀ m, (convert 25 9 (.slice (some ⟨ad2.block, ad2.off + 8, none⟩) len1 (c2 - 8))).run Try.prog (u4.drewN m) = .ok (.string (str xs)) (u4.drewN m) := s3
  clear s3
  have w1 : IntKind.i64.wrap (8 + (len1 : Int)) = 8 + (len1 : Int) := IntWalk.i64_in _ (by omega)
  have w2 : IntKind.i64.wrap ((len1 : Int) + 12) = (len1 : Int) + 12 := IntWalk.i64_in _ (by omega)
  have w3 : (8 + (len1 : Int)).toNat = 8 + len1 := by omega
  have w4 : 8 + (len1 : Int) ≤ c2 := by omega
  have w5 : (3 : Int) ≤ c3 := by omega
  have w6 : (3 : Int) ≤ c2 := by omega
  have w7 : ¬ c2 = 8 := by omega
  have w8 : (8 : Int) ≤ 8 + (len1 : Int) := by omega
  have w9 : (3 : Int) < (len1 : Int) + 12 := by omega
  clear HX4 HF4 HG4
  go_wp2_with fail
  go_quiet (fail)
  go_wp2_with fail
  go_ret
  exact ⟨rfl, Bl_drewN HB4.out _⟩

set_option maxRecDepth 100000 in
theorem lifted (os : Os) (started : os.Started) (H : Type) (enc : TypeId × Value → H) (F : Stop.Interp) :
    ReturnsInHanded {} Try.checked os 9 .any ((Rows.OpenSpec.upto Rows.packSizesSpec).pre6 enc Try.prog Try.f9 Rows.packSizesUptoRow.domain false) (((Rows.OpenSpec.upto Rows.packSizesSpec).at F).post enc Try.prog Try.f9 false true false false) := by
  refine returnsInHanded_of_cond (C := Try.checked) (s := Rows.OpenSpec.upto Rows.packSizesSpec) (k := Rows.uptoSmall) rfl own started (by kernel_rfl) Try.func9
    (OpenSpec.witness (enc := enc) (C := Try.checked) (s := Rows.OpenSpec.upto Rows.packSizesSpec) (k := Rows.uptoSmall) rfl false ⟨#[], #[.int .u8 0, .slice none 0 0], []⟩ 8 (by kernel_rfl) (by kernel_rfl) (by kernel_rfl)
      (x := ([.lit (.int .u8 0), .nil], [], [])) (by kernel_rfl) rfl (by kernel_rfl)) ?_
  intro W base args ds gs before hval0 hW _ hk _
  have hval : ∀ (j : Nat) t v, Try.f9.params[j]? = some t → args[j]? = some v → Value.okWide Try.prog W .any base t v := hval0
  have hW' := hW
  obtain ⟨p, q, hA0, hV, rfl, hfz, hnd⟩ := hW
  have hA : DataW.TrodAll enc Try.prog W 0 (fun _ => true) true Try.f9.params.toList args.toList ds p := hA0
  rw [Try.params9] at hA hval
  obtain ⟨v0, vs0, d0, ds0, p0, q0, hargs, rfl, rfl, h0, r0⟩ := trodAll_cons hA
  obtain ⟨v1, vs1, d1, ds1, p1, q1, rfl, rfl, rfl, h1, r1⟩ := trodAll_cons r0
  obtain ⟨rfl, rfl, rfl⟩ := trodAll_nil r1
  obtain rfl : args = #[v0, v1] := by cases args; simp_all
  obtain ⟨rfl, rfl⟩ := trodVars_none hV
  obtain ⟨a0, rfl, rfl, rfl, w0⟩ := open_int Try.underlying5 (hval 0 5 v0 rfl rfl) h0
  obtain ⟨a1, len1, cap1, rfl⟩ := okWide_slice Try.underlying25 (hval 1 25 v1 rfl rfl)
  have k1 := h1
  have lt1 : ∀ x ∈ p1, x.block < W.heap.size := by obtain ⟨m, hm⟩ := k1; exact DataW.trod_lt m _ _ _ hm
  obtain ⟨z1, w1, b1⟩ : ∃ zs, IsRow .u8 W a1 len1 cap1 zs ∧ len1 ≤ Rows.uptoBulk d1 := by
    obtain ⟨fuel, hf⟩ := h1
    rcases open_ints Try.underlying25 Try.underlying5 (by kernel_rfl) hf with ⟨hcs, hx⟩ | ⟨x, l, c, zs, hcs, _, hl, hm, hz, hx, hcell, hwz⟩
    · simp [Value.cells] at hcs
      obtain ⟨rfl, rfl, rfl⟩ := hcs
      exact ⟨[], .inl ⟨rfl, rfl, rfl, rfl⟩, Nat.zero_le _⟩
    · simp [Value.cells] at hcs
      obtain ⟨rfl, rfl, rfl⟩ := hcs
      exact ⟨zs, .inr ⟨_, rfl, hl, hm, by simpa using hz, hcell, hwz⟩, bulks.ints_le (congrArg Prod.fst hx) (by simp at hz; omega)⟩
  clear hA0 hval0
  simp only [List.append_nil] at hW' hk
  refine (walk W a0 w0 a1 len1 cap1 z1 w1 (Nat.le_trans b1 (Nat.le_trans (bulks.part_le (l := [.lit (.int .u8 a0), d1]) (by simp)) (bulks.bound hk)))).mono fun e W' ⟨he, bel⟩ => ?_
  subst he
  exact ⟨_, rfl, _, _, _, [], _, [], hW', trodAll_mk1 (shut_bool Try.underlying4 _), (trodAll_cons_mk (shut_int Try.underlying5 w0) (trodAll_cons_mk (Below.trod laidOut (by kernel_rfl) (of_decide_eq_true (by kernel_rfl)) k1 bel lt1) trodAll_mk0)), rfl, bel.frame _, fun h => by cases h⟩

theorem over : Rows.packSizesUptoRow.holds Try.pinned (Rows.OpenSpec.upto Rows.packSizesSpec) :=
  OpenClaim.holds_of_cond 9 Try.f9 rfl rfl rfl rfl rfl rfl rfl ⟨rfl, rfl, rfl, rfl, rfl⟩ rfl rfl rfl rfl rfl (by kernel_rfl) Try.func9 (by kernel_rfl)
    (of_decide_eq_true (by kernel_rfl)) (by unfold Func.isWrapper; first | (rw [if_pos (by decide +kernel)]; kernel_rfl) | (rw [if_neg (by decide +kernel)]; exact ⟨rfl, rfl⟩))
    (fun os started H enc _ F => lifted os started H enc F)

/-- The statement. -/
theorem proved : Rows.PackSizesUptoSaid := over
#print axioms proved
end Go.Proofs.Ythfmfcgjcilagaa.packSizes
