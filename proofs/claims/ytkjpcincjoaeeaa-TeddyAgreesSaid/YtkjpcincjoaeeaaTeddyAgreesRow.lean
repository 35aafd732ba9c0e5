/- TeddyAgrees: the filter, and the machine of all literals at once, find the same. No condition. -/
import Derived.Test.YtkjpcincjoaeeaaRows
import Derived.WalkKit
import Derived.ProofKit
import Derived.OpenShut
import Derived.ShutString
import Derived.ChangeOld
import Derived.Below
import Derived.Test.YtkjpcincjoaeeaaMem

import Derived.Test.YtkjpcincjoaeeaaTSpeak
import Derived.Test.YtkjpcincjoaeeaaAOpen
import Derived.BigQuiet
import Derived.Deep.QuietTactic
namespace Go.Proofs.Ytkjpcincjoaeeaa.teddyAgrees
open Go.ChangeShapes Go.WideShapes Go.ChangeAt Go.RowKit
open Go.ChangeMaps (open_string shut_string)
open Go.Proofs.Ytkjpcincjoaeeaa.B
open Go.Proofs.Ytkjpcincjoaeeaa.AW
open Go.Proofs.Ytkjpcincjoaeeaa.TW (speaks_any FNewIs fnew_any fscan_any Filt)
open Go.Proofs.Ytkjpcincjoaeeaa.AM (Nd)
set_option linter.unusedVariables false

theorem own : ownKnob Try.prog.godebug = none := by kernel_rfl
theorem laidOut : laidOutB Try.prog = true := by kernel_rfl
def Gate (len1 : Nat) (Ls : List AM.T) (u : World) (s : Value) (wx : World) : Prop := ∃ b : Bool, s = .bool b ∧ u = wx ∧ (b = false → len1 ≤ 2000 ∧ (checkNo Ls = 0 → gsum Ls ≤ 300))
theorem gate_true {len1 : Nat} {Ls : List AM.T} {u : World} : Gate len1 Ls u (.bool true) u := ⟨true, rfl, rfl, fun h => by cases h⟩

set_option maxRecDepth 10000 in
set_option maxHeartbeats 1000000 in
theorem walk (w : World) (a0 : Option Addr) (len0 cap0 : Nat) (Ls0 : List AM.T) (w0 : AW.Texts w w.heap.size a0 len0 cap0 Ls0) (a1 : Option Addr) (len1 cap1 : Nat) (z1 : List Int) (w1 : IsRow .u8 w a1 len1 cap1 z1) :
    Calls Try.prog 5 #[.slice a0 len0 cap0, .slice a1 len1 cap1] w fun e w' => e = .returned (.bool true) ∧ Below w.heap.size w w' := by
  obtain ⟨t, ht⟩ := rd_of_row w1
  have htn := ht.length8
  have HTN := hide htn
  clear htn
  have HT := hide w0
  have HR := hide ht
  clear w0 w1 ht
  go_enter Try.func5, Try.ntmps5
  go_wp2_with fail
  refine (speaks_any _).mono ?_
  rintro e u1 ⟨rfl, b1⟩
  have HT1 := hide (HT.out.over b1)
  have HR1 := hide (HR.out.over b1)
  have HB := hide b1
  clear b1 HT HR
  go_upto_region 3 with fail
  go_cut [17] (fun s wx => Gate len1 Ls0 u1 s wx)
  case first =>
    go_wp2_with fail
    refine (great_any HT1.out).mono ?_
    rintro e u2 ⟨g, rfl, rfl, hgr⟩
    have HGR := hide hgr
    clear hgr
    have fin : ∀ (h : checkNo Ls0 = 0 → gsum Ls0 ≤ 300), len1 ≤ 2000 → Gate len1 Ls0 u1 (.bool false) u1 := fun h h1 => ⟨false, rfl, rfl, fun _ => ⟨h1, h⟩⟩
    have FIN := hide fin
    clear fin
    cases g
    · have HG : Hid (checkNo Ls0 = 0 → gsum Ls0 ≤ 300) := hide (fun h => (HGR.out rfl).elim id (fun ⟨l, h1, h2⟩ => absurd ((checkNo_0 h).2.2.1 l h1) (by omega)))
      by_cases c1 : 2000 < len1
      · have c1i : (2000 : Int) < (len1 : Int) := by omega
        go_wp2_with fail
        go_meet
        exact gate_true
      · have c1i : decide ((2000 : Int) < (len1 : Int)) = false := decide_eq_false (by omega)
        go_wp2_with fail
        go_meet
        exact FIN.out HG.out (by omega)
    · go_wp2_with fail
      go_meet
      exact gate_true
  case rest =>
    obtain ⟨b, rfl, rfl, hb⟩ := hcut
    cases b
    · obtain ⟨hl1, hg⟩ := hb rfl
      have HG := hide hg
      have HN := hide (fnew_any HT1.out)
      clear hg hb
      go_wp2_with fail
      refine HN.out.mono ?_
      rintro e u5 (⟨hc, rfl, rfl⟩ | ⟨hc, g, AL, cL, vs, bs, lo, hi, rfl, hF⟩)
      · have HN2 := hide (new_any HT1.out)
        have HC := hide hc
        clear HN hc
        go_wp2_with fail
        refine HN2.out.mono ?_
        rintro e u6 (⟨hc, rfl, rfl⟩ | ⟨hc, _⟩)
        · clear HN2 hc
          go_wp2_with fail
          go_ret
          exact ⟨by first | rfl | simp, HB.out⟩
        · exact absurd hc HC.out
      · have HN2 := hide (new_any (HT1.out.over hF.below))
        have HC := hide hc
        have HF := hide hF
        clear HN hc hF
        go_wp2_with fail
        refine HN2.out.mono ?_
        rintro e u6 (⟨hc, _⟩ | ⟨hc, g2, ns, ad, cn, rfl, hM, hG, hnl⟩)
        · exact absurd HC.out hc
        · have hcs := checkNo_0 HC.out
          have hgs := HG.out HC.out
          have hll : Ls0.length ≤ 300 := by omega
          have hF6 := HF.out.over hM.below
          have hR6 := (HR1.out.over HF.out.below).over hM.below
          rw [← HTN.out] at hR6
          have hfs := fscan_any hF6 hR6 hll (by rw [HTN.out]; omega) (fun l h => Nat.le_trans (hcs.2.2.1 l h) (by omega)) hcs.2.1
          rw [HTN.out] at hfs hR6
          have HFS := hide hfs
          have HX := hide (show _ ∧ _ ∧ _ ∧ _ from ⟨hM, hG, hR6, Bl HB.out (Bl HF.out.below hM.below)⟩)
          clear hcs hgs hF6 hR6 hfs hM hG hnl HN2 hc
          go_wp2_with fail
          refine HFS.out.mono ?_
          rintro e w7 ⟨A7, c7, rfl, ho7, hb7⟩
          have hsc := scan_any (HX.out.1.over hb7) HX.out.2.1 (HX.out.2.2.1.over hb7) (by omega) hll
          have HSC := hide hsc
          have HO7 := hide ho7
          have HB7 := hide hb7
          clear hsc ho7 hb7 HFS
          go_wp2_with fail
          refine HSC.out.mono ?_
          rintro e w8 ⟨A8, c8, rfl, ho8, hb8⟩
          have hsm := same_any (Rd.of_own (own_over HO7.out hb8)) (Rd.of_own ho8)
          rw [decide_eq_true rfl] at hsm
          have HSM := hide hsm
          have HB8 := hide (Bl HX.out.2.2.2 (Bl HB7.out hb8))
          clear hsm ho8 hb8 HSC
          go_wp2_with fail
          refine HSM.out.mono ?_
          rintro e w9 ⟨rfl, hd⟩
          have HB9 := hide (Bl HB8.out hd.below)
          clear hd
          go_wp2_with fail
          go_ret
          exact ⟨by first | rfl | simp, HB9.out⟩
    · go_wp2_with fail
      go_ret
      exact ⟨rfl, HB.out⟩

set_option maxRecDepth 100000 in
theorem lifted (os : Os) (started : os.Started) (H : Type) (enc : TypeId × Value → H) :
    ReturnsInHanded {} Try.checked os 5 .any (Rows.teddyAgreesSpec.pre6 enc Try.prog Try.f5 Rows.teddyAgreesRow.domain false) (Rows.teddyAgreesSpec.post enc Try.prog Try.f5 false true false false) := by
  refine returnsInHanded_of_change (C := Try.checked) own started (by kernel_rfl) Try.func5
    (ChangeSpec.witness6 (enc := enc) (C := Try.checked) false ⟨#[], #[.slice none 0 0, .slice none 0 0], []⟩ 8 (by kernel_rfl) (by kernel_rfl) (by kernel_rfl) (by kernel_rfl)) ?_
  intro W base args ds gs before hval0 hW hcnd _
  have hval : ∀ (j : Nat) t v, Try.f5.params[j]? = some t → args[j]? = some v → Value.okWide Try.prog W .any base t v := hval0
  have hW' := hW
  obtain ⟨p, q, hA0, hV, rfl, hfz, hnd⟩ := hW
  have hA : DataW.TrodAll enc Try.prog W 0 (fun _ => true) true Try.f5.params.toList args.toList ds p := hA0
  rw [Try.params5] at hA hval
  obtain ⟨v0, vs0, d0, ds0, p0, q0, hargs, rfl, rfl, h0, r0⟩ := trodAll_cons hA
  obtain ⟨v1, vs1, d1, ds1, p1, q1, rfl, rfl, rfl, h1, r1⟩ := trodAll_cons r0
  obtain ⟨rfl, rfl, rfl⟩ := trodAll_nil r1
  obtain rfl : args = #[v0, v1] := by cases args; simp_all
  obtain ⟨rfl, rfl⟩ := trodVars_none hV
  obtain ⟨a0, len0, cap0, rfl⟩ := okWide_slice Try.underlying22 (hval 0 22 v0 rfl rfl)
  have k0 := h0
  have lt0 : ∀ x ∈ p0, x.block < W.heap.size := by obtain ⟨m, hm⟩ := k0; exact DataW.trod_lt m _ _ _ hm
  obtain ⟨Ls0, w0, _⟩ : ∃ Ls, AW.Texts W W.heap.size a0 len0 cap0 Ls ∧ (Rows.uptoBulk d0 ≤ 1048576 → len0 ≤ 1048576 ∧ ∀ l ∈ Ls, l.length ≤ 1048576) := by
    obtain ⟨fuel, hf⟩ := k0
    exact AW.texts_of (by simpa [Value.cells] using hf)
  obtain ⟨a1, len1, cap1, rfl⟩ := okWide_slice Try.underlying32 (hval 1 32 v1 rfl rfl)
  have k1 := h1
  have lt1 : ∀ x ∈ p1, x.block < W.heap.size := by obtain ⟨m, hm⟩ := k1; exact DataW.trod_lt m _ _ _ hm
  obtain ⟨z1, w1⟩ : ∃ zs, IsRow .u8 W a1 len1 cap1 zs := by
    obtain ⟨fuel, hf⟩ := h1
    rcases open_ints Try.underlying32 Try.underlying5 (by kernel_rfl) hf with ⟨hcs, hx⟩ | ⟨x, l, c, zs, hcs, _, hl, hm, hz, hx, hcell, hwz⟩
    · simp [Value.cells] at hcs
      obtain ⟨rfl, rfl, rfl⟩ := hcs
      exact ⟨[], .inl ⟨rfl, rfl, rfl, rfl⟩⟩
    · simp [Value.cells] at hcs
      obtain ⟨rfl, rfl, rfl⟩ := hcs
      exact ⟨zs, .inr ⟨_, rfl, hl, hm, by simpa using hz, hcell, hwz⟩⟩
  clear hA0 hval0
  refine (walk W a0 len0 cap0 Ls0 w0 a1 len1 cap1 z1 w1).mono fun e W' ⟨he, bel⟩ => ?_
  subst he
  exact ⟨_, rfl, _, _, _, [], _, [], hW', trodAll_mk1 (shut_bool Try.underlying4 _), (trodAll_cons_mk (Below.trod laidOut (by kernel_rfl) (of_decide_eq_true (by kernel_rfl)) k0 bel lt0) (trodAll_cons_mk (Below.trod laidOut (by kernel_rfl) (of_decide_eq_true (by kernel_rfl)) k1 bel lt1) trodAll_mk0)), rfl, bel.frame _, fun h => by cases h⟩

theorem over : Rows.teddyAgreesRow.holds Try.pinned (OpenSpec.ofChange Rows.teddyAgreesSpec) :=
  OpenClaim.holds_of_wide 5 Try.f5 rfl rfl rfl rfl rfl rfl rfl ⟨rfl, rfl, rfl, rfl, rfl⟩ rfl rfl rfl rfl rfl (by kernel_rfl) Try.func5 (by kernel_rfl)
    (of_decide_eq_true (by kernel_rfl)) (by unfold Func.isWrapper; first | (rw [if_pos (by decide +kernel)]; kernel_rfl) | (rw [if_neg (by decide +kernel)]; exact ⟨rfl, rfl⟩))
    (fun os started H enc _ => lifted os started H enc)

/-- The statement. -/
theorem proved : Rows.TeddyAgreesSaid := over
#print axioms proved
end Go.Proofs.Ytkjpcincjoaeeaa.teddyAgrees
