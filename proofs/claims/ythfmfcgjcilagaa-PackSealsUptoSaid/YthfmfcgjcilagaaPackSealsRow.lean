/- PackSeals: the check sum and the frame of any bytes are the document's, and any bytes are unsealed, or refused, exactly. Condition: what comes in has a bulk of at most 1,048,576 (the second form). -/
import Derived.Test.YthfmfcgjcilagaaRows
import Derived.WalkKit
import Derived.ProofKit
import Derived.OpenShut
import Derived.ShutString
import Derived.ChangeOld
import Derived.Below
import Derived.Test.YthfmfcgjcilagaaMem
import Derived.JoinedCond
import Derived.Test.YthfmfcgjcilagaaBulk
import Derived.Test.YthfmfcgjcilagaaPSpeak
import Derived.Test.YthfmfcgjcilagaaPFrame
import Derived.BigQuiet
import Derived.Deep.DeepCutAuto
import Derived.Deep.RegionHeld3
import Derived.Deep.QuietTactic
namespace Go.Proofs.Ythfmfcgjcilagaa.packSeals
open Go.ChangeShapes Go.WideShapes Go.ChangeAt Go.RowKit
open Go.ChangeMaps (open_string shut_string)
open Go.Proofs.Ythfmfcgjcilagaa.B
open Go.Proofs.Ythfmfcgjcilagaa.LM Go.Proofs.Ythfmfcgjcilagaa.PM Go.Proofs.Ythfmfcgjcilagaa.PW
set_option linter.unusedVariables false

theorem own : ownKnob Try.prog.godebug = none := by kernel_rfl
theorem laidOut : laidOutB Try.prog = true := by kernel_rfl
theorem byte_of (a : Int) (h : (Lit.int .u8 a).wf = true) : ∃ v : UInt8, a = (v.toNat : Int) := by
  have i : 0 ≤ a ∧ a ≤ 255 := by simpa [Lit.wf, IntKind.min, IntKind.max, IntKind.signed, IntKind.bits] using h
  exact ⟨UInt8.ofNat a.toNat, by rw [UInt8.toNat_ofNat']; omega⟩
/-- What the long comparison leaves. -/
def Def6 (w : World) (v : Value) (wx : World) : Prop := v = .bool false ∧ Below w.heap.size w wx

set_option maxHeartbeats 4000000 in
theorem walk (w : World) (a0 : Int) (w0 : (Lit.int .u8 a0).wf = true) (a1 : Option Addr) (len1 cap1 : Nat) (z1 : List Int) (w1 : IsRow .u8 w a1 len1 cap1 z1) (s1 : len1 ≤ 1048576) (a2 : Option Addr) (len2 cap2 : Nat) (z2 : List Int) (w2 : IsRow .u8 w a2 len2 cap2 z2) (s2 : len2 ≤ 1048576) :
    Calls Try.prog 7 #[.int .u8 a0, .slice a1 len1 cap1, .slice a2 len2 cap2] w fun e w' => e = .returned (.bool true) ∧ Below w.heap.size w w' := by
  obtain ⟨xs, hx⟩ := rd_of_row w1
  obtain ⟨ys, hy⟩ := rd_of_row w2
  obtain ⟨v, rfl⟩ := byte_of a0 w0
  have hl := hx.length8
  have hl2 := hy.length8
  clear w0 w1 w2
  obtain ⟨i0, hi0, hz0, hz1, hz2⟩ := info_parts info_u8
  go_enter Try.func7, Try.ntmps7
  go_wp2_with fail
  refine (speaks_any _).mono ?_
  rintro e u1 ⟨rfl, b1⟩
  have HX := hide ((hx.over b1).alloc (Nat.le_refl _) (.cells #[] 5))
  have HY := hide ((hy.over b1).alloc (Nat.le_refl _) (.cells #[] 5))
  have HB := hide (b1.alloc b1.size (.cells #[] 5))
  have hsz := b1.size
  clear hx hy b1
  go_wp2_with (at_builtin; refine wpList_append_rd _ rfl (.tmp 17) (.tmp 18) _ rfl u1.heap.size 5 i0 _ 1 1 Try.underlying25 hi0 hz0 hz1 hz2 rfl (by omega) (.slice (some ⟨u1.heap.size, 0, none⟩) 0 0) 0 _ rfl (own_empty u1 _) u1.heap.size a1 len1 cap1 (u8s xs) rfl HX.out (u8s_one _) (by simp only [maxLen]; omega) (by omega) (by simp) ?_; intro A2 c2 u2 hown2 hg2 hat2)
  have hbl : Below u1.heap.size (u1.alloc (.cells #[] 5)) u2 := below_grown (own_empty u1 _) hg2 (Nat.le_refl _) (by simp)
  have ho2 : u2.ownsRow u1.heap.size 5 1 (.slice A2 len1 c2) len1 (u8s xs) := by simpa [u8s] using hown2
  clear hown2 hg2 hat2
  have HI2 := hide (Rd.of_own ho2)
  have hs2 : u1.heap.size ≤ u2.heap.size := Nat.le_trans (by simp) hbl.size
  have HX2 := hide ((HX.out.below hbl).more hs2)
  have HY2 := hide ((HY.out.below hbl).more hs2)
  have HB2 := hide (HB.out.trans (hbl.mono hsz))
  clear ho2 HX HY HB hsz hbl hs2
  refine (seal_any v HI2.out (by omega)).mono ?_
  rintro e u3 ⟨A3, c3, rfl, ho3, b3⟩
  have HF := hide ((Rd.of_own ho3).alloc (Nat.le_refl _) (.cells #[] 5))
  have HI := hide ((HI2.out.over b3).alloc (Nat.le_refl _) (.cells #[] 5))
  have HX := hide ((HX2.out.over b3).alloc (Nat.le_refl _) (.cells #[] 5))
  have HY := hide ((HY2.out.over b3).alloc (Nat.le_refl _) (.cells #[] 5))
  have hb3 := Bl HB2.out b3
  have HB := hide (hb3.alloc hb3.size (.cells #[] 5))
  have hsz := hb3.size
  clear HX2 HY2 HI2 HB2 ho3 b3 hb3
  go_wp2_with (at_builtin; refine wpList_append_rd _ rfl (.tmp 25) (.tmp 26) _ rfl u3.heap.size 5 i0 _ 1 1 Try.underlying25 hi0 hz0 hz1 hz2 rfl (by omega) (.slice (some ⟨u3.heap.size, 0, none⟩) 0 0) 0 _ rfl (own_empty u3 _) u3.heap.size A3 (len1 + 12) c3 (u8s (sealed v xs)) rfl HF.out (u8s_one _) (by simp only [maxLen]; omega) (by omega) (by simp) ?_; intro A4 c4 u4 hown4 hg4 hat4)
  have hbl : Below u3.heap.size (u3.alloc (.cells #[] 5)) u4 := below_grown (own_empty u3 _) hg4 (Nat.le_refl _) (by simp)
  have ho4 : u4.ownsRow u3.heap.size 5 1 (.slice A4 (len1 + 12) c4) (len1 + 12) (u8s (sealed v xs)) := by simpa [u8s] using hown4
  clear hown4 hg4 hat4
  have HJ := hide (Rd.of_own ho4)
  have hs4 : u3.heap.size ≤ u4.heap.size := Nat.le_trans (by simp) hbl.size
  have HF4 := hide ((HF.out.below hbl).more hs4)
  have HI4 := hide ((HI.out.below hbl).more hs4)
  have HX4 := hide ((HX.out.below hbl).more hs4)
  have HY4 := hide ((HY.out.below hbl).more hs4)
  have HB4 := hide (HB.out.trans (hbl.mono hsz))
  clear ho4 HX HY HB HF HI hsz hbl hs4
  refine (unseal_any v HJ.out (by omega)).mono ?_
  rw [unsealed_ok v xs (by omega)]
  rintro e u5 ⟨A5, m5, c5, rfl, ho5, b5⟩
  have hm5 : m5 = len1 := by
    have := (Rd.of_own ho5).length8
    exact this.symm.trans hl
  subst hm5
  have HU := hide (Rd.of_own ho5)
  have HF := hide (HF4.out.over b5)
  have HI := hide (HI4.out.over b5)
  have HX := hide (HX4.out.over b5)
  have HY := hide (HY4.out.over b5)
  have HB := hide (Bl HB4.out b5)
  clear HX4 HY4 HI4 HF4 HJ HB4 ho5 b5
  go_wp2_with fail
  go_cut [62] (Def6 u5)
  case first =>
    have ks : ∀ (w : World) (A : Option Addr) (n c : Nat) (bs : List UInt8), Rd w w.heap.size 1 A n c (u8s bs) → (convert 25 9 (.slice A n c)).run Try.prog w = .ok (.string (str bs)) w := fun w A n c bs h => run_str (P := Try.prog) 25 9 5 Try.underlying25 Try.underlying5 Try.underlying9 h
    have KS := hide ks
    clear ks
    go_region_held (fun w' => (convert 25 9 (.slice A3 (m5 + 12) c3)).run Try.prog w' = .ok (.string (str (sealed v xs))) w' ∧ (convert 25 9 (.slice A5 m5 c5)).run Try.prog w' = .ok (.string (str xs)) w' ∧ (convert 25 9 (.slice a1 m5 cap1)).run Try.prog w' = .ok (.string (str xs)) w' ∧ (convert 25 9 (.slice A2 m5 c2)).run Try.prog w' = .ok (.string (str xs)) w')
      (first | exact ⟨KS.out _ _ _ _ _ HF.out.drew, KS.out _ _ _ _ _ HU.out.drew, KS.out _ _ _ _ _ HX.out.drew, KS.out _ _ _ _ _ HI.out.drew⟩ | exact ⟨k4, k5, k6, k7⟩)
      (first | (go_at_call 16; refine (sum_any (by first | exact HI.out | exact HI.out.drew)).mono ?_; rintro e w7 ⟨rfl, rfl⟩) | (go_at_call 25; refine (refSum_any (by first | exact HX.out | exact HX.out.drew)).mono ?_; rintro e w7 ⟨rfl, rfl⟩) | (go_at_call 26; refine (refSeal_any v (by first | exact HX.out | exact HX.out.drew) (by omega)).mono ?_; rintro e w7 ⟨A7, c7, rfl, ho7, b7⟩; have HW := hide (show _ ∧ _ from ⟨ho7, b7⟩); have k3 := KS.out _ _ _ _ _ (Rd.of_own ho7); have k4 := KS.out _ _ _ _ _ (HF.out.drew.over b7); have k5 := KS.out _ _ _ _ _ (HU.out.drew.over b7); have k6 := KS.out _ _ _ _ _ (HX.out.drew.over b7); have k7 := KS.out _ _ _ _ _ (HI.out.drew.over b7); clear ho7 b7))
    all_goals (go_wp2_with fail; go_meet; exact ⟨rfl, ((Below.refl _ _).drew).trans HW.out.2⟩)
  case rest =>
    obtain ⟨rfl, hb6⟩ := hcut
    have HX6 := hide ((HX.out.over hb6).alloc (Nat.le_refl _) (.cells #[] 5))
    have HY6 := hide ((HY.out.over hb6).alloc (Nat.le_refl _) (.cells #[] 5))
    have hbb := Bl HB.out hb6
    have hsz := hbb.size
    have HB6 := hide (hbb.alloc hbb.size (.cells #[] 5))
    clear hb6 hbb HX HY HF HI HU HB

    go_wp2_with (at_builtin; refine wpList_append_rd _ rfl (.tmp 65) (.tmp 66) _ rfl wc.heap.size 5 i0 _ 1 1 Try.underlying25 hi0 hz0 hz1 hz2 rfl (by omega) (.slice (some ⟨wc.heap.size, 0, none⟩) 0 0) 0 _ rfl (own_empty wc _) wc.heap.size a2 len2 cap2 (u8s ys) rfl HY6.out (u8s_one _) (by simp only [maxLen]; omega) (by omega) (by simp) ?_; intro A7 c7 u7 hown7 hg7 hat7)
    have hbl : Below wc.heap.size (wc.alloc (.cells #[] 5)) u7 := below_grown (own_empty wc _) hg7 (Nat.le_refl _) (by simp)
    have ho7 : u7.ownsRow wc.heap.size 5 1 (.slice A7 len2 c7) len2 (u8s ys) := by simpa [u8s] using hown7
    clear hown7 hg7 hat7
    have HJ := hide (Rd.of_own ho7)
    have hs7 : wc.heap.size ≤ u7.heap.size := Nat.le_trans (by simp) hbl.size
    have HY7 := hide ((HY6.out.below hbl).more hs7)
    have HB7 := hide (HB6.out.trans (hbl.mono hsz))
    clear ho7 HX6 HY6 HB6 hsz hbl hs7 hi0 hz0 hz1 hz2
    refine (unseal_any v HJ.out (by omega)).mono ?_
    rintro e u8 ⟨A8, m8, c8, rfl, ho8, b8⟩
    have HU := hide (Rd.of_own ho8)
    have HY := hide (HY7.out.over b8)
    have HB := hide (Bl HB7.out b8)
    clear HY7 HJ HB7 ho8 b8
    go_wp2_with fail
    refine (refUnseal_any v HY.out (by omega)).mono ?_
    rintro e u9 ⟨A9, m9, c9, rfl, ho9, b9⟩
    have k1 := run_str (P := Try.prog) 25 9 5 Try.underlying25 Try.underlying5 Try.underlying9 (HU.out.over b9)
    have k2 := run_str (P := Try.prog) 25 9 5 Try.underlying25 Try.underlying5 Try.underlying9 (Rd.of_own ho9)
    have HB9 := hide (Bl HB.out b9)
    clear HU HY HB b9 ho9
    generalize unsealed v ys = r at *
    go_wp2_with fail
    go_ret
    exact ⟨by simp, HB9.out⟩

set_option maxRecDepth 100000 in
theorem lifted (os : Os) (started : os.Started) (H : Type) (enc : TypeId × Value → H) (F : Stop.Interp) :
    ReturnsInHanded {} Try.checked os 7 .any ((Rows.OpenSpec.upto Rows.packSealsSpec).pre6 enc Try.prog Try.f7 Rows.packSealsUptoRow.domain false) (((Rows.OpenSpec.upto Rows.packSealsSpec).at F).post enc Try.prog Try.f7 false true false false) := by
  refine returnsInHanded_of_cond (C := Try.checked) (s := Rows.OpenSpec.upto Rows.packSealsSpec) (k := Rows.uptoSmall) rfl own started (by kernel_rfl) Try.func7
    (OpenSpec.witness (enc := enc) (C := Try.checked) (s := Rows.OpenSpec.upto Rows.packSealsSpec) (k := Rows.uptoSmall) rfl false ⟨#[], #[.int .u8 0, .slice none 0 0, .slice none 0 0], []⟩ 8 (by kernel_rfl) (by kernel_rfl) (by kernel_rfl)
      (x := ([.lit (.int .u8 0), .nil, .nil], [], [])) (by kernel_rfl) rfl (by kernel_rfl)) ?_
  intro W base args ds gs before hval0 hW _ hk _
  have hval : ∀ (j : Nat) t v, Try.f7.params[j]? = some t → args[j]? = some v → Value.okWide Try.prog W .any base t v := hval0
  have hW' := hW
  obtain ⟨p, q, hA0, hV, rfl, hfz, hnd⟩ := hW
  have hA : DataW.TrodAll enc Try.prog W 0 (fun _ => true) true Try.f7.params.toList args.toList ds p := hA0
  rw [Try.params7] at hA hval
  obtain ⟨v0, vs0, d0, ds0, p0, q0, hargs, rfl, rfl, h0, r0⟩ := trodAll_cons hA
  obtain ⟨v1, vs1, d1, ds1, p1, q1, rfl, rfl, rfl, h1, r1⟩ := trodAll_cons r0
  obtain ⟨v2, vs2, d2, ds2, p2, q2, rfl, rfl, rfl, h2, r2⟩ := trodAll_cons r1
  obtain ⟨rfl, rfl, rfl⟩ := trodAll_nil r2
  obtain rfl : args = #[v0, v1, v2] := by cases args; simp_all
  obtain ⟨rfl, rfl⟩ := trodVars_none hV
  obtain ⟨a0, rfl, rfl, rfl, w0⟩ := open_int Try.underlying5 (hval 0 5 v0 rfl rfl) h0
  obtain ⟨a1, len1, cap1, rfl⟩ := okWide_slice Try.underlying25 (hval 1 25 v1 rfl rfl)
  have k1 := h1
  have lt1 : ∀ x ∈ p1, x.block < W.heap.size := by obtain ⟨m, hm⟩ := k1; exact DataW.trod_lt m _ _ _ hm
  obtain ⟨z1, w1, b1⟩ : ∃ zs, IsRow .u8 W a1 len1 cap1 zs ∧ len1 ≤ Rows.uptoBulk d1 := by
    obtain ⟨fuel, hf⟩ := h1
    rcases open_ints Try.underlying25 Try.underlying5 (by kernel_rfl) hf with ⟨hcs, hx⟩ | ⟨x, l, c, zs, hcs, _, hl, hm, hz, hx, hcell, hwz⟩
    · simp [Value.cells] at hcs
      obtain ⟨rfl, rfl, rfl⟩ := hcs
      exact ⟨[], .inl ⟨rfl, rfl, rfl, rfl⟩, Nat.zero_le _⟩
    · simp [Value.cells] at hcs
      obtain ⟨rfl, rfl, rfl⟩ := hcs
      exact ⟨zs, .inr ⟨_, rfl, hl, hm, by simpa using hz, hcell, hwz⟩, bulks.ints_le (congrArg Prod.fst hx) (by simp at hz; omega)⟩
  obtain ⟨a2, len2, cap2, rfl⟩ := okWide_slice Try.underlying25 (hval 2 25 v2 rfl rfl)
  have k2 := h2
  have lt2 : ∀ x ∈ p2, x.block < W.heap.size := by obtain ⟨m, hm⟩ := k2; exact DataW.trod_lt m _ _ _ hm
  obtain ⟨z2, w2, b2⟩ : ∃ zs, IsRow .u8 W a2 len2 cap2 zs ∧ len2 ≤ Rows.uptoBulk d2 := by
    obtain ⟨fuel, hf⟩ := h2
    rcases open_ints Try.underlying25 Try.underlying5 (by kernel_rfl) hf with ⟨hcs, hx⟩ | ⟨x, l, c, zs, hcs, _, hl, hm, hz, hx, hcell, hwz⟩
    · simp [Value.cells] at hcs
      obtain ⟨rfl, rfl, rfl⟩ := hcs
      exact ⟨[], .inl ⟨rfl, rfl, rfl, rfl⟩, Nat.zero_le _⟩
    · simp [Value.cells] at hcs
      obtain ⟨rfl, rfl, rfl⟩ := hcs
      exact ⟨zs, .inr ⟨_, rfl, hl, hm, by simpa using hz, hcell, hwz⟩, bulks.ints_le (congrArg Prod.fst hx) (by simp at hz; omega)⟩
  clear hA0 hval0
  simp only [List.append_nil] at hW' hk
  refine (walk W a0 w0 a1 len1 cap1 z1 w1 (Nat.le_trans b1 (Nat.le_trans (bulks.part_le (l := [.lit (.int .u8 a0), d1, d2]) (by simp)) (bulks.bound hk))) a2 len2 cap2 z2 w2 (Nat.le_trans b2 (Nat.le_trans (bulks.part_le (l := [.lit (.int .u8 a0), d1, d2]) (by simp)) (bulks.bound hk)))).mono fun e W' ⟨he, bel⟩ => ?_
  subst he
  exact ⟨_, rfl, _, _, _, [], _, [], hW', trodAll_mk1 (shut_bool Try.underlying4 _), (trodAll_cons_mk (shut_int Try.underlying5 w0) (trodAll_cons_mk (Below.trod laidOut (by kernel_rfl) (of_decide_eq_true (by kernel_rfl)) k1 bel lt1) (trodAll_cons_mk (Below.trod laidOut (by kernel_rfl) (of_decide_eq_true (by kernel_rfl)) k2 bel lt2) trodAll_mk0))), rfl, bel.frame _, fun h => by cases h⟩

theorem over : Rows.packSealsUptoRow.holds Try.pinned (Rows.OpenSpec.upto Rows.packSealsSpec) :=
  OpenClaim.holds_of_cond 7 Try.f7 rfl rfl rfl rfl rfl rfl rfl ⟨rfl, rfl, rfl, rfl, rfl⟩ rfl rfl rfl rfl rfl (by kernel_rfl) Try.func7 (by kernel_rfl)
    (of_decide_eq_true (by kernel_rfl)) (by unfold Func.isWrapper; first | (rw [if_pos (by decide +kernel)]; kernel_rfl) | (rw [if_neg (by decide +kernel)]; exact ⟨rfl, rfl⟩))
    (fun os started H enc _ F => lifted os started H enc F)

/-- The statement. -/
theorem proved : Rows.PackSealsUptoSaid := over
#print axioms proved
end Go.Proofs.Ythfmfcgjcilagaa.packSeals
