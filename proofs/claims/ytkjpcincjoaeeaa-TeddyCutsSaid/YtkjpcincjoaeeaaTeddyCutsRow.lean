/- TeddyCuts: a text cut at any place tells the same, in the same order, as in one piece. No condition. -/
import Derived.Test.YtkjpcincjoaeeaaRows
import Derived.WalkKit
import Derived.ProofKit
import Derived.OpenShut
import Derived.ShutString
import Derived.ChangeOld
import Derived.Below
import Derived.Test.YtkjpcincjoaeeaaMem

import Derived.Test.YtkjpcincjoaeeaaTSpeak
import Derived.Test.YtkjpcincjoaeeaaTCuts
import Derived.Test.YtkjpcincjoaeeaaAOpen
import Derived.BigQuiet
import Derived.Deep.QuietTactic
import Derived.Deep.RegionHeld3
namespace Go.Proofs.Ytkjpcincjoaeeaa.teddyCuts
open Go.ChangeShapes Go.WideShapes Go.ChangeAt Go.RowKit
open Go.ChangeMaps (open_string shut_string)
open Go.Proofs.Ytkjpcincjoaeeaa.B
open Go.Proofs.Ytkjpcincjoaeeaa.AW
open Go.Proofs.Ytkjpcincjoaeeaa.TM (feedOut)
open Go.Proofs.Ytkjpcincjoaeeaa.TW (speaks_any FNewIs fnew_any fscan_any Filt Strm SS St Hs feed_st step_append_st stream_any at_of cut_eq feed_nil mostOf)
open Go.Proofs.Ytkjpcincjoaeeaa.AM (Nd)
set_option linter.unusedVariables false

theorem own : ownKnob Try.prog.godebug = none := by kernel_rfl
theorem laidOut : laidOutB Try.prog = true := by kernel_rfl
def Gate (len1 : Nat) (Ls : List AM.T) (u : World) (s : Value) (wx : World) : Prop := ∃ b : Bool, s = .bool b ∧ u = wx ∧ (b = false → len1 ≤ 500 ∧ (checkNo Ls = 0 → gsum Ls ≤ 300))
theorem gate_true {len1 : Nat} {Ls : List AM.T} {u : World} : Gate len1 Ls u (.bool true) u := ⟨true, rfl, rfl, fun h => by cases h⟩
def FeedPost (wA : World) (g m : Nat) (p : AM.T) (out : List (Nat × Nat)) (w : World) (e : Ending) (w' : World) : Prop := ∃ A' c', e = .returned (.slice A' out.length c') ∧ SS wA w' ∧ St wA w' g m p ∧ Hs wA w' A' c' out ∧ Fr w w' (· = wA.heap.size)

set_option maxRecDepth 10000 in
set_option maxHeartbeats 2000000 in
theorem walk (w : World) (a0 : Option Addr) (len0 cap0 : Nat) (Ls0 : List AM.T) (w0 : AW.Texts w w.heap.size a0 len0 cap0 Ls0) (a1 : Option Addr) (len1 cap1 : Nat) (z1 : List Int) (w1 : IsRow .u8 w a1 len1 cap1 z1) (a2 : Int) (w2 : (Lit.int .i64 a2).wf = true) :
    Calls Try.prog 4 #[.slice a0 len0 cap0, .slice a1 len1 cap1, .int .i64 a2] w fun e w' => e = .returned (.bool true) ∧ Below w.heap.size w w' := by
  obtain ⟨t, ht⟩ := rd_of_row w1
  have htn := ht.length8
  have HTN := hide htn
  clear htn
  have HT := hide w0
  have HR := hide ht
  clear w0 w1 ht
  go_enter Try.func4, Try.ntmps4
  go_wp2_with fail
  refine (speaks_any _).mono ?_
  rintro e u1 ⟨rfl, b1⟩
  have HT1 := hide (HT.out.over b1)
  have HR1 := hide (HR.out.over b1)
  have HB := hide b1
  clear b1 HT HR
  go_upto_region 3 with fail
  go_cut [20] (fun s wx => Gate len1 Ls0 u1 s wx)
  case first =>
    go_wp2_with fail
    refine (great_any HT1.out).mono ?_
    rintro e u2 ⟨g, rfl, rfl, hgr⟩
    have HGR := hide hgr
    clear hgr
    have fin : ∀ (h : checkNo Ls0 = 0 → gsum Ls0 ≤ 300), len1 ≤ 500 → Gate len1 Ls0 u1 (.bool false) u1 := fun h h1 => ⟨false, rfl, rfl, fun _ => ⟨h1, h⟩⟩
    have FIN := hide fin
    clear fin
    cases g
    · have HG : Hid (checkNo Ls0 = 0 → gsum Ls0 ≤ 300) := hide (fun h => (HGR.out rfl).elim id (fun ⟨l, h1, h2⟩ => absurd ((checkNo_0 h).2.2.1 l h1) (by omega)))
      by_cases c1 : 500 < len1
      · have c1i : (500 : Int) < (len1 : Int) := by omega
        go_wp2_with fail
        go_meet
        exact gate_true
      · have c1i : decide ((500 : Int) < (len1 : Int)) = false := decide_eq_false (by omega)
        go_wp2_with fail
        go_meet
        exact FIN.out HG.out (by omega)
    · go_wp2_with fail
      go_meet
      exact gate_true
  case rest =>
    obtain ⟨b, rfl, rfl, hb⟩ := hcut
    cases b
    · obtain ⟨hl1, hg⟩ := hb rfl
      have HG := hide hg
      have HN := hide (fnew_any HT1.out)
      obtain ⟨k, hk, hkl⟩ := at_of a2 len1
      have e1 : IntKind.i64.wrap ((len1 : Int) + 1) = (len1 : Int) + 1 := IntWalk.i64_in _ (by omega)
      have HCK := hide (check_any HT1.out)
      clear hg hb
      go_wp2_with fail
      refine HN.out.mono ?_
      rintro e u5 (⟨hc, rfl, rfl⟩ | ⟨hc, g, AL, cL, vs, bs, lo, hi, rfl, hF⟩)
      · have HC := hide hc
        clear HN hc
        go_wp2_with fail
        refine HCK.out.mono ?_
        rintro e u6 ⟨rfl, rfl⟩
        have hne : ((checkNo Ls0 : Int) == 0) = false := beq_eq_false_iff_ne.2 (by have := HC.out; omega)
        go_wp2_with fail
        go_ret
        exact ⟨by simp [HC.out], HB.out⟩
      · have HC := hide hc
        have HF := hide hF
        clear HN hc hF HCK
        have hl1i : ¬ ((len1 : Int) + 1 = 0) := by omega
        go_wp2_with fail
        refine (stream_any (m := mostOf Ls0)).mono ?_
        rintro e w6 ⟨rfl, hS, hb6⟩
        have HSS : Hid (SS u5 w6) := hide ⟨hb6, hS.blk.lt⟩
        have HST : Hid (St u5 w6 g (mostOf Ls0) []) := hide ⟨_, _, hS⟩
        have hcs := checkNo_0 HC.out
        have hgs := HG.out HC.out
        have hll : Ls0.length ≤ 300 := by omega
        have hR5 := HR1.out.over HF.out.below
        have htl := HTN.out
        have hk1 := hR5.head8 hkl
        have hk2 := hR5.tail8 hkl
        have hcp := hR5.cap
        have hlt : (t.take k).length = k := by rw [List.length_take]; omega
        have hce := cut_eq Ls0 (t.take k) (t.drop k)
        rw [List.take_append_drop] at hce
        have hlm : ∀ l ∈ Ls0, l.length ≤ 200 := hcs.2.2.1
        rw [Nat.mul_one] at hk2
        obtain ⟨A2, hA2⟩ : ∃ A2, (if cap1 = k then a1 else a1.map (·.add k)) = A2 := ⟨_, rfl⟩
        rw [hA2] at hk2
        have HFD1 : Hid (∀ w', SS u5 w' → St u5 w' g (mostOf Ls0) [] → Calls Try.prog 12 #[.pointer (some ⟨u5.heap.size, 0, none⟩), .slice a1 k cap1] w' (FeedPost u5 g (mostOf Ls0) (t.take k) (feedOut Ls0 [] (t.take k)) w')) :=
          hide fun w' h1 h2 => feed_st (p := []) HF.out h1 h2 hk1 hll hlm hcs.2.1 (by simp) (by omega)
        have HFD2 : Hid (∀ w', SS u5 w' → St u5 w' g (mostOf Ls0) (t.take k) → Calls Try.prog 12 #[.pointer (some ⟨u5.heap.size, 0, none⟩), .slice A2 (len1 - k) (cap1 - k)] w' (FeedPost u5 g (mostOf Ls0) t (feedOut Ls0 (t.take k) (t.drop k)) w')) :=
          hide fun w' h1 h2 => by
            have h3 := feed_st (p := t.take k) HF.out h1 h2 hk2 hll hlm hcs.2.1 (by omega) (by omega)
            rw [List.take_append_drop] at h3
            exact h3
        have HFD3 : Hid (∀ w', SS u5 w' → St u5 w' g (mostOf Ls0) t → Calls Try.prog 12 #[.pointer (some ⟨u5.heap.size, 0, none⟩), .slice none 0 0] w' (FeedPost u5 g (mostOf Ls0) t [] w')) :=
          hide fun w' h1 h2 => by
            have h3 := feed_st (p := t) (x := []) HF.out h1 h2 Rd.none_ hll hlm hcs.2.1 (by omega) (by omega)
            rw [List.append_nil, feed_nil] at h3
            exact h3
        have HFS : Hid (∀ w', SS u5 w' → Calls Try.prog 17 #[.pointer (some ⟨g, 0, none⟩), .slice a1 len1 cap1] w' (NewHits w' (scanTo Ls0 t t.length))) := hide fun w' h1 => by
          have hr := hR5.over h1.1
          rw [← htl] at hr
          have h9 := fscan_any (HF.out.over h1.1) hr hll (by rw [htl]; omega) (fun l h => Nat.le_trans (hlm l h) (by omega)) hcs.2.1
          rw [htl] at h9 ⊢
          exact h9
        have hso := AW.scanTo_len Ls0 t t.length hll
        have hsum : (feedOut Ls0 [] (t.take k)).length + (feedOut Ls0 (t.take k) (t.drop k)).length = (scanTo Ls0 t t.length).length := by rw [← hce, List.length_append]
        have hs9 : (feedOut Ls0 [] (t.take k)).length + (feedOut Ls0 (t.take k) (t.drop k)).length ≤ 1000000000 := by rw [hsum]; omega
        have HS9 := hide hs9
        have HCE := hide hce
        have HB5 := hide (Bl HB.out HF.out.below)
        clear hS hb6 hcs hgs hR5 hk1 hk2 hlt hlm hce hsum hs9 HF HT1 HR1 HB hso
        go_upto_region 12 with fail
        go_cut [11] (fun s wx => ∃ A c, s = .slice A (scanTo Ls0 t t.length).length c ∧ SS u5 wx ∧ St u5 wx g (mostOf Ls0) t ∧ Hs u5 wx A c (scanTo Ls0 t t.length))
        case first =>
          have hki : (k : Int) ≤ (cap1 : Int) := by omega
          have hki2 : (k : Int) ≤ (len1 : Int) := by omega

          by_cases hck : cap1 = k
          · obtain rfl := hck.symm
            rw [if_pos rfl] at hA2
            subst hA2
            have hz0 : len1 - k = 0 := by omega
            rw [Nat.sub_self, hz0] at HFD2
            clear hz0
            go_region_held3 (fun w' => SS u5 w') (first | exact HSS.out | exact HSS.out.drew | exact SS.alloc (by assumption) _ | exact H7.out.1 | exact H8.out.1 | exact H9.out.1 | exact H10.out.1)
              (first
                | (have hr1 := (Hs.none HSS.out.drew).feed H7.out.2.2.2; have hss := H7.out.1; have hr2 := H7.out.2.2.1; refine step_append_st (wA := u5) (g := g) (m := mostOf Ls0) ?_ (.tmp 41) (.tmp 46) ?_ hss [] (feedOut Ls0 [] (t.take k)) ?_ hr1 ?_ hr2 ?_ ?_; (· rfl); (· rfl); (· rfl); (· rfl); (· simp only [List.length_nil]; have := HS9.out; omega); intro A8 c8 w8 h81 h82 h83; have H8 := hide (show _ ∧ _ ∧ _ from ⟨h81, h82, h83⟩); clear h81 h82 h83 hr1 hss hr2)
                | (have hr1 := Hs.none H7.out.1; have hss := H7.out.1.alloc (.cells #[] 51); have hr2 := H7.out.2.2.1.alloc (.cells #[] 51); refine step_append_st (wA := u5) (g := g) (m := mostOf Ls0) ?_ (.tmp 41) (.tmp 46) ?_ hss [] (feedOut Ls0 [] (t.take k)) ?_ hr1 ?_ hr2 ?_ ?_; (· rfl); (· rfl); (· rfl); (· rfl); (· simp only [List.length_nil]; have := HS9.out; omega); intro A8 c8 w8 h81 h82 h83; have H8 := hide (show _ ∧ _ ∧ _ from ⟨h81, h82, h83⟩); clear h81 h82 h83 hr1 hss hr2)
                | (have hr1 := H8.out.2.1.feed H9.out.2.2.2; have hss := H9.out.1; have hr2 := H9.out.2.2.1; refine step_append_st (wA := u5) (g := g) (m := mostOf Ls0) ?_ (.tmp 47) (.tmp 52) ?_ hss ([] ++ feedOut Ls0 [] (t.take k)) (feedOut Ls0 (t.take k) (t.drop k)) ?_ hr1 ?_ hr2 ?_ ?_; (· rfl); (· rfl); (· rfl); (· rfl); (· exact HS9.out); intro A10 c10 w10 h101 h102 h103; have H10 := hide (show _ ∧ _ ∧ _ from ⟨h101, h102, h103⟩); clear h101 h102 h103 hr1 hss hr2)
                | (go_at_call 12; have hst7 := H7.out.2.1; (first | (have hst8 := H8.out.2.2; have hz := HFD2.out _ (by assumption) (by first | exact hst8 _ hst7 | exact hst8 _ (hst7.alloc _)); refine hz.mono ?_; clear hz hst8) | (have hz := HFD2.out _ (by assumption) (by first | exact hst7 | exact hst7.alloc _); refine hz.mono ?_; clear hz)); clear hst7; rintro e w9 ⟨A9, c9, rfl, h91, h92, h93, h94⟩; have H9 := hide (show _ ∧ _ ∧ _ ∧ _ from ⟨h91, h92, h93, h94⟩); clear h91 h92 h93 h94)
                | (go_at_call 12; have hz := HFD1.out _ (by assumption) (by first | exact HST.out.drew.alloc _ | exact HST.out.drew); refine hz.mono ?_; clear hz; rintro e w7 ⟨A7, c7, rfl, h71, h72, h73, h74⟩; have H7 := hide (show _ ∧ _ ∧ _ ∧ _ from ⟨h71, h72, h73, h74⟩); clear h71 h72 h73 h74))
            all_goals
              go_wp2_with fail
              go_meet
              have h9 := H10.out.2.1
              rw [List.nil_append, HCE.out] at h9
              exact ⟨_, _, by first | rfl | rw [← HCE.out, List.length_append] | (rw [← HCE.out, List.length_append]; simp), H10.out.1, H10.out.2.2 _ H9.out.2.1, h9⟩
          · rw [if_neg hck] at hA2
            subst hA2
            have hcki : ((cap1 : Int) == (k : Int)) = false := beq_eq_false_iff_ne.2 (by omega)
            go_region_held3 (fun w' => SS u5 w') (first | exact HSS.out | exact HSS.out.drew | exact SS.alloc (by assumption) _ | exact H7.out.1 | exact H8.out.1 | exact H9.out.1 | exact H10.out.1)
              (first
                | (have hr1 := (Hs.none HSS.out.drew).feed H7.out.2.2.2; have hss := H7.out.1; have hr2 := H7.out.2.2.1; refine step_append_st (wA := u5) (g := g) (m := mostOf Ls0) ?_ (.tmp 41) (.tmp 46) ?_ hss [] (feedOut Ls0 [] (t.take k)) ?_ hr1 ?_ hr2 ?_ ?_; (· rfl); (· rfl); (· rfl); (· rfl); (· simp only [List.length_nil]; have := HS9.out; omega); intro A8 c8 w8 h81 h82 h83; have H8 := hide (show _ ∧ _ ∧ _ from ⟨h81, h82, h83⟩); clear h81 h82 h83 hr1 hss hr2)
                | (have hr1 := Hs.none H7.out.1; have hss := H7.out.1.alloc (.cells #[] 51); have hr2 := H7.out.2.2.1.alloc (.cells #[] 51); refine step_append_st (wA := u5) (g := g) (m := mostOf Ls0) ?_ (.tmp 41) (.tmp 46) ?_ hss [] (feedOut Ls0 [] (t.take k)) ?_ hr1 ?_ hr2 ?_ ?_; (· rfl); (· rfl); (· rfl); (· rfl); (· simp only [List.length_nil]; have := HS9.out; omega); intro A8 c8 w8 h81 h82 h83; have H8 := hide (show _ ∧ _ ∧ _ from ⟨h81, h82, h83⟩); clear h81 h82 h83 hr1 hss hr2)
                | (have hr1 := H8.out.2.1.feed H9.out.2.2.2; have hss := H9.out.1; have hr2 := H9.out.2.2.1; refine step_append_st (wA := u5) (g := g) (m := mostOf Ls0) ?_ (.tmp 47) (.tmp 52) ?_ hss ([] ++ feedOut Ls0 [] (t.take k)) (feedOut Ls0 (t.take k) (t.drop k)) ?_ hr1 ?_ hr2 ?_ ?_; (· rfl); (· rfl); (· rfl); (· rfl); (· exact HS9.out); intro A10 c10 w10 h101 h102 h103; have H10 := hide (show _ ∧ _ ∧ _ from ⟨h101, h102, h103⟩); clear h101 h102 h103 hr1 hss hr2)
                | (go_at_call 12; have hst7 := H7.out.2.1; (first | (have hst8 := H8.out.2.2; have hz := HFD2.out _ (by assumption) (by first | exact hst8 _ hst7 | exact hst8 _ (hst7.alloc _)); refine hz.mono ?_; clear hz hst8) | (have hz := HFD2.out _ (by assumption) (by first | exact hst7 | exact hst7.alloc _); refine hz.mono ?_; clear hz)); clear hst7; rintro e w9 ⟨A9, c9, rfl, h91, h92, h93, h94⟩; have H9 := hide (show _ ∧ _ ∧ _ ∧ _ from ⟨h91, h92, h93, h94⟩); clear h91 h92 h93 h94)
                | (go_at_call 12; have hz := HFD1.out _ (by assumption) (by first | exact HST.out.drew.alloc _ | exact HST.out.drew); refine hz.mono ?_; clear hz; rintro e w7 ⟨A7, c7, rfl, h71, h72, h73, h74⟩; have H7 := hide (show _ ∧ _ ∧ _ ∧ _ from ⟨h71, h72, h73, h74⟩); clear h71 h72 h73 h74))
            all_goals
              go_wp2_with fail
              go_meet
              have h9 := H10.out.2.1
              rw [List.nil_append, HCE.out] at h9
              exact ⟨_, _, by first | rfl | rw [← HCE.out, List.length_append] | (rw [← HCE.out, List.length_append]; simp), H10.out.1, H10.out.2.2 _ H9.out.2.1, h9⟩
        case rest =>
          obtain ⟨w7, rfl⟩ : ∃ w7, w7 = wc := ⟨_, rfl⟩
          obtain ⟨A, c, rfl, hss, hst, hhs⟩ := hcut
          have HSC := hide (HFS.out _ hss)
          have H7 := hide (show _ ∧ _ ∧ _ from ⟨hss, hst, hhs⟩)
          clear hss hst hhs htl HFS HFD1 HFD2 HSS HST HS9
          go_wp2_with fail
          refine HSC.out.mono ?_
          rintro e w8 ⟨A8, c8, rfl, ho8, hb8⟩
          have hsm := same_any (Rd.of_own (own_over H7.out.2.2 hb8)) (Rd.of_own ho8)
          rw [decide_eq_true rfl] at hsm
          have HSM := hide hsm
          have H8 := hide (show _ ∧ _ from ⟨H7.out.1.over hb8, H7.out.2.1.over hb8⟩)
          clear hsm ho8 hb8 HSC H7
          go_wp2_with fail
          refine HSM.out.mono ?_
          rintro e w9 ⟨rfl, hd⟩
          have HFD := hide (HFD3.out _ (H8.out.1.over hd.below) (H8.out.2.over hd.below))
          clear hd HSM H8
          go_wp2_with fail
          refine HFD.out.mono ?_
          rintro e w10 ⟨A10, c10, rfl, h1, h2, h3, h4⟩
          have HE := hide (Bl HB5.out h1.1)
          clear h1 h2 h3 h4
          go_wp2_with fail
          go_ret
          exact ⟨by first | rfl | simp, HE.out⟩
    · go_wp2_with fail
      go_ret
      exact ⟨rfl, HB.out⟩

set_option maxRecDepth 100000 in
theorem lifted (os : Os) (started : os.Started) (H : Type) (enc : TypeId × Value → H) :
    ReturnsInHanded {} Try.checked os 4 .any (Rows.teddyCutsSpec.pre6 enc Try.prog Try.f4 Rows.teddyCutsRow.domain false) (Rows.teddyCutsSpec.post enc Try.prog Try.f4 false true false false) := by
  refine returnsInHanded_of_change (C := Try.checked) own started (by kernel_rfl) Try.func4
    (ChangeSpec.witness6 (enc := enc) (C := Try.checked) false ⟨#[], #[.slice none 0 0, .slice none 0 0, .int .i64 0], []⟩ 8 (by kernel_rfl) (by kernel_rfl) (by kernel_rfl) (by kernel_rfl)) ?_
  intro W base args ds gs before hval0 hW hcnd _
  have hval : ∀ (j : Nat) t v, Try.f4.params[j]? = some t → args[j]? = some v → Value.okWide Try.prog W .any base t v := hval0
  have hW' := hW
  obtain ⟨p, q, hA0, hV, rfl, hfz, hnd⟩ := hW
  have hA : DataW.TrodAll enc Try.prog W 0 (fun _ => true) true Try.f4.params.toList args.toList ds p := hA0
  rw [Try.params4] at hA hval
  obtain ⟨v0, vs0, d0, ds0, p0, q0, hargs, rfl, rfl, h0, r0⟩ := trodAll_cons hA
  obtain ⟨v1, vs1, d1, ds1, p1, q1, rfl, rfl, rfl, h1, r1⟩ := trodAll_cons r0
  obtain ⟨v2, vs2, d2, ds2, p2, q2, rfl, rfl, rfl, h2, r2⟩ := trodAll_cons r1
  obtain ⟨rfl, rfl, rfl⟩ := trodAll_nil r2
  obtain rfl : args = #[v0, v1, v2] := by cases args; simp_all
  obtain ⟨rfl, rfl⟩ := trodVars_none hV
  obtain ⟨a0, len0, cap0, rfl⟩ := okWide_slice Try.underlying22 (hval 0 22 v0 rfl rfl)
  have k0 := h0
  have lt0 : ∀ x ∈ p0, x.block < W.heap.size := by obtain ⟨m, hm⟩ := k0; exact DataW.trod_lt m _ _ _ hm
  obtain ⟨Ls0, w0, _⟩ : ∃ Ls, AW.Texts W W.heap.size a0 len0 cap0 Ls ∧ (Rows.uptoBulk d0 ≤ 1048576 → len0 ≤ 1048576 ∧ ∀ l ∈ Ls, l.length ≤ 1048576) := by
    obtain ⟨fuel, hf⟩ := k0
    exact AW.texts_of (by simpa [Value.cells] using hf)
  obtain ⟨a1, len1, cap1, rfl⟩ := okWide_slice Try.underlying32 (hval 1 32 v1 rfl rfl)
  have k1 := h1
  have lt1 : ∀ x ∈ p1, x.block < W.heap.size := by obtain ⟨m, hm⟩ := k1; exact DataW.trod_lt m _ _ _ hm
  obtain ⟨z1, w1⟩ : ∃ zs, IsRow .u8 W a1 len1 cap1 zs := by
    obtain ⟨fuel, hf⟩ := h1
    rcases open_ints Try.underlying32 Try.underlying5 (by kernel_rfl) hf with ⟨hcs, hx⟩ | ⟨x, l, c, zs, hcs, _, hl, hm, hz, hx, hcell, hwz⟩
    · simp [Value.cells] at hcs
      obtain ⟨rfl, rfl, rfl⟩ := hcs
      exact ⟨[], .inl ⟨rfl, rfl, rfl, rfl⟩⟩
    · simp [Value.cells] at hcs
      obtain ⟨rfl, rfl, rfl⟩ := hcs
      exact ⟨zs, .inr ⟨_, rfl, hl, hm, by simpa using hz, hcell, hwz⟩⟩
  obtain ⟨a2, rfl, rfl, rfl, w2⟩ := open_int Try.underlying3 (hval 2 3 v2 rfl rfl) h2
  clear hA0 hval0
  refine (walk W a0 len0 cap0 Ls0 w0 a1 len1 cap1 z1 w1 a2 w2).mono fun e W' ⟨he, bel⟩ => ?_
  subst he
  exact ⟨_, rfl, _, _, _, [], _, [], hW', trodAll_mk1 (shut_bool Try.underlying4 _), (trodAll_cons_mk (Below.trod laidOut (by kernel_rfl) (of_decide_eq_true (by kernel_rfl)) k0 bel lt0) (trodAll_cons_mk (Below.trod laidOut (by kernel_rfl) (of_decide_eq_true (by kernel_rfl)) k1 bel lt1) (trodAll_cons_mk (shut_int Try.underlying3 w2) trodAll_mk0))), rfl, bel.frame _, fun h => by cases h⟩

theorem over : Rows.teddyCutsRow.holds Try.pinned (OpenSpec.ofChange Rows.teddyCutsSpec) :=
  OpenClaim.holds_of_wide 4 Try.f4 rfl rfl rfl rfl rfl rfl rfl ⟨rfl, rfl, rfl, rfl, rfl⟩ rfl rfl rfl rfl rfl (by kernel_rfl) Try.func4 (by kernel_rfl)
    (of_decide_eq_true (by kernel_rfl)) (by unfold Func.isWrapper; first | (rw [if_pos (by decide +kernel)]; kernel_rfl) | (rw [if_neg (by decide +kernel)]; exact ⟨rfl, rfl⟩))
    (fun os started H enc _ => lifted os started H enc)

/-- The statement. -/
theorem proved : Rows.TeddyCutsSaid := over
#print axioms proved
end Go.Proofs.Ytkjpcincjoaeeaa.teddyCuts
