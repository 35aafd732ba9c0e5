/- AchoWalks: byte by byte, over any cut of a text, the literals are found that are found in one go. No condition. -/
import Derived.Test.YtameecogopnkjaaRows
import Derived.WalkKit
import Derived.ProofKit
import Derived.OpenShut
import Derived.ShutString
import Derived.ChangeOld
import Derived.Below
import Derived.Test.YtameecogopnkjaaMem

import Derived.Test.YtameecogopnkjaaASpeak
import Derived.Test.YtameecogopnkjaaAOpen
import Derived.BigQuiet
import Derived.Deep.QuietTactic
namespace Go.Proofs.Ytameecogopnkjaa.achoWalks
open Go.ChangeShapes Go.WideShapes Go.ChangeAt Go.RowKit
open Go.ChangeMaps (open_string shut_string)
open Go.Proofs.Ytameecogopnkjaa.B
open Go.Proofs.Ytameecogopnkjaa.AW
set_option linter.unusedVariables false

theorem own : ownKnob Try.prog.godebug = none := by kernel_rfl
theorem laidOut : laidOutB Try.prog = true := by kernel_rfl


set_option maxRecDepth 10000 in
set_option maxHeartbeats 1000000 in
theorem walk (w : World) (a0 : Option Addr) (len0 cap0 : Nat) (Ls0 : List AM.T) (w0 : AW.Texts w w.heap.size a0 len0 cap0 Ls0) (a1 : Option Addr) (len1 cap1 : Nat) (z1 : List Int) (w1 : IsRow .u8 w a1 len1 cap1 z1) :
    Calls Try.prog 6 #[.slice a0 len0 cap0, .slice a1 len1 cap1] w fun e w' => e = .returned (.bool true) ∧ Below w.heap.size w w' := by
  obtain ⟨i0, hi0, hz0, hz1, hz2⟩ := info_parts info_hit
  obtain ⟨t, ht⟩ := rd_of_row w1
  have HT := hide w0
  have HR := hide ht
  clear w0 w1 ht
  go_enter Try.func6, Try.ntmps6
  go_wp2_with fail
  refine (speaks_any _).mono ?_
  rintro e u1 ⟨rfl, b1⟩
  have HT1 := hide (HT.out.over b1)
  have HR1 := hide (HR.out.over b1)
  have HB := hide b1
  clear b1 HT HR
  go_wp2_with fail
  refine (great_any HT1.out).mono ?_
  rintro e u2 ⟨b, rfl, rfl, hgr⟩
  have HGR := hide hgr
  clear hgr
  cases b
  · by_cases hbig : 300 < len1
    · have hbi : (300 : Int) < (len1 : Int) := by omega
      go_wp2_with fail
      go_ret
      exact ⟨rfl, HB.out⟩
    · have hN := new_any HT1.out
      have HN := hide hN
      clear hN
      go_wp2_with fail
      refine HN.out.mono ?_
      rintro e u5 (⟨hc, rfl, rfl⟩ | ⟨hc, g, ns, ad, cn, rfl, hM, hG, hnl⟩)
      · obtain ⟨N, hcn⟩ : ∃ N, checkNo Ls0 = N := ⟨_, rfl⟩
        rw [hcn] at hc ⊢
        have hci : ((N : Int) == 0) = false := beq_eq_false_iff_ne.2 (by omega)
        have hcj : ((N : Int) != 0) = true := by rw [bne, hci]; rfl
        clear HN hcn
        go_wp2_with fail
        go_ret
        exact ⟨rfl, HB.out⟩
      · have HM := hide hM
        have HG := hide hG
        have HCK := hide (checkNo_0 hc)
        clear hM hG hc HN HGR
        go_wp2_with fail
        go_loopw [7, 8, 34] (fun sv ov iv wr => ∃ (i s : Nat) (nd : AM.Nd) (Ao : Option Addr) (co : Nat), iv = .int .i64 i ∧ i ≤ len1 ∧ sv = .int .i64 s ∧ ns[s]? = some nd ∧ nd.pre = AM.step Ls0 (t.take i) ∧ ov = .slice Ao (scanTo Ls0 t i).length co ∧ wr.ownsRow u5.heap.size 41 2 (.slice Ao (scanTo Ls0 t i).length co) (scanTo Ls0 t i).length (hitCells (scanTo Ls0 t i)) ∧ Below u5.heap.size u5 wr) (fun _ _ iv _ => len1 - (intOf iv).toNat)
        case atStart =>
          obtain ⟨r, hr, hrp⟩ := HG.out.root
          exact ⟨0, 0, r, _, 0, rfl, by omega, rfl, hr, hrp, rfl, own_none u5 _ 2, (Below.refl _ _).alloc (Nat.le_refl _) _⟩
        case round =>
          obtain ⟨i, s, nd, Ao, co, rfl, hi, rfl, hs, hpre, rfl, hown, hbel⟩ := hrel
          have HO := hide hown
          have HB5 := hide hbel
          clear hown hbel
          have hid := HCK.out.1
          by_cases hlt : i < len1
          · have hR5 := HR1.out.below (HM.out.below.trans (HB5.out.mono HM.out.below.size))
            obtain ⟨al, rfl, _, hcl⟩ := hR5.byte (i := i) hlt
            have hl := hR5.length8
            have htk : t.take (i + 1) = t.take i ++ [t.getD i 0] := by
              rw [List.take_succ_eq_append_getElem (by omega), List.getD_eq_getElem?_getD, List.getElem?_eq_getElem (by omega)]; rfl
            have hcl' : wr.cell? (al.add i) = some (.int .u8 ((t.getD i 0).toNat : Int)) := hcl
            obtain ⟨b, hbb⟩ : ∃ b, t.getD i 0 = b := ⟨_, rfl⟩
            rw [hbb] at hcl' htk
            obtain ⟨s2, nd2, h1, h2, h3⟩ := HG.out.next s nd b hs
            have kst := step_in (HM.out.over HB5.out) hs b
            rw [h1] at kst
            have hp2 : nd2.pre = AM.step Ls0 (t.take (i + 1)) := by rw [h3, hpre, AM.step_step, htk]
            have hh2 : nd2.hits = AM.hits Ls0 (t.take (i + 1)) := by rw [HG.out.hits s2 nd2 h2, hp2, AM.hits_step]
            have hhl := hits_len Ls0 (t.take (i + 1))
            rw [← hh2] at hhl
            have hsn := scanTo_succ Ls0 t i
            rw [found, ← hh2] at hsn
            have hsl2 := scanTo_len Ls0 t i (by omega)
            have hpl : nd2.pre.length ≤ 100000 := by
              have := (AM.step_suffix Ls0 (t.take (i + 1))).length_le
              rw [← hp2, List.length_take] at this
              omega
            have hsuf : nd2.pre.isSuffixOf (t.take (i + 1)) = true := by rw [List.isSuffixOf_iff_suffix, hp2]; exact AM.step_suffix _ _
            have HX := hide (show _ ∧ _ ∧ _ from ⟨h2, hp2, hsn⟩)
            have HKS := hide kst
            have HR5 := hide hR5
            have e1 : IntKind.i64.wrap ((i : Int) + 1) = (i : Int) + 1 := IntWalk.i64_in _ (by omega)
            clear hR5 hs hpre hbb hcl htk h1 h2 h3 kst hp2 hsn hl hh2
            go_wp2_with fail
            refine HKS.out.mono ?_
            rintro e w2 ⟨rfl, rfl⟩
            clear HKS
            have hkp := prefix_in (HM.out.over HB5.out) HX.out.1 hpl
            have HKP := hide hkp
            have HSF := hide hsuf
            have hic : (i : Int) + 1 ≤ (cap1 : Int) := by have := HR5.out.cap; omega
            have hcm : cap1 ≤ 9223372036854775807 := HR5.out.max
            have kR : Hid (∀ w', Below wr.heap.size wr w' → Rd w' w'.heap.size 1 (some al) (i + 1) cap1 (u8s (t.take (i + 1)))) := hide (fun w' h => by
              have h1 := HB5.out.size
              have h2 := HM.out.below.size
              have h3 := h.size
              exact ((HR5.out.head8 (j := i + 1) (by omega)).below (h.mono (by omega))).more (by omega))
            clear hkp hsuf
            go_upto_region 13 with fail
            go_cut [51] (fun s wx => s = .bool false ∧ Below wr.heap.size wr wx)
            case first =>
              go_region_with (first
                | (go_at_call 19; refine (prefix_in ((HM.out.over HB5.out).over (bdrewN wr 1)) HX.out.1 hpl).mono ?_; rintro e w6 ⟨A6, c6, rfl, ho6, hb6⟩; have H6 := hide (show _ ∧ Below wr.heap.size wr w6 from ⟨ho6, (bdrewN wr 1).trans hb6⟩); clear ho6 hb6)
                | (go_at_call 26; refine (ends_any (kR.out _ H6.out.2) (Rd.of_own H6.out.1)).mono ?_; rintro e w7 ⟨rfl, hd7⟩; have HD7 := hide hd7; clear hd7))
              all_goals
                rw [HSF.out]
                go_wp2_with fail
                go_meet
                exact ⟨rfl, H6.out.2.trans (HD7.out.below.mono H6.out.2.size)⟩
            case rest =>
              obtain ⟨rfl, hbc⟩ := hcut
              have hmc := (HM.out.over HB5.out).over hbc
              have hhi := hits_in hmc HX.out.1 (by omega)
              have HHI := hide hhi
              have HO2 := hide (own_over HO.out hbc)
              have HB2 := hide (HB5.out.trans (hbc.mono HB5.out.size))
              clear hmc hhi hbc HKP HSF kR HO HB5 HR5 hcl'
              go_wp2_with fail
              refine HHI.out.mono ?_
              rintro e w6 ⟨A6, c6, rfl, ho6, hb6⟩
              have HO3 := hide (show _ ∧ _ from ⟨ho6, own_over HO2.out hb6⟩)
              have HB3 := hide (HB2.out.trans (hb6.mono HB2.out.size))
              clear HO2 HB2 HHI ho6 hb6
              obtain ⟨hs, hhs⟩ : ∃ hs, nd2.hits = hs := ⟨_, rfl⟩
              rw [hhs] at HX HO3 hhl ⊢
              clear hhs
              go_wp2_with fail
              go_loopw [8, 56] (fun ov kv wl => ∃ (k : Nat) (out : List (Nat × Nat)) (Ao : Option Addr) (co : Nat), k ≤ hs.length ∧ kv = .int .i64 k ∧ out = scanTo Ls0 t i ++ (hs.take k).map (fun h => (h, i + 1)) ∧ ov = .slice Ao out.length co ∧ wl.ownsRow u5.heap.size 41 2 (.slice Ao out.length co) out.length (hitCells out) ∧ Below u5.heap.size u5 wl ∧ wl.ownsRow wc.heap.size 3 1 (.slice A6 hs.length c6) hs.length (ints hs)) (fun _ kv _ => hs.length - (intOf kv).toNat)
              case atStart => exact ⟨0, _, Ao, co, by omega, rfl, by simp, rfl, HO3.out.2, HB3.out, HO3.out.1⟩
              case round =>
                clear HO3 HB3
                obtain ⟨k, out, Ao', co', hk, rfl, hout, rfl, hown, hbel, hoh⟩ := hrel
                have hol : out.length ≤ i * 300 + k := by
                  rw [hout, List.length_append, List.length_map, List.length_take]; omega
                have HO := hide hown
                have HB5 := hide hbel
                have HOut := hide hout
                clear hown hbel hout
                by_cases hkl : k < hs.length
                · obtain ⟨ah, rfl⟩ := own_some hoh (by omega)
                  obtain ⟨x, hx⟩ : ∃ x, hs[k]? = some x := ⟨_, List.getElem?_eq_getElem hkl⟩
                  obtain ⟨hck, _⟩ := own_cell hoh k (.int .i64 (x : Int)) (by rw [ints, List.getElem?_map, hx]; rfl)
                  have htj : (hs.take (k + 1)).map (fun h => (h, i + 1)) = (hs.take k).map (fun h => (h, i + 1)) ++ [(x, i + 1)] := by
                    obtain ⟨hj2, e⟩ := List.getElem?_eq_some_iff.1 hx
                    rw [List.take_succ_eq_append_getElem hj2, e, List.map_append]; rfl
                  have e2 : IntKind.i64.wrap ((k : Int) + 1) = (k : Int) + 1 := IntWalk.i64_in _ (by omega)
                  obtain ⟨out', ho', hol'⟩ : ∃ out', out ++ [(x, i + 1)] = out' ∧ out.length + 1 = out'.length := ⟨_, rfl, by simp⟩
                  have HT2 := hide (show _ ∧ _ from ⟨htj, ho'⟩)
                  have HOH := hide hoh
                  have hsz := HB5.out.size
                  clear hoh hx htj ho'
                  go_wp2_with (at_builtin; refine wpList_append_rd _ rfl (.tmp 60) (.tmp 65) _ rfl u5.heap.size 41 i0 _ 2 16 Try.underlying34 hi0 hz0 hz1 hz2 rfl (by omega) (.slice Ao' out.length co') out.length (hitCells out) rfl (HO.out.alloc _) (wr.heap.size + 1) (some ⟨wr.heap.size, 0, none⟩) 1 1 [.int .i64 (x : Int), .int .i64 ((i : Int) + 1)] rfl (rd_two wr _ _ _) (by simp [Value.oneCell']) (by simp only [maxLen]; omega) (by omega) (by simp; omega) ?_; intro A4 c4 w4 hown4 hg4 hat4; have hb4 := (HB5.out.alloc hsz _).trans (below_grown (HO.out.alloc _) hg4 (Nat.le_refl _) (by simp; omega)); have H4 := hide (show _ ∧ _ ∧ _ from ⟨hown4, hb4, own_grown_other HO.out HOH.out hg4 (by decide)⟩); clear hown4 hg4 hat4 hb4)
                  go_roundw
                  case rel => exact ⟨k + 1, out', A4, c4, by omega, by go_num, by rw [← HT2.out.2, HOut.out, List.append_assoc, HT2.out.1], by rw [← hol'], by rw [← hol', ← HT2.out.2, hitCells_snoc]; exact H4.out.1, H4.out.2.1, H4.out.2.2⟩
                  case measure => simp [intOf]; omega
                · have hke : k = hs.length := by omega
                  subst hke
                  rw [List.take_length] at HOut
                  have hsn2 := HOut.out.trans HX.out.2.2.symm
                  subst hsn2
                  go_wp2_with fail
                  go_roundw
                  case rel => exact ⟨i + 1, s2, nd2, Ao', co', by go_num, by omega, rfl, HX.out.1, HX.out.2.1, rfl, HO.out, HB5.out⟩
                  case measure => simp [intOf]; omega
          · obtain rfl : len1 = i := by omega
            have hbw := HM.out.below.trans (HB5.out.mono HM.out.below.size)
            have hrt := (HR1.out.below hbw).more (B' := wr.heap.size) hbw.size
            have hlt2 := hrt.length8
            have hsc := scan_any (HM.out.over HB5.out) HG.out hrt (by omega) (by omega)
            have HSC := hide hsc
            clear hrt hsc hs hpre hlt2
            go_wp2_with fail
            refine HSC.out.mono ?_
            rintro e w6 ⟨A6, c6, rfl, ho6, hb6⟩
            have hsm := same_any (Rd.of_own (own_over HO.out hb6)) (Rd.of_own ho6)
            have HSM := hide hsm
            have HB6 := hide (hbw.trans (hb6.mono hbw.size))
            clear hsm hb6 ho6 HSC hbw
            go_wp2_with fail
            refine HSM.out.mono ?_
            rintro e w7 ⟨rfl, hd⟩
            have HB7 := hide (Bl HB.out (HB6.out.trans (hd.below.mono HB6.out.size)))
            clear hd HSM HB6
            go_wp2_with fail
            go_ret
            exact ⟨by first | rfl | simp, HB7.out⟩
  · go_wp2_with fail
    go_ret
    exact ⟨rfl, HB.out⟩

set_option maxRecDepth 100000 in
theorem lifted (os : Os) (started : os.Started) (H : Type) (enc : TypeId × Value → H) :
    ReturnsInHanded {} Try.checked os 6 .any (Rows.achoWalksSpec.pre6 enc Try.prog Try.f6 Rows.achoWalksRow.domain false) (Rows.achoWalksSpec.post enc Try.prog Try.f6 false true false false) := by
  refine returnsInHanded_of_change (C := Try.checked) own started (by kernel_rfl) Try.func6
    (ChangeSpec.witness6 (enc := enc) (C := Try.checked) false ⟨#[], #[.slice none 0 0, .slice none 0 0], []⟩ 8 (by kernel_rfl) (by kernel_rfl) (by kernel_rfl) (by kernel_rfl)) ?_
  intro W base args ds gs before hval0 hW hcnd _
  have hval : ∀ (j : Nat) t v, Try.f6.params[j]? = some t → args[j]? = some v → Value.okWide Try.prog W .any base t v := hval0
  have hW' := hW
  obtain ⟨p, q, hA0, hV, rfl, hfz, hnd⟩ := hW
  have hA : DataW.TrodAll enc Try.prog W 0 (fun _ => true) true Try.f6.params.toList args.toList ds p := hA0
  rw [Try.params6] at hA hval
  obtain ⟨v0, vs0, d0, ds0, p0, q0, hargs, rfl, rfl, h0, r0⟩ := trodAll_cons hA
  obtain ⟨v1, vs1, d1, ds1, p1, q1, rfl, rfl, rfl, h1, r1⟩ := trodAll_cons r0
  obtain ⟨rfl, rfl, rfl⟩ := trodAll_nil r1
  obtain rfl : args = #[v0, v1] := by cases args; simp_all
  obtain ⟨rfl, rfl⟩ := trodVars_none hV
  obtain ⟨a0, len0, cap0, rfl⟩ := okWide_slice Try.underlying22 (hval 0 22 v0 rfl rfl)
  have k0 := h0
  have lt0 : ∀ x ∈ p0, x.block < W.heap.size := by obtain ⟨m, hm⟩ := k0; exact DataW.trod_lt m _ _ _ hm
  obtain ⟨Ls0, w0, _⟩ : ∃ Ls, AW.Texts W W.heap.size a0 len0 cap0 Ls ∧ (Rows.uptoBulk d0 ≤ 1048576 → len0 ≤ 1048576 ∧ ∀ l ∈ Ls, l.length ≤ 1048576) := by
    obtain ⟨fuel, hf⟩ := k0
    exact AW.texts_of (by simpa [Value.cells] using hf)
  obtain ⟨a1, len1, cap1, rfl⟩ := okWide_slice Try.underlying23 (hval 1 23 v1 rfl rfl)
  have k1 := h1
  have lt1 : ∀ x ∈ p1, x.block < W.heap.size := by obtain ⟨m, hm⟩ := k1; exact DataW.trod_lt m _ _ _ hm
  obtain ⟨z1, w1⟩ : ∃ zs, IsRow .u8 W a1 len1 cap1 zs := by
    obtain ⟨fuel, hf⟩ := h1
    rcases open_ints Try.underlying23 Try.underlying5 (by kernel_rfl) hf with ⟨hcs, hx⟩ | ⟨x, l, c, zs, hcs, _, hl, hm, hz, hx, hcell, hwz⟩
    · simp [Value.cells] at hcs
      obtain ⟨rfl, rfl, rfl⟩ := hcs
      exact ⟨[], .inl ⟨rfl, rfl, rfl, rfl⟩⟩
    · simp [Value.cells] at hcs
      obtain ⟨rfl, rfl, rfl⟩ := hcs
      exact ⟨zs, .inr ⟨_, rfl, hl, hm, by simpa using hz, hcell, hwz⟩⟩
  clear hA0 hval0
  refine (walk W a0 len0 cap0 Ls0 w0 a1 len1 cap1 z1 w1).mono fun e W' ⟨he, bel⟩ => ?_
  subst he
  exact ⟨_, rfl, _, _, _, [], _, [], hW', trodAll_mk1 (shut_bool Try.underlying4 _), (trodAll_cons_mk (Below.trod laidOut (by kernel_rfl) (of_decide_eq_true (by kernel_rfl)) k0 bel lt0) (trodAll_cons_mk (Below.trod laidOut (by kernel_rfl) (of_decide_eq_true (by kernel_rfl)) k1 bel lt1) trodAll_mk0)), rfl, bel.frame _, fun h => by cases h⟩

theorem over : Rows.achoWalksRow.holds Try.pinned (OpenSpec.ofChange Rows.achoWalksSpec) :=
  OpenClaim.holds_of_wide 6 Try.f6 rfl rfl rfl rfl rfl rfl rfl ⟨rfl, rfl, rfl, rfl, rfl⟩ rfl rfl rfl rfl rfl (by kernel_rfl) Try.func6 (by kernel_rfl)
    (of_decide_eq_true (by kernel_rfl)) (by unfold Func.isWrapper; first | (rw [if_pos (by decide +kernel)]; kernel_rfl) | (rw [if_neg (by decide +kernel)]; exact ⟨rfl, rfl⟩))
    (fun os started H enc _ => lifted os started H enc)

/-- The statement. -/
theorem proved : Rows.AchoWalksSaid := over
#print axioms proved
end Go.Proofs.Ytameecogopnkjaa.achoWalks
