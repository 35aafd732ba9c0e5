/- TeddyFinds: all literals in any text are found exactly, or the literals are refused; the places that pass the filter have all at which one begins. Condition: the arguments hold together at most 1048576 values and letters. -/
import Derived.Test.YtkjpcincjoaeeaaRows
import Derived.WalkKit
import Derived.ProofKit
import Derived.OpenShut
import Derived.ShutString
import Derived.ChangeOld
import Derived.Below
import Derived.Test.YtkjpcincjoaeeaaMem
import Derived.JoinedCond
import Derived.Test.YtkjpcincjoaeeaaBulk
import Derived.Test.YtkjpcincjoaeeaaTSpeak
import Derived.Test.YtkjpcincjoaeeaaTWrT
import Derived.Test.YtkjpcincjoaeeaaAOpen
import Derived.BigQuiet
import Derived.Deep.QuietTactic
namespace Go.Proofs.Ytkjpcincjoaeeaa.teddyFinds
open Go.ChangeShapes Go.WideShapes Go.ChangeAt Go.RowKit
open Go.ChangeMaps (open_string shut_string)
open Go.Proofs.Ytkjpcincjoaeeaa.B
open Go.Proofs.Ytkjpcincjoaeeaa.AW
open Go.Proofs.Ytkjpcincjoaeeaa.TW (speaks_any FNewIs fnew_any fscan_any maybe_any refFirst_any refBegins_any Filt Wr WrTexts filt_stays Places places NewInts maybeTo maybeTo_len)
open Go.Proofs.Ytkjpcincjoaeeaa.AM (Nd)
set_option linter.unusedVariables false

theorem own : ownKnob Try.prog.godebug = none := by kernel_rfl
theorem laidOut : laidOutB Try.prog = true := by kernel_rfl
def Gate (len0 len1 : Nat) (Ls : List AM.T) (u : World) (s : Value) (wx : World) : Prop := ∃ b : Bool, s = .bool b ∧ u = wx ∧ (b = false → len1 ≤ 100 ∧ len0 ≤ 1000 ∧ (checkNo Ls = 0 → gsum Ls ≤ 300))
theorem gate_true {len0 len1 : Nat} {Ls : List AM.T} {u : World} : Gate len0 len1 Ls u (.bool true) u := ⟨true, rfl, rfl, fun h => by cases h⟩
theorem check_ge (Ls : List AM.T) : (checkNo Ls = 0) ∨ (0 : Int) < (checkNo Ls : Int) := by omega

set_option maxRecDepth 10000 in
set_option maxHeartbeats 2000000 in
theorem walk (w : World) (a0 : Option Addr) (len0 cap0 : Nat) (Ls0 : List AM.T) (w0 : AW.Texts w w.heap.size a0 len0 cap0 Ls0) (s0 : len0 ≤ 1048576 ∧ ∀ l ∈ Ls0, l.length ≤ 1048576) (a1 : Option Addr) (len1 cap1 : Nat) (z1 : List Int) (w1 : IsRow .u8 w a1 len1 cap1 z1) (s1 : len1 ≤ 1048576) :
    Calls Try.prog 6 #[.slice a0 len0 cap0, .slice a1 len1 cap1] w fun e w' => e = .returned (.bool true) ∧ Below w.heap.size w w' := by
  obtain ⟨i0, hi0, hz0, hz1, hz2⟩ := info_parts info_u8
  obtain ⟨t, ht⟩ := rd_of_row w1
  obtain rfl := ht.length8
  have HT := hide w0
  have HR := hide ht
  have HS := hide s0
  have hcap1 := ht.cap
  have hmax1 : cap1 ≤ 9223372036854775807 := ht.max
  clear w0 w1 ht s0
  go_enter Try.func6, Try.ntmps6
  go_wp2_with fail
  refine (speaks_any _).mono ?_
  rintro e u1 ⟨rfl, b1⟩
  have HT1 := hide (HT.out.over b1)
  have HR1 := hide (HR.out.over b1)
  have HB := hide b1
  clear b1 HT HR
  go_upto_region 3 with fail
  go_cut [35] (fun s wx => Gate len0 t.length Ls0 u1 s wx)
  case first =>
    go_wp2_with fail
    refine (great_any HT1.out).mono ?_
    rintro e u2 ⟨g, rfl, rfl, hgr⟩
    have HGR := hide hgr
    clear hgr
    have fin : ∀ (h : checkNo Ls0 = 0 → gsum Ls0 ≤ 300), t.length ≤ 100 → len0 ≤ 1000 → Gate len0 t.length Ls0 u1 (.bool false) u1 := fun h h1 h2 => ⟨false, rfl, rfl, fun _ => ⟨h1, h2, h⟩⟩
    have FIN := hide fin
    clear fin
    cases g
    · have HG : Hid (checkNo Ls0 = 0 → gsum Ls0 ≤ 300) := hide (fun h => (HGR.out rfl).elim id (fun ⟨l, h1, h2⟩ => absurd ((checkNo_0 h).2.2.1 l h1) (by omega)))
      by_cases c1 : 100 < t.length
      · have c1i : (100 : Int) < (t.length : Int) := by omega
        go_wp2_with fail
        go_meet
        exact gate_true
      · have c1i : decide ((100 : Int) < (t.length : Int)) = false := decide_eq_false (by omega)
        by_cases c2 : 1000 < len0
        · have c2i : (1000 : Int) < (len0 : Int) := by omega
          go_wp2_with fail
          go_meet
          exact gate_true
        · have c2i : decide ((1000 : Int) < (len0 : Int)) = false := decide_eq_false (by omega)
          go_wp2_with fail
          go_meet
          exact FIN.out HG.out (by omega) (by omega)
    · have hck := check_any HT1.out
      have HCK := hide hck
      clear hck
      go_wp2_with fail
      refine HCK.out.mono ?_
      rintro e u2 ⟨rfl, rfl⟩
      by_cases hc : checkNo Ls0 = 0
      · rw [hc]
        go_wp2_with fail
        go_meet
        exact gate_true
      · have HG : Hid (checkNo Ls0 = 0 → gsum Ls0 ≤ 300) := hide (fun h => absurd h hc)
        obtain ⟨N, hcn⟩ : ∃ N, checkNo Ls0 = N := ⟨_, rfl⟩
        rw [hcn] at hc ⊢
        have hci : ((N : Int) == 0) = false := beq_eq_false_iff_ne.2 (by omega)
        clear hcn hc HCK
        by_cases c1 : 100 < t.length
        · have c1i : (100 : Int) < (t.length : Int) := by omega
          go_wp2_with fail
          go_meet
          exact gate_true
        · have c1i : decide ((100 : Int) < (t.length : Int)) = false := decide_eq_false (by omega)
          by_cases c2 : 1000 < len0
          · have c2i : (1000 : Int) < (len0 : Int) := by omega
            go_wp2_with fail
            go_meet
            exact gate_true
          · have c2i : decide ((1000 : Int) < (len0 : Int)) = false := decide_eq_false (by omega)
            go_wp2_with fail
            go_meet
            exact FIN.out HG.out (by omega) (by omega)
  case rest =>
    obtain ⟨b, rfl, rfl, hb⟩ := hcut
    cases b
    · obtain ⟨hl1, hl0, hg⟩ := hb rfl
      have HG := hide hg
      have HCP := hide (copy_any HT1.out HS.out.2 HS.out.1)
      clear hg hb
      go_wp2_with fail
      refine HCP.out.mono ?_
      rintro e u2 ⟨A2, c2, vs, rfl, ho2, hb2⟩
      have hr2 := (HR1.out.below hb2).alloc (w := u2) hb2.size (.cells #[] 5)
      have H2 := hide (show _ ∧ _ ∧ _ from ⟨ho2, hb2, hr2⟩)
      have HR8 := hide HR1.out
      clear ho2 hb2 hr2 HCP HR1
      go_wp2_with (at_builtin; refine wpList_append_rd _ rfl (.tmp 38) (.tmp 39) _ rfl u2.heap.size 5 i0 _ 1 1 Try.underlying32 hi0 hz0 hz1 hz2 rfl (by omega) (.slice (some ⟨u2.heap.size, 0, none⟩) 0 0) 0 (u8s []) rfl (own_empty u2 _) u1.heap.size a1 t.length cap1 (u8s t) rfl H2.out.2.2 (u8s_one _) (by simp only [maxLen]; omega) (by omega) (by simp) ?_; intro A3 c3 w3 hown3 hg3 hat3; have H3 := hide (app_lit hown3 hg3); clear hown3 hg3 hat3)
      have ho3 := H2.out.1.over H3.out.2
      have hN := fnew_any ho3.texts
      have HN := hide hN
      have HO3 := hide ho3
      clear hN ho3
      have hT3 := HT1.out.over (Bl H2.out.2.1 H3.out.2)
      have HT3 := hide hT3
      have HB3 := hide (Bl HB.out (Bl H2.out.2.1 H3.out.2))
      have HB1 := hide HB.out
      clear hT3 HB
      refine HN.out.mono ?_
      rintro e u5 (⟨hc, rfl, rfl⟩ | ⟨hc, g, AL, cL, vs9, bs, lo, hi, rfl, hF⟩)
      · have hck := check_any HT3.out
        obtain ⟨N, hcn⟩ : ∃ N, checkNo Ls0 = N := ⟨_, rfl⟩
        rw [hcn] at hc hck ⊢
        have hci : ((N : Int) == 0) = false := beq_eq_false_iff_ne.2 (by omega)
        have hcj : ((N : Int) != 0) = true := by rw [bne, hci]; rfl
        have HCK := hide hck
        clear hck HN hcn
        go_wp2_with fail
        refine HCK.out.mono ?_
        rintro e u6 ⟨rfl, rfl⟩
        go_wp2_with fail
        go_ret
        exact ⟨rfl, HB3.out⟩
      · have hm5 := hF.below
        have hT5 := HT3.out.over hm5
        have hO5 := HO3.out.over hm5
        have hck := check_any hT5
        rw [hc] at hck
        have HCK := hide hck
        have HX := hide (show _ ∧ _ ∧ _ ∧ _ from ⟨hF, hT5, hO5, hc⟩)
        clear hm5 hT5 hO5 hck hF hc HN
        go_wp2_with fail
        refine HCK.out.mono ?_
        rintro e u6 ⟨rfl, rfl⟩
        have hwr := HX.out.2.2.1.row
        have hcp2 := (Rd.of_own hwr).cap
        have hcm2 : c2 ≤ 9223372036854775807 := (Rd.of_own hwr).max
        have hw5 : WrTexts u5 u1.heap.size u2.heap.size A2 Ls0.length c2 vs := H2.out.1.wr.over (Bl H3.out.2 HX.out.1.below)
        have HW5 := hide hw5
        have hc00 := HT1.out.count
        clear hwr hw5
        go_wp2_with fail
        go_loopw [61] (fun iv wr => ∃ (i : Nat), iv = .int .i64 i ∧ i ≤ Ls0.length ∧ WrTexts wr u1.heap.size u2.heap.size A2 Ls0.length c2 vs ∧ Fr u5 wr (fun k => u1.heap.size ≤ k ∧ k < u2.heap.size)) (fun iv _ => Ls0.length - (intOf iv).toNat)
        case atStart => exact ⟨0, rfl, by omega, HW5.out, Fr.refl _ _⟩
        case round =>
          clear HW5
          obtain ⟨w8, rfl⟩ : ∃ w8, w8 = wr := ⟨_, rfl⟩
          obtain ⟨i, rfl, hiL, hT, hF⟩ := hrel
          have HWT := hide hT
          have HWF := hide hF
          clear hT hF
          by_cases hlt : i < Ls0.length
          · obtain ⟨A4, n4, c4, hv, hw⟩ := HWT.out.each i hlt
            obtain ⟨ad, rfl⟩ := own_some HWT.out.row (by omega)
            have hc := (own_cell HWT.out.row i _ hv).1
            have e1 : IntKind.i64.wrap ((i : Int) + 1) = (i : Int) + 1 := IntWalk.i64_in _ (by omega)
            have hm4 := hw.max
            have hr4 := hw.room
            have HW := hide hw
            have HV := hide hv
            clear hv hw
            go_wp2_with fail
            go_loopw [69] (fun kv wl => ∃ (k : Nat), kv = .int .i64 k ∧ k ≤ n4 ∧ WrTexts wl u1.heap.size u2.heap.size (some ad) Ls0.length c2 vs ∧ Wr wl u1.heap.size u2.heap.size A4 n4 c4 ∧ Fr u5 wl (fun k => u1.heap.size ≤ k ∧ k < u2.heap.size)) (fun kv _ => n4 - (intOf kv).toNat)
            case atStart => exact ⟨0, rfl, by omega, HWT.out, HW.out, HWF.out⟩
            case round =>
              clear HWT HW HWF
              obtain ⟨k, rfl, hk, hT, hW, hF⟩ := hrel
              have HWT := hide hT
              have HWF := hide hF
              have HW := hide hW
              clear hT hF hW
              by_cases hkl : k < n4
              · obtain ⟨gi, v, rfl, hg1, hg2, hblk, k1, k2⟩ := HW.out.cell hkl
                have hc := (own_cell HWT.out.row i _ HV.out).1
                have e2 : IntKind.i64.wrap ((k : Int) + 1) = (k : Int) + 1 := IntWalk.i64_in _ (by omega)
                have HBL := hide hblk
                clear hblk
                go_wp2_with fail
                go_roundw
                case rel =>
                  obtain ⟨cur, hblk⟩ := HBL.out
                  exact ⟨k + 1, by go_num, by omega, HWT.out.set hblk _, HW.out.setCell _ _ _, HWF.out.setCell (p := ⟨gi, k, none⟩) (fun _ => ⟨hg1, hg2⟩) _⟩
                case measure => simp [intOf]; omega
              · go_wp2_with fail
                go_roundw
                case rel => exact ⟨i + 1, by go_num, by omega, HWT.out, HWF.out⟩
                case measure => simp [intOf]; omega
          · have hcs := checkNo_0 HX.out.2.2.2
            have hll : Ls0.length ≤ 300 := by omega
            have hz12 : u1.heap.size ≤ u2.heap.size := H2.out.2.1.size
            have hz23 : u2.heap.size ≤ w3.heap.size := H3.out.2.size
            have h15 : Below u1.heap.size u1 u5 := Bl H2.out.2.1 (Bl H3.out.2 HX.out.1.below)
            have hz15 := h15.size
            have hf8 : Filt u1 g Ls0 AL cL vs9 bs lo hi w8 := filt_stays HX.out.1 HWF.out hz23 (Nat.le_refl _) (by omega) h15
            have hb8 : Below u1.heap.size u5 w8 := HWF.out.below (fun k hk => hk.1) hz15
            have ht8 := own_fr (own_over H3.out.1 HX.out.1.below) HWF.out (fun k hk e => by have h9 := (own_block H3.out.1 k hk).1; have e9 : u1.heap.size ≤ k ∧ k < u2.heap.size := e; omega)
            have hT8 := (HT1.out.below (h15.trans hb8)).more (Nat.le_trans hz15 HWF.out.size)
            have hR9 := (HR8.out.below (h15.trans hb8)).more (Nat.le_trans hz15 HWF.out.size)
            have hP : ∀ p i, i < Ls0.length → Ls0.getD i [] <+: t.drop p → (TM.passTo lo hi t p 3).testBit (i % 8) = true := fun p i h1 h2 => hf8.pass h1 h2
            have hmb := maybe_any hf8 (Rd.of_own ht8) hll (by omega) hcs.2.1
            have hpl := places hcs.2.1 hP
            have hml := maybeTo_len Ls0 t (fun p => TM.passTo lo hi t p 3) t.length
            obtain ⟨M, hM⟩ : ∃ M, maybeTo Ls0 t (fun p => TM.passTo lo hi t p 3) t.length = M := ⟨_, rfl⟩
            rw [hM] at hmb hpl hml
            have HMB := hide hmb
            have HPL := hide hpl
            have HCS := hide hcs
            have HX8 := hide (show _ ∧ _ ∧ _ ∧ _ ∧ _ from ⟨hf8, ht8, hT8, hR9, Bl HB1.out (h15.trans hb8)⟩)
            clear hcs hz12 hz23 h15 hz15 hf8 hb8 ht8 hT8 hR9 hP hmb hpl hM HWT HWF
            go_wp2_with fail
            refine HMB.out.mono ?_
            rintro e w9 ⟨A9, c9, rfl, ho9, hb9⟩
            have H9 := hide (show _ ∧ _ ∧ _ ∧ _ from ⟨ho9, hb9, HX8.out.2.2.1.over hb9, HX8.out.2.2.2.1.over hb9⟩)
            have hm9 : c9 ≤ 9223372036854775807 := (Rd.of_own ho9).max
            have hr9 := (Rd.of_own ho9).cap
            clear ho9 hb9 HMB
            go_wp2_with fail
            go_loop [12, 85] (fun lv jv => ∃ (j : Nat) (L : Int), jv = .int .i64 j ∧ lv = .int .i64 L ∧ j ≤ M.length ∧ -1 ≤ L ∧ ∀ x : Nat, M[j]? = some x → L < (x : Int)) (fun _ jv => M.length - (intOf jv).toNat)
            case atStart => exact ⟨0, -1, rfl, rfl, by omega, by omega, fun x _ => by omega⟩
            case round =>
              obtain ⟨j, L, rfl, rfl, hj, hL, hLx⟩ := hrel
              by_cases hjl : j < M.length
              · obtain ⟨x, hx⟩ : ∃ x, M[j]? = some x := ⟨_, List.getElem?_eq_getElem hjl⟩
                have hxL := hLx x hx
                have hok := HPL.out.ok j x hx
                have hxt := hok.1
                have hnx : ∀ y : Nat, M[j + 1]? = some y → (x : Int) < (y : Int) := fun y hy => by have := HPL.out.inc j (j + 1) x y (by omega) hx hy; omega
                have HNX := hide hnx
                obtain ⟨ad9, rfl⟩ := own_some H9.out.1 (by omega)
                have hc9 := (own_cell H9.out.1 j (.int .i64 (x : Int)) (by rw [ints, List.getElem?_map, hx]; rfl)).1
                obtain ⟨adw, hAd, _, hcb⟩ := H9.out.2.2.2.byte (i := x) hok.1
                subst hAd
                have hcs2 := HCS.out.2.1
                have hrf := refFirst_any (b := at8 t x) H9.out.2.2.1 hcs2
                rw [hok.2] at hrf
                obtain ⟨q, hq⟩ : ∃ q, at8 t x = q := ⟨_, rfl⟩
                rw [hq] at hrf hcb
                have HRF := hide hrf
                have d1 : decide ((x : Int) ≤ L) = false := decide_eq_false (by omega)
                have d2 : ¬ ((x : Int) ≤ L) := by omega
                have d3 : ¬ ((t.length : Int) ≤ (x : Int)) := by omega
                have d4 : ¬ (t.length ≤ x) := by omega
                have e1 : IntKind.i64.wrap ((j : Int) + 1) = (j : Int) + 1 := IntWalk.i64_in _ (by omega)
                clear hLx hx hok hnx hq hrf hcs2
                go_wp2_with fail
                refine HRF.out.mono ?_
                rintro e w10 ⟨rfl, rfl⟩
                go_wp2_with fail
                go_round
                case rel => exact ⟨j + 1, x, by go_num, rfl, by omega, by omega, HNX.out⟩
                case measure => simp [intOf]; omega
              · clear hLx
                go_wp2_with fail
                go_loopw [13, 111] (fun nv iv wr => ∃ (i n : Nat), nv = .int .i64 n ∧ iv = .int .i64 i ∧ i ≤ t.length ∧ n ≤ M.length ∧ (∀ j y : Nat, j < n → M[j]? = some y → y < i) ∧ Drew w9 wr) (fun _ iv _ => t.length - (intOf iv).toNat)
                case atStart => exact ⟨0, 0, rfl, rfl, by omega, by omega, fun j y h => by omega, Drew.refl _⟩
                case round =>
                  obtain ⟨wk, rfl⟩ : ∃ wk, wk = wr := ⟨_, rfl⟩
                  obtain ⟨p, n0, rfl, rfl, hp, hn0, hb0, hdr⟩ := hrel
                  have HB0 := hide hb0
                  have HDR := hide hdr
                  clear hb0 hdr
                  by_cases hpl : p < t.length
                  · have hbg := refBegins_any (p := p) (H9.out.2.2.1.drew HDR.out) (H9.out.2.2.2.drew_ HDR.out) HCS.out.2.1 (fun l h => Nat.le_trans (HCS.out.2.2.1 l h) (by omega)) (by omega) (by omega)
                    have HBG := hide hbg
                    have e3 : IntKind.i64.wrap ((p : Int) + 1) = (p : Int) + 1 := IntWalk.i64_in _ (by omega)
                    clear hbg
                    go_wp2_with fail
                    go_loop [13] (fun nv => ∃ (n : Nat), nv = .int .i64 n ∧ n ≤ M.length ∧ (∀ j y : Nat, j < n → M[j]? = some y → y < p)) (fun nv => M.length - (intOf nv).toNat)
                    case atStart => exact ⟨n0, rfl, hn0, HB0.out⟩
                    case round =>
                      clear HB0
                      obtain ⟨n, rfl, hn, hb⟩ := hrel
                      have HBN := hide hb
                      clear hb
                      have hbx : Hid (∀ j y : Nat, j < n → M[j]? = some y → y < p + 1) := hide (fun j y h1 h2 => Nat.lt_succ_of_lt (HBN.out j y h1 h2))
                      by_cases hnl : n < M.length
                      · obtain ⟨x, hx⟩ : ∃ x, M[n]? = some x := ⟨_, List.getElem?_eq_getElem hnl⟩
                        obtain ⟨ad9, rfl⟩ := own_some H9.out.1 (by omega)
                        have hc9 := (own_cell (own_drew H9.out.1 HDR.out) n (.int .i64 (x : Int)) (by rw [ints, List.getElem?_map, hx]; rfl)).1
                        have e2 : IntKind.i64.wrap ((n : Int) + 1) = (n : Int) + 1 := IntWalk.i64_in _ (by omega)
                        have HXN := hide hx
                        clear hx
                        by_cases hxp : x < p
                        · have hxi : (x : Int) < (p : Int) := by omega
                          go_wp2_with fail
                          go_round
                          case rel =>
                            refine ⟨n + 1, by go_num, by omega, fun j y h1 h2 => ?_⟩
                            rcases Nat.lt_or_ge j n with h3 | h3
                            · exact HBN.out j y h3 h2
                            · obtain rfl : j = n := by omega
                              have h4 := HXN.out
                              rw [h2] at h4
                              injection h4 with h4
                              omega
                          case measure => simp [intOf]; omega
                        · have hxi : decide ((x : Int) < (p : Int)) = false := decide_eq_false (by omega)
                          have hne : ((n : Int) == (M.length : Int)) = false := beq_eq_false_iff_ne.2 (by omega)
                          by_cases hxe : x = p
                          · subst hxe
                            obtain ⟨bb, hbb⟩ : ∃ bb, (Ls0.any fun l => l.isPrefixOf (t.drop x)) = bb := ⟨_, rfl⟩
                            rw [hbb] at HBG
                            clear hbb
                            go_wp2_with fail
                            refine HBG.out.mono ?_
                            rintro e w11 ⟨rfl, hd⟩
                            have HD := hide (HDR.out.trans hd)
                            have hc9 := (own_cell (own_drew H9.out.1 HD.out) n (.int .i64 (x : Int)) (by rw [ints, List.getElem?_map, HXN.out]; rfl)).1
                            clear hd
                            cases bb
                            · go_wp2_with fail
                              go_roundw
                              case rel => exact ⟨x + 1, n, rfl, by go_num, by omega, by omega, hbx.out, HD.out⟩
                              case measure => simp [intOf]; omega
                            · go_wp2_with fail
                              go_roundw
                              case rel => exact ⟨x + 1, n, rfl, by go_num, by omega, by omega, hbx.out, HD.out⟩
                              case measure => simp [intOf]; omega
                          · have hno := HPL.out.no hpl HBN.out (fun y hy => by have h4 := HXN.out; rw [hy] at h4; injection h4 with h4; omega)
                            rw [hno] at HBG
                            clear hno
                            go_wp2_with fail
                            refine HBG.out.mono ?_
                            rintro e w11 ⟨rfl, hd⟩
                            have HD := hide (HDR.out.trans hd)
                            clear hd
                            go_wp2_with fail
                            go_roundw
                            case rel => exact ⟨p + 1, n, rfl, by go_num, by omega, by omega, hbx.out, HD.out⟩
                            case measure => simp [intOf]; omega
                      · have hno := HPL.out.no hpl HBN.out (fun y hy => by have h4 := (List.getElem?_eq_some_iff.1 hy).1; omega)
                        rw [hno] at HBG
                        have hni : decide ((n : Int) < (M.length : Int)) = false := decide_eq_false (by omega)
                        clear hno
                        go_wp2_with fail
                        refine HBG.out.mono ?_
                        rintro e w11 ⟨rfl, hd⟩
                        have HD := hide (HDR.out.trans hd)
                        clear hd
                        go_wp2_with fail
                        go_roundw
                        case rel => exact ⟨p + 1, n, rfl, by go_num, by omega, by omega, hbx.out, HD.out⟩
                        case measure => simp [intOf]; omega
                  · have hbb := Bl H9.out.2.1 HDR.out.below
                    have hcs2 := HCS.out
                    have hsc := fscan_any (HX8.out.1.over hbb) (Rd.of_own (own_over HX8.out.2.1 hbb)) hll (by omega) (fun l h => Nat.le_trans (hcs2.2.2.1 l h) (by omega)) hcs2.2.1
                    have HSC := hide hsc
                    have HBB := hide hbb
                    clear hbb hcs2 hsc
                    go_wp2_with fail
                    refine HSC.out.mono ?_
                    rintro e w12 ⟨A12, c12, rfl, ho12, hb12⟩
                    have hb13 := Bl HBB.out hb12
                    have hrs := refScan_any (HX8.out.2.2.1.over hb13) (HX8.out.2.2.2.1.over hb13) (by omega) (by omega)
                    rw [refTo_scan _ _ HCS.out.2.1] at hrs
                    have HRS := hide hrs
                    have H12 := hide (show _ ∧ _ from ⟨ho12, hb13⟩)
                    clear ho12 hb12 hb13 hrs HSC
                    go_wp2_with fail
                    refine HRS.out.mono ?_
                    rintro e w13 ⟨A13, c13, rfl, ho13, hb13⟩
                    have hsm := same_any (Rd.of_own (own_over H12.out.1 hb13)) (Rd.of_own ho13)
                    rw [decide_eq_true rfl] at hsm
                    have HSM := hide hsm
                    have HB13 := hide (Bl H12.out.2 hb13)
                    clear hsm ho13 hb13 HRS
                    go_wp2_with fail
                    refine HSM.out.mono ?_
                    rintro e w14 ⟨rfl, hd⟩
                    have hb14 := Bl HB13.out hd.below
                    have s1 := run_str (P := Try.prog) 32 9 5 Try.underlying32 Try.underlying5 Try.underlying9 (Rd.of_own (own_over HX8.out.2.1 hb14))
                    have s2 := run_str (P := Try.prog) 32 9 5 Try.underlying32 Try.underlying5 Try.underlying9 (HX8.out.2.2.2.1.over hb14)
                    have HE := hide (Bl HX8.out.2.2.2.2 hb14)
                    clear hb14 hd
                    go_wp2_with fail
                    go_ret
                    exact ⟨by first | rfl | simp, HE.out⟩
    · go_wp2_with fail
      go_ret
      exact ⟨rfl, HB.out⟩

set_option maxRecDepth 100000 in
theorem lifted (os : Os) (started : os.Started) (H : Type) (enc : TypeId × Value → H) (F : Stop.Interp) :
    ReturnsInHanded {} Try.checked os 6 .any ((Rows.OpenSpec.upto Rows.teddyFindsSpec).pre6 enc Try.prog Try.f6 Rows.teddyFindsUptoRow.domain false) (((Rows.OpenSpec.upto Rows.teddyFindsSpec).at F).post enc Try.prog Try.f6 false true false false) := by
  refine returnsInHanded_of_cond (C := Try.checked) (s := Rows.OpenSpec.upto Rows.teddyFindsSpec) (k := Rows.uptoSmall) rfl own started (by kernel_rfl) Try.func6
    (OpenSpec.witness (enc := enc) (C := Try.checked) (s := Rows.OpenSpec.upto Rows.teddyFindsSpec) (k := Rows.uptoSmall) rfl false ⟨#[], #[.slice none 0 0, .slice none 0 0], []⟩ 8 (by kernel_rfl) (by kernel_rfl) (by kernel_rfl)
      (x := ([.nil, .nil], [], [])) (by kernel_rfl) rfl (by kernel_rfl)) ?_
  intro W base args ds gs before hval0 hW _ hk _
  have hval : ∀ (j : Nat) t v, Try.f6.params[j]? = some t → args[j]? = some v → Value.okWide Try.prog W .any base t v := hval0
  have hW' := hW
  obtain ⟨p, q, hA0, hV, rfl, hfz, hnd⟩ := hW
  have hA : DataW.TrodAll enc Try.prog W 0 (fun _ => true) true Try.f6.params.toList args.toList ds p := hA0
  rw [Try.params6] at hA hval
  obtain ⟨v0, vs0, d0, ds0, p0, q0, hargs, rfl, rfl, h0, r0⟩ := trodAll_cons hA
  obtain ⟨v1, vs1, d1, ds1, p1, q1, rfl, rfl, rfl, h1, r1⟩ := trodAll_cons r0
  obtain ⟨rfl, rfl, rfl⟩ := trodAll_nil r1
  obtain rfl : args = #[v0, v1] := by cases args; simp_all
  obtain ⟨rfl, rfl⟩ := trodVars_none hV
  obtain ⟨a0, len0, cap0, rfl⟩ := okWide_slice Try.underlying22 (hval 0 22 v0 rfl rfl)
  have k0 := h0
  have lt0 : ∀ x ∈ p0, x.block < W.heap.size := by obtain ⟨m, hm⟩ := k0; exact DataW.trod_lt m _ _ _ hm
  obtain ⟨a1, len1, cap1, rfl⟩ := okWide_slice Try.underlying32 (hval 1 32 v1 rfl rfl)
  have k1 := h1
  have lt1 : ∀ x ∈ p1, x.block < W.heap.size := by obtain ⟨m, hm⟩ := k1; exact DataW.trod_lt m _ _ _ hm
  obtain ⟨z1, w1, b1⟩ : ∃ zs, IsRow .u8 W a1 len1 cap1 zs ∧ len1 ≤ Rows.uptoBulk d1 := by
    obtain ⟨fuel, hf⟩ := h1
    rcases open_ints Try.underlying32 Try.underlying5 (by kernel_rfl) hf with ⟨hcs, hx⟩ | ⟨x, l, c, zs, hcs, _, hl, hm, hz, hx, hcell, hwz⟩
    · simp [Value.cells] at hcs
      obtain ⟨rfl, rfl, rfl⟩ := hcs
      exact ⟨[], .inl ⟨rfl, rfl, rfl, rfl⟩, Nat.zero_le _⟩
    · simp [Value.cells] at hcs
      obtain ⟨rfl, rfl, rfl⟩ := hcs
      exact ⟨zs, .inr ⟨_, rfl, hl, hm, by simpa using hz, hcell, hwz⟩, bulks.ints_le (congrArg Prod.fst hx) (by simp at hz; omega)⟩
  clear hA0 hval0
  simp only [List.append_nil] at hW' hk
  obtain ⟨Ls0, w0, s0⟩ : ∃ Ls, AW.Texts W W.heap.size a0 len0 cap0 Ls ∧ (Rows.uptoBulk d0 ≤ 1048576 → len0 ≤ 1048576 ∧ ∀ l ∈ Ls, l.length ≤ 1048576) := by
    obtain ⟨fuel, hf⟩ := k0
    exact AW.texts_of (by simpa [Value.cells] using hf)
  refine (walk W a0 len0 cap0 Ls0 w0 (s0 (Nat.le_trans (bulks.part_le (l := [d0, d1]) (by simp)) (bulks.bound hk))) a1 len1 cap1 z1 w1 (Nat.le_trans b1 (Nat.le_trans (bulks.part_le (l := [d0, d1]) (by simp)) (bulks.bound hk)))).mono fun e W' ⟨he, bel⟩ => ?_
  subst he
  exact ⟨_, rfl, _, _, _, [], _, [], hW', trodAll_mk1 (shut_bool Try.underlying4 _), (trodAll_cons_mk (Below.trod laidOut (by kernel_rfl) (of_decide_eq_true (by kernel_rfl)) k0 bel lt0) (trodAll_cons_mk (Below.trod laidOut (by kernel_rfl) (of_decide_eq_true (by kernel_rfl)) k1 bel lt1) trodAll_mk0)), rfl, bel.frame _, fun h => by cases h⟩

theorem over : Rows.teddyFindsUptoRow.holds Try.pinned (Rows.OpenSpec.upto Rows.teddyFindsSpec) :=
  OpenClaim.holds_of_cond 6 Try.f6 rfl rfl rfl rfl rfl rfl rfl ⟨rfl, rfl, rfl, rfl, rfl⟩ rfl rfl rfl rfl rfl (by kernel_rfl) Try.func6 (by kernel_rfl)
    (of_decide_eq_true (by kernel_rfl)) (by unfold Func.isWrapper; first | (rw [if_pos (by decide +kernel)]; kernel_rfl) | (rw [if_neg (by decide +kernel)]; exact ⟨rfl, rfl⟩))
    (fun os started H enc _ F => lifted os started H enc F)

/-- The statement. -/
theorem proved : Rows.TeddyFindsUptoSaid := over
#print axioms proved
end Go.Proofs.Ytkjpcincjoaeeaa.teddyFinds
