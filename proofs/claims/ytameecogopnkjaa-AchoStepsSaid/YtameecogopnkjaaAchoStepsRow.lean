/- AchoSteps: each state stands for a text that a literal begins with, no two for one; a byte leads to the state of the longest end that is one; the literals that end there are told. No condition. -/
import Derived.Test.YtameecogopnkjaaRows
import Derived.WalkKit
import Derived.ProofKit
import Derived.OpenShut
import Derived.ShutString
import Derived.ChangeOld
import Derived.Below
import Derived.Test.YtameecogopnkjaaMem

import Derived.Test.YtameecogopnkjaaASpeak
import Derived.Test.YtameecogopnkjaaASteps
import Derived.Test.YtameecogopnkjaaAOpen
import Derived.BigQuiet
import Derived.Deep.QuietTactic
import Derived.Maps.OwnOps
import Derived.Deep.RegionHeldLaw
import Derived.Deep.RegionHeld3
namespace Go.Proofs.Ytameecogopnkjaa.achoSteps
open Go.ChangeShapes Go.WideShapes Go.ChangeAt Go.RowKit
open Go.ChangeMaps (open_string shut_string)
open Go.Proofs.Ytameecogopnkjaa.B
open Go.Proofs.Ytameecogopnkjaa.AW
set_option linter.unusedVariables false

theorem own : ownKnob Try.prog.godebug = none := by kernel_rfl
theorem laidOut : laidOutB Try.prog = true := by kernel_rfl
theorem b8 {a : Int} (h : (Lit.int .u8 a).wf = true) : ∃ b : UInt8, a = (b.toNat : Int) := by
  have i : 0 ≤ a ∧ a ≤ 255 := by simpa [Lit.wf, IntKind.min, IntKind.max, IntKind.signed, IntKind.bits] using h
  exact ⟨UInt8.ofNat a.toNat, by rw [UInt8.toNat_ofNat']; omega⟩
theorem law_str : Go.Maps.Keyed Try.prog 9 := Go.Maps.string_keyed Try.underlying9
theorem zero_int (w : World) : (zeroValue 3).run Try.prog w = .ok (.int .i64 0) w := by kernel_rfl
/-- How often a text was met. -/
def MetMap (D : DataW Unit) (P : List AM.T) : Prop := ∀ x : AM.T, D.atKey (.string x) (.lit (.int .i64 0)) = .lit (.int .i64 (if x ∈ P then 1 else 0))
theorem met_nil : MetMap (.map []) [] := fun x => by rfl
theorem own_ne_map {w : World} {base : Nat} {e : TypeId} {size n : Nat} {v : Value} {xs : List Value} {k : TypeId} {R : Value → Option (DataW Unit × List MemPlace)} {b m : Nat} {D : DataW Unit} (h : w.ownsRow base e size v n xs) (hm : w.ownsMap Try.prog k R b m D) : v.ownBlock ≠ some b := by
  intro he
  rcases h.2 with ⟨rfl, _⟩ | ⟨g, cap, cur, rfl, _, hh, _⟩
  · simp [Value.ownBlock] at he
  · have : g = b := by simpa [Value.ownBlock] using he
    subst this
    obtain ⟨es, cl, hb, _⟩ := hm
    rw [hb] at hh
    cases hh
theorem map_over {w w' : World} {k : TypeId} {R : Value → Option (DataW Unit × List MemPlace)} {b m : Nat} {D : DataW Unit} (hm : w.ownsMap Try.prog k R b m D) (hb : Below w.heap.size w w') : w'.ownsMap Try.prog k R b m D :=
  hm.kept (row := none) ⟨hb.os, hb.tape, hb.output, hb.size, fun k hk _ => hb.block k hk⟩ (by simp)
theorem own_map {w w' : World} {base : Nat} {e : TypeId} {size n : Nat} {v : Value} {xs : List Value} {k : TypeId} {R : Value → Option (DataW Unit × List MemPlace)} {b m : Nat} {D : DataW Unit} (h : w.ownsRow base e size v n xs) (hm : w.ownsMap Try.prog k R b m D) (hg : w.grownBy w' (some b)) : w'.ownsRow base e size v n xs :=
  own_fr h ((Fr.refl w (fun k => k = b)).grown hg (fun k e _ => (Option.some.inj e).symm)) (fun k hk e => own_ne_map h hm (e ▸ hk))
theorem below_map {B b : Nat} {w w' : World} (hg : w.grownBy w' (some b)) (hb : B ≤ b) (hB : B ≤ w.heap.size) : Below B w w' :=
  ((Fr.refl w (fun k => k = b)).grown hg (fun k e _ => (Option.some.inj e).symm)).below (fun k e => by omega) hB
theorem met_put {D : DataW Unit} {P : List AM.T} {x : AM.T} (h : MetMap D P) (hD : Go.Maps.IsMap D) (hx : x ∉ P) : MetMap (D.put (.string x) (.lit (.int .i64 1))) (P ++ [x]) := fun y => by
  by_cases e : y = x
  · subst e
    rw [Go.Maps.atKey_put_same hD (show WideAt.IsKeyLit (.string y) from trivial)]
    simp
  · rw [Go.Maps.atKey_put_other (by intro h; injection h with h; exact e h), h y]
    have h2 : y ∈ P ++ [x] ↔ y ∈ P := by rw [List.mem_append, List.mem_singleton]; exact ⟨fun h => h.elim id (fun h => absurd h e), .inl⟩
    simp only [h2]
theorem key_str (x : AM.T) (hx : x.length ≤ 100000) : keyOf Try.prog 9 (.string (str x)) = some (.string x) := Go.WideMaps.keyOf_string_mk Try.underlying9 (by rw [str_size]; unfold maxLen; omega)
/-- What was there stays; behind a name. -/
def LW (w w' : World) : Prop := Below w.heap.size w w'
theorem LW.refl (w : World) : LW w w := Below.refl _ _
theorem LW.drew {w w' : World} (h : LW w w') : LW w w'.drew := Below.drew h
theorem LW.size {w w' : World} (h : LW w w') : w.heap.size ≤ w'.heap.size := Below.size h
theorem LW.alloc {w w' : World} (h : LW w w') (o : Obj) : LW w (w'.alloc o) := Below.alloc h h.size o
theorem LW.trans {w w' w'' : World} (h : LW w w') (k : Below w'.heap.size w' w'') : LW w w'' := Below.trans h (k.mono h.size)
theorem LW.b {w w' : World} (h : LW w w') : Below w.heap.size w w' := h

set_option maxRecDepth 10000 in
set_option maxHeartbeats 40000000 in
theorem walk (w : World) (a0 : Option Addr) (len0 cap0 : Nat) (Ls0 : List AM.T) (w0 : AW.Texts w w.heap.size a0 len0 cap0 Ls0) (a1 : Int) (w1 : (Lit.int .u8 a1).wf = true) :
    Calls Try.prog 5 #[.slice a0 len0 cap0, .int .u8 a1] w fun e w' => e = .returned (.bool true) ∧ Below w.heap.size w w' := by
  obtain ⟨b, rfl⟩ := b8 w1
  obtain ⟨i0, hi0, hz0, hz1, hz2⟩ := info_parts info_u8
  have HT := hide w0
  clear w0 w1
  have hmm := @run_makeMap Try.prog
  go_enter Try.func5, Try.ntmps5
  go_wp2_with fail
  refine (speaks_any _).mono ?_
  rintro e u1 ⟨rfl, b1⟩
  have HT1 := hide (HT.out.over b1)
  have HB := hide b1
  clear b1 HT
  go_wp2_with fail
  refine (great_any HT1.out).mono ?_
  rintro e u2 ⟨g, rfl, rfl, hgr⟩
  have HGR := hide hgr
  clear hgr
  cases g
  · have HG1 := hide (HGR.out rfl)
    have HCN := hide (check_any HT1.out)
    go_wp2_with fail
    refine HCN.out.mono ?_
    rintro e u2 ⟨rfl, rfl⟩
    by_cases hc : checkNo Ls0 = 0
    · have HCK := hide (checkNo_0 hc)
      have HG0 : Hid (gsum Ls0 ≤ 300) := hide (HG1.out.elim id (fun ⟨l, h1, h2⟩ => absurd ((checkNo_0 hc).2.2.1 l h1) (by omega)))
      have HC0 := hide hc
      rw [hc]
      have hN := new_any HT1.out
      have HN := hide hN
      clear hN hc HCN HGR HG1
      go_wp2_with fail
      refine HN.out.mono ?_
      rintro e u5 (⟨hc, _⟩ | ⟨hc, g, ns, ad, cn, rfl, hM, hG, hnl⟩)
      · exact absurd HC0.out hc
      · have HM := hide hM
        have HG := hide hG
        have hns : ns.length ≤ 400 := by have := HG0.out; have := tsum_le_gsum Ls0; omega
        clear hM hG hc HN
        obtain ⟨r, hr, hrp⟩ := HG.out.root
        have h0 := prefix_in HM.out hr (by rw [hrp]; decide)
        rw [hrp] at h0
        have H0 := hide h0
        clear hr hrp h0
        go_wp2_with fail
        refine H0.out.mono ?_
        rintro e u6 ⟨A6, c6, rfl, ho6, hb6⟩
        have hm6 := HM.out.over hb6
        have HB6 := hide (hb6.alloc hb6.size (.map #[] 0))
        have HM6 := hide hm6
        have HU56 := hide hb6.size
        clear ho6 hb6 hm6 H0
        go_wp2_with fail
        refine (states_any HM6.out).mono ?_
        rintro e u7 ⟨rfl, rfl⟩
        have hnd : decide ((400 : Int) < (ns.length : Int)) = false := decide_eq_false (by omega)
        go_wp2_with fail
        go_loopw [8] (fun iv wr => ∃ (s : Nat) (D : DataW Unit), iv = .int .i64 s ∧ s ≤ ns.length ∧ wr.ownsMap Try.prog 9 (plainElem Try.prog 3) u6.heap.size s D ∧ MetMap D ((ns.take s).map (·.pre)) ∧ Below u5.heap.size u5 wr) (fun iv _ => ns.length - (intOf iv).toNat)
        case atStart => exact ⟨0, .map [], rfl, by omega, World.ownsMap_made _ _ _ _, met_nil, HB6.out⟩
        case round =>
          obtain ⟨s, D, rfl, hs, hmap, hmet, hbel⟩ := hrel
          have hmr := HM.out.over hbel
          by_cases hlt : s < ns.length
          · obtain ⟨nd, hnd⟩ : ∃ nd, ns[s]? = some nd := ⟨_, List.getElem?_eq_getElem hlt⟩
            have HMAP := hide hmap
            have HMET := hide hmet
            have HBR := hide hbel
            have HMR := hide hmr
            have HND := hide hnd
            clear hmap hmet hbel hmr hnd
            go_wp2_with fail
            refine (states_any HMR.out).mono ?_
            rintro e w7 ⟨rfl, rfl⟩
            go_wp2_with fail
            have hpl : nd.pre.length ≤ 200 := by
              have h1 := (HG.out.pres.mem nd.pre).2 ⟨s, AM.pre_at rfl HND.out⟩
              rw [AM.isPre_iff] at h1
              rcases h1 with h1 | ⟨l, h1, h2⟩
              · rw [h1]; exact Nat.zero_le _
              · exact Nat.le_trans h2.length_le (HCK.out.2.2.1 l h1)
            have hp7 := prefix_in HMR.out HND.out (by omega)
            have HP7 := hide hp7
            clear hp7
            refine HP7.out.mono ?_
            rintro e w7 ⟨A7, c7, rfl, ho7, hb7⟩
            have hm7 := map_over HMAP.out hb7
            have hB7 := HBR.out.trans (hb7.mono HBR.out.size)
            have s1 := run_str (P := Try.prog) 23 9 5 Try.underlying23 Try.underlying5 Try.underlying9 (Rd.of_own ho7)
            have hk7 := key_str nd.pre (by omega)
            have hnew : nd.pre ∉ (ns.take s).map (·.pre) := by
              intro h
              obtain ⟨d, hd, he⟩ := List.mem_map.1 h
              obtain ⟨j, hj⟩ := List.mem_iff_getElem?.1 hd
              have hjs := (List.getElem?_eq_some_iff.1 hj).1
              rw [List.length_take] at hjs
              rw [List.getElem?_take, if_pos (by omega)] at hj
              have := HG.out.pres.dist j s nd.pre (by rw [← he]; exact AM.pre_at rfl hj) (AM.pre_at rfl HND.out)
              omega
            have hat0 := HMET.out nd.pre
            rw [if_neg hnew] at hat0
            have hput := met_put HMET.out hm7.isMap hnew
            have HPUT := hide hput
            have HO7 := hide ho7
            have HB7 := hide hB7
            have HAT := hide hat0
            have hu56 : u5.heap.size ≤ u6.heap.size := HU56.out
            clear ho7 hb7 hB7 hnew hput hat0 HP7 HMAP
            go_wp2_with (first
              | (at_lookup; refine wpList_lookup_own_int _ rfl _ _ 44 rfl 9 3 .i64 law_str Try.underlying44 Try.underlying3 (zero_int _) u6.heap.size s D rfl hm7 _ _ rfl hk7 ?_; intro c hat hwc; have hc0 : c = 0 := (by have h1 := hat.symm.trans HAT.out; injection h1 with h1; injection h1); subst hc0; clear hat hwc)
              | (at_mapUpdate; refine wpList_mapUpdate_own _ rfl _ _ _ 44 rfl 9 3 law_str Try.underlying44 _ u6.heap.size s _ rfl hm7 (by unfold maxLen; omega) _ _ _ rfl rfl hk7 (.lit (.int .i64 1)) [] (plainElem_int Try.underlying3 rfl) ?_; intro w8 hm8 hg8; have hb8 := HB7.out.trans (below_map hg8 hu56 HB7.out.size); have ho8 := own_map HO7.out hm7 hg8; have s8 := run_str (P := Try.prog) 23 9 5 Try.underlying23 Try.underlying5 Try.underlying9 (Rd.of_own ho8); have HO8 := hide ho8; have HB8 := hide hb8; clear hm7 hg8 hb8 ho8 s1)
              | (at_lookup; refine wpList_lookup_own_int _ rfl _ _ 44 rfl 9 3 .i64 law_str Try.underlying44 Try.underlying3 (zero_int _) u6.heap.size (s + 1) _ rfl hm8 _ _ rfl hk7 ?_; intro c hat hwc; have hc0 : c = 1 := (by have h1 := hat.symm.trans (HPUT.out nd.pre); rw [if_pos (by simp)] at h1; injection h1 with h1; injection h1); subst hc0; clear hat hwc))
            have hT8 := HT1.out.over (Bl HM.out.below HB8.out)
            have hpr : AM.isPre Ls0 nd.pre = true := (HG.out.pres.mem nd.pre).2 ⟨s, AM.pre_at rfl HND.out⟩
            have hrp := refPrefix_any hT8 (Rd.of_own HO8.out)
            rw [hpr] at hrp
            have HRP := hide hrp
            have HT8 := hide hT8
            have HM8 := hide hm8
            clear hT8 hrp hm8 s8
            refine HRP.out.mono ?_
            rintro e w9 ⟨rfl, hd9⟩
            have hB9 := HB8.out.trans (hd9.below.mono HB8.out.size)
            have hh9 : nd.hits = AM.hits Ls0 nd.pre := HG.out.hits s nd HND.out
            have hhl : nd.hits.length ≤ 256 := by rw [hh9]; exact Nat.le_trans (hits_len Ls0 nd.pre) HCK.out.1
            have hhi := hits_in (HM.out.over hB9) HND.out (by omega)
            have HHI := hide hhi
            have HT9 := hide (HT8.out.over hd9.below)
            have HO9 := hide (own_drew HO8.out hd9)
            have HB9 := hide hB9
            have HM9 := hide (map_over HM8.out hd9.below)
            have HH9 := hide hh9
            clear hhi hB9 hd9 hh9 HRP HT8 HO8 HB8 HM8
            go_wp2_with fail
            refine HHI.out.mono ?_
            rintro e w10 ⟨A10, c10, rfl, ho10, hb10⟩
            have hrh := refHits_any (HT9.out.over hb10) (Rd.of_own (own_over HO9.out hb10)) (by have := HT9.out.count; have := HCK.out.1; omega)
            rw [← HH9.out] at hrh
            have HRH := hide hrh
            have HO10 := hide ho10
            have HB10 := hide hb10
            clear hrh ho10 hb10 HHI
            go_wp2_with fail
            refine HRH.out.mono ?_
            rintro e w11 ⟨A11, c11, rfl, ho11, hb11⟩
            have hsi := sameInts_any (Rd.of_own (own_over HO10.out hb11)) (Rd.of_own ho11)
            rw [decide_eq_true rfl] at hsi
            have HSI := hide hsi
            have HB11 := hide (Bl HB10.out hb11)
            clear hsi ho11 hb11 HRH HO10 HB10
            go_wp2_with fail
            refine HSI.out.mono ?_
            rintro e w12 ⟨rfl, hd12⟩
            have hb12 := Bl HB11.out hd12.below
            have hB12 := HB9.out.trans (hb12.mono HB9.out.size)
            have hmc := HM.out.over hB12
            have hst := step_in hmc HND.out b
            obtain ⟨j, nd2, hj1, hj2, hj3⟩ := HG.out.next s nd b HND.out
            rw [hj1] at hst
            have hjl := (List.getElem?_eq_some_iff.1 hj2).1
            have HST := hide hst
            have HMC := hide hmc
            have HJ := hide (show _ ∧ _ from ⟨hj2, hj3⟩)
            have HB12 := hide hB12
            have HT12 := hide (HT9.out.over hb12)
            have HO12 := hide (own_over HO9.out hb12)
            have HM12 := hide (map_over HM9.out hb12)
            clear hd12 hb12 hB12 hmc hst hj1 hj2 hj3 HT9 HO9 HM9 HSI HB11 HB9
            go_wp2_with fail
            refine HST.out.mono ?_
            rintro e w13 ⟨rfl, rfl⟩
            have hjd : decide ((j : Int) < 0) = false := decide_eq_false (by omega)
            have hjd2 : decide ((ns.length : Int) ≤ (j : Int)) = false := decide_eq_false (by omega)
            have hjn : ¬ ns.length ≤ j := by omega
            have hjn2 : ¬ ((ns.length : Int) ≤ (j : Int)) := by omega
            clear HST
            go_upto_region 17 with fail
            go_cut [106] (fun s wx => s = .bool false ∧ Below w12.heap.size w12 wx)
            case first =>
              have hpl2 : nd2.pre.length ≤ 100000 := by
                have h1 := (HG.out.pres.mem nd2.pre).2 ⟨j, AM.pre_at rfl HJ.out.1⟩
                rw [AM.isPre_iff] at h1
                rcases h1 with h1 | ⟨l, h1, h2⟩
                · rw [h1]; exact Nat.zero_le _
                · exact Nat.le_trans h2.length_le (Nat.le_trans (HCK.out.2.2.1 l h1) (by omega))
              have hl0 := (LW.refl w12).drew
              have hLV : LV w12 w12.drew none none none := (LV.start (Below.refl _ _)).drew
              have hx12 : Rd w12 w12.heap.size 1 A7 nd.pre.length c7 (u8s nd.pre) := Rd.of_own HO12.out
              have HX12 := hide hx12
              have HPL := hide hpl
              clear hx12 hpl
              refine wp_region_noPanic ?_
              go_region_held_law (fun w' => LW w12 w') (first | exact hl0 | exact LV.lw hLV | exact LW.alloc (by assumption) _ | exact LW.drew (by assumption) | assumption)
                (first
                  | (go_at_call 17; refine (states_any (HMC.out.over (LW.b (by assumption)))).mono ?_; rintro e w6 ⟨rfl, rfl⟩)
                  | (go_at_call 19; refine (prefix_in (HMC.out.over (LW.b (by assumption))) HJ.out.1 hpl2).mono ?_; rintro e wP ⟨AP, cP, rfl, hoP, hbP⟩; (first | have hLV := LV.newP hLV hbP ⟨AP, cP, nd2.pre⟩ hoP | have hLV := LV.newP (LV.lit0 hLV) hbP ⟨AP, cP, nd2.pre⟩ hoP | have hLV := LV.newP (LV.lit1 hLV b) hbP ⟨AP, cP, nd2.pre⟩ hoP | have hLV := LV.newP (LV.lit1 (LV.lit0 hLV) b) hbP ⟨AP, cP, nd2.pre⟩ hoP | have hLV := LV.newP (LV.lit0 (LV.lit1 hLV b)) hbP ⟨AP, cP, nd2.pre⟩ hoP); have sp0 := LV.str hLV; have sp1 := fun o => LV.str (LV.alloc hLV o); have sp2 := fun o o' => LV.str (LV.alloc (LV.alloc hLV o) o'); clear hoP hbP)
                  | (go_at_call 25; have hrs := refStep_any (HT12.out.over (LW.b (by assumption))) (LV.rdX hLV); rw [← HJ.out.2, show (nd.pre ++ [b]).length = nd.pre.length + 1 by simp] at hrs; refine hrs.mono ?_; clear hrs; rintro e wS ⟨AS, cS, rfl, hrS, hbS⟩; have hLV := LV.over hLV hbS; have sq0 := run_str (P := Try.prog) 23 9 5 Try.underlying23 Try.underlying5 Try.underlying9 hrS; (try have sp0 := LV.str hLV); clear hrS hbS)
                  | ((first | refine step_app (w0 := w12) ?_ (.tmp 97) (.tmp 98) ?_ (LV.lit0 hLV) w12.heap.size A7 c7 nd.pre ?_ ?_ ?_ ?_ nd.pre ?_ ?_ | refine step_app (w0 := w12) ?_ (.tmp 97) (.tmp 98) ?_ (LV.lit1 (LV.lit0 hLV) b) w12.heap.size A7 c7 nd.pre ?_ ?_ ?_ ?_ nd.pre ?_ ?_ | refine step_app (w0 := w12) ?_ (.tmp 97) (.tmp 98) ?_ (LV.lit0 (LV.lit1 hLV b)) w12.heap.size A7 c7 nd.pre ?_ ?_ ?_ ?_ nd.pre ?_ ?_ | refine step_app (w0 := w12) ?_ (.tmp 97) (.tmp 98) ?_ (hLV) w12.heap.size A7 c7 nd.pre ?_ ?_ ?_ ?_ nd.pre ?_ ?_ | refine step_app (w0 := w12) ?_ (.tmp 97) (.tmp 98) ?_ (LV.lit1 hLV b) w12.heap.size A7 c7 nd.pre ?_ ?_ ?_ ?_ nd.pre ?_ ?_); (· rfl); (· rfl); (· first | rfl | (refine (show Value.slice (some ⟨_, 0, none⟩) 0 0 = _ from ?_); simp [litR])); (· rfl); (· exact HX12.out.below (LW.b (by assumption))); (· have h9 : nd.pre.length ≤ 200 := HPL.out; exact (show 0 + nd.pre.length ≤ 1000000 by omega)); (· rfl); intro A' c' w' hLV; (try (have sp0 := LV.str hLV; have sp1 := fun o => LV.str (LV.alloc hLV o); have sp2 := fun o o' => LV.str (LV.alloc (LV.alloc hLV o) o'))))
                  | ((first | refine step_app2 (w0 := w12) ?_ (.tmp 99) (.tmp 101) ?_ (LV.lit1 hLV b) ?_ ?_ ?_ (nd.pre ++ [b]) ?_ ?_ | refine step_app2 (w0 := w12) ?_ (.tmp 99) (.tmp 101) ?_ (hLV) ?_ ?_ ?_ (nd.pre ++ [b]) ?_ ?_); (· rfl); (· rfl); (· rfl); (· first | rfl | (refine (show Value.slice (some ⟨_, 0, none⟩) 1 1 = _ from ?_); simp [litR])); (· have h9 : nd.pre.length ≤ 200 := HPL.out; exact (show nd.pre.length + 1 ≤ 1000000 by omega)); (· rfl); intro A' c' w' hLV; (try (have sp0 := LV.str hLV; have sp1 := fun o => LV.str (LV.alloc hLV o))))
                  | fail "no arm")
              all_goals
                refine NoPanic.normal ?_
                go_wp2_with fail
                go_meet
                exact ⟨rfl, LV.lw hLV⟩
            case rest =>
              obtain ⟨rfl, hbc⟩ := hcut
              obtain ⟨w15, rfl⟩ : ∃ w15, w15 = wc := ⟨_, rfl⟩
              have e3 : IntKind.i64.wrap ((s : Int) + 1) = (s : Int) + 1 := IntWalk.i64_in _ (by omega)
              have HBC := hide hbc
              clear hbc
              go_wp2_with fail
              go_roundw
              case rel =>
                refine ⟨s + 1, _, by go_num, by omega, map_over HM12.out HBC.out, ?_, HB12.out.trans (HBC.out.mono HB12.out.size)⟩
                have e4 : (ns.take (s + 1)).map (·.pre) = (ns.take s).map (·.pre) ++ [nd.pre] := by
                  obtain ⟨h1, h2⟩ := List.getElem?_eq_some_iff.1 HND.out
                  rw [List.take_succ_eq_append_getElem h1, h2, List.map_append]
                  rfl
                rw [e4]
                exact HPUT.out
              case measure => simp [intOf]; omega
          · obtain rfl : s = ns.length := by omega
            have HMR := hide hmr
            have HBR := hide hbel
            clear hmap hmet hbel hmr
            have o1 : (-1 : Int) < 0 ∨ (ns.length : Int) ≤ -1 := .inl (by omega)
            have o2 : ((ns.length : Nat) : Int) < 0 ∨ (ns.length : Int) ≤ ((ns.length : Nat) : Int) := .inr (Int.le_refl _)
            have HO1 := hide o1
            have HO2 := hide o2
            clear o1 o2
            go_wp2_with fail
            refine (states_any HMR.out).mono ?_
            rintro e w7 ⟨rfl, rfl⟩
            have hnn : ¬ ((ns.length : Int) < (ns.length : Int)) := by omega
            go_wp2_with fail
            refine (states_any HMR.out).mono ?_
            rintro e w7 ⟨rfl, rfl⟩
            go_wp2_with fail
            refine (prefix_out HMR.out HO1.out).mono ?_
            rintro e w7 ⟨rfl, rfl⟩
            go_wp2_with fail
            refine (prefix_out HMR.out HO2.out).mono ?_
            rintro e w7 ⟨rfl, rfl⟩
            go_wp2_with fail
            refine (step_out HMR.out HO2.out b).mono ?_
            rintro e w7 ⟨rfl, rfl⟩
            go_wp2_with fail
            refine (step_out HMR.out HO1.out b).mono ?_
            rintro e w7 ⟨rfl, rfl⟩
            go_wp2_with fail
            refine (hits_out HMR.out HO2.out).mono ?_
            rintro e w7 ⟨rfl, rfl⟩
            go_wp2_with fail
            refine (hits_out HMR.out HO1.out).mono ?_
            rintro e w7 ⟨rfl, rfl⟩
            go_wp2_with fail
            go_ret
            exact ⟨rfl, Bl HB.out (Bl HM.out.below HBR.out)⟩
    · obtain ⟨N, hcn⟩ : ∃ N, checkNo Ls0 = N := ⟨_, rfl⟩
      rw [hcn] at hc ⊢
      have hci : ((N : Int) == 0) = false := beq_eq_false_iff_ne.2 (by omega)
      have hcj : ((N : Int) != 0) = true := by rw [bne, hci]; rfl
      clear hcn HCN HGR HG1
      go_wp2_with fail
      go_ret
      exact ⟨rfl, HB.out⟩
  · go_wp2_with fail
    go_ret
    exact ⟨rfl, HB.out⟩

set_option maxRecDepth 100000 in
theorem lifted (os : Os) (started : os.Started) (H : Type) (enc : TypeId × Value → H) :
    ReturnsInHanded {} Try.checked os 5 .any (Rows.achoStepsSpec.pre6 enc Try.prog Try.f5 Rows.achoStepsRow.domain false) (Rows.achoStepsSpec.post enc Try.prog Try.f5 false true false false) := by
  refine returnsInHanded_of_change (C := Try.checked) own started (by kernel_rfl) Try.func5
    (ChangeSpec.witness6 (enc := enc) (C := Try.checked) false ⟨#[], #[.slice none 0 0, .int .u8 0], []⟩ 8 (by kernel_rfl) (by kernel_rfl) (by kernel_rfl) (by kernel_rfl)) ?_
  intro W base args ds gs before hval0 hW hcnd _
  have hval : ∀ (j : Nat) t v, Try.f5.params[j]? = some t → args[j]? = some v → Value.okWide Try.prog W .any base t v := hval0
  have hW' := hW
  obtain ⟨p, q, hA0, hV, rfl, hfz, hnd⟩ := hW
  have hA : DataW.TrodAll enc Try.prog W 0 (fun _ => true) true Try.f5.params.toList args.toList ds p := hA0
  rw [Try.params5] at hA hval
  obtain ⟨v0, vs0, d0, ds0, p0, q0, hargs, rfl, rfl, h0, r0⟩ := trodAll_cons hA
  obtain ⟨v1, vs1, d1, ds1, p1, q1, rfl, rfl, rfl, h1, r1⟩ := trodAll_cons r0
  obtain ⟨rfl, rfl, rfl⟩ := trodAll_nil r1
  obtain rfl : args = #[v0, v1] := by cases args; simp_all
  obtain ⟨rfl, rfl⟩ := trodVars_none hV
  obtain ⟨a0, len0, cap0, rfl⟩ := okWide_slice Try.underlying22 (hval 0 22 v0 rfl rfl)
  have k0 := h0
  have lt0 : ∀ x ∈ p0, x.block < W.heap.size := by obtain ⟨m, hm⟩ := k0; exact DataW.trod_lt m _ _ _ hm
  obtain ⟨Ls0, w0, _⟩ : ∃ Ls, AW.Texts W W.heap.size a0 len0 cap0 Ls ∧ (Rows.uptoBulk d0 ≤ 1048576 → len0 ≤ 1048576 ∧ ∀ l ∈ Ls, l.length ≤ 1048576) := by
    obtain ⟨fuel, hf⟩ := k0
    exact AW.texts_of (by simpa [Value.cells] using hf)
  obtain ⟨a1, rfl, rfl, rfl, w1⟩ := open_int Try.underlying5 (hval 1 5 v1 rfl rfl) h1
  clear hA0 hval0
  refine (walk W a0 len0 cap0 Ls0 w0 a1 w1).mono fun e W' ⟨he, bel⟩ => ?_
  subst he
  exact ⟨_, rfl, _, _, _, [], _, [], hW', trodAll_mk1 (shut_bool Try.underlying4 _), (trodAll_cons_mk (Below.trod laidOut (by kernel_rfl) (of_decide_eq_true (by kernel_rfl)) k0 bel lt0) (trodAll_cons_mk (shut_int Try.underlying5 w1) trodAll_mk0)), rfl, bel.frame _, fun h => by cases h⟩

theorem over : Rows.achoStepsRow.holds Try.pinned (OpenSpec.ofChange Rows.achoStepsSpec) :=
  OpenClaim.holds_of_wide 5 Try.f5 rfl rfl rfl rfl rfl rfl rfl ⟨rfl, rfl, rfl, rfl, rfl⟩ rfl rfl rfl rfl rfl (by kernel_rfl) Try.func5 (by kernel_rfl)
    (of_decide_eq_true (by kernel_rfl)) (by unfold Func.isWrapper; first | (rw [if_pos (by decide +kernel)]; kernel_rfl) | (rw [if_neg (by decide +kernel)]; exact ⟨rfl, rfl⟩))
    (fun os started H enc _ => lifted os started H enc)

/-- The statement. -/
theorem proved : Rows.AchoStepsSaid := over
#print axioms proved
end Go.Proofs.Ytameecogopnkjaa.achoSteps
