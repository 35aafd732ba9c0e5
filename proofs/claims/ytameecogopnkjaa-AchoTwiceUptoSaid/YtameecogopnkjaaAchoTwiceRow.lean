/- AchoTwice: a literal that stands in a list twice is found twice, and changes nothing else. Condition: the arguments hold together at most 1048576 values and letters. -/
import Derived.Test.YtameecogopnkjaaRows
import Derived.WalkKit
import Derived.ProofKit
import Derived.OpenShut
import Derived.ShutString
import Derived.ChangeOld
import Derived.Below
import Derived.Test.YtameecogopnkjaaMem
import Derived.JoinedCond
import Derived.Test.YtameecogopnkjaaBulk
import Derived.Test.YtameecogopnkjaaASpeak
import Derived.Test.YtameecogopnkjaaAOpen
import Derived.Test.YtameecogopnkjaaATwice
import Derived.BigQuiet
import Derived.Deep.QuietTactic
import Derived.Deep.RegionHeld3
namespace Go.Proofs.Ytameecogopnkjaa.achoTwice
open Go.ChangeShapes Go.WideShapes Go.ChangeAt Go.RowKit
open Go.ChangeMaps (open_string shut_string)
open Go.Proofs.Ytameecogopnkjaa.B
open Go.Proofs.Ytameecogopnkjaa.AW
open Go.Proofs.Ytameecogopnkjaa.AM (Nd)
set_option linter.unusedVariables false

theorem own : ownKnob Try.prog.godebug = none := by kernel_rfl
theorem laidOut : laidOutB Try.prog = true := by kernel_rfl
def Gate (len0 len2 : Nat) (Ls : List AM.T) (u : World) (s : Value) (wx : World) : Prop := ∃ b : Bool, s = .bool b ∧ u = wx ∧ (b = false → len2 ≤ 200 ∧ 0 < len0 ∧ (checkNo Ls = 0 → gsum Ls ≤ 300))
theorem gate_true {len0 len1 : Nat} {Ls : List AM.T} {u : World} : Gate len0 len1 Ls u (.bool true) u := ⟨true, rfl, rfl, fun h => by cases h⟩
theorem bound_gen (a i f n m : Nat) (h : a ≤ i * m + 1 + f) (hf : f + 1 ≤ m) : a ≤ (i + 1) * m := by
  have e : (i + 1) * m = i * m + m := Nat.succ_mul i m
  omega
theorem bound_step (a i f n : Nat) (h : a ≤ i * 60001 + 1 + f) (hf : f ≤ n * 300) (hn : n ≤ 200) : a ≤ (i + 1) * 60001 :=
  bound_gen a i f n 60001 h (by omega)

set_option maxRecDepth 10000 in
set_option maxHeartbeats 1000000 in
theorem walk (w : World) (a0 : Option Addr) (len0 cap0 : Nat) (Ls0 : List AM.T) (w0 : AW.Texts w w.heap.size a0 len0 cap0 Ls0) (s0 : len0 ≤ 1048576 ∧ ∀ l ∈ Ls0, l.length ≤ 1048576) (a1 : Int) (w1 : (Lit.int .i64 a1).wf = true) (a2 : Option Addr) (len2 cap2 : Nat) (z2 : List Int) (w2 : IsRow .u8 w a2 len2 cap2 z2) (s2 : len2 ≤ 1048576) :
    Calls Try.prog 4 #[.slice a0 len0 cap0, .int .i64 a1, .slice a2 len2 cap2] w fun e w' => e = .returned (.bool true) ∧ Below w.heap.size w w' := by
  obtain ⟨i0, hi0, hz0, hz1, hz2⟩ := info_parts info_bytes
  obtain ⟨i2, hi2, hy0, hy1, hy2⟩ := info_parts info_hit
  obtain ⟨t, ht⟩ := rd_of_row w2
  have HT := hide w0
  have HR := hide ht
  have HS := hide s0
  have HW := hide w1
  clear w0 w1 w2 ht s0
  go_enter Try.func4, Try.ntmps4
  go_wp2_with fail
  refine (speaks_any _).mono ?_
  rintro e u1 ⟨rfl, b1⟩
  have HT1 := hide (HT.out.over b1)
  have HR1 := hide (HR.out.over b1)
  have HB := hide b1
  clear b1 HT HR
  go_upto_region 3 with fail
  go_cut [31] (fun s wx => Gate len0 len2 Ls0 u1 s wx)
  case first =>
    go_wp2_with fail
    refine (great_any HT1.out).mono ?_
    rintro e u2 ⟨g, rfl, rfl, hgr⟩
    have HGR := hide hgr
    clear hgr
    have fin : ∀ (h : checkNo Ls0 = 0 → gsum Ls0 ≤ 300), len2 ≤ 200 → 0 < len0 → Gate len0 len2 Ls0 u1 (.bool false) u1 := fun h h1 h2 => ⟨false, rfl, rfl, fun _ => ⟨h1, h2, h⟩⟩
    have FIN := hide fin
    clear fin
    cases g
    · have HG : Hid (checkNo Ls0 = 0 → gsum Ls0 ≤ 300) := hide (fun h => (HGR.out rfl).elim id (fun ⟨l, h1, h2⟩ => absurd ((checkNo_0 h).2.2.1 l h1) (by omega)))
      by_cases c1 : 200 < len2
      · have c1i : (200 : Int) < (len2 : Int) := by omega
        go_wp2_with fail
        go_meet
        exact gate_true
      · have c1i : decide ((200 : Int) < (len2 : Int)) = false := decide_eq_false (by omega)
        by_cases c2 : len0 = 0
        · subst c2
          go_wp2_with fail
          go_meet
          exact gate_true
        · have c2i : ((len0 : Int) == 0) = false := beq_eq_false_iff_ne.2 (by omega)
          go_wp2_with fail
          go_meet
          exact FIN.out HG.out (by omega) (by omega)
    · go_wp2_with fail
      go_meet
      exact gate_true
  case rest =>
    obtain ⟨b, rfl, rfl, hb⟩ := hcut
    cases b
    · obtain ⟨hl1, hl0, hg⟩ := hb rfl
      have HG := hide hg
      have HN := hide (new_any HT1.out)
      obtain ⟨at_, hat, hatl⟩ := at_of a1 len0 hl0
      clear hg hb
      go_wp2_with fail
      refine HN.out.mono ?_
      rintro e u5 hnew
      obtain ⟨p1, q1, rfl, hb5, hnew⟩ : ∃ p q, e = .returned (.tuple #[p, q]) ∧ Below u1.heap.size u1 u5 ∧ ((checkNo Ls0 ≠ 0 ∧ p = .pointer none) ∨ (checkNo Ls0 = 0 ∧ ∃ (g : Nat) (ns : List Nd) (ad : Addr) (cn : Nat), p = .pointer (some ⟨g, 0, none⟩) ∧ Mach u1 g ns (some ad) cn u5 ∧ AM.Good Ls0 ns)) := by
        rcases hnew with ⟨hc, rfl, rfl⟩ | ⟨hc, g, ns, ad, cn, rfl, hM, hG, _⟩
        · exact ⟨_, _, rfl, Below.refl _ _, .inl ⟨hc, rfl⟩⟩
        · exact ⟨_, _, rfl, hM.below, .inr ⟨hc, g, ns, ad, cn, rfl, hM, hG⟩⟩
      have HNEW := hide hnew
      have HT5 := hide (HT1.out.over hb5)
      have HR5 := hide (HR1.out.over hb5)
      have HB5 := hide (Bl HB.out hb5)
      clear hnew hb5 HN HT1 HR1 HB
      obtain ⟨vs, hvr, hv1, hve⟩ := HT5.out.cells
      obtain ⟨ad0, l, A1, c1, ha0, hab, hl, hcl, hrl⟩ := HT5.out.at_ hatl
      have hct := HT5.out.count
      have hvl : vs.length = len0 := by have := hvr.len; omega
      subst ha0
      have HRV := hide hvr
      have HV1 := hide hv1
      have HVE := hide hve
      have HRL := hide hrl
      have HL := hide hl
      have hlen0 : len0 ≤ 1048576 := HS.out.1
      have hll : l.length ≤ 1048576 := HS.out.2 l (mem_of hl)
      have hl0i : (at_ : Int) < (len0 : Int) := by omega
      clear hvr hv1 hve hrl hl
      go_upto_region 7 with fail
      go_cut [10, 11] (fun s s' wx => Second u5 (Ls0 ++ [l]) s s' wx)
      case first =>
        have hl0w := (LW.refl u5).drew
        have ks : ∀ w', LW u5 w' → LW u5 w' ∧ w'.cell? (ad0.add at_) = some (.slice A1 l.length c1) := fun w' h => ⟨h, (h.b.cell (p := ad0.add at_) (by rw [add_block]; exact hab)).trans hcl⟩
        have htx : ∀ (w' : World) (A : Option Addr) (c : Nat), w'.ownsRow u5.heap.size 23 1 (.slice A (len0 + 1) c) (len0 + 1) (vs ++ [.slice A1 l.length c1]) → LW u5 w' → Texts w' w'.heap.size A (len0 + 1) c (Ls0 ++ [l]) := fun w' A c ho hb => texts_more ho hb.size (by omega) (by omega) (fun i x h => by
          obtain ⟨A2, c2, h2, h3⟩ := HVE.out i x h
          exact ⟨A2, c2, h2, h3.below hb.b⟩) (HRL.out.below hb.b)
        have hrb : ∀ (w' : World) (o : Obj), ((u5.drew.alloc o).alloc (.cells #[.slice A1 l.length c1] 23)).grownBy w' (Value.slice (some ⟨u5.heap.size, 0, none⟩) 0 0).ownBlock → Rd w' (u5.heap.size + 1 + 1) 1 (some ⟨u5.heap.size + 1, 0, none⟩) 1 1 [.slice A1 l.length c1] := fun w' o hg => by
          have h := Rd.one (u5.drew.alloc o) (.slice A1 l.length c1) 23
          rw [show (u5.drew.alloc o).heap.size = u5.heap.size + 1 by simp] at h
          exact rd_far h hg (by simp) (fun e => by have e2 := Option.some.inj (show some u5.heap.size = some (u5.heap.size + 1) from e); omega)
        have hrc : ∀ (w' : World) (o : Obj), ((u5.drew.alloc (.cells #[.slice A1 l.length c1] 23)).alloc o).grownBy w' (Value.slice (some ⟨u5.heap.size + 1, 0, none⟩) 0 0).ownBlock → Rd w' (u5.heap.size + 1) 1 (some ⟨u5.heap.size, 0, none⟩) 1 1 [.slice A1 l.length c1] := fun w' o hg => by
          have h := (Rd.one u5.drew (.slice A1 l.length c1) 23).alloc (w := u5.drew.alloc (.cells #[.slice A1 l.length c1] 23)) (by simp) o
          exact rd_far (k := u5.heap.size) h hg (by simp; omega) (fun e => by have e2 := Option.some.inj (show some (u5.heap.size + 1) = some u5.heap.size from e); omega)
        have hoc : ∀ o : Obj, ((u5.drew.alloc o).alloc (.cells #[] 23)).ownsRow u5.heap.size 23 1 (.slice (some ⟨u5.heap.size + 1, 0, none⟩) 0 0) 0 [] := fun o => by
          have h := own_none (u5.drew.alloc o) 23 1
          rw [show (u5.drew.alloc o).heap.size = u5.heap.size + 1 by simp] at h
          exact own_lower h (by omega)
        have HOC := hide hoc
        clear hoc
        have KS := hide ks
        have HTX := hide htx
        have HRB := hide hrb
        have HRC := hide hrc
        clear ks htx hrb hrc
        go_region_held3 (fun w' => LW u5 w' ∧ w'.cell? (ad0.add at_) = some (.slice A1 l.length c1)) (first | exact KS.out _ hl0w | exact KS.out _ (LW.alloc (And.left (by assumption)) _) | exact KS.out _ (LW.step (And.left (by assumption)) HB4.out) | exact KS.out _ (LW.step (And.left (by assumption)) HB6.out) | exact KS.out _ (And.left H7.out))
          (first
            | (refine step_append_rd _ (by rfl) (.tmp 43) (.tmp 44) 22 (by rfl) u5.heap.size 23 i0 _ 1 24 Try.underlying22 hi0 hz0 hz1 hz2 rfl (by omega) (.slice (some ⟨u5.heap.size, 0, none⟩) 0 0) 0 [] (by rfl) (by first | exact own_none _ _ 1 | exact (own_none _ _ 1).alloc _) u5.heap.size (some ad0) len0 cap0 vs (by rfl) (HRV.out.below (LW.b (And.left (by assumption)))) HV1.out (by simp only [maxLen]; omega) (by omega) (LW.size (And.left (by assumption))) ?_; intro A4 c4 w4 hown4 hg4 hat4; have HP4 := hide hown4; simp only [Nat.zero_add, List.nil_append] at hown4; have hb4 := grown_below (B := u5.heap.size) hg4 (fun k e => by have e2 := Option.some.inj (show some (u5.heap.size) = some k from e); omega) (LW.size (And.left (by assumption))); have HB4 := hide hb4; have HO4 := hide hown4; have HG4 := hide hg4; clear hown4 hg4 hb4)
            | (refine step_append_rd _ (by rfl) (.tmp 43) (.tmp 44) 22 (by rfl) u5.heap.size 23 i0 _ 1 24 Try.underlying22 hi0 hz0 hz1 hz2 rfl (by omega) (.slice (some ⟨u5.heap.size + 1, 0, none⟩) 0 0) 0 [] (by rfl) (HOC.out _) u5.heap.size (some ad0) len0 cap0 vs (by rfl) (HRV.out.below (LW.b (And.left (by assumption)))) HV1.out (by simp only [maxLen]; omega) (by omega) (LW.size (And.left (by assumption))) ?_; intro A4 c4 w4 hown4 hg4 hat4; have HP4 := hide hown4; simp only [Nat.zero_add, List.nil_append] at hown4; have hb4 := grown_below (B := u5.heap.size) hg4 (fun k e => by have e2 := Option.some.inj (show some (u5.heap.size + 1) = some k from e); omega) (LW.size (And.left (by assumption))); have HB4 := hide hb4; have HO4 := hide hown4; have HG4 := hide hg4; clear hown4 hg4 hb4)
            | (refine step_append_rd _ (by rfl) (.tmp 45) (.tmp 50) 22 (by rfl) u5.heap.size 23 i0 _ 1 24 Try.underlying22 hi0 hz0 hz1 hz2 rfl (by omega) (.slice A4 len0 c4) len0 vs (by rfl) (by first | exact HO4.out | exact HO4.out.alloc _) (w4.heap.size + 1) (some ⟨w4.heap.size, 0, none⟩) 1 1 [.slice A1 l.length c1] (by rfl) (Rd.one w4 _ _) (by simp [Value.oneCell']) (by simp only [maxLen]; omega) (by omega) (LW.size (And.left (by assumption))) ?_; intro A6 c6 w6 hown6 hg6 hat6; have hb6 := below_grown (by first | exact HO4.out | exact HO4.out.alloc _) hg6 (Nat.le_refl _) (LW.size (And.left (by assumption))); have HB6 := hide hb6; have HO6 := hide hown6; clear hown6 hg6 hb6)
            | (refine step_append_rd _ (by rfl) (.tmp 45) (.tmp 50) 22 (by rfl) u5.heap.size 23 i0 _ 1 24 Try.underlying22 hi0 hz0 hz1 hz2 rfl (by omega) (.slice A4 (0 + len0) c4) (0 + len0) vs (by rfl) HP4.out (u5.heap.size + 1 + 1) (some ⟨u5.heap.size + 1, 0, none⟩) 1 1 [.slice A1 l.length c1] (by rfl) (HRB.out _ _ HG4.out) (by simp [Value.oneCell']) (by simp only [maxLen]; omega) (by omega) (LW.size (And.left (by assumption))) ?_; intro A6 c6 w6 hown6 hg6 hat6; have hb6 := below_grown HP4.out hg6 (Nat.le_refl _) (LW.size (And.left (by assumption))); have HB6 := hide hb6; simp only [Nat.zero_add] at hown6; have HO6 := hide hown6; clear hown6 hg6 hb6)
            | (refine step_append_rd _ (by rfl) (.tmp 45) (.tmp 50) 22 (by rfl) u5.heap.size 23 i0 _ 1 24 Try.underlying22 hi0 hz0 hz1 hz2 rfl (by omega) (.slice A4 (0 + len0) c4) (0 + len0) vs (by rfl) HP4.out (u5.heap.size + 1) (some ⟨u5.heap.size, 0, none⟩) 1 1 [.slice A1 l.length c1] (by rfl) (HRC.out _ _ HG4.out) (by simp [Value.oneCell']) (by simp only [maxLen]; omega) (by omega) (LW.size (And.left (by assumption))) ?_; intro A6 c6 w6 hown6 hg6 hat6; have hb6 := below_grown HP4.out hg6 (Nat.le_refl _) (LW.size (And.left (by assumption))); have HB6 := hide hb6; simp only [Nat.zero_add] at hown6; have HO6 := hide hown6; clear hown6 hg6 hb6)
            | (go_at_call 11; refine (new_second (u := u5) (HTX.out _ _ _ HO6.out (And.left (by assumption))) (And.left (by assumption))).mono ?_; rintro e w7 ⟨p, q, rfl, h7⟩; have H7 := hide h7; clear h7))
        all_goals
          go_wp2_with fail
          go_meet
          exact H7.out
      case rest =>
        obtain ⟨w7, rfl⟩ : ∃ w7, w7 = wc := ⟨_, rfl⟩
        obtain ⟨hlw, h2⟩ := hcut
        have HLW := hide hlw.b
        have HB7 := hide (Bl HB5.out hlw.b)
        clear hlw HB5
        have hnw := HNEW.out
        clear HNEW
        rcases hnw with ⟨hc, rfl⟩ | ⟨hc, g, ns, ad, cn, rfl, hM, hG⟩
        · clear h2
          go_wp2_with fail
          go_ret
          exact ⟨rfl, HB7.out⟩
        · rcases h2 with ⟨hc2, rfl, rfl⟩ | ⟨hc2, u2, g2, ns2, ad2, cn2, rfl, rfl, hM2, hG2⟩
          · rcases check_snoc hc (mem_of HL.out) with h | h | h
            · exact absurd h hc2
            · rw [h]
              clear hM hG hc hc2 h
              go_wp2_with fail
              go_ret
              exact ⟨rfl, HB7.out⟩
            · rw [h]
              clear hM hG hc hc2 h
              go_wp2_with fail
              go_ret
              exact ⟨rfl, HB7.out⟩
          · have hid : Ls0.length ≤ 256 := (checkNo_0 hc).1
            have hgs := HG.out hc
            have hls : Ls0.length ≤ 299 := by have := tsum_le_gsum Ls0; omega
            have HMX := hide (show _ ∧ _ ∧ _ ∧ _ from ⟨hM.over HLW.out, hG, hM2, hG2⟩)
            have hba := (Below.refl w7.heap.size w7).alloc (Nat.le_refl _) (.cells #[] 41)
            have hsc := scan_any (HMX.out.1.over hba) HMX.out.2.1 ((HR5.out.over HLW.out).over hba) (by omega) (by omega)
            have hfl := scanTo_len Ls0 t len2 (by omega)
            have HSC := hide hsc
            clear hsc hba hM hG hM2 hG2 hgs
            go_wp2_with fail
            refine HSC.out.mono ?_
            rintro e w9 ⟨A9, c9, rfl, ho9, hb9⟩
            have hfull : ∃ full, scanTo Ls0 t len2 = full := ⟨_, rfl⟩
            obtain ⟨full, hfull⟩ := hfull
            rw [hfull] at ho9 hfl ⊢
            have HFU := hide hfull
            have hzc : (w7.alloc (.cells #[] 41)).heap.size = w7.heap.size + 1 := by simp
            have hap9 : ∀ k, (Value.slice A9 full.length c9).ownBlock = some k → (Value.slice (some ⟨w7.heap.size, 0, none⟩) 0 0).ownBlock ≠ some k := fun k hk e => by
              have h1 := (own_block ho9 k hk).1
              have h2 := Option.some.inj (show some w7.heap.size = some k from e)
              omega
            have HS9 := hide (show _ ∧ _ ∧ _ ∧ _ from ⟨own_lower ho9 (base' := w7.heap.size) (by omega), own_over (own_none w7 41 2) hb9, hap9, ((Below.refl w7.heap.size w7).alloc (Nat.le_refl _) (.cells #[] 41)).trans (hb9.mono (by omega))⟩)
            clear hfull ho9 hb9 hap9 hzc HSC
            go_wp2_with fail
            go_loopw [12, 77] (fun wv iv wr => ∃ (i : Nat) (out : HitL) (Ao : Option Addr) (co : Nat), wv = .slice Ao out.length co ∧ iv = .int .i64 i ∧ i ≤ full.length ∧ out ++ twice full at_ len0 (full.drop i) = twice full at_ len0 full ∧ out.length ≤ i * 60001 ∧ wr.ownsRow w7.heap.size 41 2 (.slice Ao out.length co) out.length (hitCells out) ∧ wr.ownsRow w7.heap.size 41 2 (.slice A9 full.length c9) full.length (hitCells full) ∧ (∀ k, (Value.slice A9 full.length c9).ownBlock = some k → (Value.slice Ao out.length co).ownBlock ≠ some k) ∧ Below w7.heap.size w7 wr) (fun _ iv _ => full.length - (intOf iv).toNat)
            case atStart => exact ⟨0, [], _, 0, rfl, rfl, by omega, rfl, by simp, HS9.out.2.1, HS9.out.1, HS9.out.2.2.1, HS9.out.2.2.2⟩
            case round =>
              clear HS9
              obtain ⟨wo, rfl⟩ : ∃ wo, wo = wr := ⟨_, rfl⟩
              obtain ⟨i, out, Ao, co, rfl, rfl, hi, heq, hol, hown, ho9, hap, hbel⟩ := hrel
              have HEQ := hide heq
              have HO := hide (show _ ∧ _ ∧ _ from ⟨hown, ho9, hap⟩)
              have HBE := hide hbel
              clear heq hown ho9 hap hbel
              by_cases hlt : i < full.length
              · obtain ⟨h, hh⟩ : ∃ h, full[i]? = some h := ⟨_, List.getElem?_eq_getElem hlt⟩
                obtain ⟨ah, rfl⟩ := own_some HO.out.2.1 (by omega)
                obtain ⟨x1, x2⟩ := h
                have hcs := hitCells_at full i _ hh
                have k1 := (own_cell HO.out.2.1 _ _ hcs.1).1
                have k2 := (own_cell HO.out.2.1 _ _ hcs.2).1
                rw [add_lit1] at k2
                have HHH := hide hh
                have e2 : IntKind.i64.wrap ((i : Int) + 1) = (i : Int) + 1 := IntWalk.i64_in _ (by omega)
                obtain ⟨out', ho', hol'⟩ : ∃ out', out ++ [(x1, x2)] = out' ∧ out.length + 1 = out'.length := ⟨_, rfl, by simp⟩
                have hta := twice_at (F := full) (at_ := at_) (len := len0) hh
                have HTA := hide hta
                have hrd2 : Rd ((wo.alloc (.cells #[.int .i64 (x1 : Int), .int .i64 (x2 : Int)] 41)).alloc (.cells #[.int .i64 (x1 : Int), .int .i64 (x2 : Int)] 41)) (wo.heap.size + 1 + 1) 2 (some ⟨wo.heap.size + 1, 0, none⟩) 1 1 [.int .i64 (x1 : Int), .int .i64 (x2 : Int)] := by
                  have h := rd_two (wo.alloc (.cells #[.int .i64 (x1 : Int), .int .i64 (x2 : Int)] 41)) (.int .i64 (x1 : Int)) (.int .i64 (x2 : Int)) 41
                  rw [show (wo.alloc (.cells #[.int .i64 (x1 : Int), .int .i64 (x2 : Int)] 41)).heap.size = wo.heap.size + 1 by simp] at h
                  exact h
                have hwb : ∀ k, (Value.slice Ao out.length co).ownBlock = some k → k < wo.heap.size := fun k hk => (own_block HO.out.1 k hk).2
                have hbn := Blk.new wo 41 #[.int .i64 (x1 : Int), .int .i64 (x2 : Int)]
                have hbe := (HBE.out.alloc HBE.out.size (.cells #[.int .i64 (x1 : Int), .int .i64 (x2 : Int)] 41)).alloc (by have := HBE.out.size; simp; omega) (.cells #[.int .i64 (x1 : Int), .int .i64 (x2 : Int)] 41)
                have HWB := hide (show _ ∧ _ ∧ _ ∧ _ from ⟨hwb, hbn, hbe, hrd2⟩)
                have HOO := hide ho'
                have hwc : w7.heap.size ≤ wo.heap.size := HBE.out.size
                clear hh hcs hta hwb hbn hbe hrd2 ho'
                go_wp2_with (at_builtin; refine wpList_append_rd _ rfl (.tmp 82) (.tmp 84) _ rfl w7.heap.size 41 i2 _ 2 16 Try.underlying34 hi2 hy0 hy1 hy2 rfl (by omega) (.slice Ao out.length co) out.length (hitCells out) rfl ((HO.out.1.alloc _).alloc _) (wo.heap.size + 1 + 1) (some ⟨wo.heap.size + 1, 0, none⟩) 1 1 [.int .i64 (x1 : Int), .int .i64 (x2 : Int)] rfl HWB.out.2.2.2 (by simp [Value.oneCell']) (by simp only [maxLen]; omega) (by omega) (by simp; omega) ?_; intro A4 c4 w4 hown4 hg4 hat4; have hb4 := HWB.out.2.2.1.trans (below_grown ((HO.out.1.alloc _).alloc _) hg4 (Nat.le_refl _) (by simp; omega)); have h4 := own_grown_apart (HO.out.2.1.alloc _) HO.out.2.2 hg4; have h5 := apart_next (HO.out.2.1.alloc _) HO.out.2.2 hat4; have h6 := blk_grown_apart HWB.out.2.1 (fun e => Nat.lt_irrefl _ (HWB.out.1 _ e)) hg4; have h7 := blk_next HWB.out.2.1 (fun e => Nat.lt_irrefl _ (HWB.out.1 _ e)) hat4; rw [hol'] at hown4 h5 h7; have H4 := hide (show _ ∧ _ ∧ _ ∧ _ ∧ _ ∧ _ from ⟨hown4, h4, h5, h6, h7, hb4⟩); clear hown4 hg4 hat4 hb4 h4 h5 h6 h7 k1 k2)
                go_upto_region 16 with fail
                go_cut [101] (fun s wx => s = .bool (lastOf (x1, x2) (full.drop (i + 1))) ∧ Drew w4 wx)
                case first =>
                  have kh := H4.out.2.2.2.1.at_ (i := 1) (v := .int .i64 (x2 : Int)) rfl
                  by_cases hend : i + 1 = full.length
                  · have HLE := hide (last_end (h := (x1, x2)) hend)
                    have hei : ((i : Int) + 1 == (full.length : Int)) = true := beq_iff_eq.2 (by omega)
                    clear hend
                    go_quiet (fail)
                    go_wp2_with fail
                    go_meet
                    exact ⟨by rw [HLE.out], ⟨_, rfl⟩⟩
                  · obtain ⟨y, hy⟩ : ∃ y, full[i + 1]? = some y := ⟨_, List.getElem?_eq_getElem (by omega)⟩
                    obtain ⟨y1, y2⟩ := y
                    have hla := last_at (h := (x1, x2)) hy
                    have k2 := (own_cell H4.out.2.1 _ _ (hitCells_at full (i + 1) _ hy).2).1
                    rw [add_lit1] at k2
                    have hei : ((i : Int) + 1 == (full.length : Int)) = false := beq_eq_false_iff_ne.2 (by omega)
                    have hx0 : (0 : Int) ≤ (i : Int) + 1 := by omega
                    have hx1 : (i : Int) + 1 < (full.length : Int) := by omega
                    have hx2 : ((i : Int) + 1).toNat = i + 1 := by omega
                    by_cases hcmp : x2 < y2
                    · have hci : (x2 : Int) < (y2 : Int) := by omega
                      rw [decide_eq_true hcmp] at hla
                      have HLE := hide hla
                      clear hend hcmp hy hla
                      go_quiet (fail)
                      go_wp2_with fail
                      go_meet
                      exact ⟨by rw [HLE.out], ⟨_, rfl⟩⟩
                    · have hci : decide ((x2 : Int) < (y2 : Int)) = false := decide_eq_false (by omega)
                      have HLE := hide hla
                      clear hend hcmp hy hla
                      go_quiet (fail)
                      go_wp2_with fail
                      go_meet
                      exact ⟨by rw [HLE.out], ⟨_, rfl⟩⟩
                case rest =>
                  obtain ⟨rfl, hdr⟩ := hcut
                  have how4 := H4.out.1
                  rw [← show hitCells (out ++ [(x1, x2)]) = hitCells out ++ [.int .i64 (x1 : Int), .int .i64 (x2 : Int)] from hitCells_snoc out (x1, x2), HOO.out] at how4
                  have HH4 := hide (show _ ∧ _ ∧ _ ∧ _ ∧ _ ∧ _ from ⟨own_drew how4 hdr, own_drew H4.out.2.1 hdr, H4.out.2.2.1, hdr.blk H4.out.2.2.2.1, H4.out.2.2.2.2.1, H4.out.2.2.2.2.2.trans (hdr.below.mono H4.out.2.2.2.2.2.size)⟩)
                  clear hdr H4 how4
                  obtain ⟨la, hla⟩ : ∃ la, lastOf (x1, x2) (full.drop (i + 1)) = la := ⟨_, rfl⟩
                  have hta := HTA.out
                  rw [hla] at hta ⊢
                  clear hla HTA
                  cases la
                  · have HNX : Hid (out' ++ twice full at_ len0 (full.drop (i + 1)) = twice full at_ len0 full) := hide (by
                      rw [← HEQ.out, hta, ← HOO.out]; simp)
                    clear hta
                    go_wp2_with fail
                    go_roundw
                    case rel => exact ⟨i + 1, out', A4, c4, rfl, by go_num, by omega, HNX.out, by omega, HH4.out.1, HH4.out.2.1, HH4.out.2.2.1, HH4.out.2.2.2.2.2⟩
                    case measure => simp [intOf]; omega
                  · have HNX : Hid (out' ++ (extra full at_ len0 x2 ++ twice full at_ len0 (full.drop (i + 1))) = twice full at_ len0 full) := hide (by
                      rw [← HEQ.out, hta, ← HOO.out]; simp)
                    have hsc := scan_any (HMX.out.1.over HH4.out.2.2.2.2.2) HMX.out.2.1 ((HR5.out.over HLW.out).over HH4.out.2.2.2.2.2) (by omega) (by omega)
                    rw [HFU.out] at hsc
                    have HSC := hide hsc
                    clear hta hsc
                    go_wp2_with fail
                    refine HSC.out.mono ?_
                    rintro e w5 ⟨A5, c5, rfl, ho5, hb5⟩
                    have hx5 : ∀ k, (Value.slice A5 full.length c5).ownBlock = some k → (Value.slice A4 out'.length c4).ownBlock ≠ some k := fun k hk e => by
                      have h1 := (own_block ho5 k hk).1
                      have h2 := (own_block HH4.out.1 k e).2
                      omega
                    have hsz5 := HH4.out.2.2.2.2.2.size
                    have H5 := hide (show _ ∧ _ ∧ _ ∧ _ ∧ _ ∧ _ ∧ _ ∧ _ from ⟨own_over HH4.out.1 hb5, own_over HH4.out.2.1 hb5, own_lower ho5 hsz5, HH4.out.2.2.1, hx5, HH4.out.2.2.2.1.below hb5 HH4.out.2.2.2.1.lt, HH4.out.2.2.2.2.1, HH4.out.2.2.2.2.2.trans (hb5.mono hsz5)⟩)
                    clear ho5 hb5 hx5 hsz5 HSC HH4
                    go_wp2_with fail
                    go_loopw [12, 106] (fun wv kv wl => ∃ (k : Nat) (out2 : HitL) (Ao2 : Option Addr) (co2 : Nat), wv = .slice Ao2 out2.length co2 ∧ kv = .int .i64 k ∧ k ≤ full.length ∧ out2 = out' ++ exTo full at_ len0 x2 k ∧ wl.ownsRow w7.heap.size 41 2 (.slice Ao2 out2.length co2) out2.length (hitCells out2) ∧ wl.ownsRow w7.heap.size 41 2 (.slice (some ah) full.length c9) full.length (hitCells full) ∧ wl.ownsRow w7.heap.size 41 2 (.slice A5 full.length c5) full.length (hitCells full) ∧ (∀ k, (Value.slice (some ah) full.length c9).ownBlock = some k → (Value.slice Ao2 out2.length co2).ownBlock ≠ some k) ∧ (∀ k, (Value.slice A5 full.length c5).ownBlock = some k → (Value.slice Ao2 out2.length co2).ownBlock ≠ some k) ∧ Blk wl wo.heap.size 41 #[.int .i64 (x1 : Int), .int .i64 (x2 : Int)] ∧ (Value.slice Ao2 out2.length co2).ownBlock ≠ some wo.heap.size ∧ Below w7.heap.size w7 wl) (fun _ kv _ => full.length - (intOf kv).toNat)
                    case atStart =>
                      have h := H5.out
                      exact ⟨0, out', A4, c4, rfl, rfl, by omega, by simp [exTo, extra], h.1, h.2.1, h.2.2.1, h.2.2.2.1, h.2.2.2.2.1, h.2.2.2.2.2.1, h.2.2.2.2.2.2.1, h.2.2.2.2.2.2.2⟩
                    case round =>
                      clear H5
                      obtain ⟨k, out2, Ao2, co2, rfl, rfl, hk, hout2, ho2, hoa, hox, hpa, hpx, hbk, hpb, hbel⟩ := hrel
                      have hol2 : out2.length ≤ i * 60001 + 1 + k := by
                        rw [hout2, List.length_append]; have := exTo_len full at_ len0 x2 k; omega
                      have HOut := hide hout2
                      have HI := hide (show _ ∧ _ ∧ _ ∧ _ ∧ _ ∧ _ ∧ _ ∧ _ from ⟨ho2, hoa, hox, hpa, hpx, hbk, hpb, hbel⟩)
                      clear hout2 ho2 hoa hox hpa hpx hbk hpb hbel
                      by_cases hkl : k < full.length
                      · obtain ⟨y, hy⟩ : ∃ y, full[k]? = some y := ⟨_, List.getElem?_eq_getElem hkl⟩
                        obtain ⟨y1, y2⟩ := y
                        obtain ⟨ax, rfl⟩ := own_some HI.out.2.2.1 (by omega)
                        have hcs := hitCells_at full k _ hy
                        have k1 := (own_cell HI.out.2.2.1 _ _ hcs.1).1
                        have k2 := (own_cell HI.out.2.2.1 _ _ hcs.2).1
                        rw [add_lit1] at k2
                        have khc : (wr.alloc (.cells #[.int .i64 (y1 : Int), .int .i64 (y2 : Int)] 41)).cell? ⟨wo.heap.size, 1, none⟩ = some (.int .i64 (x2 : Int)) := (HI.out.2.2.2.2.2.1.alloc _).at_ rfl
                        have hxs := exTo_succ (at_ := at_) (len := len0) (E := x2) hy
                        have e3 : IntKind.i64.wrap ((k : Int) + 1) = (k : Int) + 1 := IntWalk.i64_in _ (by omega)
                        by_cases hp : y1 = at_ ∧ y2 = x2
                        · rw [if_pos hp] at hxs
                          obtain ⟨hp1, hp2⟩ := hp
                          have hpi1 : ((y1 : Int) == (at_ : Int)) = true := beq_iff_eq.2 (by omega)
                          have hpi2 : ((y2 : Int) == (x2 : Int)) = true := beq_iff_eq.2 (by omega)
                          obtain ⟨out3, ho3, hol3⟩ : ∃ out3, out2 ++ [(len0, x2)] = out3 ∧ out2.length + 1 = out3.length := ⟨_, rfl, by simp⟩
                          have HX3 : Hid (out3 = out' ++ exTo full at_ len0 x2 (k + 1)) := hide (by rw [hxs, ← ho3, HOut.out, List.append_assoc])
                          have hc3 : hitCells out2 ++ [.int .i64 (len0 : Int), .int .i64 (x2 : Int)] = hitCells out3 := by
                            rw [← ho3]; exact (hitCells_snoc out2 (len0, x2)).symm
                          have HC3 := hide hc3
                          have hrd2 : Rd ((wr.alloc (.cells #[.int .i64 (y1 : Int), .int .i64 (y2 : Int)] 41)).alloc (.cells #[.int .i64 (len0 : Int), .int .i64 (x2 : Int)] 41)) (wr.heap.size + 1 + 1) 2 (some ⟨wr.heap.size + 1, 0, none⟩) 1 1 [.int .i64 (len0 : Int), .int .i64 (x2 : Int)] := by
                            have h := rd_two (wr.alloc (.cells #[.int .i64 (y1 : Int), .int .i64 (y2 : Int)] 41)) (.int .i64 (len0 : Int)) (.int .i64 (x2 : Int)) 41
                            rw [show (wr.alloc (.cells #[.int .i64 (y1 : Int), .int .i64 (y2 : Int)] 41)).heap.size = wr.heap.size + 1 by simp] at h
                            exact h
                          have hbe := (HI.out.2.2.2.2.2.2.2.alloc HI.out.2.2.2.2.2.2.2.size (.cells #[.int .i64 (y1 : Int), .int .i64 (y2 : Int)] 41)).alloc (by have := HI.out.2.2.2.2.2.2.2.size; simp; omega) (.cells #[.int .i64 (len0 : Int), .int .i64 (x2 : Int)] 41)
                          have HWB2 := hide (show _ ∧ _ from ⟨hbe, hrd2⟩)
                          have hwc2 : w7.heap.size ≤ wr.heap.size := HI.out.2.2.2.2.2.2.2.size
                          clear hy hcs hxs hp1 hp2 ho3 hc3 hrd2 hbe
                          go_wp2_with (at_builtin; refine wpList_append_rd _ rfl (.tmp 121) (.tmp 127) _ rfl w7.heap.size 41 i2 _ 2 16 Try.underlying34 hi2 hy0 hy1 hy2 rfl (by omega) (.slice Ao2 out2.length co2) out2.length (hitCells out2) rfl ((HI.out.1.alloc _).alloc _) (wr.heap.size + 1 + 1) (some ⟨wr.heap.size + 1, 0, none⟩) 1 1 [.int .i64 (len0 : Int), .int .i64 (x2 : Int)] rfl HWB2.out.2 (by simp [Value.oneCell']) (by simp only [maxLen]; omega) (by omega) (by simp; omega) ?_; intro A8 c8 w8 hown8 hg8 hat8; have q1 := HWB2.out.1.trans (below_grown ((HI.out.1.alloc _).alloc _) hg8 (Nat.le_refl _) (by simp; omega)); have q2 := own_grown_apart (HI.out.2.1.alloc _) HI.out.2.2.2.1 hg8; have q3 := apart_next (HI.out.2.1.alloc _) HI.out.2.2.2.1 hat8; have q4 := own_grown_apart (HI.out.2.2.1.alloc _) HI.out.2.2.2.2.1 hg8; have q5 := apart_next (HI.out.2.2.1.alloc _) HI.out.2.2.2.2.1 hat8; have q6 := blk_grown_apart (HI.out.2.2.2.2.2.1.alloc _) HI.out.2.2.2.2.2.2.1 hg8; have q7 := blk_next (HI.out.2.2.2.2.2.1.alloc _) HI.out.2.2.2.2.2.2.1 hat8; rw [hol3] at hown8 q3 q5 q7; have H8 := hide (show _ ∧ _ ∧ _ ∧ _ ∧ _ ∧ _ ∧ _ ∧ _ from ⟨hown8, q2, q4, q3, q5, q6, q7, q1⟩); clear hown8 hg8 hat8 q1 q2 q3 q4 q5 q6 q7 k1 k2 khc)
                          go_roundw
                          case rel =>
                            have h := H8.out
                            rw [HC3.out] at h
                            exact ⟨k + 1, out3, A8, c8, rfl, by go_num, by omega, HX3.out, h.1, h.2.1, h.2.2.1, h.2.2.2.1, h.2.2.2.2.1, h.2.2.2.2.2.1, h.2.2.2.2.2.2.1, h.2.2.2.2.2.2.2⟩
                          case measure => simp [intOf]; omega
                        · rw [if_neg hp, List.append_nil] at hxs
                          have HX3 : Hid (out2 = out' ++ exTo full at_ len0 x2 (k + 1)) := hide (by rw [hxs, HOut.out])
                          have HAL := hide (show _ ∧ _ ∧ _ ∧ _ ∧ _ from ⟨HI.out.1.alloc (.cells #[.int .i64 (y1 : Int), .int .i64 (y2 : Int)] 41), HI.out.2.1.alloc (.cells #[.int .i64 (y1 : Int), .int .i64 (y2 : Int)] 41), HI.out.2.2.1.alloc (.cells #[.int .i64 (y1 : Int), .int .i64 (y2 : Int)] 41), HI.out.2.2.2.2.2.1.alloc (.cells #[.int .i64 (y1 : Int), .int .i64 (y2 : Int)] 41), HI.out.2.2.2.2.2.2.2.alloc HI.out.2.2.2.2.2.2.2.size (.cells #[.int .i64 (y1 : Int), .int .i64 (y2 : Int)] 41)⟩)
                          by_cases hp1 : y1 = at_
                          · have hp2 : y2 ≠ x2 := fun e => hp ⟨hp1, e⟩
                            have hpi1 : ((y1 : Int) == (at_ : Int)) = true := beq_iff_eq.2 (by omega)
                            have hpi2 : ((y2 : Int) == (x2 : Int)) = false := beq_eq_false_iff_ne.2 (by omega)
                            clear hy hcs hxs hp hp1 hp2
                            go_wp2_with fail
                            go_roundw
                            case rel => exact ⟨k + 1, out2, Ao2, co2, rfl, by go_num, by omega, HX3.out, HAL.out.1, HAL.out.2.1, HAL.out.2.2.1, HI.out.2.2.2.1, HI.out.2.2.2.2.1, HAL.out.2.2.2.1, HI.out.2.2.2.2.2.2.1, HAL.out.2.2.2.2⟩
                            case measure => simp [intOf]; omega
                          · have hpi1 : ((y1 : Int) == (at_ : Int)) = false := beq_eq_false_iff_ne.2 (by omega)
                            clear hy hcs hxs hp hp1
                            go_wp2_with fail
                            go_roundw
                            case rel => exact ⟨k + 1, out2, Ao2, co2, rfl, by go_num, by omega, HX3.out, HAL.out.1, HAL.out.2.1, HAL.out.2.2.1, HI.out.2.2.2.1, HI.out.2.2.2.2.1, HAL.out.2.2.2.1, HI.out.2.2.2.2.2.2.1, HAL.out.2.2.2.2⟩
                            case measure => simp [intOf]; omega
                      · obtain rfl : k = full.length := by omega
                        rw [exTo_all] at HOut
                        have HN2 : Hid (out2 ++ twice full at_ len0 (full.drop (i + 1)) = twice full at_ len0 full) := hide (by rw [HOut.out, List.append_assoc]; exact HNX.out)
                        have hln := bound_step _ _ _ _ hol2 hfl hl1
                        go_wp2_with fail
                        go_roundw
                        case rel => exact ⟨i + 1, out2, Ao2, co2, rfl, by go_num, by omega, HN2.out, hln, HI.out.1, HI.out.2.1, HI.out.2.2.2.1, HI.out.2.2.2.2.2.2.2⟩
                        case measure => simp [intOf]; omega
              · obtain rfl : i = full.length := by omega
                have hend : out = twice full at_ len0 full := by
                  rw [← HEQ.out, List.drop_length]; simp [twice]
                have hpr := pres_snoc HMX.out.2.1.pres HMX.out.2.2.2.pres (mem_of HL.out)
                rw [List.length_map, List.length_map] at hpr
                have hst1 := states_any (HMX.out.1.over HBE.out)
                have hst2 := states_any (HMX.out.2.2.1.over HBE.out)
                have hsc := scan_any (HMX.out.2.2.1.over HBE.out) HMX.out.2.2.2 ((HR5.out.over HLW.out).over HBE.out) (by omega) (by simp; omega)
                rw [scan_twice Ls0 l t at_ len2 HL.out, HFU.out, hct, ← hend] at hsc
                rw [← hpr] at hst2
                have HST1 := hide hst1
                have HST2 := hide hst2
                have HSC := hide hsc
                clear hpr hst1 hst2 hsc hend
                go_wp2_with fail
                refine HST1.out.mono ?_
                rintro e w8 ⟨rfl, rfl⟩
                go_wp2_with fail
                refine HST2.out.mono ?_
                rintro e w8 ⟨rfl, rfl⟩
                go_wp2_with fail
                refine HSC.out.mono ?_
                rintro e w8 ⟨A8, c8, rfl, ho8, hb8⟩
                have hsm := same_any (Rd.of_own ho8) (Rd.of_own (own_over HO.out.1 hb8))
                rw [decide_eq_true rfl] at hsm
                have HSM := hide hsm
                have HB8 := hide (Bl HB7.out (HBE.out.trans (hb8.mono HBE.out.size)))
                clear hsm ho8 hb8 HSC HST1 HST2
                go_wp2_with fail
                refine HSM.out.mono ?_
                rintro e w9 ⟨rfl, hd⟩
                have HB9 := hide (Bl HB8.out hd.below)
                clear hd
                go_wp2_with fail
                go_ret
                exact ⟨by first | rfl | simp, HB9.out⟩
    · go_wp2_with fail
      go_ret
      exact ⟨rfl, HB.out⟩

set_option maxRecDepth 100000 in
theorem lifted (os : Os) (started : os.Started) (H : Type) (enc : TypeId × Value → H) (F : Stop.Interp) :
    ReturnsInHanded {} Try.checked os 4 .any ((Rows.OpenSpec.upto Rows.achoTwiceSpec).pre6 enc Try.prog Try.f4 Rows.achoTwiceUptoRow.domain false) (((Rows.OpenSpec.upto Rows.achoTwiceSpec).at F).post enc Try.prog Try.f4 false true false false) := by
  refine returnsInHanded_of_cond (C := Try.checked) (s := Rows.OpenSpec.upto Rows.achoTwiceSpec) (k := Rows.uptoSmall) rfl own started (by kernel_rfl) Try.func4
    (OpenSpec.witness (enc := enc) (C := Try.checked) (s := Rows.OpenSpec.upto Rows.achoTwiceSpec) (k := Rows.uptoSmall) rfl false ⟨#[], #[.slice none 0 0, .int .i64 0, .slice none 0 0], []⟩ 8 (by kernel_rfl) (by kernel_rfl) (by kernel_rfl)
      (x := ([.nil, .lit (.int .i64 0), .nil], [], [])) (by kernel_rfl) rfl (by kernel_rfl)) ?_
  intro W base args ds gs before hval0 hW _ hk _
  have hval : ∀ (j : Nat) t v, Try.f4.params[j]? = some t → args[j]? = some v → Value.okWide Try.prog W .any base t v := hval0
  have hW' := hW
  obtain ⟨p, q, hA0, hV, rfl, hfz, hnd⟩ := hW
  have hA : DataW.TrodAll enc Try.prog W 0 (fun _ => true) true Try.f4.params.toList args.toList ds p := hA0
  rw [Try.params4] at hA hval
  obtain ⟨v0, vs0, d0, ds0, p0, q0, hargs, rfl, rfl, h0, r0⟩ := trodAll_cons hA
  obtain ⟨v1, vs1, d1, ds1, p1, q1, rfl, rfl, rfl, h1, r1⟩ := trodAll_cons r0
  obtain ⟨v2, vs2, d2, ds2, p2, q2, rfl, rfl, rfl, h2, r2⟩ := trodAll_cons r1
  obtain ⟨rfl, rfl, rfl⟩ := trodAll_nil r2
  obtain rfl : args = #[v0, v1, v2] := by cases args; simp_all
  obtain ⟨rfl, rfl⟩ := trodVars_none hV
  obtain ⟨a0, len0, cap0, rfl⟩ := okWide_slice Try.underlying22 (hval 0 22 v0 rfl rfl)
  have k0 := h0
  have lt0 : ∀ x ∈ p0, x.block < W.heap.size := by obtain ⟨m, hm⟩ := k0; exact DataW.trod_lt m _ _ _ hm
  obtain ⟨a1, rfl, rfl, rfl, w1⟩ := open_int Try.underlying3 (hval 1 3 v1 rfl rfl) h1
  obtain ⟨a2, len2, cap2, rfl⟩ := okWide_slice Try.underlying23 (hval 2 23 v2 rfl rfl)
  have k2 := h2
  have lt2 : ∀ x ∈ p2, x.block < W.heap.size := by obtain ⟨m, hm⟩ := k2; exact DataW.trod_lt m _ _ _ hm
  obtain ⟨z2, w2, b2⟩ : ∃ zs, IsRow .u8 W a2 len2 cap2 zs ∧ len2 ≤ Rows.uptoBulk d2 := by
    obtain ⟨fuel, hf⟩ := h2
    rcases open_ints Try.underlying23 Try.underlying5 (by kernel_rfl) hf with ⟨hcs, hx⟩ | ⟨x, l, c, zs, hcs, _, hl, hm, hz, hx, hcell, hwz⟩
    · simp [Value.cells] at hcs
      obtain ⟨rfl, rfl, rfl⟩ := hcs
      exact ⟨[], .inl ⟨rfl, rfl, rfl, rfl⟩, Nat.zero_le _⟩
    · simp [Value.cells] at hcs
      obtain ⟨rfl, rfl, rfl⟩ := hcs
      exact ⟨zs, .inr ⟨_, rfl, hl, hm, by simpa using hz, hcell, hwz⟩, bulks.ints_le (congrArg Prod.fst hx) (by simp at hz; omega)⟩
  clear hA0 hval0
  simp only [List.append_nil] at hW' hk
  obtain ⟨Ls0, w0, s0⟩ : ∃ Ls, AW.Texts W W.heap.size a0 len0 cap0 Ls ∧ (Rows.uptoBulk d0 ≤ 1048576 → len0 ≤ 1048576 ∧ ∀ l ∈ Ls, l.length ≤ 1048576) := by
    obtain ⟨fuel, hf⟩ := k0
    exact AW.texts_of (by simpa [Value.cells] using hf)
  refine (walk W a0 len0 cap0 Ls0 w0 (s0 (Nat.le_trans (bulks.part_le (l := [d0, .lit (.int .i64 a1), d2]) (by simp)) (bulks.bound hk))) a1 w1 a2 len2 cap2 z2 w2 (Nat.le_trans b2 (Nat.le_trans (bulks.part_le (l := [d0, .lit (.int .i64 a1), d2]) (by simp)) (bulks.bound hk)))).mono fun e W' ⟨he, bel⟩ => ?_
  subst he
  exact ⟨_, rfl, _, _, _, [], _, [], hW', trodAll_mk1 (shut_bool Try.underlying4 _), (trodAll_cons_mk (Below.trod laidOut (by kernel_rfl) (of_decide_eq_true (by kernel_rfl)) k0 bel lt0) (trodAll_cons_mk (shut_int Try.underlying3 w1) (trodAll_cons_mk (Below.trod laidOut (by kernel_rfl) (of_decide_eq_true (by kernel_rfl)) k2 bel lt2) trodAll_mk0))), rfl, bel.frame _, fun h => by cases h⟩

theorem over : Rows.achoTwiceUptoRow.holds Try.pinned (Rows.OpenSpec.upto Rows.achoTwiceSpec) :=
  OpenClaim.holds_of_cond 4 Try.f4 rfl rfl rfl rfl rfl rfl rfl ⟨rfl, rfl, rfl, rfl, rfl⟩ rfl rfl rfl rfl rfl (by kernel_rfl) Try.func4 (by kernel_rfl)
    (of_decide_eq_true (by kernel_rfl)) (by unfold Func.isWrapper; first | (rw [if_pos (by decide +kernel)]; kernel_rfl) | (rw [if_neg (by decide +kernel)]; exact ⟨rfl, rfl⟩))
    (fun os started H enc _ F => lifted os started H enc F)

/-- The statement. -/
theorem proved : Rows.AchoTwiceUptoSaid := over
#print axioms proved
end Go.Proofs.Ytameecogopnkjaa.achoTwice
