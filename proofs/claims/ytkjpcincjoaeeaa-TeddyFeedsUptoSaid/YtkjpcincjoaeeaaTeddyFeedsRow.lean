/- TeddyFeeds: whatever pieces a text comes in, each piece tells just the literals that end in it. Condition: the arguments hold together at most 1048576 values and letters. -/
import Derived.Test.YtkjpcincjoaeeaaRows
import Derived.WalkKit
import Derived.ProofKit
import Derived.OpenShut
import Derived.ShutString
import Derived.ChangeOld
import Derived.Below
import Derived.Test.YtkjpcincjoaeeaaMem
import Derived.JoinedCond
import Derived.Test.YtkjpcincjoaeeaaBulk
import Derived.Test.YtkjpcincjoaeeaaTSpeak
import Derived.Test.YtkjpcincjoaeeaaTFeeds
import Derived.Test.YtkjpcincjoaeeaaTWr
import Derived.Test.YtkjpcincjoaeeaaAOpen
import Derived.BigQuiet
import Derived.Deep.QuietTactic
namespace Go.Proofs.Ytkjpcincjoaeeaa.teddyFeeds
open Go.ChangeShapes Go.WideShapes Go.ChangeAt Go.RowKit
open Go.ChangeMaps (open_string shut_string)
open Go.Proofs.Ytkjpcincjoaeeaa.B
open Go.Proofs.Ytkjpcincjoaeeaa.AW
open Go.Proofs.Ytkjpcincjoaeeaa.TM (feedOut tailOf tailOf_len)
open Go.Proofs.Ytkjpcincjoaeeaa.TW (speaks_any FNewIs fnew_any Filt Strm stream_any kept_any feed_both mostOf GreatBig great_big refKept_any refFeed_any feed_new FeedIs FI Wr feed_nil)
open Go.Proofs.Ytkjpcincjoaeeaa.AM (Nd)
set_option linter.unusedVariables false

theorem own : ownKnob Try.prog.godebug = none := by kernel_rfl
theorem laidOut : laidOutB Try.prog = true := by kernel_rfl
def Gate (Ls P : List AM.T) (u : World) (s : Value) (wx : World) : Prop := ∃ b : Bool, s = .bool b ∧ u = wx ∧ (b = false → checkNo Ls = 0 ∧ gsum Ls ≤ 300 ∧ gsum P ≤ 300)
theorem tail_nil (m : Nat) : tailOf m [] = [] := by simp [tailOf]
theorem gate_true {Ls P : List AM.T} {u : World} : Gate Ls P u (.bool true) u := ⟨true, rfl, rfl, fun h => by cases h⟩

set_option maxRecDepth 10000 in
set_option maxHeartbeats 1000000 in
theorem walk (w : World) (a0 : Option Addr) (len0 cap0 : Nat) (Ls0 : List AM.T) (w0 : AW.Texts w w.heap.size a0 len0 cap0 Ls0) (s0 : len0 ≤ 1048576 ∧ ∀ l ∈ Ls0, l.length ≤ 1048576) (a1 : Option Addr) (len1 cap1 : Nat) (Ls1 : List AM.T) (w1 : AW.Texts w w.heap.size a1 len1 cap1 Ls1) (s1 : len1 ≤ 1048576 ∧ ∀ l ∈ Ls1, l.length ≤ 1048576) :
    Calls Try.prog 3 #[.slice a0 len0 cap0, .slice a1 len1 cap1] w fun e w' => e = .returned (.bool true) ∧ Below w.heap.size w w' := by
  have HT := hide w0
  have HP := hide w1
  have HS1 := hide s1.2
  clear w0 w1 s0 s1
  go_enter Try.func3, Try.ntmps3
  go_wp2_with fail
  refine (speaks_any _).mono ?_
  rintro e u1 ⟨rfl, b1⟩
  have HT1 := hide (HT.out.over b1)
  have HP1 := hide (HP.out.over b1)
  have HB := hide b1
  clear b1 HT HP
  go_upto_region 3 with fail
  go_cut [28] (fun s wx => Gate Ls0 Ls1 u1 s wx)
  case first =>
    go_wp2_with fail
    refine (great_any HT1.out).mono ?_
    rintro e u2 ⟨g, rfl, rfl, hgr⟩
    have HGR := hide hgr
    clear hgr
    cases g
    · have HG : Hid (checkNo Ls0 = 0 → gsum Ls0 ≤ 300) := hide (fun h => (HGR.out rfl).elim id (fun ⟨l, h1, h2⟩ => absurd ((checkNo_0 h).2.2.1 l h1) (by omega)))
      go_wp2_with fail
      refine (great_big HP1.out HS1.out).mono ?_
      rintro e u3 ⟨g2, rfl, rfl, hg2⟩
      have HG2 := hide hg2
      clear hg2
      cases g2
      · go_wp2_with fail
        refine (check_any HT1.out).mono ?_
        rintro e u4 ⟨rfl, rfl⟩
        by_cases hc : checkNo Ls0 = 0
        · have fin : Gate Ls0 Ls1 u1 (.bool false) u1 := ⟨false, rfl, rfl, fun _ => ⟨hc, HG.out hc, HG2.out (by trivial)⟩⟩
          have FIN := hide fin
          clear fin
          rw [hc]
          go_wp2_with fail
          go_meet
          exact FIN.out
        · have hci : ((checkNo Ls0 : Int) == 0) = false := beq_eq_false_iff_ne.2 (by omega)
          have hci2 : ((checkNo Ls0 : Int) != 0) = true := by rw [bne, hci]; rfl
          go_wp2_with fail
          go_meet
          exact gate_true
      · go_wp2_with fail
        go_meet
        exact gate_true
    · go_wp2_with fail
      go_meet
      exact gate_true
  case rest =>
    obtain ⟨b, rfl, rfl, hb⟩ := hcut
    cases b
    · obtain ⟨hc, hg, hgp⟩ := hb rfl
      have HN := hide (fnew_any HT1.out)
      obtain ⟨i0, hi0, hz0, hz1, hz2⟩ := info_parts info_u8
      go_wp2_with fail
      refine HN.out.mono ?_
      rintro e u5 (⟨hc2, _⟩ | ⟨_, g, AL, cL, vs, bs, lo, hi, rfl, hF⟩)
      · exact absurd hc hc2
      · have HF := hide hF
        clear HN hF
        go_wp2_with fail
        refine (stream_any (m := mostOf Ls0)).mono ?_
        rintro e w6 ⟨rfl, hS, hb6⟩
        have HS6 := hide (show _ ∧ _ from ⟨hS, hb6⟩)
        clear hS hb6
        go_wp2_with fail
        refine (stream_any (m := mostOf Ls0)).mono ?_
        rintro e w7 ⟨rfl, hS7, hb7⟩
        have h56 : u5.heap.size < w6.heap.size := HS6.out.1.blk.lt
        have h67 : w6.heap.size < w7.heap.size := hS7.blk.lt
        have hba := (Below.refl w7.heap.size w7).alloc (Nat.le_refl _) (.cells #[] 5)
        have hsz8 : (w7.alloc (.cells #[] 5)).heap.size = w7.heap.size + 1 := by simp
        have h0 : FI u5 w6 w7.heap.size u5.heap.size g (mostOf Ls0) [] [] (some ⟨w7.heap.size, 0, none⟩) 0 (w7.alloc (.cells #[] 5)) := by
          have ho := (hS7.over hba).blk
          rw [tail_nil] at ho
          exact ⟨(HS6.out.2.trans (hb7.mono (Nat.le_of_lt h56))).trans (hba.mono (by omega)), own_none w7 5 1, ⟨none, 0, (HS6.out.1.over hb7).over hba, by omega, fun k hk => by simp [Value.ownBlock] at hk⟩, ho, h56, h67, by omega⟩
        have HI0 := hide h0
        have HFF := hide (show _ ∧ _ ∧ _ from ⟨HF.out, HT1.out.over HF.out.below, HP1.out.over HF.out.below⟩)
        have HBB := hide (Bl HB.out HF.out.below)
        have hcs := checkNo_0 hc
        have HCS := hide hcs
        have hll : Ls0.length ≤ 300 := by omega
        have hct1 := HP1.out.count
        have HGP := hide hgp
        clear h0 hba hsz8 hS7 hb7 HS6 hc hg hgp hcs HB HF HT1 HP1 HS1 hb
        go_wp2_with fail
        go_loopw [9, 49] (fun av iv wr => ∃ (i kb : Nat) (p : AM.T) (A : Option Addr) (c : Nat), av = .slice A p.length c ∧ iv = .int .i64 i ∧ i ≤ len1 ∧ p.length = tsum (Ls1.take i) ∧ FI u5 w6 w7.heap.size kb g (mostOf Ls0) p p A c wr) (fun _ iv _ => len1 - (intOf iv).toNat)
        case atStart => exact ⟨0, _, [], _, 0, rfl, rfl, by omega, rfl, HI0.out⟩
        case round =>
          clear HI0
          obtain ⟨w8, rfl⟩ : ∃ w8, w8 = wr := ⟨_, rfl⟩
          obtain ⟨i, kb, p, A, c, rfl, rfl, hi, hpl, hI⟩ := hrel
          have HI := hide hI
          clear hI
          have hts := tsum_le Ls1 i
          have htg := tsum_le_gsum Ls1
          have hgp := HGP.out
          have hp3 : p.length ≤ 300 := by omega
          by_cases hlt : i < len1
          · obtain ⟨ad, l, A1, c1, rfl, hab, hl, hcl, hrl⟩ := (HFF.out.2.2.below HI.out.below).at_ hlt
            have htk := tsum_take hl
            have hts2 := tsum_le Ls1 (i + 1)
            have hpx : p.length + l.length ≤ 300 := by omega
            have HPX : Hid (p.length + l.length = tsum (Ls1.take (i + 1))) := hide (by omega)
            have HRL := hide hrl
            have e1 : IntKind.i64.wrap ((i : Int) + 1) = (i : Int) + 1 := IntWalk.i64_in _ (by omega)
            have hu8 : u5.heap.size ≤ w8.heap.size := HI.out.below.size
            clear hl hrl htk hts hts2 htg hgp hpl
            go_wp2_with (at_builtin; refine wpList_append_rd _ rfl (.tmp 53) (.tmp 54) _ rfl w8.heap.size 5 i0 _ 1 1 Try.underlying32 hi0 hz0 hz1 hz2 rfl (by omega) (.slice (some ⟨w8.heap.size, 0, none⟩) 0 0) 0 [] rfl (own_none w8 5 1) u5.heap.size A1 l.length c1 (u8s l) rfl (HRL.out.alloc hu8 _) (u8s_one _) (by simp only [maxLen]; omega) (by omega) (by simp) ?_; intro A2 c2 w2 hown2 hg2 hat2; simp only [Nat.zero_add, List.nil_append] at hown2; have hb2 : Below w8.heap.size w8 w2 := ((Below.refl _ _).alloc (Nat.le_refl _) _).trans (below_grown (own_none w8 5 1) hg2 (Nat.le_refl _) (by simp)); have H2 := hide (show _ ∧ _ from ⟨hown2, hb2⟩); clear hown2 hg2 hat2 hb2)
            have hI2 := HI.out.over H2.out.2
            obtain ⟨Ak, ck, hst, hkb, hkap⟩ := hI2.strm
            have hF2 := HFF.out.1.over hI2.below
            have hcs2 := HCS.out
            have hfd := feed_new hF2 hst (Rd.of_own H2.out.1) hkb HFF.out.1.below.size hll hcs2.2.2.1 hcs2.2.1 (by omega) (by omega)
            have HFD := hide hfd
            have HI2 := hide hI2
            clear hst hkb hkap hF2 hcs2 hfd hI2
            refine HFD.out.mono ?_
            rintro e w3 ⟨A3, c3, Ak3, ck3, rfl, ho3, hs3, hf3⟩
            have hfed := HI2.out.fed hs3 hf3
            have h58 : u5.heap.size < w8.heap.size := by have := HI.out.lt1; have := HI.out.lt2; have := HI.out.lt3; omega
            have hin3 := own_fr H2.out.1 hf3 (fun k hk e => by have h9 := (own_block H2.out.1 k hk).1; have e9 : k = u5.heap.size := e; omega)
            have hrl3 := HRL.out.below (H2.out.2.mono hu8)
            have hrl4 := hrl3.below (hf3.below (fun k e => Nat.le_of_eq e.symm) (Nat.le_trans hu8 H2.out.2.size))
            have H3 := hide (show _ ∧ _ ∧ _ ∧ _ ∧ _ from ⟨hfed.1, hin3, ho3, hrl4, hf3⟩)
            have HSZ := hide (show w8.heap.size ≤ w2.heap.size ∧ w2.heap.size ≤ w3.heap.size from ⟨H2.out.2.size, hf3.size⟩)
            clear hfed hin3 ho3 hs3 hf3 HFD hrl3 hrl4
            go_wp2_with (at_builtin; refine wpList_append_rd _ rfl (.tmp 61) (.tmp 62) _ rfl w7.heap.size 5 i0 _ 1 1 Try.underlying32 hi0 hz0 hz1 hz2 rfl (by omega) (.slice A p.length c) p.length (u8s p) rfl H3.out.1.all u5.heap.size A1 l.length c1 (u8s l) rfl H3.out.2.2.2.1 (u8s_one _) (by simp only [maxLen]; omega) (by omega) H3.out.1.lt3 ?_; intro A4 c4 w4 hown4 hg4 hat4; rw [← u8s_append] at hown4; have H4 := hide (show _ ∧ _ ∧ _ from ⟨hown4, hg4, hat4⟩); clear hown4 hg4 hat4)
            have happ := H3.out.1.app (x := l) (by simp) H4.out.2.1 H4.out.1 H4.out.2.2
            have hfg : Fr w3 w4 (fun k => (Value.slice A p.length c).ownBlock = some k) := (Fr.refl w3 _).grown H4.out.2.1 (fun k e _ => e)
            have hin4 := own_fr H3.out.2.1 hfg (fun k hk e => by have h9 := (own_block H2.out.1 k hk).1; have h8 := (own_block HI.out.all k e).2; omega)
            have hgot4 := own_fr H3.out.2.2.1 hfg (fun k hk e => own_apart H3.out.1.all H3.out.2.2.1 (by decide) k e hk)
            have hrl4 := HRL.out.below (show Below u5.heap.size w8 w4 from (H2.out.2.mono hu8).trans ((H3.out.2.2.2.2.below (fun k e => Nat.le_of_eq (Eq.symm e)) (Nat.le_trans hu8 HSZ.out.1)).trans (below_grown H3.out.1.all H4.out.2.1 (by have := HI.out.lt1; have := HI.out.lt2; omega) (by have := HSZ.out; omega))))
            have hcs2 := HCS.out
            have hrf : Calls _ _ _ _ (NewHits w4 (feedOut Ls0 p l)) := refFeed_any (HFF.out.2.1.over happ.below) (Rd.of_own H4.out.1) (by have := HFF.out.2.1.count; omega) (by omega) hcs2.2.1 (b := p.length) (by omega)
            have HRF := hide hrf
            have hwr4 : Wr w4 w8.heap.size w2.heap.size A2 l.length c2 := ((Wr.of_own H2.out.1).fr H3.out.2.2.2.2 (fun k h1 h2 e => by have e9 : k = u5.heap.size := e; omega)).fr hfg (fun k h1 h2 e => by have h8 := (own_block HI.out.all k e).2; omega)
            have hall4 : ∀ k, (Value.slice A4 (p.length + l.length) c4).ownBlock = some k → k < w8.heap.size ∨ w2.heap.size ≤ k := fun k hk => by
              rcases H4.out.2.2 with h1 | h1
              · rw [h1] at hk; exact .inl (own_block HI.out.all k hk).2
              · rw [h1] at hk; have := Option.some.inj hk; have := HSZ.out; omega
            have h78 : w7.heap.size ≤ w8.heap.size := HI.out.lt3
            have H5 := hide (show _ ∧ _ ∧ _ ∧ _ ∧ _ ∧ _ from ⟨happ, hin4, hgot4, hrl4, hwr4, hall4⟩)
            have hlen2 := (Rd.of_own H2.out.1).cap
            have hmax2 : c2 ≤ 9223372036854775807 := (Rd.of_own H2.out.1).max
            clear happ hfg hin4 hgot4 hrl4 hcs2 hrf hwr4 hall4 H4 H3 HI2
            go_wp2_with fail
            refine HRF.out.mono ?_
            rintro e x5 ⟨A5, c5, rfl, ho5, hb5⟩
            have hsm := same_any (Rd.of_own (own_over H5.out.2.2.1 hb5)) (Rd.of_own ho5)
            rw [decide_eq_true rfl] at hsm
            have HSM := hide hsm
            have HB5 := hide hb5
            clear hsm ho5 hb5 HRF
            go_wp2_with fail
            refine HSM.out.mono ?_
            rintro e x6 ⟨rfl, hd⟩
            have hb6 := Bl HB5.out hd.below
            have hfi := H5.out.1.over hb6
            obtain ⟨A6, c6, hs6, _, _⟩ := hfi.strm
            have hkp := kept_any hs6
            have htn : (tailOf (mostOf Ls0) (p ++ l)).length = min (p.length + l.length) (mostOf Ls0 - 1) := by rw [tailOf_len, List.length_append]
            rw [htn] at hkp
            have hcs2 := HCS.out
            have hrk := refKept_any (f := p.length + l.length) (HFF.out.2.1.over hfi.below) hcs2.2.2.1 (by omega)
            obtain ⟨K, hK⟩ : ∃ K, min (p.length + l.length) (mostOf Ls0 - 1) = K := ⟨_, rfl⟩
            rw [hK] at hkp hrk
            rw [Int.natCast_add] at hrk
            have s1 := run_str (P := Try.prog) 32 9 5 Try.underlying32 Try.underlying5 Try.underlying9 (Rd.of_own (own_over H5.out.2.1 hb6))
            have s2 := run_str (P := Try.prog) 32 9 5 Try.underlying32 Try.underlying5 Try.underlying9 (H5.out.2.2.2.1.below (hb6.mono H5.out.1.below.size))
            have HKP := hide hkp
            have HRK := hide hrk
            have HFI := hide (show _ ∧ _ from ⟨hfi, H5.out.2.2.2.2.1.fr (Fr.new hb6 (S := fun _ => False)) (fun _ _ _ e => e)⟩)
            have HAL := hide H5.out.2.2.2.2.2
            clear hs6 hkp htn hcs2 hrk hK hfi hb6 hd HSM H5
            go_wp2_with fail
            refine HKP.out.mono ?_
            rintro e x7 ⟨rfl, rfl⟩
            go_wp2_with fail
            refine HRK.out.mono ?_
            rintro e x7 ⟨rfl, rfl⟩
            go_wp2_with fail
            clear s1 s2 HKP HRK
            go_loopw [89] (fun kv wl => ∃ (k : Nat), kv = .int .i64 k ∧ k ≤ l.length ∧ FI u5 w6 w7.heap.size w2.heap.size g (mostOf Ls0) (p ++ l) (p ++ l) A4 c4 wl ∧ Wr wl w8.heap.size w2.heap.size A2 l.length c2) (fun kv _ => l.length - (intOf kv).toNat)
            case atStart => exact ⟨0, rfl, by omega, HFI.out.1, HFI.out.2⟩
            case round =>
              clear HFI
              obtain ⟨wk, rfl⟩ : ∃ wk, wk = wr := ⟨_, rfl⟩
              obtain ⟨k, rfl, hk, hfi, hw⟩ := hrel
              have HFI := hide hfi
              have HW := hide hw
              clear hfi hw
              by_cases hkl : k < l.length
              · obtain ⟨gi, v, rfl, hg1, hg2, hblk, k1, k2⟩ := HW.out.cell hkl
                have e2 : IntKind.i64.wrap ((k : Int) + 1) = (k : Int) + 1 := IntWalk.i64_in _ (by omega)
                clear hblk
                go_wp2_with fail
                go_roundw
                case rel => exact ⟨k + 1, by go_num, by omega, HFI.out.spoiled ((Fr.refl wk _).setCell (p := ⟨gi, k, none⟩) (fun _ => ⟨hg1, hg2⟩) _) h78 (by rw [List.length_append]; exact HAL.out), HW.out.setCell _ _ _⟩
                case measure => simp [intOf]; omega
              · go_wp2_with fail
                go_roundw
                case rel => exact ⟨i + 1, w2.heap.size, p ++ l, A4, c4, by rw [List.length_append], by go_num, by omega, by rw [List.length_append]; exact HPX.out, HFI.out⟩
                case measure => simp [intOf]; omega
          · obtain rfl : i = len1 := by omega
            have hfi := HI.out
            have hso : Strm w8 w6.heap.size g w8.heap.size (mostOf Ls0) [] none 0 := ⟨by rw [tail_nil]; exact hfi.other, by rw [tail_nil]; exact World.ownsRow_nil _ _ _ _⟩
            have hkp := kept_any hso
            rw [tail_nil] at hkp
            have hcs2 := HCS.out
            have hus : u1.heap.size ≤ w6.heap.size := Nat.le_trans HFF.out.1.below.size (Nat.le_of_lt hfi.lt1)
            have hfd := feed_new (HFF.out.1.over hfi.below) hso (show Rd w8 w8.heap.size 1 none ([] : AM.T).length 0 (u8s []) from Rd.none_) (Nat.le_refl _) hus hll hcs2.2.2.1 hcs2.2.1 (Nat.zero_le _) (Nat.zero_le _)
            have HKP := hide hkp
            have HFD := hide hfd
            clear hfi hso hkp hcs2 hfd
            go_wp2_with fail
            refine HKP.out.mono ?_
            rintro e x7 ⟨rfl, rfl⟩
            go_wp2_with fail
            refine HFD.out.mono ?_
            rintro e x8 ⟨A8, c8, A9, c9, rfl, ho8, hs8, hf8⟩
            have HE := hide (Bl HBB.out (HI.out.below.trans (hf8.below (fun k e => Nat.le_of_lt (by rw [show k = w6.heap.size from e]; exact HI.out.lt1)) HI.out.below.size)))
            clear ho8 hs8 hf8 HFD
            rw [feed_nil]
            go_wp2_with fail
            go_ret
            exact ⟨rfl, HE.out⟩
    · go_wp2_with fail
      go_ret
      exact ⟨rfl, HB.out⟩

set_option maxRecDepth 100000 in
theorem lifted (os : Os) (started : os.Started) (H : Type) (enc : TypeId × Value → H) (F : Stop.Interp) :
    ReturnsInHanded {} Try.checked os 3 .any ((Rows.OpenSpec.upto Rows.teddyFeedsSpec).pre6 enc Try.prog Try.f3 Rows.teddyFeedsUptoRow.domain false) (((Rows.OpenSpec.upto Rows.teddyFeedsSpec).at F).post enc Try.prog Try.f3 false true false false) := by
  refine returnsInHanded_of_cond (C := Try.checked) (s := Rows.OpenSpec.upto Rows.teddyFeedsSpec) (k := Rows.uptoSmall) rfl own started (by kernel_rfl) Try.func3
    (OpenSpec.witness (enc := enc) (C := Try.checked) (s := Rows.OpenSpec.upto Rows.teddyFeedsSpec) (k := Rows.uptoSmall) rfl false ⟨#[], #[.slice none 0 0, .slice none 0 0], []⟩ 8 (by kernel_rfl) (by kernel_rfl) (by kernel_rfl)
      (x := ([.nil, .nil], [], [])) (by kernel_rfl) rfl (by kernel_rfl)) ?_
  intro W base args ds gs before hval0 hW _ hk _
  have hval : ∀ (j : Nat) t v, Try.f3.params[j]? = some t → args[j]? = some v → Value.okWide Try.prog W .any base t v := hval0
  have hW' := hW
  obtain ⟨p, q, hA0, hV, rfl, hfz, hnd⟩ := hW
  have hA : DataW.TrodAll enc Try.prog W 0 (fun _ => true) true Try.f3.params.toList args.toList ds p := hA0
  rw [Try.params3] at hA hval
  obtain ⟨v0, vs0, d0, ds0, p0, q0, hargs, rfl, rfl, h0, r0⟩ := trodAll_cons hA
  obtain ⟨v1, vs1, d1, ds1, p1, q1, rfl, rfl, rfl, h1, r1⟩ := trodAll_cons r0
  obtain ⟨rfl, rfl, rfl⟩ := trodAll_nil r1
  obtain rfl : args = #[v0, v1] := by cases args; simp_all
  obtain ⟨rfl, rfl⟩ := trodVars_none hV
  obtain ⟨a0, len0, cap0, rfl⟩ := okWide_slice Try.underlying22 (hval 0 22 v0 rfl rfl)
  have k0 := h0
  have lt0 : ∀ x ∈ p0, x.block < W.heap.size := by obtain ⟨m, hm⟩ := k0; exact DataW.trod_lt m _ _ _ hm
  obtain ⟨a1, len1, cap1, rfl⟩ := okWide_slice Try.underlying22 (hval 1 22 v1 rfl rfl)
  have k1 := h1
  have lt1 : ∀ x ∈ p1, x.block < W.heap.size := by obtain ⟨m, hm⟩ := k1; exact DataW.trod_lt m _ _ _ hm
  clear hA0 hval0
  simp only [List.append_nil] at hW' hk
  obtain ⟨Ls0, w0, s0⟩ : ∃ Ls, AW.Texts W W.heap.size a0 len0 cap0 Ls ∧ (Rows.uptoBulk d0 ≤ 1048576 → len0 ≤ 1048576 ∧ ∀ l ∈ Ls, l.length ≤ 1048576) := by
    obtain ⟨fuel, hf⟩ := k0
    exact AW.texts_of (by simpa [Value.cells] using hf)
  obtain ⟨Ls1, w1, s1⟩ : ∃ Ls, AW.Texts W W.heap.size a1 len1 cap1 Ls ∧ (Rows.uptoBulk d1 ≤ 1048576 → len1 ≤ 1048576 ∧ ∀ l ∈ Ls, l.length ≤ 1048576) := by
    obtain ⟨fuel, hf⟩ := k1
    exact AW.texts_of (by simpa [Value.cells] using hf)
  refine (walk W a0 len0 cap0 Ls0 w0 (s0 (Nat.le_trans (bulks.part_le (l := [d0, d1]) (by simp)) (bulks.bound hk))) a1 len1 cap1 Ls1 w1 (s1 (Nat.le_trans (bulks.part_le (l := [d0, d1]) (by simp)) (bulks.bound hk)))).mono fun e W' ⟨he, bel⟩ => ?_
  subst he
  exact ⟨_, rfl, _, _, _, [], _, [], hW', trodAll_mk1 (shut_bool Try.underlying4 _), (trodAll_cons_mk (Below.trod laidOut (by kernel_rfl) (of_decide_eq_true (by kernel_rfl)) k0 bel lt0) (trodAll_cons_mk (Below.trod laidOut (by kernel_rfl) (of_decide_eq_true (by kernel_rfl)) k1 bel lt1) trodAll_mk0)), rfl, bel.frame _, fun h => by cases h⟩

theorem over : Rows.teddyFeedsUptoRow.holds Try.pinned (Rows.OpenSpec.upto Rows.teddyFeedsSpec) :=
  OpenClaim.holds_of_cond 3 Try.f3 rfl rfl rfl rfl rfl rfl rfl ⟨rfl, rfl, rfl, rfl, rfl⟩ rfl rfl rfl rfl rfl (by kernel_rfl) Try.func3 (by kernel_rfl)
    (of_decide_eq_true (by kernel_rfl)) (by unfold Func.isWrapper; first | (rw [if_pos (by decide +kernel)]; kernel_rfl) | (rw [if_neg (by decide +kernel)]; exact ⟨rfl, rfl⟩))
    (fun os started H enc _ F => lifted os started H enc F)

/-- The statement. -/
theorem proved : Rows.TeddyFeedsUptoSaid := over
#print axioms proved
end Go.Proofs.Ytkjpcincjoaeeaa.teddyFeeds
