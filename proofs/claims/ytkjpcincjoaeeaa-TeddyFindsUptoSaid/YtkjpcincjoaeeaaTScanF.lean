/- The walk of the filter's Scan. -/
import Derived.Test.YtkjpcincjoaeeaaTSort
namespace Go.Proofs.Ytkjpcincjoaeeaa.TW
open Go.ChangeShapes Go.WideShapes Go.ChangeAt Go.RowKit
open Go.Proofs.Ytkjpcincjoaeeaa.B Go.Proofs.Ytkjpcincjoaeeaa.AM Go.Proofs.Ytkjpcincjoaeeaa.AW Go.Proofs.Ytkjpcincjoaeeaa.TM
open Go.Proofs.Ytkjpcincjoaeeaa.LW (index_u8)
set_option linter.unusedVariables false

theorem bit_is (s b : Nat) (hs : s < 256) : bits BinOp.and IntKind.u8 ((s : Int) / 2 ^ b) 1 = if s.testBit b then 1 else 0 := by
  have e : (s : Int) / 2 ^ b = ((s / 2 ^ b : Nat) : Int) := by
    rw [Int.natCast_ediv]; simp
  have hq : s / 2 ^ b < 256 := Nat.lt_of_le_of_lt (Nat.div_le_self _ _) hs
  rw [e]
  show IntKind.u8.wrap ((BitVec.ofInt 8 ((s / 2 ^ b : Nat) : Int) &&& BitVec.ofInt 8 1).toNat : Int) = _
  rw [BitVec.ofInt_natCast, BitVec.toNat_and, BitVec.toNat_ofNat, Nat.mod_eq_of_lt hq]
  have h1 : (BitVec.ofInt 8 1).toNat = 1 := by decide
  rw [h1, Nat.and_one_is_mod]
  rw [Nat.testBit_eq_decide_div_mod_eq]
  by_cases h : s / 2 ^ b % 2 = 1
  · rw [h]; simp [IntKind.wrap, IntKind.bits, IntKind.signed]
  · have h0 : s / 2 ^ b % 2 = 0 := by omega
    rw [h0]; simp [IntKind.wrap, IntKind.bits, IntKind.signed]
def eight (f : Nat → Int) : List Value := [.int .u8 (f 0), .int .u8 (f 1), .int .u8 (f 2), .int .u8 (f 3), .int .u8 (f 4), .int .u8 (f 5), .int .u8 (f 6), .int .u8 (f 7)]
theorem atB_len (Ls : List T) (t : T) (set p : Nat) : ∀ n, (atB Ls t set p n).length ≤ n * Ls.length
  | 0 => by simp [atB]
  | n + 1 => by
    rw [atB, List.length_append, Nat.succ_mul]
    have h1 := atB_len Ls t set p n
    have h2 := conf_len Ls t p (bucket Ls.length n)
    have h3 := bucket_len Ls.length n
    split
    · omega
    · simp; omega
theorem atTo_len (Ls : List T) (t : T) (P : Nat → Nat) (m : Nat) (hm : 8 * Ls.length ≤ m) : ∀ n, (atTo Ls t P n).length ≤ n * m
  | 0 => by simp [atTo]
  | n + 1 => by
    rw [atTo, List.length_append, Nat.succ_mul]
    have h1 := atTo_len Ls t P m hm n
    have h2 := atB_len Ls t (P n) n 8
    omega

set_option maxRecDepth 10000 in
set_option maxHeartbeats 1000000 in
theorem fscan_any {u w : World} {g cL c : Nat} {Ls : List T} {AL A : Option Addr} {vs : List Value} {bs : Bs} {lo hi : Mask} {t : T} (hF : Filt u g Ls AL cL vs bs lo hi w) (ht : Rd w w.heap.size 1 A t.length c (u8s t)) (hn : Ls.length ≤ 300) (htl : t.length ≤ 5000) (hlm : ∀ l ∈ Ls, l.length ≤ 1000) (hl0 : ∀ l ∈ Ls, l ≠ []) :
    Calls Try.prog 17 #[.pointer (some ⟨g, 0, none⟩), .slice A t.length c] w (NewHits w (scanTo Ls t t.length)) := by
  have hbnd := fun n => atTo_len Ls t (fun p => passTo lo hi t p 3) 2400 (by omega) n
  have HBD := hide hbnd
  obtain ⟨P, hP⟩ : ∃ P : Nat → Nat, (fun p => passTo lo hi t p 3) = P := ⟨_, rfl⟩
  have hPp : ∀ p i, i < Ls.length → Ls.getD i [] <+: t.drop p → (P p).testBit (i % 8) = true := fun p i hi' hp => by rw [← hP]; exact hF.pass hi' hp
  have hP8 : ∀ p, P p < 256 := fun p => by rw [← hP]; exact passTo_lt _ _ _ _ _
  have hPs := fun (w' : World) (h : Below w.heap.size w w') (i : Nat) (hi3 : i ≤ 1000000000) => pass_any (hF.over h).blk (ht.over h) hF.small.1 hF.small.2 hi3
  have hPe : ∀ i, (arr8 .u8 fun k => (passTo lo hi t (i + k) 3 : Int)) = arr8 .u8 fun k => (P (i + k) : Int) := fun i => by rw [← hP]
  rw [hP] at HBD
  simp only [hPe] at hPs
  have HPS := hide hPs
  have HPP := hide hPp
  have HF := hide hF
  have HR := hide ht
  have HP8 := hide hP8
  have HLM := hide hlm
  have HL0 := hide hl0
  have hcap : c ≤ 9223372036854775807 := ht.max
  clear hF ht hlm hl0 hbnd hPp hPs hPe hP hP8
  go_enter Try.func17, Try.ntmps17
  go_wp2_with fail
  go_loopw [4, 5] (fun ov iv wr => ∃ (i : Nat) (out : HitL) (Ao : Option Addr) (co : Nat), ov = .slice Ao out.length co ∧ iv = .int .i64 i ∧ i ≤ t.length + 8 ∧ out = atTo Ls t P (min i t.length) ∧ wr.ownsRow w.heap.size 51 2 (.slice Ao out.length co) out.length (hitCells out) ∧ Below w.heap.size w wr) (fun _ iv _ => t.length + 8 - (intOf iv).toNat)
  case atStart => exact ⟨0, [], none, 0, rfl, rfl, by omega, by simp [atTo], World.ownsRow_nil _ _ _ _, Below.refl _ _⟩
  case round =>
    obtain ⟨w0, rfl⟩ : ∃ w0, w0 = wr := ⟨_, rfl⟩
    obtain ⟨i, out, Ao, co, rfl, rfl, hi, hout, hown, hbel⟩ := hrel
    have HOut := hide hout
    have HI := hide (show _ ∧ _ from ⟨hown, hbel⟩)
    clear hout hown hbel
    by_cases hlt : i < t.length
    · have hps := HPS.out w0 HI.out.2 i (by omega)
      obtain ⟨L8, hL8⟩ : ∃ L8, eight (fun k => (P (i + k) : Int)) = L8 := ⟨_, rfl⟩
      have hix := fun k (hk : k < 8) w => index_u8 (fun k => (P (i + k) : Int)) k hk w
      have hae : arr8 .u8 (fun k => (P (i + k) : Int)) = .agg L8.toArray := by rw [← hL8]; rfl
      rw [hae] at hps
      simp only [hae] at hix
      have hl8 : L8.length = 8 := by rw [← hL8]; rfl
      have ho8 : L8.toArray.all (·.oneCell') = true := by rw [← hL8]; simp [eight, Value.oneCell']
      have hi8 : (Try.prog.info? 63).map (·.size) = some L8.length := by rw [hl8]; exact info_8
      have HL8 := hide (show _ ∧ _ ∧ _ from ⟨hl8, ho8, hi8⟩)
      have HIX := hide hix
      have HP1 := hide hps
      clear hL8 hix hae hl8 ho8 hi8 hps
      go_wp2_with fail
      go_step3
      go_wp2_with fail
      refine HP1.out.mono ?_
      rintro e w1 ⟨rfl, hb1⟩
      have HB1 := hide hb1
      clear hb1
      go_wp2_with (refine wpList_store_mid rfl 63 (.tmp 6) (.tmp 19) rfl w1.heap.size 0 L8.toArray rfl rfl (there_new w1 _ _ _ (by simp [HL8.out.1])) (by rw [List.size_toArray]; exact HL8.out.2.2) HL8.out.2.1 ?_; have hst := after_store w1 #[.int .u8 0, .int .u8 0, .int .u8 0, .int .u8 0, .int .u8 0, .int .u8 0, .int .u8 0, .int .u8 0] 63 L8 (by simp [HL8.out.1]); generalize World.setCells _ _ _ _ = w2 at hst ⊢; have HST := hide hst; clear hst)
      go_step3
      go_wp2_with (refine wpList_load_mid rfl 63 (.tmp 6) rfl w1.heap.size 0 rfl L8 _ HST.out.2 Try.underlying63 rfl HL8.out.2.2 ?_)
      have HI2 := hide (show _ ∧ _ from ⟨own_over HI.out.1 (Bl HB1.out HST.out.1), HI.out.2.trans ((Bl HB1.out HST.out.1).mono HI.out.2.size)⟩)
      go_loopw [4, 21] (fun ov kv wl => ∃ (k : Nat) (out2 : HitL) (Ao2 : Option Addr) (co2 : Nat), ov = .slice Ao2 out2.length co2 ∧ kv = .int .i64 k ∧ k ≤ 8 ∧ i + k ≤ t.length ∧ out2 = atTo Ls t P (i + k) ∧ wl.ownsRow w.heap.size 51 2 (.slice Ao2 out2.length co2) out2.length (hitCells out2) ∧ Below w.heap.size w wl) (fun _ kv _ => 8 - (intOf kv).toNat)
      case atStart => exact ⟨0, out, Ao, co, rfl, rfl, by omega, by omega, by rw [HOut.out, Nat.min_eq_left (by omega)]; rfl, HI2.out.1, HI2.out.2⟩
      case round =>
        clear HI2 HI HOut HST HB1
        obtain ⟨wk, rfl⟩ : ∃ wk, wk = wr := ⟨_, rfl⟩
        obtain ⟨k, out2, Ao2, co2, rfl, rfl, hk, hik, hout2, hown, hbel⟩ := hrel
        have HOut2 := hide hout2
        have HI := hide (show _ ∧ _ from ⟨hown, hbel⟩)
        clear hout2 hown hbel
        by_cases hk8 : k < 8
        · have hix := HIX.out k hk8
          have e1 : IntKind.i64.wrap ((i : Int) + (k : Int)) = (i : Int) + (k : Int) := IntWalk.i64_in _ (by omega)
          have e2 : IntKind.i64.wrap ((k : Int) + 1) = (k : Int) + 1 := IntWalk.i64_in _ (by omega)
          by_cases hin : i + k < t.length
          · have hid : decide ((t.length : Int) ≤ (i : Int) + (k : Int)) = false := decide_eq_false (by omega)
            have hki : decide ((k : Int) < 8) = true := decide_eq_true (by omega)
            go_wp2_with fail
            go_loopw [4, 31] (fun ov bv wl => ∃ (b : Nat) (out3 : HitL) (Ao3 : Option Addr) (co3 : Nat), ov = .slice Ao3 out3.length co3 ∧ bv = .int .i64 b ∧ b ≤ 8 ∧ out3 = atTo Ls t P (i + k) ++ atB Ls t (P (i + k)) (i + k) b ∧ wl.ownsRow w.heap.size 51 2 (.slice Ao3 out3.length co3) out3.length (hitCells out3) ∧ Below w.heap.size w wl) (fun _ bv _ => 8 - (intOf bv).toNat)
            case atStart => exact ⟨0, out2, Ao2, co2, rfl, rfl, by omega, by rw [HOut2.out, atB, List.append_nil], HI.out.1, HI.out.2⟩
            case round =>
              clear HI HOut2
              obtain ⟨wb, rfl⟩ : ∃ wb, wb = wr := ⟨_, rfl⟩
              obtain ⟨b, out3, Ao3, co3, rfl, rfl, hb, hout3, hown, hbel⟩ := hrel
              have hol3 : out3.length ≤ 5000 * 2400 + 2400 := by
                rw [hout3, List.length_append]
                have h1 := HBD.out (i + k)
                have h2 := atB_len Ls t (P (i + k)) (i + k) b
                have h3 : b * Ls.length ≤ 8 * 300 := Nat.mul_le_mul hb hn
                have h4 : (i + k) * 2400 ≤ 5000 * 2400 := Nat.mul_le_mul_right _ (by omega)
                omega
              have HOut3 := hide hout3
              have HI := hide (show _ ∧ _ from ⟨hown, hbel⟩)
              clear hout3 hown hbel
              by_cases hb8 : b < 8
              · have e3 : IntKind.i64.wrap ((b : Int) + 1) = (b : Int) + 1 := IntWalk.i64_in _ (by omega)
                have hbt := bit_is (P (i + k)) b (HP8.out _)
                have hbs : atB Ls t (P (i + k)) (i + k) (b + 1) = atB Ls t (P (i + k)) (i + k) b ++ (if (P (i + k)).testBit b then conf Ls t (i + k) (bucket Ls.length b) else []) := rfl
                by_cases hbit : (P (i + k)).testBit b = true
                · rw [if_pos hbit] at hbt hbs
                  have hcf := confirm_any HF.out HR.out HI.out.2 HI.out.1 hb8 (show i + k ≤ t.length by omega) hn (by omega) (by omega) HLM.out
                  rw [Int.natCast_add] at hcf
                  have HCF := hide hcf
                  have hcb := (HF.out.over HI.out.2).cell_bkt hb8
                  have HBS := hide hbs
                  have hbi : (b : Int) < 8 := by omega
                  clear hbs hcf hbit
                  go_wp2_with fail
                  refine HCF.out.mono ?_
                  rintro e w5 ⟨A5, c5, rfl, ho5, hb5⟩
                  have H5 := hide (show _ ∧ _ from ⟨ho5, hb5⟩)
                  clear ho5 hb5 HCF hcb
                  go_wp2_with fail
                  go_roundw
                  case rel => exact ⟨b + 1, _, A5, c5, by rw [List.length_append], by go_num, by omega, by rw [HBS.out, HOut3.out, List.append_assoc], H5.out.1, H5.out.2⟩
                  case measure => simp [intOf]; omega
                · rw [if_neg hbit] at hbt hbs
                  have HBS := hide hbs
                  clear hbs hbit
                  go_wp2_with fail
                  go_roundw
                  case rel => exact ⟨b + 1, out3, Ao3, co3, rfl, by go_num, by omega, by rw [HBS.out, HOut3.out, List.append_nil], HI.out.1, HI.out.2⟩
                  case measure => simp [intOf]; omega
              · obtain rfl : b = 8 := by omega
                go_wp2_with fail
                go_roundw
                case rel => exact ⟨k + 1, out3, Ao3, co3, rfl, by go_num, by omega, by omega, by rw [HOut3.out]; rfl, HI.out.1, HI.out.2⟩
                case measure => simp [intOf]; omega
          · have hii : (t.length : Int) ≤ (i : Int) + (k : Int) := by omega
            have HE : Hid (out2 = atTo Ls t P (min (i + 8) t.length)) := hide (by rw [HOut2.out, Nat.min_eq_right (by omega), show i + k = t.length by omega])
            have e4 : IntKind.i64.wrap ((i : Int) + 8) = (i : Int) + 8 := IntWalk.i64_in _ (by omega)
            go_wp2_with fail
            rw [Exit.noGoto_normal]
            go_wp2_with fail
            go_roundw
            case rel => exact ⟨i + 8, out2, Ao2, co2, rfl, by go_num, by omega, HE.out, HI.out.1, HI.out.2⟩
            case measure => simp [intOf]; omega
        · obtain rfl : k = 8 := by omega
          have HE : Hid (out2 = atTo Ls t P (min (i + 8) t.length)) := hide (by rw [HOut2.out, Nat.min_eq_left hik])
          have e4 : IntKind.i64.wrap ((i : Int) + 8) = (i : Int) + 8 := IntWalk.i64_in _ (by omega)
          go_wp2_with fail
          rw [Exit.noGoto_normal]
          go_wp2_with fail
          go_roundw
          case rel => exact ⟨i + 8, out2, Ao2, co2, rfl, by go_num, by omega, HE.out, HI.out.1, HI.out.2⟩
          case measure => simp [intOf]; omega
    · have hfull : out = atTo Ls t P t.length := by rw [HOut.out, Nat.min_eq_right (by omega)]
      have hol : out.length ≤ 1000000000000 := by
        rw [hfull]
        have h1 := HBD.out t.length
        have h4 : t.length * 2400 ≤ 5000 * 2400 := Nat.mul_le_mul_right _ htl
        omega
      have hso := sortHits_any HI.out.1 hol
      have HSO := hide hso
      have HFU := hide hfull
      have hti : decide ((i : Int) < (t.length : Int)) = false := decide_eq_false (by omega)
      clear hso hfull HOut
      go_wp2_with fail
      refine HSO.out.mono ?_
      rintro e w5 ⟨rfl, d', hp, hs, ho5, hf5⟩
      have hd' : d' = scanTo Ls t t.length := found_all HL0.out HPP.out (by rw [← HFU.out]; exact hp) hs
      have hlen : d'.length = out.length := hp.length_eq
      rw [← hlen, hd'] at ho5
      have H5 := hide (show _ ∧ _ ∧ _ from ⟨ho5, hf5.below (fun k hk => (own_block HI.out.1 k hk).1) HI.out.2.size, (show out.length = (scanTo Ls t t.length).length by rw [← hlen, hd'])⟩)
      clear hp hs ho5 hf5 hd' hlen HSO
      go_wp2_with fail
      go_ret
      exact ⟨Ao, co, by rw [H5.out.2.2]; rfl, H5.out.1, HI.out.2.trans H5.out.2.1⟩
end Go.Proofs.Ytkjpcincjoaeeaa.TW
