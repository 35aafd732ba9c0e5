/- The walks of the check sums: the program's, and the reference's. -/
import Derived.Test.YthfmfcgjcilagaaPPen
import Derived.Test.YthfmfcgjcilagaaPMath
namespace Go.Proofs.Ythfmfcgjcilagaa.PW
open Go.ChangeShapes Go.WideShapes Go.ChangeAt Go.RowKit
open Go.Proofs.Ythfmfcgjcilagaa.B Go.Proofs.Ythfmfcgjcilagaa.PM
set_option linter.unusedVariables false

theorem signed_u32 : IntKind.u32.signed = false := rfl
attribute [local go_sem] signed_u32 vxor vnot vand1 vneg vpoly

set_option maxHeartbeats 1000000 in
theorem sum_any {w : World} {B n c : Nat} {A : Option Addr} {bs : List UInt8} (h : Rd w B 1 A n c (u8s bs)) :
    Calls Try.prog 16 #[.slice A n c] w fun e w' => e = .returned (.int .u32 (V (crc bs))) ∧ w = w' := by
  have hl := h.length8
  have hm := h.max
  have hcap := h.cap
  unfold maxLen at hm
  have HR := hide h
  clear h
  go_enter Try.func16, Try.ntmps16
  go_wp2_with fail
  go_loop [3, 8] (fun s j => ∃ i : Nat, i ≤ n ∧ j = .int .i64 i ∧ s = .int .u32 (V (crcS ones32 (bs.take i)))) (fun _ j => n - (intOf j).toNat)
  case atStart => exact ⟨0, by omega, rfl, rfl⟩
  case round =>
    obtain ⟨i, hi, rfl, rfl⟩ := hrel
    by_cases hlt : i < n
    · obtain ⟨ad, rfl, _, hc⟩ := HR.out.byte hlt
      have hv : ((at8 bs i : Nat) : Int) = V (byte32 (bs.getD i 0)) := vbyte _
      rw [hv] at hc
      have ht := take_snoc8 bs i (by omega)
      have hs := crcS_snoc ones32 (bs.take i) (bs.getD i 0)
      rw [← ht] at hs
      have HS := hide hs
      have hb := V_nonneg (byte32 (bs.getD i 0))
      have hb' := V_le (byte32 (bs.getD i 0))
      clear hs ht hv
      generalize byte32 (bs.getD i 0) = b at *
      generalize crcS ones32 (bs.take i) = x at *
      go_wp2_with fail
      go_loop [3, 16] (fun s j => ∃ k : Nat, k ≤ 8 ∧ j = .int .i64 k ∧ s = .int .u32 (V (crcN k (x ^^^ b)))) (fun _ j => 8 - (intOf j).toNat)
      case atStart => exact ⟨0, by omega, rfl, rfl⟩
      case round =>
        obtain ⟨k, hk, rfl, rfl⟩ := hrel
        by_cases hk8 : k < 8
        · go_wp2_with fail
          go_round
          case rel => exact ⟨k + 1, by omega, by go_num, by rw [crcN_succ, ← crcBit_def, vshr, vxor]; rfl⟩
          case measure => simp [intOf]; omega
        · obtain rfl : k = 8 := by omega
          go_wp2_with fail
          go_round
          case rel => exact ⟨i + 1, by omega, by go_num, by rw [HS.out]⟩
          case measure => simp [intOf]; omega
    · obtain rfl : i = n := by omega
      have ht : bs.take i = bs := List.take_of_length_le (by omega)
      rw [ht]
      go_wp2_with fail
      go_ret
      exact ⟨rfl, rfl⟩

theorem vmod2 (x : BitVec 32) : V x % 2 = if x.getLsbD 0 = true then 1 else 0 := by
  have e0 : x.getLsbD 0 = decide (x.toNat % 2 = 1) := Nat.testBit_zero x.toNat
  rw [V, e0]
  by_cases h : x.toNat % 2 = 1
  · rw [if_pos (by simpa using h)]; omega
  · rw [if_neg (by simpa using h)]; omega
theorem bit_mod2 (b : UInt8) (k : Nat) (hk : k < 8) : ((b.toNat : Int) / 2 ^ k) % 2 = if bitOf b k = true then 1 else 0 := by
  have hb := UInt8.toNat_lt b
  have e0 : bitOf b k = decide (b.toNat / 2 ^ k % 2 = 1) := by
    rw [bitOf, byte32, BitVec.getLsbD_ofNat, Nat.testBit_eq_decide_div_mod_eq]
    simp
    omega
  have e : ((b.toNat : Int) / 2 ^ k) = ((b.toNat / 2 ^ k : Nat) : Int) := by
    rw [Int.natCast_ediv, Int.natCast_pow]; rfl
  rw [e0, e]
  by_cases h : b.toNat / 2 ^ k % 2 = 1
  · rw [if_pos (by simpa using h)]; omega
  · rw [if_neg (by simpa using h)]; omega

set_option maxHeartbeats 1000000 in
theorem refSum_any {w : World} {B n c : Nat} {A : Option Addr} {bs : List UInt8} (h : Rd w B 1 A n c (u8s bs)) :
    Calls Try.prog 25 #[.slice A n c] w fun e w' => e = .returned (.int .u32 (V (crc bs))) ∧ w = w' := by
  have hl := h.length8
  have hm := h.max
  have hcap := h.cap
  unfold maxLen at hm
  have HR := hide h
  clear h
  go_enter Try.func25, Try.ntmps25
  go_wp2_with fail
  go_loop [3, 4] (fun s j => ∃ i : Nat, i ≤ n ∧ j = .int .i64 i ∧ s = .int .u32 (V (crcS ones32 (bs.take i)))) (fun _ j => n - (intOf j).toNat)
  case atStart => exact ⟨0, by omega, rfl, rfl⟩
  case round =>
    obtain ⟨i, hi, rfl, rfl⟩ := hrel
    by_cases hlt : i < n
    · obtain ⟨ad, rfl, _, hc⟩ := HR.out.byte hlt
      have hs := crcS_snoc ones32 (bs.take i) (bs.getD i 0)
      rw [← take_snoc8 bs i (by omega), crc_byte] at hs
      have HS := hide hs
      have hb := at8_lt bs i
      have hbit := bit_mod2 (bs.getD i 0)
      have e8 : at8 bs i = (bs.getD i 0).toNat := rfl
      rw [← e8] at hbit
      have HBIT := hide hbit
      clear hs hbit e8
      generalize bitOf (bs.getD i 0) = d at *
      generalize crcS ones32 (bs.take i) = x at *
      generalize at8 bs i = b at *
      go_wp2_with fail
      go_loop [3, 5] (fun s j => ∃ k : Nat, k ≤ 8 ∧ j = .int .i64 k ∧ s = .int .u32 (V (F x d k))) (fun _ j => 8 - (intOf j).toNat)
      case atStart => exact ⟨0, by omega, rfl, rfl⟩
      case round =>
        obtain ⟨k, hk, rfl, rfl⟩ := hrel
        by_cases hk8 : k < 8
        · have hq := HBIT.out k hk8
          have hz := vmod2 (F x d k)
          have hv0 := V_nonneg (F x d k)
          have hv1 := V_le (F x d k)
          have hF : F x d (k + 1) = refBit (F x d k) (d k) := rfl
          rw [refBit] at hF
          have hd : (0 : Int) ≤ (b : Int) / 2 ^ k := Int.ediv_nonneg (Int.natCast_nonneg _) (Int.le_of_lt (Int.pow_pos (by decide)))
          have HF := hide hF
          clear hF
          generalize F x d k = y at *
          cases hy : y.getLsbD 0 <;> cases hdk : d k <;> rw [hy] at hz <;> rw [hdk] at hq <;> simp only [if_true, Bool.false_eq_true, if_false] at hz hq <;> have HY := hide hy <;> have HK := hide hdk <;> clear hy hdk <;> go_wp2_with fail
          all_goals
            go_round
            case rel => exact ⟨k + 1, by omega, by go_num, by rw [HF.out, HY.out, HK.out, vshr]; (try rw [vpoly_is, vxor]); first | rfl | (congr 2; exact (xor_0 _).symm)⟩
            case measure => simp [intOf]; omega
        · obtain rfl : k = 8 := by omega
          go_wp2_with fail
          go_round
          case rel => exact ⟨i + 1, by omega, by go_num, by rw [HS.out]⟩
          case measure => simp [intOf]; omega
    · obtain rfl : i = n := by omega
      have ht : bs.take i = bs := List.take_of_length_le (by omega)
      rw [ht]
      go_wp2_with fail
      go_ret
      exact ⟨by rw [crc, ← vxor]; rfl, rfl⟩
end Go.Proofs.Ythfmfcgjcilagaa.PW
