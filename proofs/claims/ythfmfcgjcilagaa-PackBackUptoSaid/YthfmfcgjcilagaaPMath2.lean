/- Check sums of texts taken bit by bit against each other; what a change in a frame does to its check sum. Plain law, no program in sight. -/
import Derived.Test.YthfmfcgjcilagaaPMath
import Derived.Test.YthfmfcgjcilagaaMem
namespace Go.Proofs.Ythfmfcgjcilagaa.PM
open Go.RowKit
open Go.Proofs.Ythfmfcgjcilagaa.B

theorem vxor8 (x y : UInt8) : bits BinOp.xor IntKind.u8 (x.toNat : Int) (y.toNat : Int) = ((x ^^^ y).toNat : Int) := by
  have hx := UInt8.toNat_lt x
  have hy := UInt8.toNat_lt y
  have hz := UInt8.toNat_lt (x ^^^ y)
  show IntKind.u8.wrap ((BitVec.ofInt 8 (x.toNat : Int) ^^^ BitVec.ofInt 8 (y.toNat : Int)).toNat : Int) = _
  rw [BitVec.ofInt_natCast, BitVec.ofInt_natCast, BitVec.toNat_xor, BitVec.toNat_ofNat, BitVec.toNat_ofNat, Nat.mod_eq_of_lt hx, Nat.mod_eq_of_lt hy, ← UInt8.toNat_xor, IntKind.wrap_u8']
  omega
theorem byte32_xor (x y : UInt8) : byte32 (x ^^^ y) = byte32 x ^^^ byte32 y := by
  have hx := UInt8.toNat_lt x
  have hy := UInt8.toNat_lt y
  apply BitVec.eq_of_toNat_eq
  rw [BitVec.toNat_xor, byte32, byte32, byte32, BitVec.toNat_ofNat, BitVec.toNat_ofNat, BitVec.toNat_ofNat, Nat.mod_eq_of_lt (by have := UInt8.toNat_lt (x ^^^ y); omega), Nat.mod_eq_of_lt (by omega), Nat.mod_eq_of_lt (by omega), UInt8.toNat_xor]
theorem bitOf_xor (x y : UInt8) (i : Nat) : bitOf (x ^^^ y) i = (bitOf x i ^^ bitOf y i) := by
  rw [bitOf, bitOf, bitOf, byte32_xor, BitVec.getLsbD_xor]

/-- Three texts, bit by bit against each other. -/
def xor3 (a b c : List UInt8) (n : Nat) : List UInt8 := (List.range n).map fun i => a.getD i 0 ^^^ b.getD i 0 ^^^ c.getD i 0
theorem xor3_length (a b c : List UInt8) (n : Nat) : (xor3 a b c n).length = n := by simp [xor3]
theorem xor3_succ (a b c : List UInt8) (n : Nat) : xor3 a b c (n + 1) = xor3 a b c n ++ [a.getD n 0 ^^^ b.getD n 0 ^^^ c.getD n 0] := by
  simp [xor3, List.range_succ]
theorem getD_take (a : List UInt8) (n i : Nat) (h : i < n) : (a.take n).getD i 0 = a.getD i 0 := by
  rw [List.getD_eq_getElem?_getD, List.getD_eq_getElem?_getD, List.getElem?_take, if_pos h]
theorem xor3_getD (a b c : List UInt8) (n i : Nat) (h : i < n) : (xor3 a b c n).getD i 0 = a.getD i 0 ^^^ b.getD i 0 ^^^ c.getD i 0 := by
  simp [xor3, h]
theorem xor4 (a b c o : BitVec 32) : (a ^^^ b ^^^ c) ^^^ o = (a ^^^ o) ^^^ (b ^^^ o) ^^^ (c ^^^ o) := by
  apply BitVec.eq_of_getLsbD_eq
  intro i _
  simp only [BitVec.getLsbD_xor]
  cases a.getLsbD i <;> cases b.getLsbD i <;> cases c.getLsbD i <;> cases o.getLsbD i <;> rfl
theorem crc_xor3 (a b c : List UInt8) (n : Nat) (ha : n ≤ a.length) (hb : n ≤ b.length) (hc : n ≤ c.length) :
    crc (xor3 a b c n) = crc (a.take n) ^^^ crc (b.take n) ^^^ crc (c.take n) := by
  have la : (a.take n).length = n := by rw [List.length_take]; omega
  have lb : (b.take n).length = n := by rw [List.length_take]; omega
  have lc : (c.take n).length = n := by rw [List.length_take]; omega
  have ho : ones32 = (ones32 ^^^ ones32) ^^^ ones32 := by decide
  have hF : F ones32 (stream (xor3 a b c n)) (8 * n) = F ones32 (stream (a.take n)) (8 * n) ^^^ F ones32 (stream (b.take n)) (8 * n) ^^^ F ones32 (stream (c.take n)) (8 * n) := by
    rw [← F_xor, ← F_xor, ← ho]
    apply F_congr
    intro i hi
    have h8 : i / 8 < n := by omega
    simp only [stream]
    rw [xor3_getD a b c n _ h8, getD_take a n _ h8, getD_take b n _ h8, getD_take c n _ h8, bitOf_xor, bitOf_xor]
  rw [crc, crc, crc, crc, crcS_F, crcS_F, crcS_F, crcS_F, la, lb, lc, xor3_length, hF, xor4]

/-- What a change e does: the check sum behind it is not the one that is borne, if e is a burst. -/
theorem crcN_zero (n : Nat) : crcN n 0 = 0 := by
  induction n with
  | zero => rfl
  | succ n ih => rw [crcN_succ, ih]; decide
theorem told (d : Nat → Bool) (e : Nat → Bool) (N a : Nat) (T T' : BitVec 32) (hT : F ones32 d N ^^^ ones32 = T)
    (hT' : ∀ k, k < 32 → T'.getLsbD k = (T.getLsbD k ^^ e (N + k)))
    (hout : ∀ i, a + 32 ≤ i → e i = false) (hlow : ∀ i, i < a → e i = false) (j : Nat) (hj : j < N + 32) (hje : e j = true) :
    F ones32 (fun i => d i ^^ e i) N ^^^ ones32 ≠ T' := by
  intro heq
  have h1 : F ones32 (fun i => d i ^^ e i) N = F ones32 d N ^^^ F 0 e N := by
    have := F_xor ones32 0 d e N
    rwa [xor_0] at this
  have h2 : T' = T ^^^ F 0 e N := by
    rw [← heq, h1, ← hT, xor_right]
  have h3 : F (F 0 e N) (fun i => e (N + i)) 32 = 0 := by
    have hy : F (F 0 e N) (fun i => e (N + i)) 32 = crcN 32 (F 0 e N ^^^ F 0 e N) := by
      rw [crcN_F (F 0 e N) (F 0 e N) (fun i => e (N + i)) 32 (fun i hi => ?_)]
      · have hz : F 0 e N >>> 32 = 0 := by
          apply BitVec.eq_of_toNat_eq
          rw [BitVec.toNat_ushiftRight, Nat.shiftRight_eq_div_pow]
          have := (F 0 e N).isLt
          simp; omega
        rw [hz, xor_0]
      · have := hT' i hi
        rw [h2, BitVec.getLsbD_xor] at this
        revert this
        cases T.getLsbD i <;> cases (F 0 e N).getLsbD i <;> cases e (N + i) <;> decide
    rw [hy, BitVec.xor_self]; exact crcN_zero 32
  rw [← F_add] at h3
  exact burst e (N + 32) a hout hlow j hj hje h3

end Go.Proofs.Ythfmfcgjcilagaa.PM
