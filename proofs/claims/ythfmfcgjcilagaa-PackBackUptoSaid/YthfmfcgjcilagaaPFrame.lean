/- What a frame holds: its parts, and what Unseal answers to it. Plain law. -/
import Derived.Test.YthfmfcgjcilagaaPUnseal
import Derived.Test.YthfmfcgjcilagaaPMath2
namespace Go.Proofs.Ythfmfcgjcilagaa.PW
open Go.RowKit
open Go.Proofs.Ythfmfcgjcilagaa.B Go.Proofs.Ythfmfcgjcilagaa.PM Go.Proofs.Ythfmfcgjcilagaa.LM

theorem le_at (N k j : Nat) (rest : List UInt8) (h : j < k) : at8 (le N k ++ rest) j = N / 2 ^ (8 * j) % 256 := by
  have hl : j < (le N k).length := by rw [le_length]; exact h
  rw [at8, List.getD_eq_getElem?_getD, List.getElem?_append_left hl, List.getElem?_eq_getElem hl]
  simp [le, leB]
theorem word_le (N k : Nat) (rest : List UInt8) : wordTo (at8 (le N k ++ rest)) k = N % 2 ^ (8 * k) := by
  rw [wordTo_congr _ (fun j => N / 2 ^ (8 * j) % 256) k (fun j hj => le_at N k j rest hj)]
  clear rest
  induction k with
  | zero => simp [wordTo, Nat.mod_one]
  | succ k ih =>
    rw [wordTo, ih, show 2 ^ (8 * (k + 1)) = 2 ^ (8 * k) * 256 by rw [Nat.mul_add, Nat.pow_add], Nat.mod_mul]
    rw [Nat.mul_comm (N / 2 ^ (8 * k) % 256)]
theorem sealed_eq (v : UInt8) (body : List UInt8) : sealed v body = [82, 68, 76, v] ++ (le body.length 4 ++ (body ++ le (crc (sealHead v body)).toNat 4)) := by
  rw [sealed]
  show (([82, 68, 76, v] ++ (le body.length 4 ++ body)) ++ _) = _
  simp only [List.append_assoc]
theorem sealed_take3 (v : UInt8) (body : List UInt8) : (sealed v body).take 3 = [82, 68, 76] := by rw [sealed_eq]; rfl
theorem sealed_3 (v : UInt8) (body : List UInt8) : (sealed v body).getD 3 0 = v := by rw [sealed_eq]; rfl
theorem sealed_len (v : UInt8) (body : List UInt8) (h : body.length < 4294967296) : lenOf (sealed v body) = body.length := by
  rw [lenOf, sealed_eq]
  show wordTo (at8 (le body.length 4 ++ _)) 4 = _
  rw [word_le, Nat.mod_eq_of_lt h]
theorem sealed_head (v : UInt8) (body : List UInt8) : (sealed v body).take ((sealed v body).length - 4) = sealHead v body := by
  have h1 := sealed_length v body
  have h2 := sealHead_length v body
  rw [h1, sealed, show body.length + 12 - 4 = (sealHead v body).length by omega, List.take_left']
  rfl
theorem sealed_tail (v : UInt8) (body : List UInt8) : (sealed v body).drop ((sealed v body).length - 4) = le (crc (sealHead v body)).toNat 4 := by
  have h1 := sealed_length v body
  have h2 := sealHead_length v body
  rw [h1, sealed, show body.length + 12 - 4 = (sealHead v body).length by omega, List.drop_left']
  rfl
theorem sealed_sum (v : UInt8) (body : List UInt8) : sumOf (sealed v body) = (crc (sealHead v body)).toNat := by
  have h := word_le (crc (sealHead v body)).toNat 4 []
  rw [List.append_nil] at h
  rw [sumOf, sealed_tail, h, Nat.mod_eq_of_lt]
  exact (crc (sealHead v body)).isLt
theorem sealHead_body (v : UInt8) (body : List UInt8) : (sealHead v body).drop 8 = body := by
  show (le body.length 4 ++ body).drop 4 = body
  rw [List.drop_left']
  exact le_length _ _
theorem sealed_body (v : UInt8) (body : List UInt8) : ((sealed v body).drop 8).take body.length = body := by
  rw [sealed_eq]
  show ((le body.length 4 ++ (body ++ _)).drop 4).take body.length = body
  rw [List.drop_left' (le_length _ _), List.take_left' rfl]
theorem unsealed_ok (v : UInt8) (body : List UInt8) (h : body.length < 4294967296) : unsealed v (sealed v body) = (body, 0) := by
  have h1 := sealed_length v body
  rw [unsealed, if_neg (by omega), if_neg (by rw [sealed_take3]; simp), if_neg (by rw [sealed_3]; simp), sealed_len v body h, if_neg (by omega), if_neg (by omega), sealed_head, sealed_sum, if_neg (by simp), sealHead_body]
theorem unsealed_version (v u : UInt8) (body : List UInt8) (hu : v ≠ u) : unsealed u (sealed v body) = ([], 42) := by
  have h1 := sealed_length v body
  rw [unsealed, if_neg (by omega), if_neg (by rw [sealed_take3]; simp), if_pos (by rw [sealed_3]; exact hu)]

end Go.Proofs.Ythfmfcgjcilagaa.PW
