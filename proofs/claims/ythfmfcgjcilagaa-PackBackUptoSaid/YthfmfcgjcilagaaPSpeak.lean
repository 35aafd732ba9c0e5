/- The document's examples: the laws' own opening answers true. -/
import Derived.Test.YthfmfcgjcilagaaPRefSeal
namespace Go.Proofs.Ythfmfcgjcilagaa.PW
open Go.ChangeShapes Go.WideShapes Go.ChangeAt Go.RowKit
open Go.Proofs.Ythfmfcgjcilagaa.B Go.Proofs.Ythfmfcgjcilagaa.PM Go.Proofs.Ythfmfcgjcilagaa.LM
set_option linter.unusedVariables false

/-- Bytes that are written out, as they are read. -/
theorem rd_lit (w : World) (bs : List UInt8) (C : Array Value) (t : TypeId) (f : Nat × Nat) (hC : C.toList = u8s bs) (hm : bs.length ≤ maxLen) :
    Rd (w.alloc (.cells C t f)) (w.heap.size + 1) 1 (some ⟨w.heap.size, 0, none⟩) bs.length bs.length (u8s bs) :=
  ⟨by simp [u8s_length], Nat.le_refl _, hm, fun _ => ⟨_, rfl, by simp, fun j u hu => by
    rw [add_lit, Nat.zero_add, cell_of_row _ _ _ C t f (heap_alloc_new w _)]
    rw [← hC] at hu
    simpa using hu⟩⟩

theorem speaks_any (w : World) :
    Calls Try.prog 10 #[] w fun e w' => e = .returned (.bool true) ∧ Below w.heap.size w w' := by
  have kc := fun (w : World) (C : Array Value) (n c : Nat) => Lib.run_convert_bytes_const (P := Try.prog) w 25 5 C n c Try.underlying25 Try.underlying5
  have e1 : V (crc [49, 50, 51, 52, 53, 54, 55, 56, 57]) = 3421780262 := by kernel_rfl
  have E1 := hide e1
  clear e1
  go_enter Try.func10, Try.ntmps10
  go_wp2_with fail
  have hb1 := Blk.new w 27 #[.slice none 0 0]
  have hbl1 := (Below.refl w.heap.size w).alloc (Nat.le_refl _) (.cells #[.slice none 0 0] 27)
  have ho1 := World.ownsRow_nil (w.alloc (.cells #[.slice none 0 0] 27)) w.heap.size 5 1
  have hz1 : (w.alloc (.cells #[.slice none 0 0] 27)).heap.size = w.heap.size + 1 := by show (w.heap.push _).size = _; simp
  generalize w.alloc _ = w1 at *
  refine (penUint_ok (B := w.heap.size) (N := 258) (size := 2) (bs := []) hb1 (by simpa [u8s] using ho1) (by omega) (by omega) (by omega) (fun _ => by decide) (by omega) (by omega)).mono ?_
  rintro e w2 ⟨A2, c2, rfl, hb2, ho2, hf2, hi2⟩
  have hz2 := hf2.size
  have hbl2 : Below w.heap.size w w2 := by
    refine ((Fr.of_below hbl1 (S := fun k => w.heap.size ≤ k) (fun k h _ => h)).step hf2 ?_).below (fun k h => h) (Nat.le_refl _)
    rintro i hi (rfl | h)
    · exact Nat.le_refl _
    · simp [Value.ownBlock] at h
  rw [show (([] : List UInt8) ++ le 258 2) = [2, 1] from rfl, show 0 + 2 = 2 from rfl] at ho2
  rw [show 0 + 2 = 2 from rfl] at hb2
  have HB2 := hide hb2
  have HO2 := hide ho2
  have HL2 := hide hbl2
  clear hb2 ho2 hf2 hi2 hbl2 hb1 hbl1 ho1
  go_wp2_with fail
  refine (sum_any (rd_lit w2 [49, 50, 51, 52, 53, 54, 55, 56, 57] _ _ _ rfl (by simp [maxLen]))).mono ?_
  rintro e w3 ⟨rfl, rfl⟩
  rw [E1.out]
  have HB3 := hide (HB2.out.alloc (.cells #[.int .u8 49, .int .u8 50, .int .u8 51, .int .u8 52, .int .u8 53, .int .u8 54, .int .u8 55, .int .u8 56, .int .u8 57] 5 (9, 10)))
  have HO3 := hide (HO2.out.alloc (.cells #[.int .u8 49, .int .u8 50, .int .u8 51, .int .u8 52, .int .u8 53, .int .u8 54, .int .u8 55, .int .u8 56, .int .u8 57] 5 (9, 10)))
  have HL3 := hide (HL2.out.alloc HL2.out.size (.cells #[.int .u8 49, .int .u8 50, .int .u8 51, .int .u8 52, .int .u8 53, .int .u8 54, .int .u8 55, .int .u8 56, .int .u8 57] 5 (9, 10)))
  clear HB2 HO2 HL2 hz2
  go_wp2_with fail
  generalize w2.alloc _ = w3 at *
  refine (penData_any HB3.out HO3.out (by omega)).mono ?_
  rintro e w4 ⟨A4, c4, rfl, ho4, hb4⟩
  have ks := run_str (P := Try.prog) 25 9 5 Try.underlying25 Try.underlying5 Try.underlying9 (Rd.of_own ho4)
  rw [show str [2, 1] = ⟨#[2, 1]⟩ from rfl] at ks
  have HL4 := hide (HL3.out.trans (hb4.mono HL3.out.size))
  clear ho4 hb4 HB3 HO3 HL3 E1 kc
  go_wp2_with fail
  refine (seal_any (body := []) 1 Rd.none_ (by omega)).mono ?_
  rintro e w5 ⟨A5, c5, rfl, ho5, hb5⟩
  have HL5 := hide (HL4.out.trans (hb5.mono HL4.out.size))
  clear ho5 hb5 HL4 ks
  go_wp2_with fail
  go_ret
  exact ⟨rfl, HL5.out⟩
end Go.Proofs.Ythfmfcgjcilagaa.PW
