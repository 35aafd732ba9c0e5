/- PackBursts: a frame whose body, or check sum, was changed in bits that all lie within 32 following ones is told by its check sum; a frame cut off, or with more behind it, or with another version, is refused, too. Condition: what comes in has a bulk of at most 1,048,576 (the second form). -/
import Derived.Test.YthfmfcgjcilagaaRows
import Derived.WalkKit
import Derived.ProofKit
import Derived.OpenShut
import Derived.ShutString
import Derived.ChangeOld
import Derived.Below
import Derived.Test.YthfmfcgjcilagaaMem
import Derived.JoinedCond
import Derived.Test.YthfmfcgjcilagaaBulk
import Derived.Test.YthfmfcgjcilagaaPSpeak
import Derived.Test.YthfmfcgjcilagaaPBurst
import Derived.BigQuiet
import Derived.Deep.QuietTactic
namespace Go.Proofs.Ythfmfcgjcilagaa.packBursts
open Go.ChangeShapes Go.WideShapes Go.ChangeAt Go.RowKit
open Go.ChangeMaps (open_string shut_string)
open Go.Proofs.Ythfmfcgjcilagaa.B
open Go.Proofs.Ythfmfcgjcilagaa.LM Go.Proofs.Ythfmfcgjcilagaa.PM Go.Proofs.Ythfmfcgjcilagaa.PW
set_option linter.unusedVariables false

theorem own : ownKnob Try.prog.godebug = none := by kernel_rfl
theorem laidOut : laidOutB Try.prog = true := by kernel_rfl
theorem mask24 (a : Int) : ∃ m : Nat, m ≤ 16777215 ∧ bits BinOp.and IntKind.i64 a 16777215 = (m : Int) := by
  have h : (BitVec.ofInt 64 a &&& BitVec.ofInt 64 16777215).toNat ≤ 16777215 := by
    rw [BitVec.toNat_and]
    exact Nat.le_trans Nat.and_le_right (by decide)
  refine ⟨(BitVec.ofInt 64 a &&& BitVec.ofInt 64 16777215).toNat, h, ?_⟩
  show IntKind.i64.wrap ((BitVec.ofInt 64 a &&& BitVec.ofInt 64 16777215).toNat : Int) = _
  exact IntWalk.i64_in _ (by omega)
theorem word_of32 (a : Int) (h : (Lit.int .u32 a).wf = true) : ∃ y : BitVec 32, a = V y := by
  have i : 0 ≤ a ∧ a ≤ 4294967295 := by simpa [Lit.wf, IntKind.min, IntKind.max, IntKind.signed, IntKind.bits] using h
  exact ⟨BitVec.ofNat 32 a.toNat, by rw [V, BitVec.toNat_ofNat]; omega⟩
theorem vshr_n (y : BitVec 32) (k : Nat) : V y / (2 ^ k : Int) = V (y >>> k) := by
  rw [V, V, BitVec.toNat_ushiftRight, Nat.shiftRight_eq_div_pow, Int.natCast_ediv, Int.natCast_pow]
  rfl
theorem vflag (y : BitVec 32) (k : Nat) : V ((y >>> k) &&& 1) = if y.getLsbD k = true then 1 else 0 := by
  rw [and_one]
  have e : (y >>> k).getLsbD 0 = y.getLsbD k := by rw [BitVec.getLsbD_ushiftRight, Nat.add_zero]
  rw [e]
  cases y.getLsbD k <;> rfl
theorem app_lit {u u' : World} {bs : List UInt8} {A : Option Addr} {n c : Nat} (hown : u'.ownsRow u.heap.size 5 1 (.slice A (0 + n) c) (0 + n) (u8s [] ++ u8s bs)) (hg : (u.alloc (.cells #[] 5)).grownBy u' (Value.slice (some ⟨u.heap.size, 0, none⟩) 0 0).ownBlock) :
    u'.ownsRow u.heap.size 5 1 (.slice A n c) n (u8s bs) ∧ Below u.heap.size u u' :=
  ⟨by simpa [u8s] using hown, ((Below.refl _ _).alloc (Nat.le_refl _) _).trans (below_grown (own_empty u _) hg (Nat.le_refl _) (by simp))⟩
theorem app_one {u u' : World} {base : Nat} {bs : List UInt8} {A A' : Option Addr} {n c c' : Nat} {b : UInt8} {o : Obj} (h : u.ownsRow base 5 1 (.slice A n c) n (u8s bs)) (hown : u'.ownsRow base 5 1 (.slice A' (n + 1) c') (n + 1) (u8s bs ++ [.int .u8 (b.toNat : Int)])) (hg : (u.alloc o).grownBy u' (Value.slice A n c).ownBlock) (hB : base ≤ u.heap.size) :
    u'.ownsRow base 5 1 (.slice A' (n + 1) c') (n + 1) (u8s (bs ++ [b])) ∧ Below base u u' :=
  ⟨by rw [u8s_append]; exact hown, ((Below.refl _ _).alloc hB _).trans (below_grown (h.alloc _) hg (Nat.le_refl _) (by simp; omega))⟩
theorem low_byte (y : BitVec 32) : V y % 256 = ((UInt8.ofNat y.toNat).toNat : Int) := by
  rw [UInt8.toNat_ofNat', V]
  omega

set_option maxHeartbeats 1000000 in
theorem walk (w : World) (a0 : Option Addr) (len0 cap0 : Nat) (z0 : List Int) (w0 : IsRow .u8 w a0 len0 cap0 z0) (s0 : len0 ≤ 1048576) (a1 : Int) (w1 : (Lit.int .i64 a1).wf = true) (a2 : Int) (w2 : (Lit.int .u32 a2).wf = true) :
    Calls Try.prog 8 #[.slice a0 len0 cap0, .int .i64 a1, .int .u32 a2] w fun e w' => e = .returned (.bool true) ∧ Below w.heap.size w w' := by
  obtain ⟨xs, hx⟩ := rd_of_row w0
  obtain ⟨y, rfl⟩ := word_of32 a2 w2
  have hl := hx.length8
  obtain ⟨m, hm, hmask⟩ := mask24 a1
  clear w0 w1 w2
  obtain ⟨i0, hi0, hz0, hz1, hz2⟩ := info_parts info_u8
  go_enter Try.func8, Try.ntmps8
  go_wp2_with fail
  refine (speaks_any _).mono ?_
  rintro e u1 ⟨rfl, b1⟩
  have HX := hide (hx.over b1)
  have HB := hide b1
  clear hx b1
  go_wp2_with fail
  refine (seal_any 7 HX.out (by omega)).mono ?_
  rintro e u2 ⟨A2, c2, rfl, ho2, b2⟩
  have HX2 := hide (HX.out.over b2)
  have HFu := hide (Rd.of_own ho2)
  have HF2 := hide ((Rd.of_own ho2).alloc (Nat.le_refl _) (.cells #[] 5))
  have HB2 := hide (Bl HB.out b2)
  clear HX HB ho2 b2
  have e1 : IntKind.i64.wrap ((len0 : Int) + 12) = (len0 : Int) + 12 := IntWalk.i64_in _ (by omega)
  have e2 : IntKind.i64.wrap ((len0 : Int) + 12 - 8) = (len0 : Int) + 12 - 8 := IntWalk.i64_in _ (by omega)
  have e3 : IntKind.i64.wrap (8 * ((len0 : Int) + 12 - 8)) = 8 * ((len0 : Int) + 12 - 8) := IntWalk.i64_in _ (by omega)
  go_wp2_with (at_builtin; refine wpList_append_rd _ rfl (.tmp 40) (.tmp 41) _ rfl u2.heap.size 5 i0 _ 1 1 Try.underlying25 hi0 hz0 hz1 hz2 rfl (by omega) (.slice (some ⟨u2.heap.size, 0, none⟩) 0 0) 0 _ rfl (own_empty u2 _) u2.heap.size A2 (len0 + 12) c2 (u8s (sealed 7 xs)) rfl HF2.out (u8s_one _) (by simp only [maxLen]; omega) (by omega) (by simp) ?_; intro A3 c3 u3 hown3 hg3 hat3)
  have ho3 : u3.ownsRow u2.heap.size 5 1 (.slice A3 (len0 + 12) c3) (len0 + 12) (u8s (sealed 7 xs)) := by simpa [u8s] using hown3
  have hb3 : Below u2.heap.size u2 u3 := ((Below.refl _ _).alloc (Nat.le_refl _) _).trans (below_grown (own_empty u2 _) hg3 (Nat.le_refl _) (by simp))
  obtain ⟨ad3, rfl⟩ := own_some ho3 (by omega)
  obtain ⟨fr, hfr, hfrl⟩ : ∃ fr : Nat, (m : Int) % (8 * ((len0 : Int) + 12 - 8)) = fr ∧ fr < 8 * (len0 + 4) := ⟨m % (8 * (len0 + 4)), by rw [show 8 * ((len0 : Int) + 12 - 8) = ((8 * (len0 + 4) : Nat) : Int) by omega]; rfl, Nat.mod_lt _ (by omega)⟩
  rw [hfr]
  clear hown3 hg3 hat3
  go_loopw [10, 12] (fun ch k wr => ∃ (j : Nat) (b : Bool) (gs : List UInt8), j ≤ 32 ∧ k = .int .i64 j ∧ ch = .bool b ∧ wr.ownsRow u2.heap.size 5 1 (.slice (some ad3) (len0 + 12) c3) (len0 + 12) (u8s gs) ∧ Below u2.heap.size u2 wr ∧ Burst (sealed 7 xs) y (64 + fr) (8 * (len0 + 12)) j b gs) (fun _ k _ => 32 - (intOf k).toNat)
  case atStart => exact ⟨0, false, _, by omega, rfl, rfl, ho3, hb3, Burst.start _ _ _ _⟩
  case round =>
    clear ho3 hb3 hfr e1 e2 e3
    obtain ⟨j, b, gs, hj, rfl, rfl, hown, hbel, hbu⟩ := hrel
    have HO := hide hown
    have HL := hide hbel
    have HU := hide hbu
    clear hown hbel hbu
    by_cases hlt : j < 32
    · have w1 : IntKind.i64.wrap ((fr : Int) + j) = (fr : Int) + j := IntWalk.i64_in _ (by omega)
      have w2 : IntKind.u64.wrap (j : Int) = j := IntWalk.u64_in _ ⟨by omega, by omega⟩
      have w3 := vshr_n y j
      have w4 := vand1 (y >>> j)
      have w5 := vflag y j
      have w6 : IntKind.i64.wrap ((j : Int) + 1) = (j : Int) + 1 := IntWalk.i64_in _ (by omega)
      by_cases hfl : y.getLsbD j = true
      · rw [if_pos hfl] at w5
        rw [w5] at w4
        by_cases hin : (fr : Int) + j < 8 * ((len0 : Int) + 12 - 8)
        · obtain ⟨q, r, hq, hr, hqr, hr8⟩ : ∃ q r : Nat, ((fr : Int) + j) / 8 = q ∧ ((fr : Int) + j) % 8 = r ∧ 8 * q + r = fr + j ∧ r < 8 := ⟨(fr + j) / 8, (fr + j) % 8, by omega, by omega, by omega, by omega⟩
          obtain ⟨hc, hf, hadb, hbe⟩ := own_cell HO.out (8 + q) (by omega)
          have w7 : IntKind.i64.wrap (8 + (q : Int)) = 8 + (q : Int) := IntWalk.i64_in _ (by omega)
          have w8 : (0 : Int) ≤ 8 + (q : Int) := by omega
          have w9 : 8 + (q : Int) < (len0 : Int) + 12 := by omega
          have w10 : (8 + (q : Int)).toNat = 8 + q := by omega
          have w11 : IntKind.u64.wrap (r : Int) = r := IntWalk.u64_in _ ⟨by omega, by omega⟩
          have w13 : bits BinOp.xor IntKind.u8 (at8 gs (8 + q) : Int) ((bit8 r).toNat : Int) = ((gs.getD (8 + q) 0 ^^^ bit8 r).toNat : Int) := vxor8 _ _
          have w15 := HU.out.turn hfl (by omega) (8 + q) r hr8 (by omega) (by rw [sealed_length, hl]; omega)
          generalize gs.getD (8 + q) 0 ^^^ bit8 r = x at w13 w15
          have HU2 := hide w15
          clear w15
          have w14 : (2 : Int) ^ r % 256 = ((bit8 r).toNat : Int) := by
            rw [bit8_nat r hr8, Int.natCast_pow]
            have h2 : 2 ^ r < 2 ^ 8 := Nat.pow_lt_pow_right (by decide) hr8
            have h3 : ((2 ^ r : Nat) : Int) < 256 := by omega
            rw [Int.natCast_pow] at h3
            exact Int.emod_eq_of_lt (Int.pow_nonneg (by decide)) h3
          go_wp2_with fail
          go_roundw
          case rel =>
            exact ⟨j + 1, true, gs.set (8 + q) x, by omega, by go_num, rfl, own_set HO.out _ _, HL.out.setCell (by rw [hbe]; exact hadb) _, HU2.out⟩
          case measure => simp [intOf]; omega
        · go_wp2_with fail
          go_roundw
          case rel => exact ⟨j + 1, b, gs, by omega, by go_num, rfl, HO.out, HL.out, HU.out.keep (.inr (by omega))⟩
          case measure => simp [intOf]; omega
      · rw [if_neg hfl] at w5
        rw [w5] at w4
        go_wp2_with fail
        go_roundw
        case rel => exact ⟨j + 1, b, gs, by omega, by go_num, rfl, HO.out, HL.out, HU.out.keep (.inl (by simpa using hfl))⟩
        case measure => simp [intOf]; omega
    · obtain rfl : j = 32 := by omega
      have HJ := hide (Rd.of_own HO.out)
      have HX3 := hide (HX2.out.over HL.out)
      have HF3 := hide (HFu.out.over HL.out)
      have HB3 := hide (Bl HB2.out HL.out)
      have hans : (b = true ∧ unsealed 7 gs = ([], 44)) ∨ (b = false ∧ unsealed 7 gs = (xs, 0)) := by
        have hu := HU.out
        rw [← hl] at hu
        exact hu.answer (by omega) (by omega)
      clear HO HL HX2 HFu HF2 HB2
      go_wp2_with fail
      refine (unseal_any 7 HJ.out (by omega)).mono ?_
      rintro e u5 ⟨A5, m5, c5, rfl, ho5, b5⟩
      have k1 := run_str (P := Try.prog) 25 9 5 Try.underlying25 Try.underlying5 Try.underlying9 (Rd.of_own ho5)
      have k2 := run_str (P := Try.prog) 25 9 5 Try.underlying25 Try.underlying5 Try.underlying9 (HX3.out.over b5)
      have hm5 := (Rd.of_own ho5).length8
      have HF5 := hide (HF3.out.over b5)
      have HB5 := hide (Bl HB3.out b5)
      clear HJ HX3 HF3 HB3 ho5 b5 HU
      obtain ⟨jc, hjc, hjcl⟩ : ∃ jc : Nat, (m : Int) % ((len0 : Int) + 12) = jc ∧ jc < len0 + 12 := ⟨m % (len0 + 12), by rw [show (len0 : Int) + 12 = ((len0 + 12 : Nat) : Int) by omega]; rfl, Nat.mod_lt _ (by omega)⟩
      have j0 : (0 : Int) ≤ jc := by omega
      have hlow := low_byte y
      have j2 : (jc : Int) ≤ c2 := by have := HF5.out.cap; omega
      rcases hans with ⟨rfl, ha⟩ | ⟨rfl, ha⟩
      · rw [ha] at hm5 ⊢
        obtain rfl : 0 = m5 := hm5
        clear ha k1 k2
        go_wp2_with fail
        refine (unseal_any 7 (HF5.out.head8 (j := jc) (by omega)) (by omega)).mono ?_
        rw [show (sealed 7 xs).take jc = (sealed 7 xs).take jc from rfl, cut_short 7 xs (by omega) jc (by omega)]
        rintro e u6 ⟨A6, m6, c6, rfl, _, b6⟩
        have HF6 := hide ((HF5.out.over b6).alloc (Nat.le_refl _) (.cells #[] 5))
        have HF6' := hide (HF5.out.over b6)
        have HB6 := hide (Bl HB5.out b6)
        clear HF5 HB5 b6
        go_wp2_with (first | (at_builtin; refine wpList_append_rd _ rfl (.tmp 115) (.tmp 116) _ rfl u6.heap.size 5 i0 _ 1 1 Try.underlying25 hi0 hz0 hz1 hz2 rfl (by omega) (.slice (some ⟨u6.heap.size, 0, none⟩) 0 0) 0 _ rfl (own_empty u6 _) u6.heap.size A2 (len0 + 12) c2 (u8s (sealed 7 xs)) rfl HF6.out (u8s_one _) (by simp only [maxLen]; omega) (by omega) (by simp) ?_; intro A7 c7 u7 hown7 hg7 hat7; have HO7 := hide (app_lit hown7 hg7); have hs7 := HO7.out.2.size; clear hown7 hg7 hat7) | (at_builtin; refine wpList_append_rd _ rfl (.tmp 117) (.tmp 120) _ rfl u6.heap.size 5 i0 _ 1 1 Try.underlying25 hi0 hz0 hz1 hz2 rfl (by omega) (.slice A7 (len0 + 12) c7) (len0 + 12) _ rfl (HO7.out.1.alloc _) (u7.heap.size + 1) (some ⟨u7.heap.size, 0, none⟩) 1 1 [.int .u8 ((UInt8.ofNat y.toNat).toNat : Int)] rfl (Rd.one u7 _ _) (by simp [Value.oneCell']) (by simp only [maxLen]; omega) (by omega) (by simp; omega) ?_; intro A8 c8 u8 hown8 hg8 hat8; have HO8 := hide (app_one HO7.out.1 hown8 hg8 hs7); clear hown8 hg8 hat8))
        have hb8 : Below u6.heap.size u6 u8 := HO7.out.2.trans HO8.out.2
        have HF8 := hide (HF6'.out.over hb8)
        have HB8 := hide (Bl HB6.out hb8)
        have HJ8 := hide (Rd.of_own HO8.out.1)
        clear HF6 HF6' HB6 HO7 HO8 hb8 hs7 hi0 hz0 hz1 hz2
        refine (unseal_any 7 HJ8.out (by omega)).mono ?_
        rw [with_tail 7 _ xs (by omega)]
        rintro e u9 ⟨A9, m9, c9, rfl, _, b9⟩
        have HF9 := hide (HF8.out.over b9)
        have HB9 := hide (Bl HB8.out b9)
        clear HF8 HB8 HJ8 b9
        go_wp2_with fail
        refine (unseal_any 8 HF9.out (by omega)).mono ?_
        rw [unsealed_version 7 8 xs (by decide)]
        rintro e u10 ⟨A10, m10, c10, rfl, _, b10⟩
        have HB10 := hide (Bl HB9.out b10)
        clear HF9 HB9 b10
        go_wp2_with fail
        go_ret
        exact ⟨rfl, HB10.out⟩
      · rw [ha] at k1 ⊢
        clear ha hm5
        go_wp2_with fail
        refine (unseal_any 7 (HF5.out.head8 (j := jc) (by omega)) (by omega)).mono ?_
        rw [show (sealed 7 xs).take jc = (sealed 7 xs).take jc from rfl, cut_short 7 xs (by omega) jc (by omega)]
        rintro e u6 ⟨A6, m6, c6, rfl, _, b6⟩
        have HF6 := hide ((HF5.out.over b6).alloc (Nat.le_refl _) (.cells #[] 5))
        have HF6' := hide (HF5.out.over b6)
        have HB6 := hide (Bl HB5.out b6)
        clear HF5 HB5 b6
        go_wp2_with (first | (at_builtin; refine wpList_append_rd _ rfl (.tmp 115) (.tmp 116) _ rfl u6.heap.size 5 i0 _ 1 1 Try.underlying25 hi0 hz0 hz1 hz2 rfl (by omega) (.slice (some ⟨u6.heap.size, 0, none⟩) 0 0) 0 _ rfl (own_empty u6 _) u6.heap.size A2 (len0 + 12) c2 (u8s (sealed 7 xs)) rfl HF6.out (u8s_one _) (by simp only [maxLen]; omega) (by omega) (by simp) ?_; intro A7 c7 u7 hown7 hg7 hat7; have HO7 := hide (app_lit hown7 hg7); have hs7 := HO7.out.2.size; clear hown7 hg7 hat7) | (at_builtin; refine wpList_append_rd _ rfl (.tmp 117) (.tmp 120) _ rfl u6.heap.size 5 i0 _ 1 1 Try.underlying25 hi0 hz0 hz1 hz2 rfl (by omega) (.slice A7 (len0 + 12) c7) (len0 + 12) _ rfl (HO7.out.1.alloc _) (u7.heap.size + 1) (some ⟨u7.heap.size, 0, none⟩) 1 1 [.int .u8 ((UInt8.ofNat y.toNat).toNat : Int)] rfl (Rd.one u7 _ _) (by simp [Value.oneCell']) (by simp only [maxLen]; omega) (by omega) (by simp; omega) ?_; intro A8 c8 u8 hown8 hg8 hat8; have HO8 := hide (app_one HO7.out.1 hown8 hg8 hs7); clear hown8 hg8 hat8))
        have hb8 : Below u6.heap.size u6 u8 := HO7.out.2.trans HO8.out.2
        have HF8 := hide (HF6'.out.over hb8)
        have HB8 := hide (Bl HB6.out hb8)
        have HJ8 := hide (Rd.of_own HO8.out.1)
        clear HF6 HF6' HB6 HO7 HO8 hb8 hs7 hi0 hz0 hz1 hz2
        refine (unseal_any 7 HJ8.out (by omega)).mono ?_
        rw [with_tail 7 _ xs (by omega)]
        rintro e u9 ⟨A9, m9, c9, rfl, _, b9⟩
        have HF9 := hide (HF8.out.over b9)
        have HB9 := hide (Bl HB8.out b9)
        clear HF8 HB8 HJ8 b9
        go_wp2_with fail
        refine (unseal_any 8 HF9.out (by omega)).mono ?_
        rw [unsealed_version 7 8 xs (by decide)]
        rintro e u10 ⟨A10, m10, c10, rfl, _, b10⟩
        have HB10 := hide (Bl HB9.out b10)
        clear HF9 HB9 b10
        go_wp2_with fail
        go_ret
        exact ⟨rfl, HB10.out⟩

set_option maxRecDepth 100000 in
theorem lifted (os : Os) (started : os.Started) (H : Type) (enc : TypeId × Value → H) (F : Stop.Interp) :
    ReturnsInHanded {} Try.checked os 8 .any ((Rows.OpenSpec.upto Rows.packBurstsSpec).pre6 enc Try.prog Try.f8 Rows.packBurstsUptoRow.domain false) (((Rows.OpenSpec.upto Rows.packBurstsSpec).at F).post enc Try.prog Try.f8 false true false false) := by
  refine returnsInHanded_of_cond (C := Try.checked) (s := Rows.OpenSpec.upto Rows.packBurstsSpec) (k := Rows.uptoSmall) rfl own started (by kernel_rfl) Try.func8
    (OpenSpec.witness (enc := enc) (C := Try.checked) (s := Rows.OpenSpec.upto Rows.packBurstsSpec) (k := Rows.uptoSmall) rfl false ⟨#[], #[.slice none 0 0, .int .i64 0, .int .u32 0], []⟩ 8 (by kernel_rfl) (by kernel_rfl) (by kernel_rfl)
      (x := ([.nil, .lit (.int .i64 0), .lit (.int .u32 0)], [], [])) (by kernel_rfl) rfl (by kernel_rfl)) ?_
  intro W base args ds gs before hval0 hW _ hk _
  have hval : ∀ (j : Nat) t v, Try.f8.params[j]? = some t → args[j]? = some v → Value.okWide Try.prog W .any base t v := hval0
  have hW' := hW
  obtain ⟨p, q, hA0, hV, rfl, hfz, hnd⟩ := hW
  have hA : DataW.TrodAll enc Try.prog W 0 (fun _ => true) true Try.f8.params.toList args.toList ds p := hA0
  rw [Try.params8] at hA hval
  obtain ⟨v0, vs0, d0, ds0, p0, q0, hargs, rfl, rfl, h0, r0⟩ := trodAll_cons hA
  obtain ⟨v1, vs1, d1, ds1, p1, q1, rfl, rfl, rfl, h1, r1⟩ := trodAll_cons r0
  obtain ⟨v2, vs2, d2, ds2, p2, q2, rfl, rfl, rfl, h2, r2⟩ := trodAll_cons r1
  obtain ⟨rfl, rfl, rfl⟩ := trodAll_nil r2
  obtain rfl : args = #[v0, v1, v2] := by cases args; simp_all
  obtain ⟨rfl, rfl⟩ := trodVars_none hV
  obtain ⟨a0, len0, cap0, rfl⟩ := okWide_slice Try.underlying25 (hval 0 25 v0 rfl rfl)
  have k0 := h0
  have lt0 : ∀ x ∈ p0, x.block < W.heap.size := by obtain ⟨m, hm⟩ := k0; exact DataW.trod_lt m _ _ _ hm
  obtain ⟨z0, w0, b0⟩ : ∃ zs, IsRow .u8 W a0 len0 cap0 zs ∧ len0 ≤ Rows.uptoBulk d0 := by
    obtain ⟨fuel, hf⟩ := h0
    rcases open_ints Try.underlying25 Try.underlying5 (by kernel_rfl) hf with ⟨hcs, hx⟩ | ⟨x, l, c, zs, hcs, _, hl, hm, hz, hx, hcell, hwz⟩
    · simp [Value.cells] at hcs
      obtain ⟨rfl, rfl, rfl⟩ := hcs
      exact ⟨[], .inl ⟨rfl, rfl, rfl, rfl⟩, Nat.zero_le _⟩
    · simp [Value.cells] at hcs
      obtain ⟨rfl, rfl, rfl⟩ := hcs
      exact ⟨zs, .inr ⟨_, rfl, hl, hm, by simpa using hz, hcell, hwz⟩, bulks.ints_le (congrArg Prod.fst hx) (by simp at hz; omega)⟩
  obtain ⟨a1, rfl, rfl, rfl, w1⟩ := open_int Try.underlying3 (hval 1 3 v1 rfl rfl) h1
  obtain ⟨a2, rfl, rfl, rfl, w2⟩ := open_int Try.underlying39 (hval 2 39 v2 rfl rfl) h2
  clear hA0 hval0
  simp only [List.append_nil] at hW' hk
  refine (walk W a0 len0 cap0 z0 w0 (Nat.le_trans b0 (Nat.le_trans (bulks.part_le (l := [d0, .lit (.int .i64 a1), .lit (.int .u32 a2)]) (by simp)) (bulks.bound hk))) a1 w1 a2 w2).mono fun e W' ⟨he, bel⟩ => ?_
  subst he
  exact ⟨_, rfl, _, _, _, [], _, [], hW', trodAll_mk1 (shut_bool Try.underlying4 _), (trodAll_cons_mk (Below.trod laidOut (by kernel_rfl) (of_decide_eq_true (by kernel_rfl)) k0 bel lt0) (trodAll_cons_mk (shut_int Try.underlying3 w1) (trodAll_cons_mk (shut_int Try.underlying39 w2) trodAll_mk0))), rfl, bel.frame _, fun h => by cases h⟩

theorem over : Rows.packBurstsUptoRow.holds Try.pinned (Rows.OpenSpec.upto Rows.packBurstsSpec) :=
  OpenClaim.holds_of_cond 8 Try.f8 rfl rfl rfl rfl rfl rfl rfl ⟨rfl, rfl, rfl, rfl, rfl⟩ rfl rfl rfl rfl rfl (by kernel_rfl) Try.func8 (by kernel_rfl)
    (of_decide_eq_true (by kernel_rfl)) (by unfold Func.isWrapper; first | (rw [if_pos (by decide +kernel)]; kernel_rfl) | (rw [if_neg (by decide +kernel)]; exact ⟨rfl, rfl⟩))
    (fun os started H enc _ F => lifted os started H enc F)

/-- The statement. -/
theorem proved : Rows.PackBurstsUptoSaid := over
#print axioms proved
end Go.Proofs.Ythfmfcgjcilagaa.packBursts
