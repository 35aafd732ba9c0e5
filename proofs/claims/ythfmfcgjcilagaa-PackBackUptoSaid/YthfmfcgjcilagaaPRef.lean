/- The walks of the reference of pack: numbers, bytes, the model's eye. -/
import Derived.Test.YthfmfcgjcilagaaPEye
import Derived.Test.YthfmfcgjcilagaaPSum
namespace Go.Proofs.Ythfmfcgjcilagaa.PW
open Go.ChangeShapes Go.WideShapes Go.ChangeAt Go.RowKit
open Go.Proofs.Ythfmfcgjcilagaa.B
open Go.Proofs.Ythfmfcgjcilagaa.LM (wordTo wordTo_or' wordTo_congr wordTo_lt)
set_option linter.unusedVariables false

theorem pow8 (d : Nat) : 2 ^ (8 * (d + 1)) = 2 ^ (8 * d) * 256 := by rw [Nat.mul_add, Nat.pow_add]

/-! ### Number -/
/-- The number of the d highest of n bytes. -/
def horner (f : Nat → Nat) (n : Nat) : Nat → Nat | 0 => 0 | d + 1 => horner f n d * 256 + f (n - 1 - d)
theorem horner_word (f : Nat → Nat) (n d : Nat) (hd : d ≤ n) : horner f n d * 2 ^ (8 * (n - d)) + wordTo f (n - d) = wordTo f n := by
  induction d with
  | zero => simp [horner]
  | succ d ih =>
    rw [← ih (by omega), horner]
    have e : n - d = (n - (d + 1)) + 1 := by omega
    rw [e, wordTo, show n - 1 - d = n - (d + 1) by omega, pow8, Nat.add_mul, Nat.mul_assoc, Nat.mul_comm 256]
    omega
theorem horner_all (f : Nat → Nat) (n : Nat) : horner f n n = wordTo f n := by
  have h := horner_word f n n (Nat.le_refl _)
  simpa [wordTo] using h
theorem horner_lt (f : Nat → Nat) (n : Nat) (hf : ∀ i, f i < 256) (d : Nat) : horner f n d < 2 ^ (8 * d) := by
  induction d with
  | zero => exact Nat.zero_lt_one
  | succ d ih =>
    have := hf (n - 1 - d)
    rw [horner, pow8]
    omega

set_option maxHeartbeats 1000000 in
theorem number_any {w : World} {B n c : Nat} {A : Option Addr} {bs : List UInt8} (h : Rd w B 1 A n c (u8s bs)) (hn : n ≤ 8) :
    Calls Try.prog 29 #[.slice A n c] w fun e w' => e = .returned (.int .u64 (wordTo (at8 bs) n : Int)) ∧ w = w' := by
  have HR := hide h
  clear h
  go_enter Try.func29, Try.ntmps29
  go_wp2_with fail
  go_loop [3, 4] (fun v s => ∃ d : Nat, d ≤ n ∧ s = .int .i64 ((n : Int) - 1 - (d : Int)) ∧ v = .int .u64 (horner (at8 bs) n d : Int)) (fun _ s => (intOf s + 1).toNat)
  case atStart => exact ⟨0, by omega, by simp, rfl⟩
  case round =>
    obtain ⟨d, hd, rfl, rfl⟩ := hrel
    by_cases hlt : d < n
    · obtain ⟨ad, rfl, _, hc⟩ := HR.out.byte (i := n - 1 - d) (by omega)
      have hb := at8_lt bs (n - 1 - d)
      have h1 := horner_lt (at8 bs) n (at8_lt bs) d
      have h2 : 2 ^ (8 * d) ≤ 2 ^ 56 := Nat.pow_le_pow_right (by decide) (by omega)
      have h3 : horner (at8 bs) n d < 72057594037927936 := Nat.lt_of_lt_of_le h1 h2
      have hs : horner (at8 bs) n (d + 1) = horner (at8 bs) n d * 256 + at8 bs (n - 1 - d) := rfl
      have HS := hide hs
      clear hs h1 h2
      go_wp2_with fail
      go_round
      case rel => exact ⟨d + 1, by omega, by go_num, by rw [HS.out]; go_num⟩
      case measure => simp [intOf]; omega
    · obtain rfl : d = n := by omega
      go_wp2_with fail
      go_ret
      exact ⟨by rw [← horner_all]; rfl, rfl⟩

/-! ### Uint, Bytes -/
/-- What the reference's Uint answers. -/
def refU (N : Nat) (size : Int) : List UInt8 × Int := if size < 1 ∨ 8 < size then ([], 2) else if 0 < N / 2 ^ (8 * size.toNat) then ([], 2) else (le N size.toNat, 0)
def NewBytes (w : World) (xs : List UInt8) (code : Int) (e : Ending) (w' : World) : Prop :=
  ∃ A' c', e = .returned (.tuple #[.slice A' xs.length c', .int .i64 code]) ∧ w'.ownsRow w.heap.size 5 1 (.slice A' xs.length c') xs.length (u8s xs) ∧ Below w.heap.size w w'

theorem own_empty (w : World) (t : TypeId) : (w.alloc (.cells #[] t)).ownsRow w.heap.size t 1 (.slice (some ⟨w.heap.size, 0, none⟩) 0 0) 0 (u8s []) := World.ownsRow_lit w #[] 0 (Nat.le_refl _) (by simp [maxLen]) rfl

theorem refUint_bad {w : World} {N : Nat} {size : Int} (hs : -9223372036854775808 ≤ size) (hs' : size ≤ 9223372036854775807) (h : size < 1 ∨ 8 < size) :
    Calls Try.prog 12 #[.int .u64 (N : Int), .int .i64 size] w (NewBytes w [] 2) := by
  rcases h with h | h
  · go_enter Try.func12, Try.ntmps12
    go_wp2_with fail
    go_ret2
    exact ⟨_, 0, rfl, own_empty w _, (Below.refl _ _).alloc (Nat.le_refl _) _⟩
  · go_enter Try.func12, Try.ntmps12
    go_wp2_with fail
    go_ret2
    exact ⟨_, 0, rfl, own_empty w _, (Below.refl _ _).alloc (Nat.le_refl _) _⟩

theorem div_step (N k : Nat) : N / 2 ^ (8 * k) / 256 = N / 2 ^ (8 * (k + 1)) := by
  rw [Nat.div_div_eq_div_mul, pow8]
theorem leB_mod (N i : Nat) : IntKind.u8.wrap (((N / 2 ^ (8 * i) : Nat) : Int) % 256) = ((leB N i).toNat : Int) := by
  rw [IntKind.wrap_u8', leB, UInt8.toNat_ofNat']
  omega

set_option maxHeartbeats 1000000 in
theorem refUint_ok {w : World} {N size : Nat} (h1 : 1 ≤ size) (h8 : size ≤ 8) (hN : N < 18446744073709551616) :
    Calls Try.prog 12 #[.int .u64 (N : Int), .int .i64 (size : Int)] w (NewBytes w (refU N size).1 (refU N size).2) := by
  obtain ⟨i0, hi0, hz0, hz1, hz2⟩ := info_parts info_u8
  go_enter Try.func12, Try.ntmps12
  go_wp2_with fail
  go_loopw [6, 7, 8] (fun o x s wr => ∃ i : Nat, i ≤ size ∧ s = .int .i64 i ∧ x = .int .u64 ((N / 2 ^ (8 * i) : Nat) : Int) ∧ ∃ A' c', o = .slice A' i c' ∧ wr.ownsRow w.heap.size 5 1 (.slice A' i c') i (u8s (le N i)) ∧ Below w.heap.size w wr) (fun _ _ s _ => size - (intOf s).toNat)
  case atStart => exact ⟨0, by omega, rfl, by simp, _, 0, rfl, own_empty w _, (Below.refl _ _).alloc (Nat.le_refl _) _⟩
  case round =>
    obtain ⟨i, hi, rfl, rfl, A1, c1, rfl, hown, hbel⟩ := hrel
    by_cases hlt : i < size
    · have hv := leB_mod N i
      have hx : N / 2 ^ (8 * i) < 18446744073709551616 := Nat.lt_of_le_of_lt (Nat.div_le_self _ _) hN
      have hd := div_step N i
      have HD := hide hd
      have HO := hide hown
      have HB := hide hbel
      clear hown hbel hd
      generalize N / 2 ^ (8 * i) = X at *
      go_wp2_with (at_builtin; refine wpList_append_rd _ rfl (.tmp 23) (.tmp 27) _ rfl w.heap.size 5 i0 _ 1 1 Try.underlying25 hi0 hz0 hz1 hz2 rfl (by omega) (.slice A1 i c1) i _ rfl (HO.out.alloc _) (wr.heap.size + 1) (some ⟨wr.heap.size, 0, none⟩) 1 1 [.int .u8 ((leB N i).toNat : Int)] rfl (Rd.one wr _ _) (by simp [Value.oneCell']) (by simp only [maxLen]; omega) (by omega) (by have := HB.out.size; simp; omega) ?_; intro A2 c2 w2 hown2 hg2 hat2)
      have hb2 : Below w.heap.size w w2 := (HB.out.alloc HB.out.size _).trans (below_grown (HO.out.alloc _) hg2 (Nat.le_refl _) (by have := HB.out.size; simp; omega))
      have HX := hide (show _ ∧ _ from ⟨hown2, hb2⟩)
      clear hown2 hb2 hg2 hat2 hv
      go_wp2_with fail
      go_roundw
      case rel => exact ⟨i + 1, by omega, by go_num, by rw [← HD.out]; go_num, A2, c2, rfl, by rw [le_succ, u8s_append]; exact HX.out⟩
      case measure => simp [intOf]; omega
    · obtain rfl : i = size := by omega
      have HX := hide (show _ ∧ _ from ⟨hown, hbel⟩)
      clear hown hbel
      by_cases hz : 0 < N / 2 ^ (8 * i)
      · have hru : refU N i = ([], 2) := by
          rw [refU, if_neg (by omega), if_pos (by simpa using hz)]
        have hz' : 0 < ((N / 2 ^ (8 * i) : Nat) : Int) := by omega
        have HU := hide hru
        clear hru hz
        generalize N / 2 ^ (8 * i) = X at *
        go_wp2_with fail
        go_ret2
        rw [HU.out]
        exact ⟨_, 0, rfl, own_base (own_empty wr _) (fun k hk => by have := HX.out.2.size; simp [Value.ownBlock] at hk; omega), HX.out.2.alloc HX.out.2.size _⟩
      · have hru : refU N i = (le N i, 0) := by
          rw [refU, if_neg (by omega), if_neg (by simpa using hz)]; rfl
        have hz' : ((N / 2 ^ (8 * i) : Nat) : Int) = 0 := by rw [Nat.eq_zero_of_not_pos hz]; rfl
        have HU := hide hru
        clear hru hz
        go_wp2_with fail
        go_ret2
        rw [HU.out]
        exact ⟨A1, c1, by rw [le_length]; rfl, by rw [le_length]; exact HX.out.1, HX.out.2⟩

theorem refBytes_any {w : World} {n c : Nat} {A : Option Addr} {bs : List UInt8} (h : Rd w w.heap.size 1 A n c (u8s bs)) (hn : n < 4294967296) :
    Calls Try.prog 14 #[.slice A n c] w fun e w' => ∃ A' c', e = .returned (.slice A' (4 + n) c') ∧ w'.ownsRow w.heap.size 5 1 (.slice A' (4 + n) c') (4 + n) (u8s (le n 4 ++ bs)) ∧ Below w.heap.size w w' := by
  obtain ⟨i0, hi0, hz0, hz1, hz2⟩ := info_parts info_u8
  have hcap := h.cap
  have hmax := h.max
  unfold maxLen at hmax
  have HR := hide h
  clear h
  have hru : refU n ((4 : Nat) : Int) = (le n 4, 0) := by
    rw [refU, if_neg (by omega), if_neg (by simp; omega)]; rfl
  have HU := hide hru
  clear hru
  go_enter Try.func14, Try.ntmps14
  go_wp2_with fail
  refine (refUint_ok (N := n) (size := 4) (by omega) (by omega) (by omega)).mono ?_
  rw [HU.out]
  rintro e w1 ⟨A1, c1, rfl, ho1, hb1⟩
  rw [le_length] at *
  have HO := hide ho1
  have HB := hide hb1
  have HR1 := hide (HR.out.over hb1)
  have hsz := hb1.size
  clear ho1 hb1 HR HU
  go_wp2_with (at_builtin; refine wpList_append_rd _ rfl (.tmp 12) (.tmp 13) _ rfl w.heap.size 5 i0 _ 1 1 Try.underlying25 hi0 hz0 hz1 hz2 rfl (by omega) (.slice A1 4 c1) 4 _ rfl HO.out w1.heap.size A n c (u8s bs) rfl HR1.out (u8s_one _) (by simp only [maxLen]; omega) (by omega) (by omega) ?_; intro A2 c2 w2 hown2 hg2 hat2)
  have hb2 : Below w.heap.size w w2 := HB.out.trans (below_grown HO.out hg2 (Nat.le_refl _) hsz)
  rw [← u8s_append] at hown2
  have HX := hide (show _ ∧ _ from ⟨hown2, hb2⟩)
  clear hown2 hb2 hg2 hat2
  go_ret
  exact ⟨A2, c2, rfl, HX.out⟩

/-! ### The model's eye: bytes, and how many were read -/
theorem refEyeUint_arg {w : World} {g : Nat} {size : Int} (hs : -9223372036854775808 ≤ size) (hs' : size ≤ 9223372036854775807) (h : size < 1 ∨ 8 < size) :
    Calls Try.prog 19 #[.pointer (some ⟨g, 0, none⟩), .int .i64 size] w fun e w' => e = .returned (.tuple #[.int .u64 0, .int .i64 2]) ∧ w = w' := by
  rcases h with h | h
  · go_enter Try.func19, Try.ntmps19
    go_wp2_with fail
    go_ret2
    exact ⟨rfl, rfl⟩
  · go_enter Try.func19, Try.ntmps19
    go_wp2_with fail
    go_ret2
    exact ⟨rfl, rfl⟩

theorem refEyeUint_short {w : World} {g n c I size : Nat} {A : Option Addr} (hP : Blk w g 46 #[.slice A n c, .int .i64 (I : Int)]) (hI : I ≤ n) (hn : n ≤ 140737488351232) (h1 : 1 ≤ size) (h8 : size ≤ 8) (hs : n - I < size) :
    Calls Try.prog 19 #[.pointer (some ⟨g, 0, none⟩), .int .i64 (size : Int)] w fun e w' => e = .returned (.tuple #[.int .u64 0, .int .i64 40]) ∧ Fr w w' (fun _ => False) := by
  have hc0 := hP.at_ (i := 0) rfl
  have hc1 := hP.at_ (i := 1) rfl
  have hw : IntKind.i64.wrap ((n : Int) - (I : Int)) = (n : Int) - (I : Int) := IntWalk.i64_in _ (by omega)
  clear hP
  go_enter Try.func19, Try.ntmps19
  go_wp2_with fail
  go_quiet (fail)
  go_wp2_with fail
  go_ret2
  exact ⟨rfl, (Fr.refl _ _).drewN _⟩

set_option maxHeartbeats 1000000 in
theorem refEyeUint_ok {w : World} {B g n c I size : Nat} {A : Option Addr} {bs : List UInt8} (hP : Blk w g 46 #[.slice A n c, .int .i64 (I : Int)]) (hR : Rd w B 1 A n c (u8s bs)) (hn : n ≤ 140737488351232) (h1 : 1 ≤ size) (h8 : size ≤ 8) (hs : I + size ≤ n) :
    Calls Try.prog 19 #[.pointer (some ⟨g, 0, none⟩), .int .i64 (size : Int)] w fun e w' => e = .returned (.tuple #[.int .u64 (wordTo (at8 (bs.drop I)) size : Int), .int .i64 0]) ∧ Blk w' g 46 #[.slice A n c, .int .i64 ((I + size : Nat) : Int)] ∧ Fr w w' (· = g) := by
  have hc0 := hP.at_ (i := 0) rfl
  have hc1 := hP.at_ (i := 1) rfl
  have hz1 := hP.frozen 1
  have hcap := hR.cap
  have hmax := hR.max
  unfold maxLen at hmax
  have hw : IntKind.i64.wrap ((n : Int) - (I : Int)) = (n : Int) - (I : Int) := IntWalk.i64_in _ (by omega)
  have hw2 : IntKind.i64.wrap ((I : Int) + (size : Int)) = (I : Int) + (size : Int) := IntWalk.i64_in _ (by omega)
  have i0 : (0 : Int) ≤ (I : Int) + (size : Int) := by omega
  have i1 : (I : Int) ≤ (I : Int) + (size : Int) := by omega
  have i2 : (I : Int) + (size : Int) ≤ (c : Int) := by omega
  have i3 : ((I : Int) + (size : Int)).toNat = I + size := by omega
  by_cases hci : c = I
  · omega
  · have hRc := hR.cut8 (i := I) (j := I + size) (by omega) hs
    rw [if_neg hci, Nat.mul_one, Nat.add_sub_cancel_left] at hRc
    have HR := hide hRc
    have HP := hide hP
    clear hP hR hRc
    go_enter Try.func19, Try.ntmps19
    go_wp2_with fail
    go_quiet (fail)
    go_wp2_with fail
    go_quiet ((go_at_call 29; exact quiet_add_left (number_any (HR.out.drewN _) h8)))
    clear hw hw2 i0 i1 i2 i3
    go_wp2_with fail
    go_ret2
    refine ⟨?_, ?_, ((Fr.refl _ _).drewN _).trans (Fr.one _ _ _ _)⟩
    · rw [wordTo_congr (at8 (bs.drop I)) (at8 ((bs.drop I).take size)) size (fun j hj => (at8_take _ _ _ hj).symm)]
      rfl
    · simpa using (HP.out.drewN _).set 1 (.int .i64 ((I : Int) + (size : Int)))

theorem refEyeBytes_short {w : World} {g n c I : Nat} {A : Option Addr} (hP : Blk w g 46 #[.slice A n c, .int .i64 (I : Int)]) (hI : I ≤ n) (hn : n ≤ 140737488351232) (hs : n - I < 4) :
    Calls Try.prog 21 #[.pointer (some ⟨g, 0, none⟩)] w fun e w' => ∃ A', e = .returned (.tuple #[.slice A' 0 0, .int .i64 40]) ∧ w'.ownsRow w.heap.size 5 1 (.slice A' 0 0) 0 (u8s []) ∧ Fr w w' (fun _ => False) := by
  have hc0 := hP.at_ (i := 0) rfl
  have hc1 := hP.at_ (i := 1) rfl
  have hw : IntKind.i64.wrap ((n : Int) - (I : Int)) = (n : Int) - (I : Int) := IntWalk.i64_in _ (by omega)
  have hw1 : IntKind.u64.wrap ((n : Int) - (I : Int)) = (n : Int) - (I : Int) := by rw [IntKind.wrap_u64]; omega
  clear hP
  go_enter Try.func21, Try.ntmps21
  go_wp2_with fail
  go_quiet (fail)
  go_wp2_with fail
  go_ret2
  exact ⟨_, rfl, own_empty w _, ((Fr.refl _ _).alloc _).drewN _⟩

set_option maxHeartbeats 1000000 in
theorem refEyeBytes_over {w : World} {B g n c I : Nat} {A : Option Addr} {bs : List UInt8} (hP : Blk w g 46 #[.slice A n c, .int .i64 (I : Int)]) (hR : Rd w B 1 A n c (u8s bs)) (hn : n ≤ 140737488351232) (hs : I + 4 ≤ n) (hN : n - I - 4 < wordTo (at8 (bs.drop I)) 4) :
    Calls Try.prog 21 #[.pointer (some ⟨g, 0, none⟩)] w fun e w' => ∃ A', e = .returned (.tuple #[.slice A' 0 0, .int .i64 40]) ∧ w'.ownsRow w.heap.size 5 1 (.slice A' 0 0) 0 (u8s []) ∧ Fr w w' (fun _ => False) := by
  have hc0 := hP.at_ (i := 0) rfl
  have hc1 := hP.at_ (i := 1) rfl
  have hcap := hR.cap
  have hmax := hR.max
  unfold maxLen at hmax
  have hw : IntKind.i64.wrap ((n : Int) - (I : Int)) = (n : Int) - (I : Int) := IntWalk.i64_in _ (by omega)
  have hw1 : IntKind.u64.wrap ((n : Int) - (I : Int)) = (n : Int) - (I : Int) := by rw [IntKind.wrap_u64]; omega
  have hw2 : IntKind.i64.wrap ((I : Int) + 4) = (I : Int) + 4 := IntWalk.i64_in _ (by omega)
  have i0 : (0 : Int) ≤ (I : Int) + 4 := by omega
  have i1 : (I : Int) ≤ (I : Int) + 4 := by omega
  have i2 : (I : Int) + 4 ≤ (c : Int) := by omega
  have i3 : ((I : Int) + 4).toNat = I + 4 := by omega
  have hlt := wordTo_lt (at8 (bs.drop I)) 4 (fun j _ => at8_lt _ j)
  rw [show (2 : Nat) ^ (8 * 4) = 4294967296 from rfl] at hlt
  have hci : ¬ c = I := by omega
  have hRc := hR.cut8 (i := I) (j := I + 4) (by omega) hs
  rw [if_neg hci, Nat.mul_one, Nat.add_sub_cancel_left] at hRc
  rw [wordTo_congr (at8 (bs.drop I)) (at8 ((bs.drop I).take 4)) 4 (fun j hj => (at8_take _ _ _ hj).symm)] at hN hlt
  have HR := hide hRc
  clear hP hR hRc
  generalize hW : wordTo (at8 ((bs.drop I).take 4)) 4 = N at *
  have HW := hide hW
  clear hW
  go_enter Try.func21, Try.ntmps21
  go_wp2_with fail
  go_quiet (fail)
  go_wp2_with fail
  go_quiet ((go_at_call 29; exact quiet_add_left (HW.out ▸ number_any (HR.out.drewN _) (by decide))))
  clear hw hw1 hw2 i0 i1 i2 i3
  go_wp2_with fail
  go_ret2
  exact ⟨_, rfl, own_empty w _, ((Fr.refl _ _).alloc _).drewN _⟩

/-- What bytes that the model read leave. -/
def RefGot (w : World) (g n c I N : Nat) (A : Option Addr) (bs : List UInt8) (e : Ending) (w' : World) : Prop :=
  ∃ A1 c1, e = .returned (.tuple #[.slice A1 N c1, .int .i64 0]) ∧ w'.ownsRow w.heap.size 5 1 (.slice A1 N c1) N (u8s ((bs.drop (I + 4)).take N)) ∧ Blk w' g 46 #[.slice A n c, .int .i64 ((I + 4 + N : Nat) : Int)] ∧ Fr w w' (· = g)

theorem refGot_close {w wd w2 : World} {g n c I N c2 : Nat} {A A2 : Option Addr} {bs : List UInt8} {v : Int} (hs : wd.heap.size = w.heap.size)
    (ho : w2.ownsRow wd.heap.size 5 1 (.slice A2 (0 + N) c2) (0 + N) (u8s [] ++ u8s ((bs.drop (I + 4)).take N))) (hk : Blk w2 g 46 #[.slice A n c, .int .i64 (I : Int)]) (hf : Fr w w2 (fun _ => False)) (hv : v = ((I + 4 + N : Nat) : Int)) :
    RefGot w g n c I N A bs (.returned (.tuple #[.slice A2 N c2, .int .i64 0])) (w2.setCell ⟨g, 1, none⟩ (.int .i64 v)) := by
  subst hv
  rw [Nat.zero_add] at ho
  refine ⟨A2, c2, rfl, ?_, by simpa using hk.set 1 (.int .i64 ((I + 4 + N : Nat) : Int)), (hf.mono (fun _ _ h => h.elim)).trans (Fr.one _ _ _ _)⟩
  rw [hs] at ho
  refine own_fr ho (Fr.one w2 g 1 _) (fun k hk2 e => ?_)
  subst e
  exact own_ne_blk ho hk (by decide) hk2

end Go.Proofs.Ythfmfcgjcilagaa.PW
