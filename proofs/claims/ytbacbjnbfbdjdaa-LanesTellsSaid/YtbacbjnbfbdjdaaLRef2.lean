/- The walks of the reference for the lanes: the highest bits, a text loaded, what a table has, lanes moved up. -/
import Derived.Test.YtbacbjnbfbdjdaaLRef
namespace Go.Proofs.Ytbacbjnbfbdjdaa.LW
open Go.ChangeShapes Go.WideShapes Go.ChangeAt Go.RowKit
open Go.Proofs.Ytbacbjnbfbdjdaa.LM Go.Proofs.Ytbacbjnbfbdjdaa.B
set_option linter.unusedVariables false
attribute [local go_sem] arr8 setCell_drewN

/-- What the reference's Top has gathered of the d highest lanes. -/
def topDown (x : BitVec 64) : Nat → Nat | 0 => 0 | d + 1 => 2 * topDown x d + lane x (7 - d) / 128
theorem topDown_8 (x : BitVec 64) : topDown x 8 = topN x 8 := by
  simp only [topDown, topN, Nat.reduceSub, Nat.reducePow]
  omega
theorem topDown_lt (x : BitVec 64) (d : Nat) : topDown x d < 2 ^ d := by
  induction d with
  | zero => exact Nat.zero_lt_one
  | succ d ih =>
    have := lane_lt x (7 - d)
    rw [topDown, Nat.pow_succ]
    omega
theorem topDown_le (x : BitVec 64) (d : Nat) (h : d ≤ 8) : topDown x d ≤ 255 := by
  have h1 := topDown_lt x d
  have h2 : 2 ^ d ≤ 2 ^ 8 := Nat.pow_le_pow_right (by decide) h
  omega

theorem refTop_any (x : BitVec 64) (w : World) :
    Calls Try.prog 23 #[.int .u64 (W x)] w fun e w' => e = .returned (.int .u8 (topN x 8 : Int)) ∧ Below w.heap.size w w' := by
  go_enter Try.func23, Try.ntmps23
  go_wp2_with fail
  refine (refLanes_any _ _).mono ?_
  rintro e w1 ⟨rfl, hb⟩
  go_wp2
  go_loopw [4, 5] (fun n i wr => ∃ d : Nat, d ≤ 8 ∧ i = .int .i64 (7 - (d : Int)) ∧ n = .int .i64 (topDown x d : Int) ∧ wr = w1.alloc (.cells (cellsOf .i64 8 (fun j => (lane x j : Int))) 33)) (fun _ i _ => (intOf i + 1).toNat)
  case atStart => exact ⟨0, by omega, rfl, rfl, rfl⟩
  case round =>
    obtain ⟨d, hd, rfl, rfl, rfl⟩ := hrel
    by_cases hlt : d < 8
    · have hl := lane_lt x (7 - d)
      have ht := topDown_le x d hd
      have hc1 := cellsOf_at .i64 8 (fun j => (lane x j : Int)) (7 - d) (by omega)
      have hs : topDown x (d + 1) = 2 * topDown x d + lane x (7 - d) / 128 := rfl
      have HS := hide hs
      clear hs
      by_cases c : 127 < (lane x (7 - d) : Int)
      · go_wp2
        go_roundw
        case rel => exact ⟨d + 1, by omega, by go_num, by rw [HS.out]; go_num, by first | rfl | trivial⟩
        case measure => simp [intOf]; omega
      · go_wp2
        go_roundw
        case rel => exact ⟨d + 1, by omega, by go_num, by rw [HS.out]; go_num, by first | rfl | trivial⟩
        case measure => simp [intOf]; omega
    · obtain rfl : d = 8 := by omega
      have ht := topDown_le x 8 (by omega)
      go_wp2
      go_ret
      exact ⟨by rw [← topDown_8]; rfl, hb.alloc hb.size _⟩

/-- The reference's table of a text's bytes. -/
theorem refLoad_any (A : Option Addr) (n c : Nat) (bs : List Nat) (hn : bs.length = n) (hb : ∀ b ∈ bs, b < 256) (hm : n ≤ 200) (i : Int) (hi : -9223372036854775808 ≤ i) (hi' : i ≤ 9223372036854775807) (w : World)
    (hc : ∀ j : Nat, j < n → ∃ a, A = some a ∧ a.block < w.heap.size ∧ w.cell? (a.add j) = some (.int .u8 (byteAt bs j : Int))) :
    Calls Try.prog 19 #[.slice A n c, .int .i64 i] w fun e w' => e = .returned (.int .u64 (wordTo (fun k => byteAt bs (i + k)) 8 : Int)) ∧ Below w.heap.size w w' := by
  have hcell : ∀ k : Nat, k < n → ∃ a, A = some a ∧ ∀ C T, (w.alloc (.cells C T)).cell? (a.add k) = some (.int .u8 (byteAt bs k : Int)) := by
    intro k hk
    obtain ⟨a, h1, h2, h3⟩ := hc k hk
    refine ⟨a, h1, fun C T => ?_⟩
    have hblk : (a.add k).block = a.block := by unfold Addr.add; split <;> rfl
    rw [World.cell?_alloc_lt _ _ _ (by rw [hblk]; exact h2), h3]
  have HC := hide hcell
  have hb8 : ∀ j : Nat, j < 8 → byteAt bs (i + j) < 256 := fun j _ => byteAt_lt bs hb _
  have HB := hide hb8
  have HK := hide (byteAt_lt bs hb)
  have h0 : cellsOf .i64 8 (fun j => if i + j < 0 then (byteAt bs (i + j) : Int) else 0) = cellsOf .i64 8 (fun _ => 0) := by
    refine cellsOf_congr _ _ fun j _ => ?_
    split
    · rw [byteAt_out _ _ (by omega)]; rfl
    · rfl
  obtain ⟨f, hf⟩ : ∃ f : Nat → Nat, ∀ k, f k = byteAt bs (i + k) := ⟨_, fun _ => rfl⟩
  have h9 : cellsOf .i64 8 (fun j => if i + j < n then (byteAt bs (i + j) : Int) else 0) = cellsOf .i64 8 (fun j => (f j : Int)) := by
    refine cellsOf_congr _ _ fun j _ => ?_
    rw [hf]
    split
    · rfl
    · rw [byteAt_out _ _ (by omega)]; rfl
  have HF := hide hf
  clear hf
  have H0 := hide h0
  have H9 := hide h9
  clear hc hb hcell hb8 h0 h9
  go_enter Try.func19, Try.ntmps19
  go_wp2
  go_loopw [6] (fun s wr => ∃ k : Nat, k ≤ n ∧ s = .int .i64 k ∧ wr = w.alloc (.cells (cellsOf .i64 8 (fun j => if i + j < k then (byteAt bs (i + j) : Int) else 0)) 33)) (fun s _ => n - (intOf s).toNat)
  case atStart => exact ⟨0, by omega, rfl, by rw [show ((0 : Nat) : Int) = 0 from rfl, H0.out]; rfl⟩
  case round =>
    obtain ⟨k, hk, rfl, rfl⟩ := hrel
    by_cases hlt : k < n
    · obtain ⟨a, rfl, hc⟩ := HC.out k hlt
      go_wp2
      go_loopw [7] (fun s wr => ∃ j : Nat, j ≤ 8 ∧ s = .int .i64 j ∧ wr = w.alloc (.cells (cellsOf .i64 8 (fun m => if i + m < k ∨ (i + m = k ∧ m < j) then (byteAt bs (i + m) : Int) else 0)) 33)) (fun s _ => 8 - (intOf s).toNat)
      case atStart =>
        refine ⟨0, by omega, rfl, ?_⟩
        congr 2
        refine cellsOf_congr _ _ fun m _ => ?_
        by_cases c : i + m < k
        · rw [if_pos c, if_pos (.inl c)]
        · rw [if_neg c, if_neg (by omega)]
      case round =>
        obtain ⟨j, hj, rfl, rfl⟩ := hrel
        by_cases hjlt : j < 8
        · have hc0 := cellsOf_at .i64 8 (fun m => if i + m < k ∨ (i + m = k ∧ m < j) then (byteAt bs (i + m) : Int) else 0) j hjlt
          have hbk := HK.out k
          by_cases c : (k : Int) - j = i
          · have c' : (((k : Int) - j) == i) = true := by rw [beq_iff_eq]; exact c
            have CC := hide c
            clear c
            go_wp2
            go_roundw
            case rel =>
              refine ⟨j + 1, by omega, by go_num, ?_⟩
              rw [cellsOf_set]
              congr 2
              refine cellsOf_congr _ _ fun m _ => ?_
              have c := CC.out
              by_cases e : m = j
              · subst e
                rw [if_pos rfl, if_pos (by omega), show i + (m : Int) = k by omega]
              · rw [if_neg e]
                by_cases l : i + m < k ∨ (i + m = k ∧ m < j)
                · rw [if_pos l, if_pos (by omega)]
                · rw [if_neg l, if_neg (by omega)]
            case measure => simp [intOf]; omega
          · have c' : (((k : Int) - j) == i) = false := by rw [beq_eq_false_iff_ne]; exact c
            go_wp2
            go_roundw
            case rel =>
              refine ⟨j + 1, by omega, by go_num, ?_⟩
              congr 2
              refine cellsOf_congr _ _ fun m _ => ?_
              by_cases l : i + m < k ∨ (i + m = k ∧ m < j)
              · rw [if_pos l, if_pos (by omega)]
              · rw [if_neg l, if_neg (by omega)]
            case measure => simp [intOf]; omega
        · obtain rfl : j = 8 := by omega
          go_wp2
          go_roundw
          case rel =>
            refine ⟨k + 1, by omega, by go_num, ?_⟩
            congr 2
            refine cellsOf_congr _ _ fun m _ => ?_
            by_cases l : i + m < k + 1
            · rw [if_pos (by omega), if_pos (by omega)]
            · rw [if_neg (by omega), if_neg (by omega)]
          case measure => simp [intOf]; omega
    · obtain rfl : k = n := by omega
      rw [H9.out, cellsOf_8]
      go_wp2_with fail
      refine (refWord_any f (fun j hj => by rw [HF.out]; exact HB.out j hj) _).mono ?_
      rintro e w3 ⟨rfl, hb3⟩
      go_wp2
      go_ret
      exact ⟨by rw [wordTo_congr (fun k => byteAt bs (i + k)) f 8 (fun j _ => (HF.out j).symm)]; rfl, Bl_trans ((Below.refl _ _).alloc (Nat.le_refl _) _) hb3 (by simp)⟩

theorem refPick_any (t : Nat → Nat) (ht : ∀ i, i < 16 → t i < 256) (x : BitVec 64) (w : World) :
    Calls Try.prog 25 #[.agg (cellsOf .u8 16 (fun i => (t i : Int))), .int .u64 (W x)] w fun e w' => e = .returned (.int .u64 (wordTo (fun k => t (lane x k % 16)) 8 : Int)) ∧ Below w.heap.size w w' := by
  go_enter Try.func25, Try.ntmps25
  go_wp2_with fail
  refine (refLanes_any _ _).mono ?_
  rintro e w1 ⟨rfl, hb⟩
  have hc : ∀ j, j < 16 → w1.cell? ⟨w.heap.size, j, none⟩ = some (.int .u8 (t j : Int)) := fun j hj => by
    rw [hb.cell (by simp)]
    simp [cellsOf_at _ _ _ _ hj]
  have hlt1 : w.heap.size < w1.heap.size := by have := hb.size; simp at this; omega
  have hB : Below w.heap.size w w1 := Bl_trans ((Below.refl _ _).alloc (Nat.le_refl _) _) hb (by simp)
  clear hb
  have HC := hide hc
  clear hc
  go_wp2
  go_loopw [7] (fun i wr => ∃ k : Nat, k ≤ 8 ∧ i = .int .i64 k ∧ wr = (w1.alloc (.cells (cellsOf .i64 8 (fun j => (lane x j : Int))) 33)).alloc (.cells (cellsOf .i64 8 (fun j => if j < k then (t (lane x j % 16) : Int) else 0)) 33)) (fun i _ => 8 - (intOf i).toNat)
  case atStart => exact ⟨0, by omega, rfl, rfl⟩
  case round =>
    obtain ⟨k, hk, rfl, rfl⟩ := hrel
    by_cases hlt : k < 8
    · have hl := lane_lt x k
      have hc := HC.out (lane x k % 16) (by omega)
      have hc0 := cellsOf_at .i64 8 (fun j => if j < k then (t (lane x j % 16) : Int) else 0) k hlt
      have hc1 := cellsOf_at .i64 8 (fun j => (lane x j : Int)) k hlt
      have htl := ht (lane x k % 16) (by omega)
      go_wp2
      go_roundw
      case rel => exact ⟨k + 1, by omega, by go_num, by rw [cells_step .i64 8 (fun j => (t (lane x j % 16) : Int)) k _ rfl]⟩
      case measure => simp [intOf]; omega
    · obtain rfl : k = 8 := by omega
      rw [cellsOf_8, cellsOf_8]
      go_wp2_with fail
      refine (refWord_any (fun j => t (lane x j % 16)) (fun j _ => ht _ (Nat.mod_lt _ (by decide))) _).mono ?_
      rintro e w3 ⟨rfl, hb3⟩
      go_wp2
      go_ret
      exact ⟨rfl, Bl_trans ((hB.alloc hB.size _).alloc (by simp; omega) _) hb3 (by simp)⟩

theorem refUp_any (x : BitVec 64) (n : Int) (hn : -9223372036854775808 ≤ n) (hn' : n ≤ 9223372036854775807) (w : World) :
    Calls Try.prog 26 #[.int .u64 (W x), .int .i64 n] w fun e w' => e = .returned (.int .u64 (W (up x n))) ∧ Below w.heap.size w w' := by
  by_cases c1 : n ≤ 0
  · have HU := hide (up_low x n c1)
    go_enter Try.func26, Try.ntmps26
    go_wp2
    go_ret
    exact ⟨by rw [HU.out]; rfl, Below.refl _ _⟩
  · have hpos : 0 < n := by omega
    clear c1
    go_enter Try.func26, Try.ntmps26
    go_wp2_with fail
    refine (refLanes_any _ _).mono ?_
    rintro e w1 ⟨rfl, hb⟩
    go_wp2
    go_loopw [7] (fun i wr => ∃ k : Nat, k ≤ 8 ∧ i = .int .i64 k ∧ wr = (w1.alloc (.cells (cellsOf .i64 8 (fun j => (lane x j : Int))) 33)).alloc (.cells (cellsOf .i64 8 (fun j => if j < k then (upF x n j : Int) else 0)) 33)) (fun i _ => 8 - (intOf i).toNat)
    case atStart => exact ⟨0, by omega, rfl, rfl⟩
    case round =>
      obtain ⟨k, hk, rfl, rfl⟩ := hrel
      by_cases hlt : k < 8
      · have hc0 := cellsOf_at .i64 8 (fun j => if j < k then (upF x n j : Int) else 0) k hlt
        by_cases c : n < 8 ∧ n ≤ k
        · have hu := hide (show upF x n k = lane x (k - n.toNat) from if_pos c)
          obtain ⟨ca, cb⟩ := c
          have hc1 := cellsOf_at .i64 8 (fun j => (lane x j : Int)) (k - n.toNat) (by omega)
          have hix : ((k : Int) - n).toNat = k - n.toNat := by omega
          go_wp2
          go_roundw
          case rel => exact ⟨k + 1, by omega, by go_num, by rw [cells_step .i64 8 (fun j => (upF x n j : Int)) k _ (by rw [hu.out])]⟩
          case measure => simp [intOf]; omega
        · have hu := hide (show (upF x n k : Int) = 0 from by rw [upF, if_neg c]; rfl)
          by_cases c2 : n < 8
          · have c3 : ¬ n ≤ k := fun h => c ⟨c2, h⟩
            clear c
            go_wp2
            go_roundw
            case rel => exact ⟨k + 1, by omega, by go_num, by rw [cells_step0 .i64 8 (fun j => (upF x n j : Int)) k hu.out]⟩
            case measure => simp [intOf]; omega
          · clear c
            go_wp2
            go_roundw
            case rel => exact ⟨k + 1, by omega, by go_num, by rw [cells_step0 .i64 8 (fun j => (upF x n j : Int)) k hu.out]⟩
            case measure => simp [intOf]; omega
      · obtain rfl : k = 8 := by omega
        rw [cellsOf_8, cellsOf_8]
        go_wp2_with fail
        refine (refWord_any (upF x n) (fun j _ => upF_lt _ _ _) _).mono ?_
        rintro e w3 ⟨rfl, hb3⟩
        go_wp2
        go_ret
        exact ⟨by rw [← upF_W x n (by omega)]; rfl, Bl_trans ((hb.alloc hb.size _).alloc (by have := hb.size; simp; omega) _) hb3 (by have := hb.size; simp)⟩
end Go.Proofs.Ytbacbjnbfbdjdaa.LW
