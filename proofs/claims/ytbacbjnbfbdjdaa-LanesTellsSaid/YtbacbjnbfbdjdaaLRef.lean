/- The walks of the reference for the lanes: its bytes of a word, its word of bytes, its joins lane by lane. -/
import Derived.Test.YtbacbjnbfbdjdaaLWalk
import Derived.BigQuiet
import Derived.Deep.QuietTactic
namespace Go.Proofs.Ytbacbjnbfbdjdaa.LW
open Go.ChangeShapes Go.WideShapes Go.ChangeAt Go.RowKit
open Go.Proofs.Ytbacbjnbfbdjdaa.LM Go.Proofs.Ytbacbjnbfbdjdaa.B
set_option linter.unusedVariables false

theorem cells_step (k : IntKind) (n : Nat) (f : Nat → Int) (i : Nat) (v : Int) (h : v = f i) : (cellsOf k n (fun j => if j < i then f j else 0)).setIfInBounds i (.int k v) = cellsOf k n (fun j => if j < i + 1 then f j else 0) := by
  rw [cellsOf_set]
  refine cellsOf_congr _ _ fun j _ => ?_
  by_cases e : j = i
  · subst e
    rw [if_pos rfl, if_pos (by omega), h]
  · rw [if_neg e]
    by_cases l : j < i
    · rw [if_pos l, if_pos (by omega)]
    · rw [if_neg l, if_neg (by omega)]

theorem cells_step0 (k : IntKind) (n : Nat) (f : Nat → Int) (i : Nat) (h : f i = 0) : cellsOf k n (fun j => if j < i then f j else 0) = cellsOf k n (fun j => if j < i + 1 then f j else 0) := by
  refine cellsOf_congr _ _ fun j _ => ?_
  by_cases e : j = i
  · subst e
    rw [if_neg (by omega), if_pos (by omega), h]
  · by_cases l : j < i
    · rw [if_pos l, if_pos (by omega)]
    · rw [if_neg l, if_neg (by omega)]
theorem setCell_drewN (w : World) (n : Nat) (a : Addr) (v : Value) : (w.drewN n).setCell a v = (w.setCell a v).drewN n := rfl

theorem refLanes_any (x : BitVec 64) (w : World) :
    Calls Try.prog 18 #[.int .u64 (W x)] w fun e w' => e = .returned (arr8 .i64 (fun j => (lane x j : Int))) ∧ Below w.heap.size w w' := by
  have h0 := W_nonneg x
  have h1 := W_le x
  go_enter Try.func18, Try.ntmps18
  go_wp2
  go_loopw [4] (fun i wr => ∃ k : Nat, k ≤ 8 ∧ i = .int .i64 k ∧ wr = (w.alloc (.cells (cellsOf .i64 8 (fun _ => 0)) 33)).alloc (.cells (cellsOf .i64 8 (fun j => if j < k then (lane x j : Int) else 0)) 33)) (fun i _ => 8 - (intOf i).toNat)
  case atStart => exact ⟨0, by omega, rfl, rfl⟩
  case round =>
    obtain ⟨k, hk, rfl, rfl⟩ := hrel
    by_cases hlt : k < 8
    · have hc := cellsOf_at .i64 8 (fun j => if j < k then (lane x j : Int) else 0) k hlt
      have hd : 0 ≤ W x / 2 ^ (8 * k) := Int.ediv_nonneg h0 (Int.le_of_lt (Int.pow_pos (by decide)))
      go_wp2
      go_roundw
      case rel => exact ⟨k + 1, by omega, by go_num, by rw [cells_step .i64 8 (fun j => (lane x j : Int)) k _ (lane_W x k)]⟩
      case measure => simp [intOf]; omega
    · obtain rfl : k = 8 := by omega
      rw [cellsOf_8, cellsOf_8]
      go_wp2
      exact bodyPost_ret (v := arr8 .i64 (fun j => (lane x j : Int))) (by simp [results, Try.results18, go_sem, arr8]) rfl ⟨rfl, ((Below.refl _ _).alloc (Nat.le_refl _) _).alloc (by simp) _⟩

theorem refWord_any (f : Nat → Nat) (hf : ∀ j, j < 8 → f j < 256) (w : World) :
    Calls Try.prog 22 #[arr8 .i64 (fun j => (f j : Int))] w fun e w' => e = .returned (.int .u64 (wordTo f 8 : Int)) ∧ Below w.heap.size w w' := by
  have HF := hide hf
  clear hf
  go_enter Try.func22, Try.ntmps22
  have hbox : ∀ j, j < 8 → (w.alloc (.cells #[.int .i64 (f 0), .int .i64 (f 1), .int .i64 (f 2), .int .i64 (f 3), .int .i64 (f 4), .int .i64 (f 5), .int .i64 (f 6), .int .i64 (f 7)] 33)).cell? ⟨w.heap.size, j, none⟩ = some (.int .i64 (f j : Int)) := fun j hj => by
    rw [World.cell?_alloc_new]
    exact cellsOf_at .i64 8 (fun j => (f j : Int)) j hj
  have HB := hide hbox
  clear hbox
  unfold arr8
  go_wp2
  go_loop [3, 4] (fun v i => ∃ k : Nat, k ≤ 8 ∧ i = .int .i64 k ∧ v = .int .u64 (wordTo f k : Int)) (fun _ i => 8 - (intOf i).toNat)
  case atStart => exact ⟨0, by omega, rfl, rfl⟩
  case round =>
    obtain ⟨k, hk, rfl, rfl⟩ := hrel
    by_cases hlt : k < 8
    · have hc := HB.out k hlt
      have hnext := hide (wordTo_add' f k hlt HF.out)
      go_wp2
      go_round
      case rel => exact ⟨k + 1, by omega, by go_num, by rw [hnext.out]⟩
      case measure => simp [intOf]; omega
    · obtain rfl : k = 8 := by omega
      go_wp2
      go_ret
      exact ⟨rfl, (Below.refl _ _).alloc (Nat.le_refl _) _⟩

def joinF (how : Nat) (a b : Nat) : Nat :=
  if how = 1 then (a + b) % 256 else if how = 2 then (if a + b > 255 then 255 else a + b) else if how = 3 then (if a = b then 255 else 0) else (if b < a then b else a)
theorem joinF_1 (a b : Nat) : joinF 1 a b = (a + b) % 256 := rfl
theorem joinF_2 (a b : Nat) : joinF 2 a b = if a + b > 255 then 255 else a + b := rfl
theorem joinF_3 (a b : Nat) : joinF 3 a b = if a = b then 255 else 0 := rfl
theorem joinF_4 (a b : Nat) : joinF 4 a b = if b < a then b else a := rfl
theorem joinF_lt (how a b : Nat) (ha : a < 256) (hb : b < 256) : joinF how a b < 256 := by
  unfold joinF
  repeat' split
  all_goals omega

section
attribute [local go_sem] arr8 setCell_drewN
theorem Bl_drewN {B : Nat} {a w : World} (h : Below B a w) (n : Nat) : Below B a (w.drewN n) := ⟨h.os, h.tape, h.output, h.size, h.block⟩

set_option maxHeartbeats 1000000 in
theorem refJoin1 (x y : BitVec 64) (w : World) :
    Calls Try.prog 11 #[.int .u64 (W x), .int .u64 (W y), .int .i64 1] w fun e w' => e = .returned (.int .u64 (wordTo (fun j => joinF 1 (lane x j) (lane y j)) 8 : Int)) ∧ Below w.heap.size w w' := by
  go_enter Try.func11, Try.ntmps11
  go_wp2_with fail
  refine (refLanes_any _ _).mono ?_
  rintro e w1 ⟨rfl, hb1⟩
  go_wp2_with fail
  refine (refLanes_any _ _).mono ?_
  rintro e w2 ⟨rfl, hb2⟩
  have hb := Bl hb1 hb2
  clear hb1 hb2
  go_wp2
  go_loopw [10] (fun i wr => ∃ k n : Nat, k ≤ 8 ∧ i = .int .i64 k ∧ wr = (((w2.alloc (.cells (cellsOf .i64 8 (fun j => (lane x j : Int))) 33)).alloc (.cells (cellsOf .i64 8 (fun j => (lane y j : Int))) 33)).alloc (.cells (cellsOf .i64 8 (fun j => if j < k then (joinF 1 (lane x j) (lane y j) : Int) else 0)) 33)).drewN n) (fun i _ => 8 - (intOf i).toNat)
  case atStart => exact ⟨0, 0, by omega, rfl, rfl⟩
  case round =>
    obtain ⟨k, n, hk, rfl, rfl⟩ := hrel
    by_cases hlt : k < 8
    · have hc0 := cellsOf_at .i64 8 (fun j => if j < k then (joinF 1 (lane x j) (lane y j) : Int) else 0) k hlt
      have hc1 := cellsOf_at .i64 8 (fun j => (lane x j : Int)) k hlt
      have hc2 := cellsOf_at .i64 8 (fun j => (lane y j : Int)) k hlt
      have hx := lane_lt x k
      have hy := lane_lt y k
      · go_wp2
        go_quiet (fail)
        go_wp2
        go_roundw
        case rel => exact ⟨k + 1, _, by omega, by go_num, by rw [cells_step .i64 8 (fun j => (joinF 1 (lane x j) (lane y j) : Int)) k _ (by rw [joinF_1]; rfl)]⟩
        case measure => simp [intOf]; omega
    · obtain rfl : k = 8 := by omega
      rw [cellsOf_8, cellsOf_8, cellsOf_8]
      go_wp2_with fail
      refine (refWord_any (fun j => joinF 1 (lane x j) (lane y j)) (fun j _ => joinF_lt _ _ _ (lane_lt x j) (lane_lt y j)) _).mono ?_
      rintro e w3 ⟨rfl, hb3⟩
      go_wp2
      go_ret
      exact ⟨rfl, Bl_trans (Bl_drewN (((hb.alloc hb.size _).alloc (by have := hb.size; simp; omega) _).alloc (by have := hb.size; simp; omega) _) n) hb3 (by have := hb.size; simp)⟩

set_option maxHeartbeats 1000000 in
theorem refJoin2 (x y : BitVec 64) (w : World) :
    Calls Try.prog 11 #[.int .u64 (W x), .int .u64 (W y), .int .i64 2] w fun e w' => e = .returned (.int .u64 (wordTo (fun j => joinF 2 (lane x j) (lane y j)) 8 : Int)) ∧ Below w.heap.size w w' := by
  go_enter Try.func11, Try.ntmps11
  go_wp2_with fail
  refine (refLanes_any _ _).mono ?_
  rintro e w1 ⟨rfl, hb1⟩
  go_wp2_with fail
  refine (refLanes_any _ _).mono ?_
  rintro e w2 ⟨rfl, hb2⟩
  have hb := Bl hb1 hb2
  clear hb1 hb2
  go_wp2
  go_loopw [10] (fun i wr => ∃ k n : Nat, k ≤ 8 ∧ i = .int .i64 k ∧ wr = (((w2.alloc (.cells (cellsOf .i64 8 (fun j => (lane x j : Int))) 33)).alloc (.cells (cellsOf .i64 8 (fun j => (lane y j : Int))) 33)).alloc (.cells (cellsOf .i64 8 (fun j => if j < k then (joinF 2 (lane x j) (lane y j) : Int) else 0)) 33)).drewN n) (fun i _ => 8 - (intOf i).toNat)
  case atStart => exact ⟨0, 0, by omega, rfl, rfl⟩
  case round =>
    obtain ⟨k, n, hk, rfl, rfl⟩ := hrel
    by_cases hlt : k < 8
    · have hc0 := cellsOf_at .i64 8 (fun j => if j < k then (joinF 2 (lane x j) (lane y j) : Int) else 0) k hlt
      have hc1 := cellsOf_at .i64 8 (fun j => (lane x j : Int)) k hlt
      have hc2 := cellsOf_at .i64 8 (fun j => (lane y j : Int)) k hlt
      have hx := lane_lt x k
      have hy := lane_lt y k
      have hsz : k < (cellsOf .i64 8 (fun j => if j < k then (joinF 2 (lane x j) (lane y j) : Int) else 0)).size := by rw [cellsOf_size]; exact hlt
      · by_cases c : 255 < (lane x k : Int) + (lane y k : Int)
        · go_wp2
          go_quiet (fail)
          go_wp2
          go_roundw
          case rel => exact ⟨k + 1, _, by omega, by go_num, by rw [cells_step .i64 8 (fun j => (joinF 2 (lane x j) (lane y j) : Int)) k _ (by rw [joinF_2, if_pos (by omega)]; rfl)]⟩
          case measure => simp [intOf]; omega
  
        · go_wp2
          go_quiet (fail)
          go_wp2
          go_roundw
          case rel => exact ⟨k + 1, _, by omega, by go_num, by rw [cells_step .i64 8 (fun j => (joinF 2 (lane x j) (lane y j) : Int)) k _ (by rw [joinF_2, if_neg (by omega)]; rfl)]⟩
          case measure => simp [intOf]; omega
  
    · obtain rfl : k = 8 := by omega
      rw [cellsOf_8, cellsOf_8, cellsOf_8]
      go_wp2_with fail
      refine (refWord_any (fun j => joinF 2 (lane x j) (lane y j)) (fun j _ => joinF_lt _ _ _ (lane_lt x j) (lane_lt y j)) _).mono ?_
      rintro e w3 ⟨rfl, hb3⟩
      go_wp2
      go_ret
      exact ⟨rfl, Bl_trans (Bl_drewN (((hb.alloc hb.size _).alloc (by have := hb.size; simp; omega) _).alloc (by have := hb.size; simp; omega) _) n) hb3 (by have := hb.size; simp)⟩

set_option maxHeartbeats 1000000 in
theorem refJoin3 (x y : BitVec 64) (w : World) :
    Calls Try.prog 11 #[.int .u64 (W x), .int .u64 (W y), .int .i64 3] w fun e w' => e = .returned (.int .u64 (wordTo (fun j => joinF 3 (lane x j) (lane y j)) 8 : Int)) ∧ Below w.heap.size w w' := by
  go_enter Try.func11, Try.ntmps11
  go_wp2_with fail
  refine (refLanes_any _ _).mono ?_
  rintro e w1 ⟨rfl, hb1⟩
  go_wp2_with fail
  refine (refLanes_any _ _).mono ?_
  rintro e w2 ⟨rfl, hb2⟩
  have hb := Bl hb1 hb2
  clear hb1 hb2
  go_wp2
  go_loopw [10] (fun i wr => ∃ k n : Nat, k ≤ 8 ∧ i = .int .i64 k ∧ wr = (((w2.alloc (.cells (cellsOf .i64 8 (fun j => (lane x j : Int))) 33)).alloc (.cells (cellsOf .i64 8 (fun j => (lane y j : Int))) 33)).alloc (.cells (cellsOf .i64 8 (fun j => if j < k then (joinF 3 (lane x j) (lane y j) : Int) else 0)) 33)).drewN n) (fun i _ => 8 - (intOf i).toNat)
  case atStart => exact ⟨0, 0, by omega, rfl, rfl⟩
  case round =>
    obtain ⟨k, n, hk, rfl, rfl⟩ := hrel
    by_cases hlt : k < 8
    · have hc0 := cellsOf_at .i64 8 (fun j => if j < k then (joinF 3 (lane x j) (lane y j) : Int) else 0) k hlt
      have hc1 := cellsOf_at .i64 8 (fun j => (lane x j : Int)) k hlt
      have hc2 := cellsOf_at .i64 8 (fun j => (lane y j : Int)) k hlt
      have hx := lane_lt x k
      have hy := lane_lt y k
      · by_cases c : lane x k = lane y k
        · have c' : ((lane x k : Int) == (lane y k : Int)) = true := by rw [c]; simp
          have cj := hide c
          clear c
          go_wp2
          go_quiet (fail)
          go_wp2
          go_quiet (fail)
          go_wp2
          go_roundw
          case rel => exact ⟨k + 1, _, by omega, by go_num, by rw [cells_step .i64 8 (fun j => (joinF 3 (lane x j) (lane y j) : Int)) k _ (by rw [joinF_3, if_pos cj.out]; rfl)]⟩
          case measure => simp [intOf]; omega
  
        · have c' : ((lane x k : Int) == (lane y k : Int)) = false := by rw [beq_eq_false_iff_ne]; omega
          go_wp2
          go_quiet (fail)
          go_wp2
          go_quiet (fail)
          go_wp2
          go_roundw
          case rel => exact ⟨k + 1, _, by omega, by go_num, by rw [cells_step0 .i64 8 (fun j => (joinF 3 (lane x j) (lane y j) : Int)) k (by rw [joinF_3, if_neg c]; rfl)]⟩
          case measure => simp [intOf]; omega
  
    · obtain rfl : k = 8 := by omega
      rw [cellsOf_8, cellsOf_8, cellsOf_8]
      go_wp2_with fail
      refine (refWord_any (fun j => joinF 3 (lane x j) (lane y j)) (fun j _ => joinF_lt _ _ _ (lane_lt x j) (lane_lt y j)) _).mono ?_
      rintro e w3 ⟨rfl, hb3⟩
      go_wp2
      go_ret
      exact ⟨rfl, Bl_trans (Bl_drewN (((hb.alloc hb.size _).alloc (by have := hb.size; simp; omega) _).alloc (by have := hb.size; simp; omega) _) n) hb3 (by have := hb.size; simp)⟩

set_option maxHeartbeats 1000000 in
theorem refJoin4 (x y : BitVec 64) (w : World) :
    Calls Try.prog 11 #[.int .u64 (W x), .int .u64 (W y), .int .i64 4] w fun e w' => e = .returned (.int .u64 (wordTo (fun j => joinF 4 (lane x j) (lane y j)) 8 : Int)) ∧ Below w.heap.size w w' := by
  go_enter Try.func11, Try.ntmps11
  go_wp2_with fail
  refine (refLanes_any _ _).mono ?_
  rintro e w1 ⟨rfl, hb1⟩
  go_wp2_with fail
  refine (refLanes_any _ _).mono ?_
  rintro e w2 ⟨rfl, hb2⟩
  have hb := Bl hb1 hb2
  clear hb1 hb2
  go_wp2
  go_loopw [10] (fun i wr => ∃ k n : Nat, k ≤ 8 ∧ i = .int .i64 k ∧ wr = (((w2.alloc (.cells (cellsOf .i64 8 (fun j => (lane x j : Int))) 33)).alloc (.cells (cellsOf .i64 8 (fun j => (lane y j : Int))) 33)).alloc (.cells (cellsOf .i64 8 (fun j => if j < k then (joinF 4 (lane x j) (lane y j) : Int) else 0)) 33)).drewN n) (fun i _ => 8 - (intOf i).toNat)
  case atStart => exact ⟨0, 0, by omega, rfl, rfl⟩
  case round =>
    obtain ⟨k, n, hk, rfl, rfl⟩ := hrel
    by_cases hlt : k < 8
    · have hc0 := cellsOf_at .i64 8 (fun j => if j < k then (joinF 4 (lane x j) (lane y j) : Int) else 0) k hlt
      have hc1 := cellsOf_at .i64 8 (fun j => (lane x j : Int)) k hlt
      have hc2 := cellsOf_at .i64 8 (fun j => (lane y j : Int)) k hlt
      have hx := lane_lt x k
      have hy := lane_lt y k
      have hsz : k < (cellsOf .i64 8 (fun j => if j < k then (joinF 4 (lane x j) (lane y j) : Int) else 0)).size := by rw [cellsOf_size]; exact hlt
      · by_cases c : (lane y k : Int) < (lane x k : Int)
        · go_wp2
          go_quiet (fail)
          go_wp2
          go_quiet (fail)
          go_wp2
          go_roundw
          case rel => exact ⟨k + 1, _, by omega, by go_num, by rw [cells_step .i64 8 (fun j => (joinF 4 (lane x j) (lane y j) : Int)) k _ (by rw [joinF_4, if_pos (by omega)])]⟩
          case measure => simp [intOf]; omega
  
        · go_wp2
          go_quiet (fail)
          go_wp2
          go_quiet (fail)
          go_wp2
          go_roundw
          case rel => exact ⟨k + 1, _, by omega, by go_num, by rw [cells_step .i64 8 (fun j => (joinF 4 (lane x j) (lane y j) : Int)) k _ (by rw [joinF_4, if_neg (by omega)])]⟩
          case measure => simp [intOf]; omega
  
    · obtain rfl : k = 8 := by omega
      rw [cellsOf_8, cellsOf_8, cellsOf_8]
      go_wp2_with fail
      refine (refWord_any (fun j => joinF 4 (lane x j) (lane y j)) (fun j _ => joinF_lt _ _ _ (lane_lt x j) (lane_lt y j)) _).mono ?_
      rintro e w3 ⟨rfl, hb3⟩
      go_wp2
      go_ret
      exact ⟨rfl, Bl_trans (Bl_drewN (((hb.alloc hb.size _).alloc (by have := hb.size; simp; omega) _).alloc (by have := hb.size; simp; omega) _) n) hb3 (by have := hb.size; simp)⟩
end
end Go.Proofs.Ytbacbjnbfbdjdaa.LW
