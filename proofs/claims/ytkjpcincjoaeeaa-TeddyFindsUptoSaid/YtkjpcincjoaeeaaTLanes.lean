/- The lanes that teddy goes by: Load, Store, Pick. -/
import Derived.Test.YtkjpcincjoaeeaaRows
import Derived.Test.YtkjpcincjoaeeaaLMath
import Derived.Test.YtkjpcincjoaeeaaBase
import Derived.Test.YtkjpcincjoaeeaaMem
import Derived.Outline
namespace Go.Proofs.Ytkjpcincjoaeeaa.LW
open Go.ChangeShapes Go.WideShapes Go.ChangeAt Go.RowKit
open Go.Proofs.Ytkjpcincjoaeeaa.LM Go.Proofs.Ytkjpcincjoaeeaa.B
set_option linter.unusedVariables false

theorem W_of_wf {a : Int} (h : (Lit.int .u64 a).wf = true) : ∃ x, a = W x := by
  have hb : 0 ≤ a ∧ a ≤ 18446744073709551615 := by simpa [Lit.wf, IntKind.min, IntKind.max, IntKind.signed, IntKind.bits] using h
  refine ⟨BitVec.ofNat 64 a.toNat, ?_⟩
  rw [W, BitVec.toNat_ofNat]
  omega
theorem ret_W {x y : BitVec 64} (h : x = y) : Ending.returned (.int .u64 (W x)) = .returned (.int .u64 (W y)) := by rw [h]

theorem signed_u64 : IntKind.u64.signed = false := rfl
attribute [local go_sem] signed_u64 bxor band bor bandNot wadd bandHi bandNotHi waddLo bnot wfill

theorem store_any (x : BitVec 64) (w : World) :
    Calls Try.prog 40 #[.int .u64 (W x)] w fun e w' => e = .returned (arr8 .u8 (fun j => (lane x j : Int))) ∧ Below w.heap.size w w' := by
  have h0 := W_nonneg x
  have h1 := W_le x
  have hin : ∀ k : Nat, k < 8 → w.alloc (.cells ((cellsOf .u8 8 (fun j => if j < k then (lane x j : Int) else 0)).setIfInBounds k (.int .u8 (W x / 2 ^ (8 * k) % 256))) 63) = w.alloc (.cells (cellsOf .u8 8 (fun j => if j < k + 1 then (lane x j : Int) else 0)) 63) := by
    intro k hk
    rw [cellsOf_set]
    congr 2
    refine cellsOf_congr _ _ fun i hi => ?_
    by_cases e : i = k
    · subst e
      rw [if_pos rfl, if_pos (by omega), lane_W]
    · rw [if_neg e]
      by_cases l : i < k
      · rw [if_pos l, if_pos (by omega)]
      · rw [if_neg l, if_neg (by omega)]
  have Hin := hide hin
  clear hin
  go_enter Try.func40, Try.ntmps40
  go_wp2
  go_loopw [4] (fun i wr => ∃ k : Nat, k ≤ 8 ∧ i = .int .i64 k ∧ wr = w.alloc (.cells (cellsOf .u8 8 (fun j => if j < k then (lane x j : Int) else 0)) 63)) (fun i _ => 8 - (intOf i).toNat)
  case atStart => exact ⟨0, by omega, rfl, rfl⟩
  case round =>
    obtain ⟨k, hk, rfl, rfl⟩ := hrel
    by_cases hlt : k < 8
    · have hc := cellsOf_at .u8 8 (fun j => if j < k then (lane x j : Int) else 0) k hlt
      go_wp2
      go_roundw
      case rel => exact ⟨k + 1, by omega, by go_num, Hin.out k hlt⟩
      case measure => simp [intOf]; omega
    · obtain rfl : k = 8 := by omega
      rw [cellsOf_8]
      go_wp2
      exact bodyPost_ret (v := arr8 .u8 (fun j => (lane x j : Int))) (by simp [results, Try.results40, go_sem, arr8]) rfl ⟨rfl, (Below.refl _ _).alloc (Nat.le_refl _) _⟩

theorem index_u8 (f : Nat → Int) (i : Nat) (h : i < 8) : ∀ w : World, (Instr.index 63 (arr8 .u8 f) (.int .i64 (i : Int))).run Try.prog w = .ok (.int .u8 (f i)) w :=
  match i, h with
  | 0, _ => fun _ => by kernel_rfl
  | 1, _ => fun _ => by kernel_rfl
  | 2, _ => fun _ => by kernel_rfl
  | 3, _ => fun _ => by kernel_rfl
  | 4, _ => fun _ => by kernel_rfl
  | 5, _ => fun _ => by kernel_rfl
  | 6, _ => fun _ => by kernel_rfl
  | 7, _ => fun _ => by kernel_rfl

theorem pick_any (t : Nat → Nat) (ht : ∀ i, i < 16 → t i < 256) (x : BitVec 64) (w : World) :
    Calls Try.prog 39 #[.agg (cellsOf .u8 16 (fun i => (t i : Int))), .int .u64 (W x)] w fun e w' => e = .returned (.int .u64 (wordTo (fun k => t (lane x k % 16)) 8 : Int)) ∧ Below w.heap.size w w' := by
  go_enter Try.func39, Try.ntmps39
  go_wp2_with (go_at_call 40; refine (store_any _ _).mono ?_; rintro e w1 ⟨rfl, hb⟩)
  have hc : ∀ j, j < 16 → w1.cell? ⟨w.heap.size, j, none⟩ = some (.int .u8 (t j : Int)) := fun j hj => by
    rw [hb.cell (by simp)]
    simp [cellsOf_at _ _ _ _ hj]
  have hB : Below w.heap.size w w1 := Bl_trans ((Below.refl _ _).alloc (Nat.le_refl _) _) hb (by simp)
  clear hb
  have HC := hide hc
  clear hc
  go_loop [4, 9] (fun o i => ∃ k : Nat, k ≤ 8 ∧ i = .int .i64 k ∧ o = .int .u64 (wordTo (fun k => t (lane x k % 16)) k : Int)) (fun _ i => 8 - (intOf i).toNat)
  case atStart => exact ⟨0, by omega, rfl, rfl⟩
  case round =>
    obtain ⟨k, hk, rfl, rfl⟩ := hrel
    by_cases hlt : k < 8
    · have hix := index_u8 (fun j => (lane x j : Int)) k hlt
      have hl := lane_lt x k
      have hc := HC.out (lane x k % 16) (by omega)
      go_wp2
      go_round
      case rel => exact ⟨k + 1, by omega, by go_num, by rw [wordTo_or' (fun k => t (lane x k % 16)) k hlt (fun j _ => ht _ (Nat.mod_lt _ (by decide)))]⟩
      case measure => simp [intOf]; omega
    · obtain rfl : k = 8 := by omega
      go_wp2
      go_ret
      exact ⟨rfl, hB⟩
theorem load_any (A : Option Addr) (n c : Nat) (bs : List Nat) (hn : bs.length = n) (hb : ∀ b ∈ bs, b < 256) (hm : n ≤ 9223372036854775807) (i : Int) (hi : -9223372036854775808 ≤ i) (hi' : i ≤ 9223372036854775807) (w : World)
    (hc : ∀ j : Nat, j < n → ∃ a, A = some a ∧ w.cell? (a.add j) = some (.int .u8 (byteAt bs j : Int))) :
    Calls Try.prog 38 #[.slice A n c, .int .i64 i] w fun e w' => e = .returned (.int .u64 (wordTo (fun k => byteAt bs (i + k)) 8 : Int)) ∧ w = w' := by
  have HC := hide hc
  have hb8 : ∀ j : Nat, j < 8 → byteAt bs (i + j) < 256 := fun j _ => byteAt_lt bs hb _
  have HB := hide hb8
  have HZ := hide (fun j h => byteAt_out bs j (hn ▸ h))
  clear hc hb8 hb
  go_enter Try.func38, Try.ntmps38
  go_wp2
  go_loop [4, 7] (fun o j => ∃ k : Nat, k ≤ 8 ∧ j = .int .i64 k ∧ o = .int .u64 (wordTo (fun k => byteAt bs (i + k)) k : Int)) (fun _ i => 8 - (intOf i).toNat)
  case atStart => exact ⟨0, by omega, rfl, rfl⟩
  case round =>
    obtain ⟨k, hk, rfl, rfl⟩ := hrel
    by_cases hlt : k < 8
    · by_cases hin : 0 ≤ i + k ∧ i + k < n
      · obtain ⟨hin0, hin1⟩ := hin
        obtain ⟨a, rfl, hc⟩ := HC.out (i + k).toNat (by omega)
        rw [Int.toNat_of_nonneg hin0] at hc
        have hor : (i < 0 ∨ i ≤ i + k) := by omega
        have hdec : (decide (i < 0) || decide (i ≤ i + k)) = true := by simpa using hor
        have hnext := hide (wordTo_or' (fun k => byteAt bs (i + k)) k hlt HB.out)
        clear HC HB HZ
        go_wp2
        all_goals
          go_round
          case rel => exact ⟨k + 1, by omega, by go_num, by rw [hnext.out]⟩
          case measure => simp [intOf]; omega
      · have hnext := hide (wordTo_zero (fun k => byteAt bs (i + k)) k (HZ.out _ hin))
        clear HC HB HZ
        by_cases h1 : i + k < 0
        · go_wp2
          all_goals
            go_round
            case rel => exact ⟨k + 1, by omega, by go_num, by rw [hnext.out]⟩
            case measure => simp [intOf]; omega
        · have h2 : ¬ i + k < n := by omega
          clear hin
          by_cases h3 : i + k ≤ 9223372036854775807
          · go_wp2
            all_goals
              go_round
              case rel => exact ⟨k + 1, by omega, by go_num, by rw [hnext.out]⟩
              case measure => simp [intOf]; omega
          · have hw : wrap64 (i + k) < 0 := by unfold wrap64; omega
            go_wp2
            all_goals
              go_round
              case rel => exact ⟨k + 1, by omega, by go_num, by rw [hnext.out]⟩
              case measure => simp [intOf]; omega
    · obtain rfl : k = 8 := by omega
      clear HC HB HZ
      go_wp2
      go_ret
      exact ⟨rfl, rfl⟩

def nats (bs : List UInt8) : List Nat := bs.map UInt8.toNat
theorem nats_lt (bs : List UInt8) : ∀ b ∈ nats bs, b < 256 := by
  intro b hb
  obtain ⟨u, _, rfl⟩ := List.mem_map.1 hb
  exact UInt8.toNat_lt u
theorem nats_at (bs : List UInt8) (j : Nat) (h : j < bs.length) : byteAt (nats bs) j = at8 bs j := by
  unfold byteAt
  rw [if_pos (by simp [nats]; omega)]
  simp [nats, at8, h]
/-- The word of eight bytes of a text. -/
def loadF (bs : List UInt8) (i : Int) (k : Nat) : Nat := byteAt (nats bs) (i + k)
def loadW (bs : List UInt8) (i : Int) : BitVec 64 := BitVec.ofNat 64 (wordTo (loadF bs i) 8)
theorem loadF_lt (bs : List UInt8) (i : Int) (k : Nat) : loadF bs i k < 256 := byteAt_lt _ (nats_lt bs) _
theorem loadW_is (bs : List UInt8) (i : Int) : (wordTo (loadF bs i) 8 : Int) = W (loadW bs i) := by
  have h := wordTo_lt (loadF bs i) 8 (fun k _ => loadF_lt bs i k)
  rw [W, loadW, BitVec.toNat_ofNat, Nat.mod_eq_of_lt h]
theorem lane_loadW (bs : List UInt8) (i : Int) (k : Nat) (hk : k < 8) : lane (loadW bs i) k = loadF bs i k := by
  refine lane_of_word _ _ (fun j _ => loadF_lt bs i j) ?_ k hk
  have h := wordTo_lt (loadF bs i) 8 (fun k _ => loadF_lt bs i k)
  rw [← wordTo_8, loadW, BitVec.toNat_ofNat, Nat.mod_eq_of_lt h]

theorem load_rd {w : World} {B n c : Nat} {A : Option Addr} {bs : List UInt8} (h : Rd w B 1 A n c (u8s bs)) (i : Int) (hi : -9223372036854775808 ≤ i) (hi' : i ≤ 9223372036854775807) :
    Calls Try.prog 38 #[.slice A n c, .int .i64 i] w fun e w' => e = .returned (.int .u64 (W (loadW bs i))) ∧ w = w' := by
  have hl := h.length8
  have hm := h.max
  have hcap := h.cap
  unfold maxLen at hm
  have hc := load_any A n c (nats bs) (by simp [nats, hl]) (nats_lt bs) (by omega) i hi hi' w (fun j hj => by
    obtain ⟨ad, e, _, hc⟩ := h.byte hj
    exact ⟨ad, e, by rw [nats_at bs j (by omega)]; exact hc⟩)
  rw [← loadW_is]
  exact hc

end Go.Proofs.Ytkjpcincjoaeeaa.LW
