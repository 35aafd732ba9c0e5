/- The document's examples: the law's own opening answers true. -/
import Derived.Test.YtbacbjnbfbdjdaaLRef2
import Derived.Lib.SlBytesConst
namespace Go.Proofs.Ytbacbjnbfbdjdaa.LW
open Go.ChangeShapes Go.WideShapes Go.ChangeAt Go.RowKit
open Go.Proofs.Ytbacbjnbfbdjdaa.LM Go.Proofs.Ytbacbjnbfbdjdaa.B
set_option linter.unusedVariables false

theorem equal_one (x : BitVec 64) (w : World) :
    Calls Try.prog 13 #[.int .u64 (W x), .int .u64 1] w fun e w' => e = .returned (.int .u64 (W (equal x 1))) ∧ w = w' := equal_any x 1 w

theorem speaks_any (w : World) :
    Calls Try.prog 9 #[] w fun e w' => e = .returned (.bool true) ∧ Below w.heap.size w w' := by
  have kc := fun (w : World) (C : Array Value) (n c : Nat) => Lib.run_convert_bytes_const (P := Try.prog) w 29 5 C n c Try.underlying29 Try.underlying5
  have e1 : ((wordTo (fun k => byteAt [97, 98, 99] (1 + k)) 8 : Int) == 25442) = true := by decide
  have e2 : (W (addCap (spread 200) (spread 100)) == W (spread 255)) = true := by decide
  have e3 : (((topN (equal (spread 1) 1) 8 : Nat) : Int) == 1) = true := by decide
  go_enter Try.func9, Try.ntmps9
  go_wp2_with fail
  refine (load_any (some ⟨w.heap.size, 0, none⟩) 3 3 [97, 98, 99] rfl (by decide) (by decide) 1 (by decide) (by decide) _ ?_).mono ?_
  · intro j hj
    refine ⟨_, rfl, ?_⟩
    match j, hj with
    | 0, _ => simp [Addr.add, byteAt, World.cell?_alloc_mark]
    | 1, _ => simp [Addr.add, byteAt, World.cell?_alloc_mark]
    | 2, _ => simp [Addr.add, byteAt, World.cell?_alloc_mark]
  rintro e w1 ⟨rfl, rfl⟩
  go_wp2_with fail
  refine (spread_any 200 (by decide) _).mono ?_
  rintro e w1 ⟨rfl, rfl⟩
  go_wp2_with fail
  refine (spread_any 100 (by decide) _).mono ?_
  rintro e w1 ⟨rfl, rfl⟩
  go_wp2_with fail
  refine (addCap_any _ _ _).mono ?_
  rintro e w1 ⟨rfl, rfl⟩
  go_wp2_with fail
  refine (spread_any 255 (by decide) _).mono ?_
  rintro e w1 ⟨rfl, rfl⟩
  go_wp2_with fail
  refine (spread_any 1 (by decide) _).mono ?_
  rintro e w1 ⟨rfl, rfl⟩
  go_wp2_with fail
  refine (equal_one _ _).mono ?_
  rintro e w1 ⟨rfl, rfl⟩
  go_wp2_with fail
  refine (top_any _ _).mono ?_
  rintro e w1 ⟨rfl, rfl⟩
  go_wp2_with fail
  go_ret
  exact ⟨rfl, (Below.refl _ _).alloc (Nat.le_refl _) _⟩

/-! The words' laws, as the statements ask them. -/
theorem joins1 (x y : BitVec 64) : (W (add x y) == (wordTo (fun j => joinF 1 (lane x j) (lane y j)) 8 : Int)) = true := by
  rw [W_of_wordTo (add x y) _ (fun k hk => by rw [joinF_1, lane_add' x y k hk])]; exact beq_self_eq_true _
theorem joins2 (x y : BitVec 64) : (W (addCap x y) == (wordTo (fun j => joinF 2 (lane x j) (lane y j)) 8 : Int)) = true := by
  rw [W_of_wordTo (addCap x y) _ (fun k hk => by rw [joinF_2, lane_addCap x y k hk])]; exact beq_self_eq_true _
theorem joins3 (x y : BitVec 64) : (W (equal x y) == (wordTo (fun j => joinF 3 (lane x j) (lane y j)) 8 : Int)) = true := by
  rw [W_of_wordTo (equal x y) _ (fun k hk => by rw [joinF_3, lane_equal x y k hk])]; exact beq_self_eq_true _
theorem joins4 (x y : BitVec 64) : (W (least x y) == (wordTo (fun j => joinF 4 (lane x j) (lane y j)) 8 : Int)) = true := by
  rw [W_of_wordTo (least x y) _ (fun k hk => by rw [joinF_4, lane_least x y k hk])]; exact beq_self_eq_true _

end Go.Proofs.Ytbacbjnbfbdjdaa.LW
