/- The filter in memory: its block, its list, its buckets. -/
import Derived.Test.YtkjpcincjoaeeaaTMath
import Derived.Test.YtkjpcincjoaeeaaTRef6
import Derived.Deep.RegionHeld3
namespace Go.Proofs.Ytkjpcincjoaeeaa.TW
open Go.ChangeShapes Go.WideShapes Go.ChangeAt Go.RowKit
open Go.Proofs.Ytkjpcincjoaeeaa.B Go.Proofs.Ytkjpcincjoaeeaa.AM Go.Proofs.Ytkjpcincjoaeeaa.AW Go.Proofs.Ytkjpcincjoaeeaa.TM
set_option linter.unusedVariables false

/-- A filter's cells. -/
def fcell (L : Value) (lo hi : Mask) (B : Nat → Value) (m : Int) (i : Nat) : Value :=
  if i = 0 then L else if i < 97 then (if (i - 1) % 32 < 16 then .int .u8 (lo ((i - 1) / 32) ((i - 1) % 32) : Int) else .int .u8 (hi ((i - 1) / 32) ((i - 1) % 32 - 16) : Int))
  else if i < 105 then B (i - 97) else .int .i64 m
def fcells (L : Value) (lo hi : Mask) (B : Nat → Value) (m : Int) : Array Value := Array.ofFn (n := 106) fun i => fcell L lo hi B m i
section
variable {L : Value} {lo hi : Mask} {B : Nat → Value} {m : Int}
theorem fcells_at (i : Nat) (h : i < 106) : (fcells L lo hi B m)[i]? = some (fcell L lo hi B m i) := by simp [fcells, h]
theorem fcells_set {L' : Value} {lo' hi' : Mask} {B' : Nat → Value} {m' : Int} (i : Nat) (v : Value) (h : ∀ j, j < 106 → fcell L' lo' hi' B' m' j = if j = i then v else fcell L lo hi B m j) : (fcells L lo hi B m).setIfInBounds i v = fcells L' lo' hi' B' m' := by
  apply Array.ext
  · simp [fcells]
  · intro j h1 h2
    have h3 : j < 106 := by simpa [fcells] using h2
    simp only [fcells, Array.getElem_ofFn]
    rw [Array.getElem_setIfInBounds (by simpa [fcells] using h3), h j h3]
    by_cases e : i = j
    · subst e; simp
    · simp [e, Ne.symm e]
theorem fcells_list : (fcells L lo hi B m)[0]? = some L := fcells_at 0 (by omega)
theorem fcells_most : (fcells L lo hi B m)[105]? = some (.int .i64 m) := fcells_at 105 (by omega)
theorem fcells_bucket (b : Nat) (hb : b < 8) : (fcells L lo hi B m)[97 + b]? = some (B b) := by
  rw [fcells_at _ (by omega), fcell, if_neg (by omega), if_neg (by omega), if_pos (by omega), Nat.add_sub_cancel_left]
theorem fcell_low (j h : Nat) (hj : j < 3) (hh : h < 16) : fcell L lo hi B m (1 + (j * 32 + h)) = .int .u8 (lo j h : Int) := by
  have e1 : (1 + (j * 32 + h) - 1) / 32 = j := by omega
  have e2 : (1 + (j * 32 + h) - 1) % 32 = h := by omega
  rw [fcell, if_neg (by omega), if_pos (by omega), e1, e2, if_pos hh]
theorem fcell_high (j h : Nat) (hj : j < 3) (hh : h < 16) : fcell L lo hi B m (1 + (j * 32 + (16 + h))) = .int .u8 (hi j h : Int) := by
  have e1 : (1 + (j * 32 + (16 + h)) - 1) / 32 = j := by omega
  have e2 : (1 + (j * 32 + (16 + h)) - 1) % 32 = 16 + h := by omega
  rw [fcell, if_neg (by omega), if_pos (by omega), e1, e2, if_neg (by omega), Nat.add_sub_cancel_left]
theorem fcells_set_list (L' : Value) : (fcells L lo hi B m).setIfInBounds 0 L' = fcells L' lo hi B m := fcells_set 0 L' fun j hj => by
  unfold fcell
  by_cases e : j = 0
  · simp [e]
  · simp [e]
theorem fcells_set_most (m' : Int) : (fcells L lo hi B m).setIfInBounds 105 (.int .i64 m') = fcells L lo hi B m' := fcells_set 105 _ fun j hj => by
  unfold fcell
  by_cases e : j = 105
  · subst e; simp
  · rw [if_neg e]
    by_cases h1 : j = 0
    · simp [h1]
    · by_cases h2 : j < 97
      · simp [h1, h2]
      · simp [h1, h2, show j < 105 by omega]
theorem fcells_set_bucket (b : Nat) (hb : b < 8) (v : Value) : (fcells L lo hi B m).setIfInBounds (97 + b) v = fcells L lo hi (fun i => if i = b then v else B i) m := fcells_set _ v fun j hj => by
  unfold fcell
  by_cases e : j = 97 + b
  · subst e
    rw [if_neg (by omega), if_neg (by omega), if_pos (by omega), if_pos rfl, Nat.add_sub_cancel_left]
    exact if_pos rfl
  · rw [if_neg e]
    by_cases h1 : j = 0
    · simp [h1]
    · by_cases h2 : j < 97
      · simp [h1, h2]
      · by_cases h3 : j < 105
        · rw [if_neg h1, if_neg h2, if_pos h3, if_neg h1, if_neg h2, if_pos h3]
          exact if_neg (by omega)
        · rw [if_neg h1, if_neg h2, if_neg h3, if_neg h1, if_neg h2, if_neg h3]
theorem fcells_set_low (j h q : Nat) (hj : j < 3) (hh : h < 16) : (fcells L lo hi B m).setIfInBounds (1 + (j * 32 + h)) (.int .u8 ((lo j h ||| q : Nat) : Int)) = fcells L (ored lo j h q) hi B m := fcells_set _ _ fun i hi' => by
  by_cases e : i = 1 + (j * 32 + h)
  · subst e
    rw [if_pos rfl, fcell_low j h hj hh, ored, if_pos ⟨rfl, rfl⟩]
  · rw [if_neg e]
    unfold fcell
    by_cases h1 : i = 0
    · simp [h1]
    · by_cases h2 : i < 97
      · rw [if_neg h1, if_pos h2, if_neg h1, if_pos h2]
        by_cases h3 : (i - 1) % 32 < 16
        · rw [if_pos h3, if_pos h3, ored, if_neg (by omega)]
        · rw [if_neg h3, if_neg h3]
      · simp [h1, h2]
theorem fcells_set_high (j h q : Nat) (hj : j < 3) (hh : h < 16) : (fcells L lo hi B m).setIfInBounds (1 + (j * 32 + (16 + h))) (.int .u8 ((hi j h ||| q : Nat) : Int)) = fcells L lo (ored hi j h q) B m := fcells_set _ _ fun i hi' => by
  by_cases e : i = 1 + (j * 32 + (16 + h))
  · subst e
    rw [if_pos rfl, fcell_high j h hj hh, ored, if_pos ⟨rfl, rfl⟩]
  · rw [if_neg e]
    unfold fcell
    by_cases h1 : i = 0
    · simp [h1]
    · by_cases h2 : i < 97
      · rw [if_neg h1, if_pos h2, if_neg h1, if_pos h2]
        by_cases h3 : (i - 1) % 32 < 16
        · rw [if_pos h3, if_pos h3]
        · rw [if_neg h3, if_neg h3, ored, if_neg (by omega)]
      · simp [h1, h2]
end
end Go.Proofs.Ytkjpcincjoaeeaa.TW
