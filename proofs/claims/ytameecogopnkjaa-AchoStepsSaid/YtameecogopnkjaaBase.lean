/- Small words for memory that the walks of this seat use: arrays as cells, calls that only make memory, the closing of a law. -/
import Derived.WalkKit
import Derived.ProofKit
import Derived.OpenShut
import Derived.ChangeOld
import Derived.Below
namespace Go.Proofs.Ytameecogopnkjaa.B
open Go.RowKit

/-- The cells of an array of n numbers. -/
def cellsOf (k : IntKind) (n : Nat) (f : Nat → Int) : Array Value := Array.ofFn (fun i : Fin n => Value.int k (f i))
theorem cellsOf_size (k : IntKind) (n : Nat) (f : Nat → Int) : (cellsOf k n f).size = n := by simp [cellsOf]
theorem cellsOf_at (k : IntKind) (n : Nat) (f : Nat → Int) (i : Nat) (h : i < n) : (cellsOf k n f)[i]? = some (.int k (f i)) := by
  simp [cellsOf, h]
theorem cellsOf_set (k : IntKind) (n : Nat) (f : Nat → Int) (i : Nat) (v : Int) : (cellsOf k n f).setIfInBounds i (.int k v) = cellsOf k n (fun j => if j = i then v else f j) := by
  apply Array.ext
  · simp [cellsOf]
  · intro j h1 h2
    have h3 : j < n := by simpa [cellsOf] using h2
    simp only [cellsOf, Array.getElem_ofFn]
    rw [Array.getElem_setIfInBounds (by simpa [cellsOf] using h3)]
    by_cases h : i = j
    · subst h; simp
    · simp [h, Ne.symm h]
theorem cellsOf_congr (k : IntKind) (n : Nat) {f g : Nat → Int} (h : ∀ i, i < n → f i = g i) : cellsOf k n f = cellsOf k n g := by
  unfold cellsOf
  congr 1
  funext i
  rw [h i.val i.isLt]
theorem cellsOf_8 (k : IntKind) (f : Nat → Int) : cellsOf k 8 f = #[.int k (f 0), .int k (f 1), .int k (f 2), .int k (f 3), .int k (f 4), .int k (f 5), .int k (f 6), .int k (f 7)] := rfl

/-- Eight numbers as a value. -/
def arr8 (k : IntKind) (f : Nat → Int) : Value := .agg #[.int k (f 0), .int k (f 1), .int k (f 2), .int k (f 3), .int k (f 4), .int k (f 5), .int k (f 6), .int k (f 7)]

theorem hide {p : Prop} (h : p) : Hid p := h
theorem Bl_trans {a b c : World} {B : Nat} (h : Below B a b) (k : Below b.heap.size b c) (hB : B ≤ a.heap.size) : Below B a c := h.trans (k.mono (Nat.le_trans hB h.size))
theorem Bl {a b c : World} (h : Below a.heap.size a b) (k : Below b.heap.size b c) : Below a.heap.size a c := Bl_trans h k (Nat.le_refl _)

end Go.Proofs.Ytameecogopnkjaa.B
