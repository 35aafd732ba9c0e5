/- The walks of acho's document: SameTexts, Copy, States. -/
import Derived.Test.YtkjpcincjoaeeaaTRef4
namespace Go.Proofs.Ytkjpcincjoaeeaa.AW
open Go.ChangeShapes Go.WideShapes Go.ChangeAt Go.RowKit
open Go.Proofs.Ytkjpcincjoaeeaa.B Go.Proofs.Ytkjpcincjoaeeaa.AM
set_option linter.unusedVariables false

/-- A list of texts of the call's own. -/
structure OwnTexts (w : World) (base : Nat) (A : Option Addr) (n c : Nat) (vs : List Value) (Ls : List T) : Prop where
  row : w.ownsRow base 32 1 (.slice A n c) n vs
  count : Ls.length = n
  each : ∀ (i : Nat) (l : T), Ls[i]? = some l → ∃ A1 c1, vs[i]? = some (.slice A1 l.length c1) ∧ w.ownsRow base 5 1 (.slice A1 l.length c1) l.length (u8s l)
theorem OwnTexts.texts {w : World} {base n c : Nat} {A : Option Addr} {vs : List Value} {Ls : List T} (h : OwnTexts w base A n c vs Ls) : Texts w w.heap.size A n c Ls := by
  have hr := Rd.of_own h.row
  refine ⟨h.count, hr.cap, hr.max, fun hn => ?_⟩
  obtain ⟨ad, e, hb, hc⟩ := hr.lies hn
  refine ⟨ad, e, hb, fun i l hl => ?_⟩
  obtain ⟨A1, c1, h1, h2⟩ := h.each i l hl
  exact ⟨A1, c1, hc i _ h1, Rd.of_own h2⟩
theorem OwnTexts.over {w w' : World} {base n c : Nat} {A : Option Addr} {vs : List Value} {Ls : List T} (h : OwnTexts w base A n c vs Ls) (hb : Below w.heap.size w w') : OwnTexts w' base A n c vs Ls :=
  ⟨own_over h.row hb, h.count, fun i l hl => by
    obtain ⟨A1, c1, h1, h2⟩ := h.each i l hl
    exact ⟨A1, c1, h1, own_over h2 hb⟩⟩
theorem OwnTexts.nil_ (w : World) : OwnTexts (w.alloc (.cells #[] 32)) w.heap.size (some ⟨w.heap.size, 0, none⟩) 0 0 [] [] := ⟨own_none w _ 1, rfl, fun i l h => by simp at h⟩
/-- One more. -/
theorem OwnTexts.push {w w' : World} {base n c c' c1 : Nat} {A A' A1 : Option Addr} {vs : List Value} {Ls : List T} {l : T} {o : Obj} (h : OwnTexts w base A n c vs Ls) (hl : w.ownsRow base 5 1 (.slice A1 l.length c1) l.length (u8s l))
    (ho : w'.ownsRow base 32 1 (.slice A' (n + 1) c') (n + 1) (vs ++ [.slice A1 l.length c1])) (hg : (w.alloc o).grownBy w' (Value.slice A n c).ownBlock) : OwnTexts w' base A' (n + 1) c' (vs ++ [.slice A1 l.length c1]) (Ls ++ [l]) := by
  have hvl : vs.length = n := by have := h.row.1; omega
  have hct := h.count
  refine ⟨ho, by rw [List.length_append, hct]; rfl, fun i x hx => ?_⟩
  rcases Nat.lt_or_ge i n with h1 | h1
  · rw [List.getElem?_append_left (by omega)] at hx
    obtain ⟨A2, c2, h2, h3⟩ := h.each i x hx
    exact ⟨A2, c2, by rw [List.getElem?_append_left (by omega)]; exact h2, own_grown_other h.row h3 hg (by decide)⟩
  · rw [List.getElem?_append_right (by omega)] at hx
    have hi : i - Ls.length = 0 := by
      have := (List.getElem?_eq_some_iff.1 hx).1
      simp at this; omega
    rw [hi] at hx
    simp at hx
    subst hx
    exact ⟨A1, c1, by rw [List.getElem?_append_right (by omega), show i - vs.length = 0 by omega]; rfl, own_grown_other h.row hl hg (by decide)⟩
end Go.Proofs.Ytkjpcincjoaeeaa.AW
