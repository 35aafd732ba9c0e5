/- A list of texts that came in, as the walks of the laws read it. -/
import Derived.Test.YtameecogopnkjaaALists
import Derived.Test.YtameecogopnkjaaBulk
import Derived.Deep.Slices
import Derived.ChangeSame
namespace Go.Proofs.Ytameecogopnkjaa.AW
open Go.ChangeShapes Go.WideShapes Go.ChangeAt Go.RowKit Go.Deep
open Go.Proofs.Ytameecogopnkjaa.B Go.Proofs.Ytameecogopnkjaa.AM
set_option linter.unusedVariables false

section
variable {H : Type} {enc : TypeId × Value → H} {w : World}
theorem text_of {n : Nat} {v : Value} {y : DataW H × List MemPlace} (h : DataW.trod enc Try.prog w 0 (fun _ => true) true n 23 [v] = some y) :
    ∃ (l : T) (A : Option Addr) (c : Nat), v = .slice A l.length c ∧ Rd w w.heap.size 1 A l.length c (u8s l) ∧ l.length ≤ Rows.uptoBulk y.1 := by
  have hrow : ∃ A l c zs, v = .slice A l c ∧ IsRow .u8 w A l c zs ∧ l ≤ Rows.uptoBulk y.1 := by
    rcases open_ints Try.underlying23 Try.underlying5 (by kernel_rfl) h with ⟨hcs, hx⟩ | ⟨x, l, c, zs, hcs, _, hl, hm, hz, hx, hcell, hwz⟩
    · simp only [List.cons.injEq, and_true] at hcs
      exact ⟨none, 0, 0, [], hcs, .inl ⟨rfl, rfl, rfl, rfl⟩, by omega⟩
    · simp only [List.cons.injEq, and_true] at hcs
      exact ⟨some x, l, c, zs, hcs, .inr ⟨_, rfl, hl, hm, by simpa using hz, hcell, hwz⟩, bulks.ints_le (congrArg Prod.fst hx) (by simp at hz; omega)⟩
  obtain ⟨A, l, c, zs, rfl, hrow, hb⟩ := hrow
  obtain ⟨bs, hr⟩ := rd_of_row hrow
  have hl := hr.length8
  subst hl
  exact ⟨bs, A, c, rfl, hr, hb⟩
theorem texts_of {fuel : Nat} {a : Option Addr} {len cap : Nat} {x : DataW H × List MemPlace}
    (h : DataW.trod enc Try.prog w 0 (fun _ => true) true fuel 22 [.slice a len cap] = some x) :
    ∃ Ls, Texts w w.heap.size a len cap Ls ∧ (Rows.uptoBulk x.1 ≤ 1048576 → len ≤ 1048576 ∧ ∀ l ∈ Ls, l.length ≤ 1048576) := by
  rcases open_slice1 Try.underlying22 (by kernel_rfl) h with ⟨hcs, _⟩ | ⟨ad, l, c, m, n, V, D, Pl, hcs, hb0, hl, hm, hmm, hx, hf⟩
  · simp at hcs
    obtain ⟨rfl, rfl, rfl⟩ := hcs
    exact ⟨[], ⟨rfl, Nat.le_refl _, by simp [maxLen], fun hn => by omega⟩, fun _ => ⟨by omega, fun l hl => by cases hl⟩⟩
  · simp at hcs
    obtain ⟨rfl, rfl, rfl⟩ := hcs
    have hlm : len ≤ m := by rw [hmm]; split <;> omega
    have hx1 : x.1 = .slice ((List.range len).map D) ((List.range (m - len)).map fun j => D (len + j)) := congrArg Prod.fst hx
    have each : ∀ i, i < len → ∃ (l : T), ∃ A c, w.cell? (ad.add i) = some (.slice A l.length c) ∧ Rd w w.heap.size 1 A l.length c (u8s l) ∧ l.length ≤ Rows.uptoBulk (D i) := fun i hi => by
      obtain ⟨h1, h2⟩ := hf i (by omega)
      obtain ⟨l, A, c, e, hr, hb⟩ := text_of h2
      rw [e] at h1
      exact ⟨l, A, c, h1, hr, hb⟩
    have hch : ∀ k, k ≤ len → ∃ Ls : List T, Ls.length = k ∧ ∀ (i : Nat) (l : T), Ls[i]? = some l → ∃ A c, w.cell? (ad.add i) = some (.slice A l.length c) ∧ Rd w w.heap.size 1 A l.length c (u8s l) ∧ l.length ≤ Rows.uptoBulk (D i) := by
      intro k
      induction k with
      | zero => exact fun _ => ⟨[], rfl, fun i l h => by simp at h⟩
      | succ k ih =>
        intro hk
        obtain ⟨Ls, h1, h2⟩ := ih (by omega)
        obtain ⟨l, hl⟩ := each k (by omega)
        refine ⟨Ls ++ [l], by simp [h1], fun i l' hi => ?_⟩
        rcases Nat.lt_or_ge i Ls.length with h | h
        · rw [List.getElem?_append_left h] at hi
          exact h2 i l' hi
        · rw [List.getElem?_append_right h] at hi
          have hi0 : i - Ls.length = 0 := by
            have := (List.getElem?_eq_some_iff.1 hi).1
            simp at this; omega
          rw [hi0] at hi
          simp at hi
          subst hi
          obtain rfl : i = k := by omega
          exact hl
    obtain ⟨Ls, h1, h2⟩ := hch len (Nat.le_refl _)
    refine ⟨Ls, ⟨h1, hl, hm, fun hn => ⟨ad, rfl, ?_, fun i l hi => ?_⟩⟩, fun hk => ⟨?_, fun l hl => ?_⟩⟩
    · have := World.block_lt_of_cell? (h := (hf 0 (by omega)).1)
      rwa [add_block] at this
    · obtain ⟨A, c, q1, q2, _⟩ := h2 i l hi
      exact ⟨A, c, q1, q2⟩
    · have := bulks.slice_le ((List.range len).map D) ((List.range (m - len)).map fun j => D (len + j))
      rw [← hx1] at this
      simp only [List.length_map, List.length_range] at this
      omega
    · obtain ⟨i, hi⟩ := List.mem_iff_getElem?.1 hl
      obtain ⟨A, c, _, _, q3⟩ := h2 i l hi
      have hil : i < len := by have := (List.getElem?_eq_some_iff.1 hi).1; omega
      have g1 := bulks.part_le (d := D i) (l := (List.range len).map D) (List.mem_map.2 ⟨i, List.mem_range.2 hil, rfl⟩)
      have g2 := bulks.slice_elems ((List.range len).map D) ((List.range (m - len)).map fun j => D (len + j))
      rw [← hx1] at g2
      omega
end
end Go.Proofs.Ytameecogopnkjaa.AW
