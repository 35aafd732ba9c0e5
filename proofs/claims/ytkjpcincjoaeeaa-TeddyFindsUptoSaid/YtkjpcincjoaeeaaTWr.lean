/- Bytes that may be written, for Teddy's laws (lines of XASpoil). -/
import Derived.Test.YtkjpcincjoaeeaaTFeedL
namespace Go.Proofs.Ytkjpcincjoaeeaa.TW
open Go.ChangeShapes Go.WideShapes Go.ChangeAt Go.RowKit
open Go.Proofs.Ytkjpcincjoaeeaa.B Go.Proofs.Ytkjpcincjoaeeaa.AM Go.Proofs.Ytkjpcincjoaeeaa.AW
set_option linter.unusedVariables false

/-- Bytes that may be written. -/
structure Wr (w : World) (base N : Nat) (A : Option Addr) (n c : Nat) : Prop where
  room : n ≤ c
  max : c ≤ 9223372036854775807
  lies : 0 < n → ∃ (g : Nat) (cur : Array Value), A = some ⟨g, 0, none⟩ ∧ base ≤ g ∧ g < N ∧ w.heap[g]? = some (.cells cur 5 (0, 0)) ∧ n ≤ cur.size
theorem Wr.of_own {w : World} {base n c : Nat} {A : Option Addr} {xs : List Value} (h : w.ownsRow base 5 1 (.slice A n c) n xs) : Wr w base w.heap.size A n c := by
  have hr := Rd.of_own h
  refine ⟨hr.cap, hr.max, fun hn => ?_⟩
  have hlen := h.1
  rcases h.2 with ⟨_, h1⟩ | ⟨g, cap, cur, h1, hb, hh, h3, h4, h5, h6⟩
  · omega
  · injection h1 with h1 h2 h3'
    exact ⟨g, cur, h1, hb, Blk.lt (t := 5) (cs := cur) hh, hh, by
      have := congrArg List.length h6
      rw [List.length_take, Array.length_toList] at this
      omega⟩
theorem Wr.setCell {w : World} {base N n c : Nat} {A : Option Addr} (h : Wr w base N A n c) (q k : Nat) (v : Value) : Wr (w.setCell ⟨q, k, none⟩ v) base N A n c := by
  refine ⟨h.room, h.max, fun hn => ?_⟩
  obtain ⟨g, cur, e, hb, hN, hh, hs⟩ := h.lies hn
  by_cases hp : q = g
  · subst hp
    refine ⟨q, cur.setIfInBounds k v, e, hb, hN, ?_, by rw [Array.size_setIfInBounds]; exact hs⟩
    simp [World.setCell, Array.getElem?_modify, hh]
  · exact ⟨g, cur, e, hb, hN, (Below.heap_setCell w ⟨q, k, none⟩ v g (Ne.symm hp)).trans hh, hs⟩
theorem Wr.fr {w w' : World} {base N n c : Nat} {A : Option Addr} {S : Nat → Prop} (h : Wr w base N A n c) (hf : Fr w w' S) (hs : ∀ k, base ≤ k → k < N → ¬ S k) : Wr w' base N A n c := by
  refine ⟨h.room, h.max, fun hn => ?_⟩
  obtain ⟨g, cur, e, hb, hN, hh, hsz⟩ := h.lies hn
  exact ⟨g, cur, e, hb, hN, (hf.block g (Blk.lt (t := 5) (cs := cur) hh) (hs g hb hN)).trans hh, hsz⟩
theorem Wr.cell {w : World} {base N n c : Nat} {A : Option Addr} (h : Wr w base N A n c) {k : Nat} (hk : k < n) : ∃ g v, A = some ⟨g, 0, none⟩ ∧ base ≤ g ∧ g < N ∧ (∃ cur, Blk w g 5 cur) ∧ w.cell? ⟨g, k, none⟩ = some v ∧ w.frozen? ⟨g, k, none⟩ = false := by
  obtain ⟨g, cur, e, hb, hN, hh, hs⟩ := h.lies (by omega)
  refine ⟨g, cur[k]'(by omega), e, hb, hN, ⟨cur, hh⟩, ?_, Blk.frozen (t := 5) (cs := cur) hh k⟩
  rw [cell_of_row _ _ _ cur 5 (0, 0) hh]
  exact Array.getElem?_eq_getElem (by omega)
end Go.Proofs.Ytkjpcincjoaeeaa.TW
