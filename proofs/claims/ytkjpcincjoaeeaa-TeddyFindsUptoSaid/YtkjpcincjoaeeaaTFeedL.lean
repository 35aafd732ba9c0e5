/- What holds in TeddyFeeds' loop, and how a round keeps it. -/
import Derived.Test.YtkjpcincjoaeeaaTFeeds
namespace Go.Proofs.Ytkjpcincjoaeeaa.TW
open Go.ChangeShapes Go.WideShapes Go.ChangeAt Go.RowKit
open Go.Proofs.Ytkjpcincjoaeeaa.B Go.Proofs.Ytkjpcincjoaeeaa.AM Go.Proofs.Ytkjpcincjoaeeaa.AW Go.Proofs.Ytkjpcincjoaeeaa.TM
set_option linter.unusedVariables false

/-- The loop's state: q is what the stream has, p what the own text has. -/
structure FI (u w6 : World) (b7 kb g m : Nat) (q p : T) (A : Option Addr) (c : Nat) (w : World) : Prop where
  below : Below u.heap.size u w
  all : w.ownsRow b7 5 1 (.slice A p.length c) p.length (u8s p)
  strm : ∃ A2 c2, Strm w u.heap.size g kb m q A2 c2 ∧ kb ≤ w.heap.size ∧ ∀ k, (Value.slice A2 (tailOf m q).length c2).ownBlock = some k → (Value.slice A p.length c).ownBlock ≠ some k
  other : Blk w w6.heap.size 62 #[.pointer (some ⟨g, 0, none⟩), .slice none 0 0, .int .i64 0]
  lt1 : u.heap.size < w6.heap.size
  lt2 : w6.heap.size < b7
  lt3 : b7 ≤ w.heap.size
section
variable {u w6 w w' : World} {b7 kb g m : Nat} {q p x : T} {A : Option Addr} {c : Nat}
theorem FI.over (h : FI u w6 b7 kb g m q p A c w) (hb : Below w.heap.size w w') : FI u w6 b7 kb g m q p A c w' := by
  obtain ⟨A2, c2, h1, h2, h3⟩ := h.strm
  have := h.lt1
  have := h.lt2
  have := h.lt3
  exact ⟨h.below.trans (hb.mono (by omega)), own_over h.all hb, ⟨A2, c2, h1.over hb, Nat.le_trans h2 hb.size, h3⟩, h.other.below hb h.other.lt, h.lt1, h.lt2, Nat.le_trans h.lt3 hb.size⟩
theorem FI.fed {A2 : Option Addr} {c2 : Nat} (h : FI u w6 b7 kb g m q p A c w) (hs : Strm w' u.heap.size g w.heap.size m (q ++ x) A2 c2) (hf : Fr w w' (· = u.heap.size)) :
    FI u w6 b7 w.heap.size g m (q ++ x) p A c w' ∧ (∀ k, (Value.slice A2 (tailOf m (q ++ x)).length c2).ownBlock = some k → w.heap.size ≤ k) := by
  have h1 := h.lt1
  have h2 := h.lt2
  have h3 := h.lt3
  have hk : ∀ k, (Value.slice A2 (tailOf m (q ++ x)).length c2).ownBlock = some k → w.heap.size ≤ k := fun k hk => (own_block hs.kept k hk).1
  refine ⟨⟨h.below.trans (hf.below (fun k e => by omega) (by omega)), own_fr h.all hf (fun k hk e => by have := (own_block h.all k hk).1; omega), ⟨A2, c2, hs, hf.size, fun k h4 h5 => ?_⟩, h.other.fr hf (by omega), h1, h2, Nat.le_trans h3 hf.size⟩, hk⟩
  have h6 := hk k h4
  have h7 := (own_block h.all k h5).2
  omega
theorem FI.app {A' : Option Addr} {c' n' : Nat} (h : FI u w6 b7 kb g m q p A c w) (hn : n' = (p ++ x).length) (hg : w.grownBy w' (Value.slice A p.length c).ownBlock) (hown : w'.ownsRow b7 5 1 (.slice A' n' c') n' (u8s (p ++ x))) (hat : (Value.slice A' n' c').ownBlock = (Value.slice A p.length c).ownBlock ∨ (Value.slice A' n' c').ownBlock = some w.heap.size) : FI u w6 b7 kb g m q (p ++ x) A' c' w' := by
  subst hn
  obtain ⟨A2, c2, h1, h2, h3⟩ := h.strm
  have l1 := h.lt1
  have l2 := h.lt2
  have l3 := h.lt3
  have hb := below_grown (B := u.heap.size) h.all hg (by omega) (by omega)
  refine ⟨h.below.trans hb, hown, ⟨A2, c2, ⟨h1.blk.grown hg (own_ne_blk h.all h1.blk (by decide)), own_fr h1.kept ((Fr.refl w (fun k => (Value.slice A p.length c).ownBlock = some k)).grown hg (fun k e _ => e)) (fun k hk e => h3 k hk e)⟩, Nat.le_trans h2 hg.size, fun k h4 h5 => ?_⟩, h.other.grown hg (own_ne_blk h.all h.other (by decide)), l1, l2, Nat.le_trans l3 hg.size⟩
  rcases hat with h6 | h6
  · exact h3 k h4 (h6 ▸ h5)
  · rw [h6] at h5
    have h7 := Option.some.inj h5
    have h8 := (own_block h1.kept k h4).2
    omega
theorem FI.spoiled {lo : Nat} (h : FI u w6 b7 kb g m q p A c w) (hf : Fr w w' (fun k => lo ≤ k ∧ k < kb)) (hlo : b7 ≤ lo) (hall : ∀ k, (Value.slice A p.length c).ownBlock = some k → k < lo ∨ kb ≤ k) : FI u w6 b7 kb g m q p A c w' := by
  obtain ⟨A2, c2, h1, h2, h3⟩ := h.strm
  have l1 := h.lt1
  have l2 := h.lt2
  have l3 := h.lt3
  refine ⟨h.below.trans (hf.below (fun k e => by omega) (by omega)), own_fr h.all hf (fun k hk e => by have := hall k hk; omega), ⟨A2, c2, ⟨h1.blk.fr hf (by omega), own_fr h1.kept hf (fun k hk e => by have := (own_block h1.kept k hk).1; omega)⟩, Nat.le_trans h2 hf.size, h3⟩, h.other.fr hf (by omega), l1, l2, Nat.le_trans l3 hf.size⟩
end
end Go.Proofs.Ytkjpcincjoaeeaa.TW
