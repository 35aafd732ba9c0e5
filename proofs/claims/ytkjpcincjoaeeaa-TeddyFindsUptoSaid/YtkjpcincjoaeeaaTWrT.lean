/- Copies that are written over; the filter behind that; what Maybe gives, told by the document (for TeddyFinds; lines of XASpoil). -/
import Derived.Test.YtkjpcincjoaeeaaTWr
import Derived.Test.YtkjpcincjoaeeaaTFinds
namespace Go.Proofs.Ytkjpcincjoaeeaa.TW
open Go.ChangeShapes Go.WideShapes Go.ChangeAt Go.RowKit
open Go.Proofs.Ytkjpcincjoaeeaa.B Go.Proofs.Ytkjpcincjoaeeaa.AM Go.Proofs.Ytkjpcincjoaeeaa.AW Go.Proofs.Ytkjpcincjoaeeaa.TM
set_option linter.unusedVariables false

structure WrTexts (w : World) (base N : Nat) (A : Option Addr) (n c : Nat) (vs : List Value) : Prop where
  row : w.ownsRow base 32 1 (.slice A n c) n vs
  each : ∀ i, i < n → ∃ A1 n1 c1, vs[i]? = some (.slice A1 n1 c1) ∧ Wr w base N A1 n1 c1
theorem _root_.Go.Proofs.Ytkjpcincjoaeeaa.AW.OwnTexts.wr {w : World} {base n c : Nat} {A : Option Addr} {vs : List Value} {Ls : List T} (h : OwnTexts w base A n c vs Ls) : WrTexts w base w.heap.size A n c vs :=
  ⟨h.row, fun i hi => by
    obtain ⟨A1, c1, h1, h2⟩ := h.each i _ (List.getElem?_eq_getElem (by rw [h.count]; exact hi))
    exact ⟨A1, _, c1, h1, Wr.of_own h2⟩⟩
theorem WrTexts.over {w w' : World} {base N n c : Nat} {A : Option Addr} {vs : List Value} (h : WrTexts w base N A n c vs) (hb : Below w.heap.size w w') : WrTexts w' base N A n c vs :=
  ⟨own_over h.row hb, fun i hi => by
    obtain ⟨A1, n1, c1, h1, h2⟩ := h.each i hi
    exact ⟨A1, n1, c1, h1, h2.fr (Fr.new hb (S := fun _ => False)) (fun _ _ _ e => e)⟩⟩
theorem WrTexts.set {w : World} {base N n c g k : Nat} {A : Option Addr} {vs : List Value} {cur : Array Value} (h : WrTexts w base N A n c vs) (hg : Blk w g 5 cur) (v : Value) : WrTexts (w.setCell ⟨g, k, none⟩ v) base N A n c vs :=
  ⟨own_fr h.row (Fr.one w g k v) (fun j hj e => by subst e; exact own_ne_blk h.row hg (by decide) hj), fun i hi => by
    obtain ⟨A1, n1, c1, h1, h2⟩ := h.each i hi
    exact ⟨A1, n1, c1, h1, h2.setCell _ _ _⟩⟩


/-- The filter stays where other blocks, below its own, are written over. -/
theorem filt_stays {u0 u w w' : World} {g cL base N : Nat} {Ls : List T} {AL : Option Addr} {vs : List Value} {bs : Bs} {lo hi : Mask} (h : Filt u g Ls AL cL vs bs lo hi w) (hf : Fr w w' (fun k => base ≤ k ∧ k < N)) (hN : N ≤ u.heap.size) (h0 : u0.heap.size ≤ base) (hu : u0.heap.size ≤ u.heap.size) (hb : Below u0.heap.size u0 w) : Filt u0 g Ls AL cL vs bs lo hi w' := by
  have hge := h.ge
  refine ⟨h.blk.fr hf (by omega), by omega, ⟨own_lower (own_fr h.list.row hf (fun k hk e => by have := (own_block h.list.row k hk).1; omega)) hu, h.list.count, fun i l hl => ?_⟩, fun b hb8 => own_lower (own_fr (h.bkt b hb8) hf (fun k hk e => by have := (own_block (h.bkt b hb8) k hk).1; omega)) hu, h.apart, h.small, h.has, hb.trans (hf.below (fun k hk => by omega) (by have := hb.size; omega))⟩
  obtain ⟨A1, c1, h1, h2⟩ := h.list.each i l hl
  exact ⟨A1, c1, h1, own_lower (own_fr h2 hf (fun k hk e => by have := (own_block h2 k hk).1; omega)) hu⟩

/-! ### What Maybe gives -/
theorem maybe_inc (Ls : List T) (t : T) (P : Nat → Nat) (n : Nat) : (maybeTo Ls t P n).Pairwise (· < ·) := List.pairwise_lt_range.filter _
theorem maybe_ok {Ls : List T} {t : T} {P : Nat → Nat} {n x : Nat} (h : x ∈ maybeTo Ls t P n) : x < n ∧ (Ls.any fun l => at8 l 0 == at8 t x) = true := by
  rw [maybeTo, List.mem_filter, List.mem_range] at h
  obtain ⟨h1, h2⟩ := h
  rw [Bool.and_eq_true] at h2
  obtain ⟨i, l, h3, _, h4⟩ := firstIn_iff.1 h2.2
  exact ⟨h1, List.any_eq_true.2 ⟨l, mem_of h3, by rw [h4]; exact beq_self_eq_true _⟩⟩
theorem maybe_all {Ls : List T} {t : T} {P : Nat → Nat} {x : Nat} (hl0 : ∀ l ∈ Ls, l ≠ []) (hP : ∀ p i, i < Ls.length → Ls.getD i [] <+: t.drop p → (P p).testBit (i % 8) = true) (hx : x < t.length) (h : (Ls.any fun l => l.isPrefixOf (t.drop x)) = true) : x ∈ maybeTo Ls t P t.length := by
  obtain ⟨l, hl, hp⟩ := List.any_eq_true.1 h
  rw [List.isPrefixOf_iff_prefix] at hp
  obtain ⟨i, hi⟩ := List.mem_iff_getElem?.1 hl
  have hi2 := (List.getElem?_eq_some_iff.1 hi).1
  have hd : Ls.getD i [] = l := by rw [List.getD_eq_getElem?_getD, hi]; rfl
  have h1 := hP x i hi2 (by rw [hd]; exact hp)
  have h2 : at8 l 0 = at8 t x := (at8_pre hp (List.length_pos_iff.2 (hl0 l hl))).symm
  rw [maybeTo, List.mem_filter, List.mem_range]
  refine ⟨hx, ?_⟩
  rw [firstIn_yes hi h1 h2, Bool.and_true]
  have h0 : P x ≠ 0 := fun e => by rw [e, Nat.zero_testBit] at h1; cases h1
  rw [beq_eq_false_iff_ne.2 h0]
  rfl
/-- What the law asks of the places. -/
structure Places (Ls : List T) (t : T) (M : List Nat) : Prop where
  inc : ∀ i j x y : Nat, i < j → M[i]? = some x → M[j]? = some y → x < y
  ok : ∀ j x : Nat, M[j]? = some x → x < t.length ∧ (Ls.any fun l => at8 l 0 == at8 t x) = true
  all : ∀ x : Nat, x < t.length → (Ls.any fun l => l.isPrefixOf (t.drop x)) = true → ∃ j : Nat, M[j]? = some x
theorem places {Ls : List T} {t : T} {P : Nat → Nat} (hl0 : ∀ l ∈ Ls, l ≠ []) (hP : ∀ p i, i < Ls.length → Ls.getD i [] <+: t.drop p → (P p).testBit (i % 8) = true) : Places Ls t (maybeTo Ls t P t.length) :=
  ⟨fun i j x y hij hx hy => by
    have h := List.pairwise_iff_getElem.1 (maybe_inc Ls t P t.length)
    obtain ⟨h1, rfl⟩ := List.getElem?_eq_some_iff.1 hx
    obtain ⟨h2, rfl⟩ := List.getElem?_eq_some_iff.1 hy
    exact h i j h1 h2 hij,
   fun j x hx => maybe_ok (List.mem_of_getElem? hx),
   fun x hx h => List.mem_iff_getElem?.1 (maybe_all hl0 hP hx h)⟩
theorem Places.no {Ls : List T} {t : T} {M : List Nat} (h : Places Ls t M) {x n : Nat} (hx : x < t.length) (hb : ∀ j y, j < n → M[j]? = some y → y < x) (hn : ∀ y, M[n]? = some y → x < y) : (Ls.any fun l => l.isPrefixOf (t.drop x)) = false := by
  rw [Bool.eq_false_iff]
  intro he
  obtain ⟨j, hj⟩ := h.all x hx he
  rcases Nat.lt_trichotomy j n with h1 | h1 | h1
  · have := hb j x h1 hj; omega
  · subst h1; have := hn x hj; omega
  · have hjl := (List.getElem?_eq_some_iff.1 hj).1
    have h2 := List.getElem?_eq_getElem (l := M) (show n < M.length by omega)
    have h3 := hn _ h2
    have h4 := h.inc n j _ _ h1 h2 hj
    omega
end Go.Proofs.Ytkjpcincjoaeeaa.TW
