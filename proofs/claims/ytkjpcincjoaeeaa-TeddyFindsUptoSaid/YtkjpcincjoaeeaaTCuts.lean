/- A text cut in two: what the two pieces tell; the stream's steps in a region that draws its order. -/
import Derived.Test.YtkjpcincjoaeeaaTStream
namespace Go.Proofs.Ytkjpcincjoaeeaa.TW
open Go.ChangeShapes Go.WideShapes Go.ChangeAt Go.RowKit
open Go.Proofs.Ytkjpcincjoaeeaa.B Go.Proofs.Ytkjpcincjoaeeaa.AM Go.Proofs.Ytkjpcincjoaeeaa.AW Go.Proofs.Ytkjpcincjoaeeaa.TM
set_option linter.unusedVariables false

theorem cut_eq (Ls : List T) (a b : T) : feedOut Ls [] a ++ feedOut Ls a b = scanTo Ls (a ++ b) (a ++ b).length := by
  have h1 : ∀ x, x ∈ feedOut Ls [] a ↔ x ∈ scanTo Ls a a.length := fun x => by
    rw [feedOut, List.mem_filter, List.nil_append]
    refine ⟨fun h => h.1, fun h => ⟨h, ?_⟩⟩
    have := ((mem_scanTo Ls a x a.length).1 h).1
    simpa using this
  refine ordered_eq ?_ (scanTo_ordered Ls _ _) fun x => ?_
  · rw [List.pairwise_append]
    refine ⟨(scanTo_ordered Ls _ _).filter _, (scanTo_ordered Ls _ _).filter _, fun x hx y hy => ?_⟩
    have hx1 := (mem_scanTo Ls a x a.length).1 ((h1 x).1 hx)
    rw [feedOut, List.mem_filter] at hy
    have hy1 : a.length < y.2 := by simpa using hy.2
    unfold before
    omega
  · rw [List.mem_append, h1, mem_scanTo, feedOut, List.mem_filter, mem_scanTo]
    have hl : (a ++ b).length = a.length + b.length := List.length_append
    constructor
    · rintro (⟨h2, h3, h4, h5⟩ | h)
      · exact ⟨h2, by omega, h4, by rw [List.take_append_of_le_length h3]; exact h5⟩
      · exact h.1
    · rintro ⟨h2, h3, h4, h5⟩
      by_cases hc : x.2 ≤ a.length
      · exact .inl ⟨h2, hc, h4, by rw [List.take_append_of_le_length hc] at h5; exact h5⟩
      · exact .inr ⟨⟨h2, h3, h4, h5⟩, by simp only [decide_eq_true_eq]; omega⟩
theorem feed_nil (Ls : List T) (a : T) : feedOut Ls a [] = [] := by
  rw [feedOut, List.filter_eq_nil_iff]
  intro x hx
  have := ((mem_scanTo Ls _ x _).1 hx).2.1
  rw [List.append_nil] at this
  simp only [decide_eq_true_eq]
  omega
theorem and1023 (n : Int) : bits .and .i64 n 1023 = n % 1024 := by
  have h127 : (BitVec.ofInt 64 1023).toNat = 2 ^ 10 - 1 := by decide
  have key : (BitVec.ofInt 64 n &&& BitVec.ofInt 64 1023).toNat = (n % ((2 ^ 64 : Nat) : Int)).toNat % 2 ^ 10 := by
    rw [BitVec.toNat_and, BitVec.toNat_ofInt, h127, Nat.and_two_pow_sub_one_eq_mod]
  show IntKind.i64.wrap ((BitVec.ofInt 64 n &&& BitVec.ofInt 64 1023).toNat : Nat) = n % 1024
  rw [key, IntKind.wrap_i64]
  omega
theorem at_of (n : Int) (len : Nat) : ∃ k : Nat, (bits BinOp.and IntKind.i64 n 1023).tmod ((len : Int) + 1) = (k : Int) ∧ k ≤ len := by
  rw [and1023]
  refine ⟨((n % 1024).tmod ((len : Int) + 1)).toNat, ?_, ?_⟩
  · rw [Int.toNat_of_nonneg (Int.tmod_nonneg _ (by omega))]
  · have h1 := Int.tmod_lt_of_pos (n % 1024) (show (0 : Int) < (len : Int) + 1 by omega)
    have h2 := Int.tmod_nonneg (a := n % 1024) ((len : Int) + 1) (by omega)
    omega

/-! ### In memory -/
theorem hitCells_append (a b : HitL) : hitCells (a ++ b) = hitCells a ++ hitCells b := by simp [hitCells]
theorem hitCells_one (a : HitL) : ∀ u ∈ hitCells a, u.oneCell' = true := by
  intro u hu
  simp only [hitCells, List.mem_flatMap] at hu
  obtain ⟨x, _, hx⟩ := hu
  simp at hx
  rcases hx with rfl | rfl <;> rfl
def SS (wA w : World) : Prop := Below wA.heap.size wA w ∧ wA.heap.size < w.heap.size
def St (wA w : World) (g m : Nat) (p : T) : Prop := ∃ A c, Strm w wA.heap.size g wA.heap.size m p A c
def Hs (wA w : World) (A : Option Addr) (c : Nat) (hs : HitL) : Prop := w.ownsRow (wA.heap.size + 1) 51 2 (.slice A hs.length c) hs.length (hitCells hs)
section
variable {wA w w' : World} {g m : Nat} {p : T} {A : Option Addr} {c : Nat} {hs : HitL}
theorem SS.drew (h : SS wA w) : SS wA w.drew := ⟨Below.drew h.1, h.2⟩
theorem SS.alloc (h : SS wA w) (o : Obj) : SS wA (w.alloc o) := ⟨Below.alloc h.1 (Nat.le_of_lt h.2) o, by have := h.2; simp; omega⟩
theorem SS.over (h : SS wA w) (hb : Below w.heap.size w w') : SS wA w' := ⟨h.1.trans (hb.mono (Nat.le_of_lt h.2)), Nat.lt_of_lt_of_le h.2 hb.size⟩
theorem St.over (h : St wA w g m p) (hb : Below w.heap.size w w') : St wA w' g m p := by
  obtain ⟨A, c, h⟩ := h
  exact ⟨A, c, h.over hb⟩
theorem St.drew (h : St wA w g m p) : St wA w.drew g m p := by
  obtain ⟨A, c, h⟩ := h
  exact ⟨A, c, h.over (Below.drew (Below.refl _ _))⟩
theorem St.alloc (h : St wA w g m p) (o : Obj) : St wA (w.alloc o) g m p := by
  obtain ⟨A, c, h⟩ := h
  exact ⟨A, c, h.over (Below.alloc (Below.refl _ _) (Nat.le_refl _) o)⟩
theorem Hs.feed (h : Hs wA w A c hs) (hf : Fr w w' (· = wA.heap.size)) : Hs wA w' A c hs := own_fr h hf (fun k hk e => by have := (own_block h k hk).1; omega)
theorem Hs.alloc (h : Hs wA w A c hs) (o : Obj) : Hs wA (w.alloc o) A c hs := World.ownsRow.alloc h o
theorem Hs.none (h : SS wA w) : Hs wA (w.alloc (.cells #[] 51)) (some ⟨w.heap.size, 0, none⟩) 0 [] := own_lower (own_none w _ 2) h.2
end
theorem feed_st {u wA w : World} {g cL n cx : Nat} {Ls : List T} {AL Ax : Option Addr} {vs : List Value} {bs : Bs} {lo hi : Mask} {p x : T} (hF : Filt u g Ls AL cL vs bs lo hi wA) (hw : SS wA w) (hS : St wA w g (mostOf Ls) p)
    (hx : Rd wA wA.heap.size 1 Ax n cx (u8s x)) (hn : Ls.length ≤ 300) (hlm : ∀ l ∈ Ls, l.length ≤ 200) (hl0 : ∀ l ∈ Ls, l ≠ []) (hp : p.length ≤ 100000000) (hxl : n ≤ 4000) :
    Calls Try.prog 12 #[.pointer (some ⟨wA.heap.size, 0, none⟩), .slice Ax n cx] w fun e w' => ∃ A' c', e = .returned (.slice A' (feedOut Ls p x).length c') ∧ SS wA w' ∧ St wA w' g (mostOf Ls) (p ++ x) ∧ Hs wA w' A' c' (feedOut Ls p x) ∧ Fr w w' (· = wA.heap.size) := by
  have hl := hx.length8
  subst hl
  obtain ⟨A, c, hS⟩ := hS
  refine (feed_any (hF.over hw.1) hS (hx.over hw.1) (Nat.le_of_lt hw.2) hF.below.size hn hlm hl0 hp hxl).mono ?_
  rintro e w' ⟨A', c', A2, c2, rfl, ho, hs, hf⟩
  refine ⟨A', c', rfl, ⟨hw.1.trans (hf.below (fun k e => by omega) (Nat.le_of_lt hw.2)), Nat.lt_of_lt_of_le hw.2 hf.size⟩, ⟨A2, c2, hs⟩, own_lower ho hw.2, hf⟩
theorem step_append_st {wA w : World} {g m : Nat} {ops : Array Oper} {o : Oper} {a : Act} {K : Act → World → Prop} {Q : Exit → Act → World → Prop} {E : Prop} (hgd : o.guard = none) (s x : Operand)
    (ho : o.op = .call { callee := .builtin .append, args := #[s, x], argTypes := #[33, 33] }) (hw : SS wA w) {A1 A2 : Option Addr} {c1 c2 : Nat} (h1 h2 : HitL)
    (e1 : a.eval s = .slice A1 h1.length c1) (r1 : Hs wA w A1 c1 h1) (e2 : a.eval x = .slice A2 h2.length c2) (r2 : Hs wA w A2 c2 h2) (hl : h1.length + h2.length ≤ 1000000000)
    (h : ∀ A' c' w', SS wA w' → Hs wA w' A' c' (h1 ++ h2) → (∀ p, St wA w g m p → St wA w' g m p) → K (a.put o.dst (.slice A' (h1 ++ h2).length c')) w') :
    if Region.wanted o (yielded ops a.tmps) = true then Oper.wp Try.prog o a w K Q else E := by
  obtain ⟨i2, hi2, hy0, hy1, hy2⟩ := info_parts info_hit
  refine step_append_rd _ hgd s x 33 ho (wA.heap.size + 1) 51 i2 _ 2 16 Try.underlying33 hi2 hy0 hy1 hy2 rfl (by omega) (.slice A1 h1.length c1) h1.length (hitCells h1) e1 r1 w.heap.size A2 h2.length c2 (hitCells h2) e2 (Rd.of_own r2) (hitCells_one _) (by simp only [maxLen]; omega) (by omega) hw.2 ?_
  intro A' c' w' hown hg hat
  have hb := below_grown (B := wA.heap.size) r1 hg (by omega) (Nat.le_of_lt hw.2)
  rw [← hitCells_append, ← List.length_append] at hown
  rw [← List.length_append]
  refine h A' c' w' ⟨hw.1.trans hb, Nat.lt_of_lt_of_le hw.2 hb.size⟩ hown fun p ⟨A, c, hS⟩ => ⟨A, c, ?_, ?_⟩
  · exact hS.blk.grown hg (own_ne_blk r1 hS.blk (by decide))
  · exact own_fr hS.kept ((Fr.refl w (fun k => (Value.slice A1 h1.length c1).ownBlock = some k)).grown hg (fun k e _ => e)) (fun k hk e => own_apart r1 hS.kept (by decide) k e hk)
end Go.Proofs.Ytkjpcincjoaeeaa.TW
