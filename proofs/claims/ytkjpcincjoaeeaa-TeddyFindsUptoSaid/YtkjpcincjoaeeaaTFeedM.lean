/- A text that comes in pieces: what is kept of it, and what each piece tells. Plain law, no program in sight. -/
import Derived.Test.YtkjpcincjoaeeaaTNew
namespace Go.Proofs.Ytkjpcincjoaeeaa.TM
open Go.RowKit
open Go.Proofs.Ytkjpcincjoaeeaa.B Go.Proofs.Ytkjpcincjoaeeaa.AM Go.Proofs.Ytkjpcincjoaeeaa.AW
open Go.Proofs.Ytkjpcincjoaeeaa.TW (mostOf mostOf_snoc)
set_option linter.unusedVariables false

def tailOf (m : Nat) (p : T) : T := p.drop (p.length - min p.length (m - 1))
theorem tailOf_len (m : Nat) (p : T) : (tailOf m p).length = min p.length (m - 1) := by rw [tailOf, List.length_drop]; omega
theorem tailOf_snoc (m : Nat) (p x : T) : tailOf m (p ++ x) = (tailOf m p ++ x).drop ((tailOf m p ++ x).length - min (tailOf m p ++ x).length (m - 1)) := by
  have h1 := tailOf_len m p
  have e : tailOf m p ++ x = (p ++ x).drop (p.length - min p.length (m - 1)) := by
    rw [tailOf, List.drop_append_of_le_length (by omega)]
  rw [e, List.drop_drop, tailOf]
  congr 1
  rw [List.length_drop, List.length_append]
  omega
/-- The hits that end in what comes behind some bytes. -/
def feedOut (Ls : List T) (p x : T) : HitL := (scanTo Ls (p ++ x) (p ++ x).length).filter fun h => decide (p.length < h.2)
/-- What the stream makes of the hits in what it has. -/
def feedGot (Ls : List T) (k : T) (before : Nat) (x : T) (n : Nat) : HitL := ((((scanTo Ls (k ++ x) (k ++ x).length).take n).filter fun h => decide (k.length < h.2)).map fun h => (h.1, before + h.2))
theorem mostOf_le (Ls : List T) : ∀ l ∈ Ls, l.length ≤ mostOf Ls := by
  have h : ∀ (Ls : List T) (m : Nat), m ≤ Ls.foldl (fun m l => max m l.length) m ∧ ∀ l ∈ Ls, l.length ≤ Ls.foldl (fun m l => max m l.length) m := by
    intro Ls
    induction Ls with
    | nil => exact fun m => ⟨Nat.le_refl _, fun l h => by cases h⟩
    | cons a Ls ih =>
      intro m
      obtain ⟨h1, h2⟩ := ih (max m a.length)
      rw [List.foldl_cons]
      refine ⟨by omega, fun l hl => ?_⟩
      rcases List.mem_cons.1 hl with rfl | e
      · omega
      · exact h2 l e
  exact (h Ls 0).2
theorem mostOf_200 {Ls : List T} {n : Nat} (h : ∀ l ∈ Ls, l.length ≤ n) : mostOf Ls ≤ n := by
  have hh : ∀ (Ls : List T) (m : Nat), m ≤ n → (∀ l ∈ Ls, l.length ≤ n) → Ls.foldl (fun m l => max m l.length) m ≤ n := by
    intro Ls
    induction Ls with
    | nil => exact fun m h _ => h
    | cons a Ls ih =>
      intro m hm hl
      rw [List.foldl_cons]
      exact ih _ (by have := hl a (List.mem_cons_self ..); omega) (fun l h => hl l (List.mem_cons_of_mem _ h))
  exact hh Ls 0 (Nat.zero_le _) h
theorem suf_drop {l t : T} {b : Nat} : l <:+ t.drop b ↔ l <:+ t ∧ l.length ≤ t.length - b := by
  constructor
  · intro h
    have := h.length_le
    rw [List.length_drop] at this
    exact ⟨h.trans (List.drop_suffix _ _), this⟩
  · rintro ⟨h1, h2⟩
    rcases Nat.lt_or_ge b t.length with e | e
    · exact List.suffix_of_suffix_length_le h1 (List.drop_suffix _ _) (by rw [List.length_drop]; exact h2)
    · have : l = [] := List.eq_nil_of_length_eq_zero (by omega)
      subst this
      exact List.nil_suffix
theorem feed_eq (Ls : List T) (p x : T) : feedGot Ls (tailOf (mostOf Ls) p) (p.length - (tailOf (mostOf Ls) p).length) x (scanTo Ls (tailOf (mostOf Ls) p ++ x) (tailOf (mostOf Ls) p ++ x).length).length = feedOut Ls p x := by
  have hk := tailOf_len (mostOf Ls) p
  have hm := mostOf_le Ls
  obtain ⟨b, hb⟩ : ∃ b, p.length - (tailOf (mostOf Ls) p).length = b := ⟨_, rfl⟩
  have e : tailOf (mostOf Ls) p ++ x = (p ++ x).drop b := by
    rw [List.drop_append_of_le_length (by omega), ← hb, hk, tailOf]
  obtain ⟨k, hkk⟩ : ∃ k, tailOf (mostOf Ls) p = k := ⟨_, rfl⟩
  rw [hkk] at hk hb e ⊢
  rw [hb]
  refine ordered_eq ?_ ((scanTo_ordered Ls _ _).filter _) fun h => ?_
  · rw [feedGot, List.take_length]
    refine List.Pairwise.map _ ?_ ((scanTo_ordered Ls _ _).filter _)
    intro y z hyz
    unfold before at hyz ⊢
    simp only
    omega
  · have hpl : k.length + b = p.length := by omega
    have hlen : (k ++ x).length + b = (p ++ x).length := by simp; omega
    rw [feedGot, List.take_length, feedOut, List.mem_map, List.mem_filter, mem_scanTo]
    constructor
    · rintro ⟨y, hy, rfl⟩
      rw [List.mem_filter, mem_scanTo] at hy
      obtain ⟨⟨h1, h2, h3, h4⟩, h5⟩ := hy
      have h6 : k.length < y.2 := by simpa using h5
      refine ⟨⟨by simp only; omega, by simp only; omega, h3, ?_⟩, by simp only [decide_eq_true_eq]; omega⟩
      rw [e, List.take_drop] at h4
      simp only
      exact (suf_drop.1 h4).1
    · rintro ⟨⟨h1, h2, h3, h4⟩, h5⟩
      have h6 : p.length < h.2 := by simpa using h5
      refine ⟨(h.1, h.2 - b), ?_, by ext <;> simp; omega⟩
      rw [List.mem_filter, mem_scanTo]
      refine ⟨⟨by simp only; omega, by simp only; omega, h3, ?_⟩, by simp only [decide_eq_true_eq]; omega⟩
      simp only
      have hl : (Ls.getD h.1 []).length ≤ mostOf Ls := hm _ (by rw [List.getD_eq_getElem?_getD, List.getElem?_eq_getElem h3]; exact List.getElem_mem h3)
      have hl2 := h4.length_le
      rw [e, List.take_drop, show b + (h.2 - b) = h.2 by omega, suf_drop]
      refine ⟨h4, ?_⟩
      rw [List.length_take] at hl2 ⊢
      omega
end Go.Proofs.Ytkjpcincjoaeeaa.TM
