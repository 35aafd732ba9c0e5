/- Literals in a text: what they begin with, the longest end that one begins with, the literals that end there; the machine's states. Plain law, no program in sight. -/
import Derived.Test.YtameecogopnkjaaMem
namespace Go.Proofs.Ytameecogopnkjaa.AM

abbrev T := List UInt8
/-- Does a literal begin with a text? -/
def isPre (Ls : List T) (x : T) : Bool := x.isEmpty || Ls.any (fun l => x.isPrefixOf l)
/-- The longest end of a text that a literal begins with. -/
def step (Ls : List T) : T → T
  | [] => []
  | b :: w => if isPre Ls (b :: w) then b :: w else step Ls w
/-- The literals that a text ends with. -/
def hits (Ls : List T) (w : T) : List Nat := (List.range Ls.length).filter fun i => (Ls.getD i []).isSuffixOf w
/-- The literals that are a text. -/
def own (Ls : List T) (x : T) : List Nat := (List.range Ls.length).filter fun i => Ls.getD i [] == x

theorem isPre_nil (Ls : List T) : isPre Ls [] = true := rfl
theorem isPre_iff (Ls : List T) (x : T) : isPre Ls x = true ↔ x = [] ∨ ∃ l ∈ Ls, x <+: l := by
  simp [isPre, List.isEmpty_iff]
theorem isPre_prefix {Ls : List T} {x y : T} (h : isPre Ls y = true) (hx : x <+: y) : isPre Ls x = true := by
  rw [isPre_iff] at h ⊢
  rcases h with rfl | ⟨l, hl, hy⟩
  · exact .inl (List.prefix_nil.1 hx)
  · exact .inr ⟨l, hl, hx.trans hy⟩
theorem step_suffix (Ls : List T) (w : T) : step Ls w <:+ w := by
  induction w with
  | nil => exact List.suffix_refl _
  | cons b w ih =>
    rw [step]
    split
    · exact List.suffix_refl _
    · exact ih.trans (List.suffix_cons _ _)
theorem step_pre (Ls : List T) (w : T) : isPre Ls (step Ls w) = true := by
  induction w with
  | nil => rfl
  | cons b w ih =>
    rw [step]
    split
    · assumption
    · exact ih
/-- It is the longest. -/
theorem step_max (Ls : List T) (w x : T) (hs : x <:+ w) (hp : isPre Ls x = true) : x <:+ step Ls w := by
  induction w with
  | nil => exact hs
  | cons b w ih =>
    rw [step]
    split
    · exact hs
    · rename_i hn
      rcases List.suffix_cons_iff.1 hs with h | h
      · subst h; exact absurd hp hn
      · exact ih h
theorem suffix_eq {a b : T} (h1 : a <:+ b) (h2 : b <:+ a) : a = b := h1.eq_of_length (Nat.le_antisymm h1.length_le h2.length_le)
theorem step_of (Ls : List T) (w : T) (h : isPre Ls w = true) : step Ls w = w := suffix_eq (step_suffix Ls w) (step_max Ls w w (List.suffix_refl _) h)
theorem step_not (Ls : List T) (b : UInt8) (w : T) (h : isPre Ls (b :: w) = false) : step Ls (b :: w) = step Ls w := by
  rw [step, h]
  rfl
theorem snoc_suffix {x w : T} {b : UInt8} (h : x <:+ w ++ [b]) : x = [] ∨ ∃ y, x = y ++ [b] ∧ y <:+ w := by
  rcases List.eq_nil_or_concat x with rfl | ⟨y, c, rfl⟩
  · exact .inl rfl
  · right
    obtain ⟨t, ht⟩ := h
    rw [List.concat_eq_append, ← List.append_assoc] at ht
    obtain ⟨h1, h2⟩ := List.append_inj' ht rfl
    injection h2 with h2
    subst h2
    exact ⟨y, by rw [List.concat_eq_append], ⟨t, h1⟩⟩
/-- Byte by byte. -/
theorem step_step (Ls : List T) (x : T) (b : UInt8) : step Ls (step Ls x ++ [b]) = step Ls (x ++ [b]) := by
  apply suffix_eq
  · refine step_max _ _ _ ((step_suffix _ _).trans ?_) (step_pre _ _)
    obtain ⟨t, ht⟩ := step_suffix Ls x
    exact ⟨t, by rw [← List.append_assoc, ht]⟩
  · refine step_max _ _ _ ?_ (step_pre _ _)
    rcases snoc_suffix (step_suffix Ls (x ++ [b])) with h | ⟨y, h, hy⟩
    · rw [h]; exact List.nil_suffix
    · have hp := step_pre Ls (x ++ [b])
      rw [h] at hp ⊢
      obtain ⟨t, ht⟩ := step_max Ls x y hy (isPre_prefix hp (List.prefix_append _ _))
      exact ⟨t, by rw [← List.append_assoc, ht]⟩

theorem mem_hits (Ls : List T) (w : T) (k : Nat) : k ∈ hits Ls w ↔ k < Ls.length ∧ Ls.getD k [] <:+ w := by
  simp [hits, List.isSuffixOf_iff_suffix]
theorem mem_own (Ls : List T) (x : T) (k : Nat) : k ∈ own Ls x ↔ k < Ls.length ∧ Ls.getD k [] = x := by
  simp [own]
theorem lit_pre (Ls : List T) (k : Nat) (h : k < Ls.length) : isPre Ls (Ls.getD k []) = true := by
  rw [isPre_iff]
  refine .inr ⟨Ls.getD k [], ?_, List.prefix_refl _⟩
  rw [List.getD_eq_getElem?_getD, List.getElem?_eq_getElem h]
  exact List.getElem_mem h
/-- The literals that end with a text end with its longest end that one begins with. -/
theorem hits_step (Ls : List T) (w : T) : hits Ls (step Ls w) = hits Ls w := by
  rw [hits, hits]
  apply List.filter_congr
  intro k hk
  rw [List.mem_range] at hk
  rw [Bool.eq_iff_iff, List.isSuffixOf_iff_suffix, List.isSuffixOf_iff_suffix]
  exact ⟨fun h => h.trans (step_suffix _ _), fun h => step_max _ _ _ h (lit_pre Ls k hk)⟩
theorem hits_sorted (Ls : List T) (w : T) : (hits Ls w).Pairwise (· < ·) := List.Pairwise.filter _ List.pairwise_lt_range
theorem own_sorted (Ls : List T) (w : T) : (own Ls w).Pairwise (· < ·) := List.Pairwise.filter _ List.pairwise_lt_range
theorem sorted_eq {a b : List Nat} (ha : a.Pairwise (· < ·)) (hb : b.Pairwise (· < ·)) (h : ∀ k, k ∈ a ↔ k ∈ b) : a = b := by
  induction a generalizing b with
  | nil =>
    cases b with
    | nil => rfl
    | cons y b => exact absurd ((h y).2 (List.mem_cons_self ..)) (by simp)
  | cons x a ih =>
    cases b with
    | nil => exact absurd ((h x).1 (List.mem_cons_self ..)) (by simp)
    | cons y b =>
      rw [List.pairwise_cons] at ha hb
      have hxy : x = y := by
        have h1 := (h x).1 (List.mem_cons_self ..)
        have h2 := (h y).2 (List.mem_cons_self ..)
        rcases List.mem_cons.1 h1 with e | e
        · exact e
        · rcases List.mem_cons.1 h2 with e' | e'
          · exact e'.symm
          · have := hb.1 x e; have := ha.1 y e'; omega
      subst hxy
      rw [ih ha.2 hb.2]
      intro k
      have h1 := h k
      rw [List.mem_cons, List.mem_cons] at h1
      constructor
      · intro hk
        rcases h1.1 (.inr hk) with e | e
        · subst e; exact absurd (ha.1 _ hk) (Nat.lt_irrefl _)
        · exact e
      · intro hk
        rcases h1.2 (.inr hk) with e | e
        · subst e; exact absurd (hb.1 _ hk) (Nat.lt_irrefl _)
        · exact e
/-- The literals that end with a text: it, and those that end with what is behind its first byte. -/
theorem hits_cons (Ls : List T) (b : UInt8) (w : T) (k : Nat) : k ∈ hits Ls (b :: w) ↔ k ∈ own Ls (b :: w) ∨ k ∈ hits Ls w := by
  rw [mem_hits, mem_own, mem_hits, List.suffix_cons_iff]
  constructor
  · rintro ⟨h, h1 | h1⟩
    · exact .inl ⟨h, h1⟩
    · exact .inr ⟨h, h1⟩
  · rintro (⟨h, h1⟩ | ⟨h, h1⟩)
    · exact ⟨h, .inl h1⟩
    · exact ⟨h, .inr h1⟩
theorem own_hits_apart (Ls : List T) (b : UInt8) (w : T) (k : Nat) (h1 : k ∈ own Ls (b :: w)) (h2 : k ∈ hits Ls w) : False := by
  rw [mem_own] at h1
  rw [mem_hits, h1.2] at h2
  have := h2.2.length_le
  rw [List.length_cons] at this
  omega
/-- Sorted, they are one list. -/
theorem merge_hits (Ls : List T) (b : UInt8) (w : T) (s : List Nat) (hp : s.Perm (own Ls (b :: w) ++ hits Ls w)) (hs : s.Pairwise (· ≤ ·)) : s = hits Ls (b :: w) := by
  have hnd : s.Nodup := by
    rw [hp.nodup_iff]
    rw [List.nodup_append]
    refine ⟨(own_sorted Ls _).imp Nat.ne_of_lt, (hits_sorted Ls _).imp Nat.ne_of_lt, fun x hx y hy e => ?_⟩
    subst e
    exact own_hits_apart Ls b w x hx hy
  have hlt : s.Pairwise (· < ·) := by
    have := hs.and hnd
    exact this.imp (fun ⟨h1, h2⟩ => Nat.lt_of_le_of_ne h1 h2)
  apply sorted_eq hlt (hits_sorted Ls _)
  intro k
  rw [hp.mem_iff, List.mem_append, hits_cons]
theorem hits_nil (Ls : List T) (h : ∀ l ∈ Ls, l ≠ []) : hits Ls [] = [] := by
  rw [List.eq_nil_iff_forall_not_mem]
  intro k hk
  rw [mem_hits] at hk
  have h1 := List.suffix_nil.1 hk.2
  rw [List.getD_eq_getElem?_getD, List.getElem?_eq_getElem hk.1] at h1
  exact h _ (List.getElem_mem hk.1) h1
theorem own_snoc (Ls : List T) (l x : T) : own (Ls ++ [l]) x = own Ls x ++ (if l = x then [Ls.length] else []) := by
  have h1 : ∀ i, i < Ls.length → (Ls ++ [l]).getD i [] = Ls.getD i [] := fun i hi => by
    rw [List.getD_eq_getElem?_getD, List.getD_eq_getElem?_getD, List.getElem?_append_left hi]
  have h2 : (Ls ++ [l]).getD Ls.length [] = l := by
    rw [List.getD_eq_getElem?_getD]; simp
  rw [own, own, List.length_append, List.length_singleton, List.range_succ, List.filter_append]
  congr 1
  · apply List.filter_congr
    intro i hi
    rw [h1 i (List.mem_range.1 hi)]
  · rw [List.filter_cons, h2]
    by_cases h : l = x
    · simp [h]
    · simp [h]
theorem isPre_snoc (Ls : List T) (l x : T) : isPre (Ls ++ [l]) x = (isPre Ls x || x.isPrefixOf l) := by
  rw [Bool.eq_iff_iff, Bool.or_eq_true, isPre_iff, isPre_iff, List.isPrefixOf_iff_prefix]
  constructor
  · rintro (h | ⟨m, hm, h⟩)
    · exact .inl (.inl h)
    · rcases List.mem_append.1 hm with h1 | h1
      · exact .inl (.inr ⟨m, h1, h⟩)
      · rw [List.mem_singleton] at h1
        subst h1
        exact .inr h
  · rintro ((h | ⟨m, hm, h⟩) | h)
    · exact .inl h
    · exact .inr ⟨m, List.mem_append_left _ hm, h⟩
    · exact .inr ⟨l, by simp, h⟩

end Go.Proofs.Ytameecogopnkjaa.AM
