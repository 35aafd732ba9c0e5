/- A literal that stands in a list twice: what is found then. Plain law, no program in sight. -/
import Derived.Test.YtameecogopnkjaaASpoil
namespace Go.Proofs.Ytameecogopnkjaa.AW
open Go.ChangeShapes Go.WideShapes Go.ChangeAt Go.RowKit
open Go.Proofs.Ytameecogopnkjaa.B Go.Proofs.Ytameecogopnkjaa.AM
set_option linter.unusedVariables false

abbrev HitL := List (Nat × Nat)
/-- What is told of a literal at an end, once more. -/
def extra (full : HitL) (at_ len E : Nat) : HitL := (full.filter fun x => x.1 == at_ && x.2 == E).map fun _ => (len, E)
/-- Is a group's last one at hand? -/
def lastOf (h : Nat × Nat) : HitL → Bool
  | [] => true
  | x :: _ => decide (h.2 < x.2)
def twice (full : HitL) (at_ len : Nat) : HitL → HitL
  | [] => []
  | h :: r => h :: ((if lastOf h r then extra full at_ len h.2 else []) ++ twice full at_ len r)
def groups (H : Nat → List Nat) (ks : List Nat) : HitL := ks.flatMap fun k => (H k).map fun h => (h, k + 1)

theorem groups_end (H : Nat → List Nat) (ks : List Nat) : ∀ x ∈ groups H ks, ∃ k ∈ ks, x.1 ∈ H k ∧ x.2 = k + 1 := by
  intro x hx
  obtain ⟨k, hk, h⟩ := List.mem_flatMap.1 hx
  obtain ⟨h0, hh, rfl⟩ := List.mem_map.1 h
  exact ⟨k, hk, hh, rfl⟩
theorem twice_group (full : HitL) (at_ len k : Nat) (hs : List Nat) (r : HitL) (hr : ∀ x ∈ r, k + 1 < x.2) (h0 : hs = [] → extra full at_ len (k + 1) = []) :
    twice full at_ len (hs.map (fun h => (h, k + 1)) ++ r) = hs.map (fun h => (h, k + 1)) ++ extra full at_ len (k + 1) ++ twice full at_ len r := by
  induction hs with
  | nil => simp [h0 rfl]
  | cons h hs ih =>
    cases hs with
    | nil =>
      have hl : lastOf (h, k + 1) r = true := by
        cases r with
        | nil => rfl
        | cons x r => exact decide_eq_true (hr x (List.mem_cons_self ..))
      simp [twice, hl]
    | cons h2 hs =>
      have hl : lastOf (h, k + 1) ((h2 :: hs).map (fun h => (h, k + 1)) ++ r) = false := by simp [lastOf]
      have e : ((h :: h2 :: hs).map (fun h => (h, k + 1)) ++ r) = (h, k + 1) :: ((h2 :: hs).map (fun h => (h, k + 1)) ++ r) := rfl
      rw [e, twice, hl, ih (fun e => by cases e)]
      simp
theorem twice_groups (full : HitL) (at_ len : Nat) (H : Nat → List Nat) (ks : List Nat) (hk : ks.Pairwise (· < ·)) (h0 : ∀ k ∈ ks, H k = [] → extra full at_ len (k + 1) = []) :
    twice full at_ len (groups H ks) = ks.flatMap fun k => (H k).map (fun h => (h, k + 1)) ++ extra full at_ len (k + 1) := by
  induction ks with
  | nil => rfl
  | cons k ks ih =>
    rw [List.pairwise_cons] at hk
    have e : groups H (k :: ks) = (H k).map (fun h => (h, k + 1)) ++ groups H ks := by simp [groups]
    rw [e, twice_group full at_ len k (H k) (groups H ks) (fun x hx => by
      obtain ⟨k', hk', _, e2⟩ := groups_end H ks x hx
      have := hk.1 k' hk'
      omega) (h0 k (List.mem_cons_self ..)), ih hk.2 (fun k' h' => h0 k' (List.mem_cons_of_mem _ h')), List.flatMap_cons]
theorem flatMap_one {α : Type} (f : Nat → List α) (ks : List Nat) (hn : ks.Nodup) (k : Nat) (hk : k ∈ ks) (h0 : ∀ k' ∈ ks, k' ≠ k → f k' = []) : ks.flatMap f = f k := by
  induction ks with
  | nil => cases hk
  | cons a ks ih =>
    rw [List.nodup_cons] at hn
    rw [List.flatMap_cons]
    rcases List.mem_cons.1 hk with rfl | hk'
    · have : ks.flatMap f = [] := by
        rw [List.flatMap_eq_nil_iff]
        exact fun x hx => h0 x (List.mem_cons_of_mem _ hx) (fun e => hn.1 (e ▸ hx))
      rw [this, List.append_nil]
    · rw [h0 a (List.mem_cons_self ..) (fun e => hn.1 (e ▸ hk')), List.nil_append]
      exact ih hn.2 hk' (fun x hx => h0 x (List.mem_cons_of_mem _ hx))
theorem flatMap_same {α : Type} {f g : Nat → List α} {ks : List Nat} (h : ∀ k ∈ ks, f k = g k) : ks.flatMap f = ks.flatMap g := by
  induction ks with
  | nil => rfl
  | cons a ks ih => rw [List.flatMap_cons, List.flatMap_cons, h a (List.mem_cons_self ..), ih fun k hk => h k (List.mem_cons_of_mem _ hk)]
theorem filter_one (hs : List Nat) (hn : hs.Nodup) (a : Nat) : hs.filter (· == a) = if a ∈ hs then [a] else [] := by
  induction hs with
  | nil => rfl
  | cons x hs ih =>
    rw [List.nodup_cons] at hn
    rw [List.filter_cons]
    by_cases h : x = a
    · subst h
      have : hs.filter (· == x) = [] := by rw [ih hn.2, if_neg hn.1]
      simp [this]
    · have h2 : a ∈ x :: hs ↔ a ∈ hs := by rw [List.mem_cons]; exact ⟨fun e => e.elim (fun e => absurd e.symm h) id, .inr⟩
      rw [if_neg (by simpa using h), ih hn.2]
      simp only [h2]
theorem extra_groups (H : Nat → List Nat) (ks : List Nat) (hn : ks.Nodup) (hH : ∀ k, (H k).Nodup) (at_ len k : Nat) (hk : k ∈ ks) : extra (groups H ks) at_ len (k + 1) = if at_ ∈ H k then [(len, k + 1)] else [] := by
  have e1 : ∀ k', ((H k').map fun h => (h, k' + 1)).filter (fun x => x.1 == at_ && x.2 == k + 1) = if k' = k then ((H k').filter (· == at_)).map (fun h => (h, k' + 1)) else [] := by
    intro k'
    rw [List.filter_map]
    split
    · rename_i e
      subst e
      congr 1
      apply List.filter_congr
      intro x _
      simp
    · rename_i e
      rw [List.map_eq_nil_iff, List.filter_eq_nil_iff]
      intro x _
      simp
      intro _ h
      omega
  have e2 : (groups H ks).filter (fun x => x.1 == at_ && x.2 == k + 1) = ((H k).filter (· == at_)).map (fun h => (h, k + 1)) := by
    rw [groups, List.filter_flatMap, flatMap_one _ ks hn k hk]
    · simp only [e1, if_pos]
    · intro k' _ hne
      simp only [e1, if_neg hne]
  rw [extra, e2, filter_one _ (hH k)]
  split <;> rfl
theorem hits_snoc (Ls : List T) (l x : T) : AM.hits (Ls ++ [l]) x = AM.hits Ls x ++ (if l.isSuffixOf x then [Ls.length] else []) := by
  have h1 : ∀ i, i < Ls.length → (Ls ++ [l]).getD i [] = Ls.getD i [] := fun i hi => by
    rw [List.getD_eq_getElem?_getD, List.getD_eq_getElem?_getD, List.getElem?_append_left hi]
  have h2 : (Ls ++ [l]).getD Ls.length [] = l := by
    rw [List.getD_eq_getElem?_getD]; simp
  rw [AM.hits, AM.hits, List.length_append, List.length_singleton, List.range_succ, List.filter_append]
  congr 1
  · apply List.filter_congr
    intro i hi
    rw [h1 i (List.mem_range.1 hi)]
  · rw [List.filter_cons, h2]
    by_cases h : l.isSuffixOf x = true
    · simp [h]
    · simp [h]
theorem scan_groups (Ls : List T) (t : T) (n : Nat) : scanTo Ls t n = groups (fun k => AM.hits Ls (t.take (k + 1))) (List.range n) := rfl
/-- What is found where a literal stands twice. -/
theorem scan_twice (Ls : List T) (l t : T) (at_ n : Nat) (hl : Ls[at_]? = some l) : scanTo (Ls ++ [l]) t n = twice (scanTo Ls t n) at_ Ls.length (scanTo Ls t n) := by
  have hnd : ∀ k, (AM.hits Ls (t.take (k + 1))).Nodup := fun k => (hits_sorted Ls _).imp Nat.ne_of_lt
  have hmem : ∀ k, at_ ∈ AM.hits Ls (t.take (k + 1)) ↔ l.isSuffixOf (t.take (k + 1)) = true := fun k => by
    have hat := (List.getElem?_eq_some_iff.1 hl).1
    rw [mem_hits, List.isSuffixOf_iff_suffix, List.getD_eq_getElem?_getD, hl]
    exact ⟨fun h => h.2, fun h => ⟨hat, h⟩⟩
  have hex : ∀ k, k ∈ List.range n → extra (groups (fun k => AM.hits Ls (t.take (k + 1))) (List.range n)) at_ Ls.length (k + 1) = if l.isSuffixOf (t.take (k + 1)) then [(Ls.length, k + 1)] else [] := fun k hk => by
    rw [extra_groups _ _ List.nodup_range hnd at_ _ k hk]
    by_cases h : l.isSuffixOf (t.take (k + 1)) = true
    · rw [if_pos ((hmem k).2 h), if_pos h]
    · rw [if_neg (fun e => h ((hmem k).1 e)), if_neg h]
  rw [scan_groups Ls, twice_groups _ _ _ _ _ List.pairwise_lt_range (fun k hk h0 => by
    rw [hex k hk, if_neg]
    intro h
    have := (hmem k).2 h
    rw [h0] at this
    cases this)]
  rw [scan_groups, groups]
  refine flatMap_same fun k hk => ?_
  rw [hex k hk, hits_snoc, List.map_append]
  split <;> rfl
theorem pres_snoc {Ls P P' : List T} {l : T} (hP : Pres Ls P) (hP' : Pres (Ls ++ [l]) P') (hl : l ∈ Ls) : P.length = P'.length := by
  refine met_len hP' ⟨?_, fun x => ?_⟩
  · rw [List.nodup_iff_pairwise_ne, List.pairwise_iff_getElem]
    intro i j hi hj hij e
    have := hP.dist i j P[i] (List.getElem?_eq_getElem hi) (by rw [e]; exact List.getElem?_eq_getElem hj)
    omega
  · rw [List.mem_iff_getElem?, ← hP.mem, isPre_snoc, Bool.or_eq_true]
    refine ⟨.inl, fun h => h.elim id fun h => ?_⟩
    rw [isPre_iff]
    exact .inr ⟨l, hl, List.isPrefixOf_iff_prefix.1 h⟩
/-- Why a list with one literal more is refused. -/
theorem check_snoc {Ls : List T} {l : T} (h : checkNo Ls = 0) (hl : l ∈ Ls) : checkNo (Ls ++ [l]) = 0 ∨ checkNo (Ls ++ [l]) = 230 ∨ checkNo (Ls ++ [l]) = 231 := by
  obtain ⟨h1, h2, h3, h4⟩ := checkNo_0 h
  rw [checkNo]
  split
  · exact .inr (.inl rfl)
  · split
    · rename_i hb
      obtain ⟨x, hx, hxx⟩ := hb
      have hx' : x ∈ Ls := by
        rcases List.mem_append.1 hx with e | e
        · exact e
        · rw [List.mem_singleton] at e; subst e; exact hl
      rcases hxx with e | e
      · exact absurd (List.eq_nil_of_length_eq_zero e) (h2 x hx')
      · have := h3 x hx'; omega
    · split
      · exact .inr (.inr rfl)
      · exact .inl rfl

/-! ### In memory -/
theorem and1023 (n : Int) : bits .and .i64 n 1023 = n % 1024 := by
  have h127 : (BitVec.ofInt 64 1023).toNat = 2 ^ 10 - 1 := by decide
  have key : (BitVec.ofInt 64 n &&& BitVec.ofInt 64 1023).toNat = (n % ((2 ^ 64 : Nat) : Int)).toNat % 2 ^ 10 := by
    rw [BitVec.toNat_and, BitVec.toNat_ofInt, h127, Nat.and_two_pow_sub_one_eq_mod]
  show IntKind.i64.wrap ((BitVec.ofInt 64 n &&& BitVec.ofInt 64 1023).toNat : Nat) = n % 1024
  rw [key, IntKind.wrap_i64]
  omega
theorem at_of (n : Int) (len : Nat) (h : 0 < len) : ∃ k : Nat, (bits BinOp.and IntKind.i64 n 1023).tmod (len : Int) = (k : Int) ∧ k < len := by
  rw [and1023]
  refine ⟨((n % 1024).tmod (len : Int)).toNat, ?_, ?_⟩
  · rw [Int.toNat_of_nonneg (Int.tmod_nonneg _ (by omega))]
  · have h1 := Int.tmod_lt_of_pos (n % 1024) (show (0 : Int) < (len : Int) by omega)
    have h2 := Int.tmod_nonneg (a := n % 1024) (len : Int) (by omega)
    omega
/-- The texts' cells as a row. -/
theorem Texts.cells {w : World} {B len cap : Nat} {a : Option Addr} {Ls : List T} (h : Texts w B a len cap Ls) :
    ∃ vs : List Value, Rd w B 1 a len cap vs ∧ (∀ u ∈ vs, u.oneCell' = true) ∧ ∀ (i : Nat) (l : T), Ls[i]? = some l → ∃ A c, vs[i]? = some (.slice A l.length c) ∧ Rd w B 1 A l.length c (u8s l) := by
  have hch : ∀ k, k ≤ len → ∃ vs : List Value, vs.length = k ∧ (∀ u ∈ vs, u.oneCell' = true) ∧ (∀ (j : Nat) (u : Value), vs[j]? = some u → ∃ ad, a = some ad ∧ w.cell? (ad.add j) = some u) ∧ ∀ (i : Nat) (l : T), i < k → Ls[i]? = some l → ∃ A c, vs[i]? = some (.slice A l.length c) ∧ Rd w B 1 A l.length c (u8s l) := by
    intro k
    induction k with
    | zero => exact fun _ => ⟨[], rfl, by simp, by simp, fun i l hi => by omega⟩
    | succ k ih =>
      intro hk
      obtain ⟨vs, h1, h2, h3, h4⟩ := ih (by omega)
      obtain ⟨ad, l, A, c, e, _, hl, hc, hr⟩ := h.at_ (i := k) (by omega)
      refine ⟨vs ++ [.slice A l.length c], by simp [h1], fun u hu => ?_, fun j u hu => ?_, fun i l' hi hl' => ?_⟩
      · rcases List.mem_append.1 hu with h5 | h5
        · exact h2 u h5
        · rw [List.mem_singleton] at h5; subst h5; rfl
      · rcases Nat.lt_or_ge j vs.length with h5 | h5
        · rw [List.getElem?_append_left h5] at hu
          exact h3 j u hu
        · rw [List.getElem?_append_right h5] at hu
          have h0 : j - vs.length = 0 := by
            have := (List.getElem?_eq_some_iff.1 hu).1
            simp at this; omega
          rw [h0] at hu
          simp at hu
          subst hu
          obtain rfl : j = k := by omega
          exact ⟨ad, e, hc⟩
      · rcases Nat.lt_or_ge i vs.length with h5 | h5
        · rw [List.getElem?_append_left h5]
          exact h4 i l' (by omega) hl'
        · obtain rfl : i = k := by omega
          rw [hl] at hl'
          injection hl' with hl'
          subst hl'
          exact ⟨A, c, by rw [List.getElem?_append_right h5, show i - vs.length = 0 by omega]; rfl, hr⟩
  obtain ⟨vs, h1, h2, h3, h4⟩ := hch len (Nat.le_refl _)
  refine ⟨vs, ⟨by omega, h.room, h.max, fun hn => ?_⟩, h2, fun i l hl => h4 i l (by have := (List.getElem?_eq_some_iff.1 hl).1; have := h.count; omega) hl⟩
  obtain ⟨ad, e, hb, _⟩ := h.lies hn
  refine ⟨ad, e, hb, fun j u hu => ?_⟩
  obtain ⟨ad', e', hc⟩ := h3 j u hu
  rw [e] at e'
  injection e' with e'
  subst e'
  exact hc
/-- A row of texts' cells, one more behind them, is a list of texts. -/
theorem texts_more {w : World} {base B n c c1 : Nat} {A A1 : Option Addr} {vs : List Value} {Ls : List T} {l : T} (ho : w.ownsRow base 23 1 (.slice A n c) n (vs ++ [.slice A1 l.length c1])) (hB : B ≤ w.heap.size) (hn : Ls.length + 1 = n) (hv : vs.length = Ls.length)
    (h : ∀ (i : Nat) (l : T), Ls[i]? = some l → ∃ A c, vs[i]? = some (.slice A l.length c) ∧ Rd w B 1 A l.length c (u8s l)) (hl : Rd w B 1 A1 l.length c1 (u8s l)) : Texts w w.heap.size A n c (Ls ++ [l]) := by
  have hr := Rd.of_own ho
  refine ⟨by simp [hn], hr.cap, hr.max, fun hn0 => ?_⟩
  obtain ⟨ad, e, hb, hc⟩ := hr.lies hn0
  refine ⟨ad, e, hb, fun i x hx => ?_⟩
  rcases Nat.lt_or_ge i Ls.length with h1 | h1
  · rw [List.getElem?_append_left h1] at hx
    obtain ⟨A2, c2, h2, h3⟩ := h i x hx
    exact ⟨A2, c2, hc i _ (by rw [List.getElem?_append_left (by omega)]; exact h2), h3.more hB⟩
  · rw [List.getElem?_append_right h1] at hx
    have h0 : i - Ls.length = 0 := by
      have := (List.getElem?_eq_some_iff.1 hx).1
      simp at this; omega
    rw [h0] at hx
    simp at hx
    subst hx
    exact ⟨A1, c1, hc i _ (by rw [List.getElem?_append_right (by omega), show i - vs.length = 0 by omega]; rfl), hl.more hB⟩
theorem rd_far {w w' : World} {B k : Nat} {row : Option Nat} {v : Value} (h : Rd w B 1 (some ⟨k, 0, none⟩) 1 1 [v]) (hg : w.grownBy w' row) (hk : k < w.heap.size) (hr : row ≠ some k) : Rd w' (k + 1) 1 (some ⟨k, 0, none⟩) 1 1 [v] := by
  refine ⟨h.len, h.cap, h.max, fun hn => ?_⟩
  obtain ⟨ad, e, hb, hc⟩ := h.lies hn
  injection e with e
  subst e
  refine ⟨_, rfl, by simp, fun j u hu => ?_⟩
  have h1 := hc j u hu
  have hbk : ((⟨k, 0, none⟩ : Addr).add j).block = k := add_block _ _
  rw [← h1]
  exact World.cell?_of_block (by rw [hbk]; exact hg.block k hk (fun e => hr e.symm))
theorem grown_below {w w' : World} {B : Nat} {row : Option Nat} (hg : w.grownBy w' row) (hr : ∀ k, row = some k → B ≤ k) (hB : B ≤ w.heap.size) : Below B w w' :=
  ⟨hg.os, hg.tape, hg.output, hg.size, fun k hk => hg.block k (by omega) (fun e => by have := hr k e.symm; omega)⟩

/-- What was there stays; behind a name. -/
def LW (w w' : World) : Prop := Below w.heap.size w w'
theorem LW.refl (w : World) : LW w w := Below.refl _ _
theorem LW.drew {w w' : World} (h : LW w w') : LW w w'.drew := Below.drew h
theorem LW.size {w w' : World} (h : LW w w') : w.heap.size ≤ w'.heap.size := Below.size h
theorem LW.alloc {w w' : World} (h : LW w w') (o : Obj) : LW w (w'.alloc o) := Below.alloc h h.size o
theorem LW.trans {w w' w'' : World} (h : LW w w') (k : Below w'.heap.size w' w'') : LW w w'' := Below.trans h (k.mono h.size)
theorem LW.step {w w' w'' : World} (h : LW w w') (k : Below w.heap.size w' w'') : LW w w'' := Below.trans h k
theorem LW.b {w w' : World} (h : LW w w') : Below w.heap.size w w' := h
/-- The second machine, or why there is none. -/
def Second (u : World) (Ls : List T) (p q : Value) (w' : World) : Prop := LW u w' ∧
  ((checkNo Ls ≠ 0 ∧ p = .pointer none ∧ q = .int .i64 (checkNo Ls : Int)) ∨
   (checkNo Ls = 0 ∧ ∃ (u2 : World) (g : Nat) (ns : List Nd) (ad : Addr) (cn : Nat), p = .pointer (some ⟨g, 0, none⟩) ∧ q = .int .i64 0 ∧ Mach u2 g ns (some ad) cn w' ∧ AM.Good Ls ns))
theorem new_second {u w : World} {len cap : Nat} {a : Option Addr} {Ls : List T} (h : Texts w w.heap.size a len cap Ls) (hu : LW u w) :
    Calls Try.prog 11 #[.slice a len cap] w fun e w' => ∃ p q, e = .returned (.tuple #[p, q]) ∧ Second u Ls p q w' := by
  refine (new_any h).mono ?_
  rintro e w' (⟨hc, rfl, rfl⟩ | ⟨hc, g, ns, ad, cn, rfl, hM, hG, _⟩)
  · exact ⟨_, _, rfl, hu, .inl ⟨hc, rfl, rfl⟩⟩
  · exact ⟨_, _, rfl, hu.trans hM.below, .inr ⟨hc, w, g, ns, ad, cn, rfl, rfl, hM, hG⟩⟩

theorem twice_at {F full : HitL} {at_ len i : Nat} {h : Nat × Nat} (hi : full[i]? = some h) : twice F at_ len (full.drop i) = h :: ((if lastOf h (full.drop (i + 1)) then extra F at_ len h.2 else []) ++ twice F at_ len (full.drop (i + 1))) := by
  obtain ⟨h1, h2⟩ := List.getElem?_eq_some_iff.1 hi
  rw [List.drop_eq_getElem_cons h1, h2, twice]
theorem last_end {full : HitL} {i : Nat} {h : Nat × Nat} (hi : i + 1 = full.length) : lastOf h (full.drop (i + 1)) = true := by
  rw [hi, List.drop_length]
  rfl
theorem last_at {full : HitL} {i : Nat} {h x : Nat × Nat} (hi : full[i + 1]? = some x) : lastOf h (full.drop (i + 1)) = decide (h.2 < x.2) := by
  obtain ⟨h1, h2⟩ := List.getElem?_eq_some_iff.1 hi
  rw [List.drop_eq_getElem_cons h1, h2, lastOf]
def exTo (full : HitL) (at_ len E k : Nat) : HitL := extra (full.take k) at_ len E
theorem exTo_succ {full : HitL} {at_ len E k : Nat} {x : Nat × Nat} (h : full[k]? = some x) : exTo full at_ len E (k + 1) = exTo full at_ len E k ++ (if x.1 = at_ ∧ x.2 = E then [(len, E)] else []) := by
  obtain ⟨h1, h2⟩ := List.getElem?_eq_some_iff.1 h
  rw [exTo, List.take_succ_eq_append_getElem h1, h2, extra, List.filter_append, List.map_append]
  by_cases hp : x.1 = at_ ∧ x.2 = E
  · simp [hp, exTo, extra]
  · rw [if_neg hp]
    have : [x].filter (fun x => x.1 == at_ && x.2 == E) = [] := by
      rw [List.filter_eq_nil_iff]
      intro y hy
      rw [List.mem_singleton] at hy
      subst hy
      simpa using hp
    rw [this]
    simp [exTo, extra]
theorem exTo_len (full : HitL) (at_ len E k : Nat) : (exTo full at_ len E k).length ≤ k := by
  rw [exTo, extra, List.length_map]
  exact Nat.le_trans (List.length_filter_le _ _) (by rw [List.length_take]; omega)
theorem exTo_all (full : HitL) (at_ len E : Nat) : exTo full at_ len E full.length = extra full at_ len E := by rw [exTo, List.take_length]
/-- An owned row stays where another one grows. -/
theorem own_grown_apart {w w' : World} {b' s' n' : Nat} {e' : TypeId} {v v' : Value} {xs' : List Value} {o : Obj} (h' : w.ownsRow b' e' s' v' n' xs') (hap : ∀ k, v'.ownBlock = some k → v.ownBlock ≠ some k) (hg : (w.alloc o).grownBy w' v.ownBlock) : w'.ownsRow b' e' s' v' n' xs' :=
  own_fr h' (((Fr.refl w (fun k => v.ownBlock = some k)).alloc o).grown hg (fun k e _ => e)) (fun k hk e => hap k hk e)
theorem apart_next {w : World} {b' s' n' : Nat} {e' : TypeId} {v v2 v' : Value} {xs' : List Value} {o : Obj} (h' : w.ownsRow b' e' s' v' n' xs') (hap : ∀ k, v'.ownBlock = some k → v.ownBlock ≠ some k) (hat : v2.ownBlock = v.ownBlock ∨ v2.ownBlock = some (w.alloc o).heap.size) : ∀ k, v'.ownBlock = some k → v2.ownBlock ≠ some k := fun k hk e => by
  rcases hat with h1 | h1
  · exact hap k hk (h1 ▸ e)
  · rw [h1] at e
    have h2 := Option.some.inj e
    have h3 := (own_block h' k hk).2
    simp at h2
    omega
theorem blk_grown_apart {w w' : World} {g : Nat} {t : TypeId} {cs : Array Value} {v : Value} {o : Obj} (h : Blk w g t cs) (hap : v.ownBlock ≠ some g) (hg : (w.alloc o).grownBy w' v.ownBlock) : Blk w' g t cs := (h.alloc o).grown hg hap
theorem blk_next {w : World} {g : Nat} {t : TypeId} {cs : Array Value} {v v2 : Value} {o : Obj} (h : Blk w g t cs) (hap : v.ownBlock ≠ some g) (hat : v2.ownBlock = v.ownBlock ∨ v2.ownBlock = some (w.alloc o).heap.size) : v2.ownBlock ≠ some g := fun e => by
  rcases hat with h1 | h1
  · exact hap (h1 ▸ e)
  · rw [h1] at e
    have h2 := Option.some.inj e
    have h3 := h.lt
    simp at h2
    omega
theorem Drew.blk {w w' : World} {g : Nat} {t : TypeId} {cs : Array Value} (h : Drew w w') (hb : Blk w g t cs) : Blk w' g t cs := by
  obtain ⟨m, rfl⟩ := h
  exact hb
end Go.Proofs.Ytameecogopnkjaa.AW
