/- The filter's plain law: what the masks let pass, the places that may begin a literal, the hits in their order, pieces of a text. No program in sight. -/
import Derived.Test.YtkjpcincjoaeeaaTLanes
import Derived.Test.YtkjpcincjoaeeaaTRef3
namespace Go.Proofs.Ytkjpcincjoaeeaa.TM
open Go.RowKit
open Go.Proofs.Ytkjpcincjoaeeaa.LM Go.Proofs.Ytkjpcincjoaeeaa.B Go.Proofs.Ytkjpcincjoaeeaa.AM Go.Proofs.Ytkjpcincjoaeeaa.AW
open Go.Proofs.Ytkjpcincjoaeeaa.LW (loadF loadW nats nats_at nats_lt lane_loadW loadF_lt)
set_option linter.unusedVariables false

/-! ### Words -/
def pickF (t : Nat → Nat) (x : BitVec 64) (k : Nat) : Nat := t (lane x k % 16)
def pickW (t : Nat → Nat) (x : BitVec 64) : BitVec 64 := BitVec.ofNat 64 (wordTo (pickF t x) 8)
theorem pickF_lt {t : Nat → Nat} (ht : ∀ i, i < 16 → t i < 256) (x : BitVec 64) (k : Nat) : pickF t x k < 256 := ht _ (Nat.mod_lt _ (by decide))
theorem pickW_is {t : Nat → Nat} (ht : ∀ i, i < 16 → t i < 256) (x : BitVec 64) : (wordTo (pickF t x) 8 : Int) = W (pickW t x) := by
  have h := wordTo_lt (pickF t x) 8 (fun k _ => pickF_lt ht x k)
  rw [W, pickW, BitVec.toNat_ofNat, Nat.mod_eq_of_lt h]
theorem lane_pickW {t : Nat → Nat} (ht : ∀ i, i < 16 → t i < 256) (x : BitVec 64) (k : Nat) (hk : k < 8) : lane (pickW t x) k = t (lane x k % 16) := by
  refine lane_of_word _ (pickF t x) (fun j _ => pickF_lt ht x j) ?_ k hk
  have h := wordTo_lt (pickF t x) 8 (fun k _ => pickF_lt ht x k)
  rw [← wordTo_8, pickW, BitVec.toNat_ofNat, Nat.mod_eq_of_lt h]
theorem lane_shr4 (x : BitVec 64) (k : Nat) : lane (x >>> 4) k % 16 = lane x k / 16 := by
  simp only [lane, BitVec.toNat_ushiftRight, Nat.shiftRight_eq_div_pow]
  rw [Nat.div_div_eq_div_mul, show 2 ^ 4 * 2 ^ (8 * k) = 2 ^ (8 * k) * 16 by rw [Nat.mul_comm], ← Nat.div_div_eq_div_mul]
  generalize x.toNat / 2 ^ (8 * k) = q
  omega
theorem W_shr4 (x : BitVec 64) : W x / 16 = W (x >>> 4) := by
  simp only [W, BitVec.toNat_ushiftRight, Nat.shiftRight_eq_div_pow]
  omega
theorem loadF_nat (t : T) (i k : Nat) : loadF t (i : Int) k = at8 t (i + k) := by
  rw [loadF]
  by_cases h : i + k < t.length
  · rw [← nats_at t (i + k) h, show ((i : Int) + (k : Int)) = ((i + k : Nat) : Int) by omega]
  · rw [byteAt_out _ _ (by simp [nats]; omega)]
    simp [at8, List.getElem?_eq_none (Nat.le_of_not_lt h)]

/-! ### Masks -/
abbrev Mask := Nat → Nat → Nat
def passTo (lo hi : Mask) (t : T) (p : Nat) : Nat → Nat
  | 0 => 255
  | j + 1 => passTo lo hi t p j &&& (lo j (at8 t (p + j) % 16) &&& hi j (at8 t (p + j) / 16))
def allW (lo hi : Mask) (t : T) (i : Nat) : Nat → BitVec 64
  | 0 => full
  | j + 1 => allW lo hi t i j &&& (pickW (lo j) (loadW t (i + j : Nat)) &&& pickW (hi j) (loadW t (i + j : Nat) >>> 4))
def Small (m : Mask) : Prop := ∀ j, j < 3 → ∀ h, h < 16 → m j h < 256
theorem passTo_lt (lo hi : Mask) (t : T) (p j : Nat) : passTo lo hi t p j < 256 := by
  induction j with
  | zero => exact (by decide : (255 : Nat) < 256)
  | succ j ih => exact Nat.lt_of_le_of_lt Nat.and_le_left ih
theorem lane_allW {lo hi : Mask} (hl : Small lo) (hh : Small hi) (t : T) (i k : Nat) (hk : k < 8) : ∀ j, j ≤ 3 → lane (allW lo hi t i j) k = passTo lo hi t (i + k) j
  | 0, _ => lane_full k hk
  | j + 1, hj => by
    rw [allW, lane_and, lane_and, lane_allW hl hh t i k hk j (by omega), lane_pickW (hl j (by omega)) _ k hk, lane_pickW (hh j (by omega)) _ k hk, lane_shr4, lane_loadW _ _ _ hk, loadF_nat, passTo, show i + j + k = i + k + j by omega]
/-- A literal's bytes are in the masks under a bit. -/
def Has (lo hi : Mask) (l : T) (b : Nat) : Prop := ∀ k, k < 3 →
  (k < l.length → (lo k (at8 l k % 16)).testBit b = true ∧ (hi k (at8 l k / 16)).testBit b = true) ∧
  (l.length ≤ k → ∀ h, h < 16 → (lo k h).testBit b = true ∧ (hi k h).testBit b = true)
def Grow (m m' : Mask) : Prop := ∀ j h b, (m j h).testBit b = true → (m' j h).testBit b = true
theorem Grow.refl (m : Mask) : Grow m m := fun _ _ _ h => h
theorem Grow.trans {a b c : Mask} (h : Grow a b) (k : Grow b c) : Grow a c := fun j x y e => k j x y (h j x y e)
theorem Has.grow {lo hi lo' hi' : Mask} {l : T} {b : Nat} (h : Has lo hi l b) (hl : Grow lo lo') (hh : Grow hi hi') : Has lo' hi' l b := fun k hk =>
  ⟨fun h1 => ⟨hl _ _ _ ((h k hk).1 h1).1, hh _ _ _ ((h k hk).1 h1).2⟩, fun h1 x hx => ⟨hl _ _ _ ((h k hk).2 h1 x hx).1, hh _ _ _ ((h k hk).2 h1 x hx).2⟩⟩
theorem at8_pre {l t : T} {p k : Nat} (h : l <+: t.drop p) (hk : k < l.length) : at8 t (p + k) = at8 l k := by
  obtain ⟨r, hr⟩ := h
  have h1 : at8 (t.drop p) k = at8 l k := by
    rw [← hr]
    simp [at8, List.getElem?_append_left hk]
  rw [← h1, at8_drop]
theorem at8_256 (t : T) (i : Nat) : at8 t i < 256 := at8_lt t i
theorem pass_has {lo hi : Mask} {l t : T} {b p : Nat} (h : Has lo hi l b) (hb : b < 8) (hp : l <+: t.drop p) : ∀ j, j ≤ 3 → (passTo lo hi t p j).testBit b = true
  | 0, _ => by
    have : ∀ b : Fin 8, (255 : Nat).testBit b.val = true := by decide
    exact this ⟨b, hb⟩
  | j + 1, hj => by
    rw [passTo, Nat.testBit_and, Nat.testBit_and, pass_has h hb hp j (by omega)]
    have h1 := h j (by omega)
    have h2 := at8_lt t (p + j)
    by_cases hk : j < l.length
    · rw [at8_pre hp hk, (h1.1 hk).1, (h1.1 hk).2]; rfl
    · rw [(h1.2 (by omega) _ (Nat.mod_lt _ (by decide))).1, (h1.2 (by omega) (at8 t (p + j) / 16) (by omega)).2]; rfl
/-- One entry more. -/
def ored (m : Mask) (j h q : Nat) : Mask := fun j' h' => if j' = j ∧ h' = h then m j h ||| q else m j' h'
theorem ored_grow (m : Mask) (j h q : Nat) : Grow m (ored m j h q) := fun j' h' b e => by
  rw [ored]
  split
  · rename_i hh
    obtain ⟨rfl, rfl⟩ := hh
    rw [Nat.testBit_or, e]; rfl
  · exact e
theorem ored_at (m : Mask) (j h q b : Nat) (hq : q.testBit b = true) : (ored m j h q j h).testBit b = true := by
  rw [ored, if_pos ⟨rfl, rfl⟩, Nat.testBit_or, hq, Bool.or_true]
theorem or_256 {a b : Nat} (ha : a < 256) (hb : b < 256) : a ||| b < 256 := Nat.or_lt_two_pow (n := 8) ha hb
theorem ored_small {m : Mask} (h : Small m) (j x q : Nat) (hq : q < 256) : Small (ored m j x q) := fun j' hj h' hh => by
  rw [ored]
  split
  · rename_i e
    obtain ⟨rfl, rfl⟩ := e
    exact or_256 (h _ hj _ hh) hq
  · exact h _ hj _ hh
/-- What 'note' has done after some of the masks. -/
def HasTo (lo hi : Mask) (l : T) (b n : Nat) : Prop := ∀ k, k < n →
  (k < l.length → (lo k (at8 l k % 16)).testBit b = true ∧ (hi k (at8 l k / 16)).testBit b = true) ∧
  (l.length ≤ k → ∀ h, h < 16 → (lo k h).testBit b = true ∧ (hi k h).testBit b = true)
theorem HasTo.grow {lo hi lo' hi' : Mask} {l : T} {b n : Nat} (h : HasTo lo hi l b n) (hl : Grow lo lo') (hh : Grow hi hi') : HasTo lo' hi' l b n := fun k hk =>
  ⟨fun h1 => ⟨hl _ _ _ ((h k hk).1 h1).1, hh _ _ _ ((h k hk).1 h1).2⟩, fun h1 x hx => ⟨hl _ _ _ ((h k hk).2 h1 x hx).1, hh _ _ _ ((h k hk).2 h1 x hx).2⟩⟩
theorem HasTo.short {lo hi lo' hi' : Mask} {l : T} {b n : Nat} (h : HasTo lo hi l b n) (hl : Grow lo lo') (hh : Grow hi hi') (hn : n < l.length) (h1 : (lo' n (at8 l n % 16)).testBit b = true) (h2 : (hi' n (at8 l n / 16)).testBit b = true) : HasTo lo' hi' l b (n + 1) := fun k hk => by
  rcases Nat.lt_or_ge k n with e | e
  · exact (h.grow hl hh) k e
  · obtain rfl : k = n := by omega
    exact ⟨fun _ => ⟨h1, h2⟩, fun e => by omega⟩
theorem HasTo.long {lo hi lo' hi' : Mask} {l : T} {b n : Nat} (h : HasTo lo hi l b n) (hl : Grow lo lo') (hh : Grow hi hi') (hn : l.length ≤ n) (h1 : ∀ h, h < 16 → (lo' n h).testBit b = true ∧ (hi' n h).testBit b = true) : HasTo lo' hi' l b (n + 1) := fun k hk => by
  rcases Nat.lt_or_ge k n with e | e
  · exact (h.grow hl hh) k e
  · obtain rfl : k = n := by omega
    exact ⟨fun e => by omega, fun _ => h1⟩

/-! ### What is found -/
abbrev HitL := List (Nat × Nat)
def bucket (n b : Nat) : List Nat := (List.range n).filter fun i => i % 8 == b
theorem mem_bucket (n b i : Nat) : i ∈ bucket n b ↔ i < n ∧ i % 8 = b := by simp [bucket]
theorem bucket_succ (n b : Nat) : bucket (n + 1) b = bucket n b ++ (if n % 8 = b then [n] else []) := by
  rw [bucket, List.range_succ, List.filter_append, bucket]
  congr 1
  by_cases h : n % 8 = b
  · simp [h]
  · simp [h]
theorem bucket_nodup (n b : Nat) : (bucket n b).Nodup := List.Pairwise.filter _ List.nodup_range
theorem bucket_len (n b : Nat) : (bucket n b).length ≤ n := Nat.le_trans (List.length_filter_le _ _) (by rw [List.length_range]; exact Nat.le_refl _)
/-- The hits of some literals at a place. -/
def conf (Ls : List T) (t : T) (p : Nat) (ids : List Nat) : HitL := (ids.filter fun i => (Ls.getD i []).isPrefixOf (t.drop p)).map fun i => (i, p + (Ls.getD i []).length)
theorem conf_snoc (Ls : List T) (t : T) (p : Nat) (ids : List Nat) (i : Nat) : conf Ls t p (ids ++ [i]) = conf Ls t p ids ++ (if (Ls.getD i []).isPrefixOf (t.drop p) then [(i, p + (Ls.getD i []).length)] else []) := by
  rw [conf, List.filter_append, List.map_append, conf]
  congr 1
  rw [List.filter_cons]
  by_cases h : (Ls.getD i []).isPrefixOf (t.drop p) = true
  · rw [if_pos h, if_pos h]; rfl
  · rw [if_neg h, if_neg h]; rfl
theorem conf_len (Ls : List T) (t : T) (p : Nat) (ids : List Nat) : (conf Ls t p ids).length ≤ ids.length := by
  rw [conf, List.length_map]; exact List.length_filter_le _ _
/-- The hits at a place of the first buckets whose bit is set. -/
def atB (Ls : List T) (t : T) (set p : Nat) : Nat → HitL
  | 0 => []
  | b + 1 => atB Ls t set p b ++ (if set.testBit b then conf Ls t p (bucket Ls.length b) else [])
def atTo (Ls : List T) (t : T) (P : Nat → Nat) : Nat → HitL
  | 0 => []
  | p + 1 => atTo Ls t P p ++ atB Ls t (P p) p 8
theorem mem_conf (Ls : List T) (t : T) (p : Nat) (ids : List Nat) (x : Nat × Nat) : x ∈ conf Ls t p ids ↔ x.1 ∈ ids ∧ Ls.getD x.1 [] <+: t.drop p ∧ x.2 = p + (Ls.getD x.1 []).length := by
  rw [conf, List.mem_map]
  constructor
  · rintro ⟨i, hi, rfl⟩
    rw [List.mem_filter, List.isPrefixOf_iff_prefix] at hi
    exact ⟨hi.1, hi.2, rfl⟩
  · rintro ⟨h1, h2, h3⟩
    exact ⟨x.1, by rw [List.mem_filter, List.isPrefixOf_iff_prefix]; exact ⟨h1, h2⟩, by rw [← h3]⟩
theorem mem_atB (Ls : List T) (t : T) (set p : Nat) (x : Nat × Nat) : ∀ n, x ∈ atB Ls t set p n ↔ x.1 < Ls.length ∧ x.1 % 8 < n ∧ set.testBit (x.1 % 8) = true ∧ Ls.getD x.1 [] <+: t.drop p ∧ x.2 = p + (Ls.getD x.1 []).length
  | 0 => by simp [atB]
  | n + 1 => by
    rw [atB, List.mem_append, mem_atB Ls t set p x n]
    by_cases h : set.testBit n = true
    · rw [if_pos h, mem_conf, mem_bucket]
      constructor
      · rintro (⟨h1, h2, h3⟩ | ⟨⟨h1, h2⟩, h3⟩)
        · exact ⟨h1, by omega, h3⟩
        · exact ⟨h1, by omega, by rw [h2]; exact h, h3⟩
      · rintro ⟨h1, h2, h3, h4⟩
        rcases Nat.lt_or_ge (x.1 % 8) n with e | e
        · exact .inl ⟨h1, e, h3, h4⟩
        · exact .inr ⟨⟨h1, by omega⟩, h4⟩
    · rw [if_neg h]
      constructor
      · rintro (⟨h1, h2, h3⟩ | h1)
        · exact ⟨h1, by omega, h3⟩
        · cases h1
      · rintro ⟨h1, h2, h3, h4⟩
        rcases Nat.lt_or_ge (x.1 % 8) n with e | e
        · exact .inl ⟨h1, e, h3, h4⟩
        · have : x.1 % 8 = n := by omega
          rw [this] at h3
          exact absurd h3 h
theorem mem_atTo (Ls : List T) (t : T) (P : Nat → Nat) (x : Nat × Nat) : ∀ n, x ∈ atTo Ls t P n ↔ ∃ p, p < n ∧ x.1 < Ls.length ∧ (P p).testBit (x.1 % 8) = true ∧ Ls.getD x.1 [] <+: t.drop p ∧ x.2 = p + (Ls.getD x.1 []).length
  | 0 => by simp [atTo]
  | n + 1 => by
    rw [atTo, List.mem_append, mem_atTo Ls t P x n, mem_atB]
    constructor
    · rintro (⟨p, hp, h⟩ | ⟨h1, _, h⟩)
      · exact ⟨p, by omega, h⟩
      · exact ⟨n, by omega, h1, h⟩
    · rintro ⟨p, hp, h1, h2, h3⟩
      rcases Nat.lt_or_ge p n with e | e
      · exact .inl ⟨p, e, h1, h2, h3⟩
      · obtain rfl : p = n := by omega
        exact .inr ⟨h1, Nat.mod_lt _ (by decide), h2, h3⟩
theorem conf_nodup (Ls : List T) (t : T) (p : Nat) {ids : List Nat} (h : ids.Nodup) : (conf Ls t p ids).Nodup := by
  rw [conf]
  refine List.Pairwise.map _ ?_ (List.Pairwise.filter _ h)
  intro a b hab e
  exact hab (congrArg Prod.fst e)
theorem atB_nodup (Ls : List T) (t : T) (set p : Nat) : ∀ n, (atB Ls t set p n).Nodup
  | 0 => List.nodup_nil
  | n + 1 => by
    rw [atB, List.nodup_append]
    refine ⟨atB_nodup Ls t set p n, ?_, fun x hx y hy e => ?_⟩
    · split
      · exact conf_nodup Ls t p (bucket_nodup _ _)
      · exact List.nodup_nil
    · subst e
      have h1 := ((mem_atB Ls t set p x n).1 hx).2.1
      split at hy
      · have h2 := ((mem_bucket _ _ _).1 ((mem_conf _ _ _ _ _).1 hy).1).2
        omega
      · cases hy
theorem atTo_nodup (Ls : List T) (t : T) (P : Nat → Nat) : ∀ n, (atTo Ls t P n).Nodup
  | 0 => List.nodup_nil
  | n + 1 => by
    rw [atTo, List.nodup_append]
    refine ⟨atTo_nodup Ls t P n, atB_nodup _ _ _ _ _, fun x hx y hy e => ?_⟩
    subst e
    obtain ⟨p, hp, _, _, _, h1⟩ := (mem_atTo Ls t P x n).1 hx
    obtain ⟨_, _, _, _, h2⟩ := (mem_atB Ls t (P n) n x 8).1 hy
    omega
/-- The order of hits. -/
def before (x y : Nat × Nat) : Prop := x.2 < y.2 ∨ (x.2 = y.2 ∧ x.1 < y.1)
theorem before_irrefl (x : Nat × Nat) : ¬ before x x := by unfold before; omega
theorem before_trans {x y z : Nat × Nat} (h : before x y) (k : before y z) : before x z := by unfold before at *; omega
theorem before_total (x y : Nat × Nat) (h : x ≠ y) : before x y ∨ before y x := by
  unfold before
  obtain ⟨a, b⟩ := x
  obtain ⟨c, d⟩ := y
  have : a ≠ c ∨ b ≠ d := by
    by_cases e : a = c
    · exact .inr (fun e2 => h (by rw [e, e2]))
    · exact .inl e
  simp only
  omega
theorem ordered_eq {a b : HitL} (ha : a.Pairwise before) (hb : b.Pairwise before) (h : ∀ k, k ∈ a ↔ k ∈ b) : a = b := by
  induction a generalizing b with
  | nil =>
    cases b with
    | nil => rfl
    | cons y b => exact absurd ((h y).2 (List.mem_cons_self ..)) (by simp)
  | cons x a ih =>
    cases b with
    | nil => exact absurd ((h x).1 (List.mem_cons_self ..)) (by simp)
    | cons y b =>
      rw [List.pairwise_cons] at ha hb
      have hxy : x = y := by
        have h1 := (h x).1 (List.mem_cons_self ..)
        have h2 := (h y).2 (List.mem_cons_self ..)
        rcases List.mem_cons.1 h1 with e | e
        · exact e
        · rcases List.mem_cons.1 h2 with e' | e'
          · exact e'.symm
          · exact absurd (before_trans (hb.1 x e) (ha.1 y e')) (before_irrefl y)
      subst hxy
      rw [ih ha.2 hb.2]
      intro k
      have h1 := h k
      rw [List.mem_cons, List.mem_cons] at h1
      constructor
      · intro hk
        rcases h1.1 (.inr hk) with e | e
        · subst e; exact absurd (ha.1 _ hk) (before_irrefl _)
        · exact e
      · intro hk
        rcases h1.2 (.inr hk) with e | e
        · subst e; exact absurd (hb.1 _ hk) (before_irrefl _)
        · exact e
theorem mem_scanTo (Ls : List T) (t : T) (x : Nat × Nat) : ∀ n, x ∈ scanTo Ls t n ↔ 0 < x.2 ∧ x.2 ≤ n ∧ x.1 < Ls.length ∧ Ls.getD x.1 [] <:+ t.take x.2
  | 0 => by
    simp [scanTo]
    omega
  | n + 1 => by
    rw [scanTo_succ, List.mem_append, mem_scanTo Ls t x n, found, List.mem_map]
    constructor
    · rintro (⟨h1, h2, h3⟩ | ⟨i, hi, rfl⟩)
      · exact ⟨h1, by omega, h3⟩
      · rw [mem_hits] at hi
        exact ⟨by simp, by simp, hi⟩
    · rintro ⟨h1, h2, h3⟩
      rcases Nat.lt_or_ge x.2 (n + 1) with e | e
      · exact .inl ⟨h1, by omega, h3⟩
      · have e2 : x.2 = n + 1 := by omega
        refine .inr ⟨x.1, by rw [mem_hits, ← e2]; exact h3, by rw [← e2]⟩
theorem scanTo_ordered (Ls : List T) (t : T) : ∀ n, (scanTo Ls t n).Pairwise before
  | 0 => by simp [scanTo]
  | n + 1 => by
    rw [scanTo_succ, List.pairwise_append]
    refine ⟨scanTo_ordered Ls t n, ?_, fun x hx y hy => ?_⟩
    · rw [found]
      refine List.Pairwise.map _ ?_ (hits_sorted Ls (t.take (n + 1)))
      intro a b hab
      exact .inr ⟨rfl, hab⟩
    · have h1 := ((mem_scanTo Ls t x n).1 hx).2.1
      obtain ⟨i, _, rfl⟩ := List.mem_map.1 hy
      exact .inl (by simp only; omega)
theorem pre_suf {l t : T} {p : Nat} (hp : p + l.length ≤ t.length) : l <+: t.drop p ↔ l <:+ t.take (p + l.length) := by
  rw [List.prefix_iff_eq_take, List.suffix_iff_eq_drop, List.length_take, Nat.min_eq_left hp, Nat.add_sub_cancel, List.drop_take, Nat.add_sub_cancel_left]
/-- What the filter finds, put in order, is what is there. -/
theorem found_all {Ls : List T} {t : T} {P : Nat → Nat} (h0 : ∀ l ∈ Ls, l ≠ []) (hP : ∀ p i, i < Ls.length → Ls.getD i [] <+: t.drop p → (P p).testBit (i % 8) = true) {d : HitL} (hp : d.Perm (atTo Ls t P t.length)) (hs : d.Pairwise fun x y => ¬ before y x) : d = scanTo Ls t t.length := by
  have hnd : d.Nodup := hp.nodup_iff.2 (atTo_nodup Ls t P t.length)
  have hlt : d.Pairwise before := (hs.and hnd).imp (fun ⟨h1, h2⟩ => (before_total _ _ h2).elim id (fun h => absurd h h1))
  refine ordered_eq hlt (scanTo_ordered Ls t t.length) fun x => ?_
  have hne : x.1 < Ls.length → 0 < (Ls.getD x.1 []).length := fun hx => by
    have : Ls.getD x.1 [] ∈ Ls := by rw [List.getD_eq_getElem?_getD, List.getElem?_eq_getElem hx]; exact List.getElem_mem hx
    exact List.length_pos_iff.2 (h0 _ this)
  rw [hp.mem_iff, mem_atTo, mem_scanTo]
  constructor
  · rintro ⟨p, hpn, h1, _, h3, h4⟩
    have hl := h3.length_le
    rw [List.length_drop] at hl
    have := hne h1
    refine ⟨by omega, by omega, h1, ?_⟩
    rw [h4]
    exact (pre_suf (by omega)).1 h3
  · rintro ⟨h1, h2, h3, h4⟩
    have hl := h4.length_le
    rw [List.length_take] at hl
    have := hne h3
    have e : x.2 = x.2 - (Ls.getD x.1 []).length + (Ls.getD x.1 []).length := by omega
    have h5 : Ls.getD x.1 [] <+: t.drop (x.2 - (Ls.getD x.1 []).length) := by
      rw [pre_suf (by omega), ← e]
      exact h4
    exact ⟨x.2 - (Ls.getD x.1 []).length, by omega, h3, hP _ _ h3 h5, h5, e⟩
end Go.Proofs.Ytkjpcincjoaeeaa.TM
