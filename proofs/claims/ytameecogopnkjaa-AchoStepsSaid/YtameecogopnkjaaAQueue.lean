/- The machine's states: the tree of what literals begin with; the queue that links them, the shorter texts first. Plain law, no program in sight. -/
import Derived.Test.YtameecogopnkjaaAMath
namespace Go.Proofs.Ytameecogopnkjaa.AM

/-- A state; the last four tell where its texts lie in memory. -/
structure Nd where
  pre : T
  next : Nat → Int
  fail : Int
  hits : List Nat
  pA : Option Addr
  pc : Nat
  hA : Option Addr
  hc : Nat
def upd (f : Nat → Int) (b : Nat) (v : Int) : Nat → Int := fun j => if j = b then v else f j

theorem getElem?_set' {α : Type} (l : List α) (i j : Nat) (a : α) (h : i < l.length) : (l.set i a)[j]? = if j = i then some a else l[j]? := by
  rw [List.getElem?_set]
  by_cases e : i = j
  · subst e; simp [h]
  · simp [e, Ne.symm e]

/-! ### The tree -/
structure Trie (S : T → Prop) (H : T → List Nat) (ns : List Nd) : Prop where
  root : ∃ nd : Nd, ns[0]? = some nd ∧ nd.pre = []
  dist : ∀ (i j : Nat) (a b : Nd), ns[i]? = some a → ns[j]? = some b → a.pre = b.pre → i = j
  mem : ∀ x, S x ↔ ∃ (i : Nat) (nd : Nd), ns[i]? = some nd ∧ nd.pre = x
  next : ∀ (i : Nat) (nd : Nd), ns[i]? = some nd → ∀ b : UInt8, (∃ (j : Nat) (nd' : Nd), nd.next b.toNat = (j : Int) ∧ ns[j]? = some nd' ∧ nd'.pre = nd.pre ++ [b]) ∨ (nd.next b.toNat = -1 ∧ ¬ S (nd.pre ++ [b]))
  hits : ∀ (i : Nat) (nd : Nd), ns[i]? = some nd → nd.hits = H nd.pre
  closed : ∀ x c, S (x ++ [c]) → S x
theorem Trie.congr {S S' : T → Prop} {H H' : T → List Nat} {ns : List Nd} (h : Trie S H ns) (hS : ∀ x, S x ↔ S' x) (hH : ∀ x, S x → H x = H' x) : Trie S' H' ns := by
  have e : S = S' := funext fun x => propext (hS x)
  subst e
  exact ⟨h.root, h.dist, h.mem, h.next, fun i nd hi => by rw [h.hits i nd hi]; exact hH _ ((h.mem _).2 ⟨i, nd, hi, rfl⟩), h.closed⟩
theorem Trie.start (nd : Nd) (h1 : nd.pre = []) (h2 : ∀ b, b < 256 → nd.next b = -1) (h3 : nd.hits = []) : Trie (fun x => x = []) (fun _ => []) [nd] := by
  have h0 : ∀ (i : Nat) (a : Nd), [nd][i]? = some a → i = 0 ∧ a = nd := fun i a h => by
    cases i with
    | zero => simp at h; exact ⟨rfl, h.symm⟩
    | succ i => simp at h
  refine ⟨⟨nd, rfl, h1⟩, fun i j a b ha hb _ => by rw [(h0 i a ha).1, (h0 j b hb).1], fun x => ⟨fun h => ⟨0, nd, rfl, by rw [h1, h]⟩, ?_⟩, fun i a ha b => .inr ⟨?_, ?_⟩, fun i a ha => ?_, fun x c h => ?_⟩
  · rintro ⟨i, a, ha, rfl⟩
    rw [(h0 i a ha).2, h1]
  · rw [(h0 i a ha).2]; exact h2 _ (UInt8.toNat_lt b)
  · simp
  · rw [(h0 i a ha).2, h3]
  · simp at h
/-- A state more, and the way to it. -/
theorem Trie.add {S : T → Prop} {H : T → List Nat} {ns : List Nd} (h : Trie S H ns) {s : Nat} {nd nd' new : Nd} {b : UInt8} (hs : ns[s]? = some nd) (hb : nd.next b.toNat < 0)
    (hn1 : new.pre = nd.pre ++ [b]) (hn2 : ∀ c, c < 256 → new.next c = -1) (hn3 : new.hits = []) (hH : ¬ S (nd.pre ++ [b]) → H (nd.pre ++ [b]) = [])
    (he1 : nd'.pre = nd.pre) (he2 : nd'.next = upd nd.next b.toNat (ns.length : Int)) (he3 : nd'.hits = nd.hits) :
    Trie (fun x => S x ∨ x = nd.pre ++ [b]) H ((ns ++ [new]).set s nd') := by
  have hsl : s < ns.length := (List.getElem?_eq_some_iff.1 hs).1
  have hno : ¬ S (nd.pre ++ [b]) := by
    rcases h.next s nd hs b with ⟨j, _, e, _⟩ | ⟨_, e⟩
    · rw [e] at hb; omega
    · exact e
  have hg : ∀ (j : Nat) (a : Nd), ((ns ++ [new]).set s nd')[j]? = some a → (j = s ∧ a = nd') ∨ (j ≠ s ∧ ns[j]? = some a) ∨ (j = ns.length ∧ a = new) := fun j a hj => by
    rw [getElem?_set' _ _ _ _ (by simp; omega)] at hj
    split at hj
    · rename_i e; injection hj with hj; exact .inl ⟨e, hj.symm⟩
    · rename_i e
      rcases Nat.lt_or_ge j ns.length with hlt | hge
      · rw [List.getElem?_append_left hlt] at hj; exact .inr (.inl ⟨e, hj⟩)
      · rw [List.getElem?_append_right hge] at hj
        have h0 : j - ns.length = 0 := by
          have := (List.getElem?_eq_some_iff.1 hj).1
          simp at this; omega
        rw [h0] at hj
        simp at hj
        exact .inr (.inr ⟨by omega, hj.symm⟩)
  have hold : ∀ (j : Nat) (a : Nd), ns[j]? = some a → j ≠ s → ((ns ++ [new]).set s nd')[j]? = some a := fun j a hj hne => by
    have hlt := (List.getElem?_eq_some_iff.1 hj).1
    rw [getElem?_set' _ _ _ _ (by simp; omega), if_neg hne, List.getElem?_append_left hlt]
    exact hj
  have hsn : ((ns ++ [new]).set s nd')[s]? = some nd' := by rw [getElem?_set' _ _ _ _ (by simp; omega), if_pos rfl]
  have hnn : ((ns ++ [new]).set s nd')[ns.length]? = some new := by
    rw [getElem?_set' _ _ _ _ (by simp; omega), if_neg (by omega)]; simp
  have hold' : ∀ (j : Nat) (a : Nd), ns[j]? = some a → ∃ a' : Nd, ((ns ++ [new]).set s nd')[j]? = some a' ∧ a'.pre = a.pre := fun j a hj => by
    by_cases e : j = s
    · subst e
      rw [hs] at hj; injection hj with hj; subst hj
      exact ⟨nd', hsn, he1⟩
    · exact ⟨a, hold j a hj e, rfl⟩
  refine ⟨?_, ?_, ?_, ?_, ?_, ?_⟩
  · obtain ⟨r, hr, e⟩ := h.root
    obtain ⟨r', h1, h2⟩ := hold' 0 r hr
    exact ⟨r', h1, h2.trans e⟩
  · have key : ∀ (j : Nat) (a : Nd), ((ns ++ [new]).set s nd')[j]? = some a → (∃ a0 : Nd, ns[j]? = some a0 ∧ a.pre = a0.pre) ∨ (j = ns.length ∧ a.pre = nd.pre ++ [b]) := fun j a hj => by
      rcases hg j a hj with ⟨rfl, rfl⟩ | ⟨_, h1⟩ | ⟨h1, rfl⟩
      · exact .inl ⟨nd, hs, he1⟩
      · exact .inl ⟨a, h1, rfl⟩
      · exact .inr ⟨h1, hn1⟩
    intro i j a c ha hc e
    rcases key i a ha with ⟨a0, h1, h2⟩ | ⟨h1, h2⟩ <;> rcases key j c hc with ⟨c0, h3, h4⟩ | ⟨h3, h4⟩
    · exact h.dist i j a0 c0 h1 h3 (by rw [← h2, ← h4, e])
    · exact absurd ((h.mem _).2 ⟨i, a0, h1, by rw [← h2, e, h4]⟩) hno
    · exact absurd ((h.mem _).2 ⟨j, c0, h3, by rw [← h4, ← e, h2]⟩) hno
    · omega
  · intro x
    constructor
    · rintro (hx | rfl)
      · obtain ⟨i, a, h1, h2⟩ := (h.mem x).1 hx
        obtain ⟨a', h3, h4⟩ := hold' i a h1
        exact ⟨i, a', h3, h4.trans h2⟩
      · exact ⟨ns.length, new, hnn, hn1⟩
    · rintro ⟨j, a, hj, rfl⟩
      rcases hg j a hj with ⟨rfl, rfl⟩ | ⟨_, h1⟩ | ⟨_, rfl⟩
      · exact .inl ((h.mem _).2 ⟨j, nd, hs, he1.symm⟩)
      · exact .inl ((h.mem _).2 ⟨j, a, h1, rfl⟩)
      · exact .inr hn1
  · intro j a hj c
    rcases hg j a hj with ⟨rfl, rfl⟩ | ⟨hne, h1⟩ | ⟨_, rfl⟩
    · rw [he1, he2]
      by_cases e : c = b
      · subst e
        exact .inl ⟨ns.length, new, by simp [upd], hnn, hn1⟩
      · have hcb : ¬ c.toNat = b.toNat := fun e2 => e (UInt8.toNat_inj.1 e2)
        simp only [upd, if_neg hcb]
        rcases h.next j nd hs c with ⟨k, n2, h1, h2, h3⟩ | ⟨h1, h2⟩
        · obtain ⟨n3, h4, h5⟩ := hold' k n2 h2
          exact .inl ⟨k, n3, h1, h4, h5.trans h3⟩
        · refine .inr ⟨h1, fun e2 => ?_⟩
          rcases e2 with e2 | e2
          · exact h2 e2
          · have := List.append_inj_right' e2 rfl
            simp at this
            exact e this
    · rcases h.next j a h1 c with ⟨k, n2, h3, h4, h5⟩ | ⟨h3, h4⟩
      · obtain ⟨n3, h6, h7⟩ := hold' k n2 h4
        exact .inl ⟨k, n3, h3, h6, h7.trans h5⟩
      · refine .inr ⟨h3, fun e2 => ?_⟩
        rcases e2 with e2 | e2
        · exact h4 e2
        · have h8 := List.append_inj_left' e2 rfl
          exact hne (h.dist j s a nd h1 hs h8)
    · refine .inr ⟨hn2 _ (UInt8.toNat_lt c), fun e2 => ?_⟩
      rw [hn1] at e2
      rcases e2 with e2 | e2
      · exact hno (h.closed _ _ e2)
      · have := congrArg List.length e2
        simp at this
  · intro j a hj
    rcases hg j a hj with ⟨rfl, rfl⟩ | ⟨_, h1⟩ | ⟨_, rfl⟩
    · rw [he3, he1]; exact h.hits j nd hs
    · exact h.hits j a h1
    · rw [hn3, hn1, hH hno]
  · rintro x c (hx | hx)
    · exact .inl (h.closed x c hx)
    · have h1 := List.append_inj_left' hx rfl
      subst h1
      exact .inl ((h.mem _).2 ⟨s, nd, hs, rfl⟩)
/-- A number more at a state. -/
theorem Trie.hit {S : T → Prop} {H : T → List Nat} {ns : List Nd} (h : Trie S H ns) {s id : Nat} {nd nd' : Nd} (hs : ns[s]? = some nd) (he1 : nd'.pre = nd.pre) (he2 : nd'.next = nd.next) (he3 : nd'.hits = nd.hits ++ [id]) :
    Trie S (fun x => H x ++ (if nd.pre = x then [id] else [])) (ns.set s nd') := by
  have hsl : s < ns.length := (List.getElem?_eq_some_iff.1 hs).1
  have hg : ∀ (j : Nat) (a : Nd), (ns.set s nd')[j]? = some a → ∃ a0 : Nd, ns[j]? = some a0 ∧ a.pre = a0.pre ∧ a.next = a0.next ∧ a.hits = a0.hits ++ (if j = s then [id] else []) := fun j a hj => by
    rw [getElem?_set' _ _ _ _ hsl] at hj
    split at hj
    · rename_i e
      injection hj with hj
      subst hj; subst e
      exact ⟨nd, hs, he1, he2, by rw [if_pos rfl, he3]⟩
    · rename_i e
      exact ⟨a, hj, rfl, rfl, by rw [if_neg e, List.append_nil]⟩
  have hold : ∀ (j : Nat) (a : Nd), ns[j]? = some a → ∃ a' : Nd, (ns.set s nd')[j]? = some a' ∧ a'.pre = a.pre := fun j a hj => by
    by_cases e : j = s
    · subst e
      rw [hs] at hj; injection hj with hj; subst hj
      exact ⟨nd', by rw [getElem?_set' _ _ _ _ hsl, if_pos rfl], he1⟩
    · exact ⟨a, by rw [getElem?_set' _ _ _ _ hsl, if_neg e]; exact hj, rfl⟩
  refine ⟨?_, ?_, ?_, ?_, ?_, h.closed⟩
  · obtain ⟨r, hr, e⟩ := h.root
    obtain ⟨r', h1, h2⟩ := hold 0 r hr
    exact ⟨r', h1, h2.trans e⟩
  · intro i j a c ha hc e
    obtain ⟨a0, h1, h2, _⟩ := hg i a ha
    obtain ⟨c0, h3, h4, _⟩ := hg j c hc
    exact h.dist i j a0 c0 h1 h3 (by rw [← h2, ← h4, e])
  · intro x
    rw [h.mem]
    constructor
    · rintro ⟨i, a, h1, h2⟩
      obtain ⟨a', h3, h4⟩ := hold i a h1
      exact ⟨i, a', h3, h4.trans h2⟩
    · rintro ⟨i, a, h1, h2⟩
      obtain ⟨a0, h3, h4, _⟩ := hg i a h1
      exact ⟨i, a0, h3, h4.symm.trans h2⟩
  · intro i a ha c
    obtain ⟨a0, h1, h2, h3, _⟩ := hg i a ha
    rw [h2, h3]
    rcases h.next i a0 h1 c with ⟨k, n2, h4, h5, h6⟩ | h4
    · obtain ⟨n3, h7, h8⟩ := hold k n2 h5
      exact .inl ⟨k, n3, h4, h7, h8.trans h6⟩
    · exact .inr h4
  · intro i a ha
    obtain ⟨a0, h1, h2, _, h4⟩ := hg i a ha
    rw [h4, h.hits i a0 h1, h2]
    congr 1
    by_cases e : i = s
    · subst e
      rw [hs] at h1; injection h1 with h1; subst h1
      rw [if_pos rfl, if_pos rfl]
    · rw [if_neg e, if_neg (fun e2 => e (h.dist i s a0 nd h1 hs e2.symm))]

/-! ### The queue -/
/-- The states' texts: the first is empty, no two are one, and they are what literals begin with. -/
structure Pres (Ls : List T) (P : List T) : Prop where
  root : P[0]? = some []
  dist : ∀ (i j : Nat) (x : T), P[i]? = some x → P[j]? = some x → i = j
  mem : ∀ x, isPre Ls x = true ↔ ∃ i : Nat, P[i]? = some x
/-- The (k, b) that are behind us: all bytes of the states ahead of 'at', and the bytes below 'bb' of that one. -/
def Behind (a bb k b : Nat) : Prop := k < a ∨ (k = a ∧ b < bb)
structure Que (P : List T) (Q : List Nat) (a bb : Nat) : Prop where
  nodup : ∀ (i j t : Nat), Q[i]? = some t → Q[j]? = some t → i = j
  first : Q[0]? = some 0
  lt : ∀ (i t : Nat), Q[i]? = some t → t < P.length
  parent : ∀ (i t : Nat) (x : T), Q[i]? = some t → t ≠ 0 → P[t]? = some x → ∃ (k s : Nat) (y : T) (b : UInt8), Q[k]? = some s ∧ Behind a bb k b.toNat ∧ P[s]? = some y ∧ x = y ++ [b]
  child : ∀ (k s j : Nat) (y : T) (b : UInt8), Q[k]? = some s → Behind a bb k b.toNat → P[s]? = some y → P[j]? = some (y ++ [b]) → ∃ i : Nat, Q[i]? = some j
  depth : ∀ (k k' s s' : Nat) (x x' : T), k ≤ k' → Q[k]? = some s → Q[k']? = some s' → P[s]? = some x → P[s']? = some x' → x.length ≤ x'.length
  depth1 : ∀ (k t s : Nat) (x y : T), Q[k]? = some t → Q[a]? = some s → P[t]? = some x → P[s]? = some y → x.length ≤ y.length + 1
theorem Que.start {Ls : List T} {P : List T} (hP : Pres Ls P) : Que P [0] 0 0 := by
  have h0 : ∀ (i t : Nat), [0][i]? = some t → i = 0 ∧ t = 0 := fun i t h => by
    cases i with
    | zero => simp at h; exact ⟨rfl, h.symm⟩
    | succ i => simp at h
  refine ⟨fun i j t h1 h2 => by rw [(h0 i t h1).1, (h0 j t h2).1], rfl, fun i t h => ?_, fun i t x h hne => absurd (h0 i t h).2 hne, fun k s j y b h1 h2 => ?_, fun k k' s s' x x' _ h1 h2 h3 h4 => ?_, fun k t s x y h1 h2 h3 h4 => ?_⟩
  · rw [(h0 i t h).2]; exact (List.getElem?_eq_some_iff.1 hP.root).1
  · rcases h2 with h2 | ⟨_, h2⟩ <;> omega
  · rw [(h0 k s h1).2] at h3; rw [(h0 k' s' h2).2, h3] at h4; injection h4 with h4; rw [h4]; exact Nat.le_refl _
  · rw [(h0 k t h1).2] at h3; rw [(h0 0 s h2).2, h3] at h4; injection h4 with h4; rw [h4]; omega
/-- What is no longer than the state that we are at is in the queue; what is shorter is behind us. -/
theorem Que.ranked {Ls : List T} {P : List T} {Q : List Nat} {a bb : Nat} (hP : Pres Ls P) (h : Que P Q a bb) {s : Nat} {y : T} (hs : Q[a]? = some s) (hy : P[s]? = some y) :
    ∀ (n : Nat) (t : Nat) (x : T), x.length = n → P[t]? = some x → x.length ≤ y.length → (∃ k : Nat, Q[k]? = some t) ∧ (x.length < y.length → ∃ k : Nat, k < a ∧ Q[k]? = some t) := by
  intro n
  induction n with
  | zero =>
    intro t x hn ht hle
    obtain rfl : x = [] := List.eq_nil_of_length_eq_zero hn
    obtain rfl : t = 0 := hP.dist t 0 [] ht hP.root
    refine ⟨⟨0, h.first⟩, fun hlt => ⟨0, ?_, h.first⟩⟩
    rcases Nat.eq_zero_or_pos a with e | e
    · subst e
      rw [h.first] at hs
      injection hs with hs
      subst hs
      rw [hP.root] at hy
      injection hy with hy
      subst hy
      exact absurd hlt (Nat.lt_irrefl _)
    · exact e
  | succ n ih =>
    intro t x hn ht hle
    rcases List.eq_nil_or_concat x with rfl | ⟨z, c, rfl⟩
    · simp at hn
    · rw [List.concat_eq_append] at *
      have hzp : isPre Ls z = true := isPre_prefix ((hP.mem _).2 ⟨t, ht⟩) (List.prefix_append _ _)
      obtain ⟨p, hp⟩ := (hP.mem z).1 hzp
      rw [List.length_append, List.length_singleton] at hn hle ⊢
      obtain ⟨k, hk, hkp⟩ := (ih p z (by omega) hp (by omega)).2 (by omega)
      obtain ⟨i, hi⟩ := h.child k p t z c hkp (.inl hk) hp ht
      refine ⟨⟨i, hi⟩, fun hlt => ⟨i, ?_, hi⟩⟩
      rcases Nat.lt_or_ge i a with h1 | h1
      · exact h1
      · have := h.depth a i s t y (z ++ [c]) h1 hs hi hy ht
        rw [List.length_append, List.length_singleton] at this
        omega
theorem Que.in_ {Ls : List T} {P : List T} {Q : List Nat} {a bb : Nat} (hP : Pres Ls P) (h : Que P Q a bb) {s t : Nat} {x y : T} (hs : Q[a]? = some s) (hy : P[s]? = some y) (ht : P[t]? = some x) (hle : x.length ≤ y.length) : ∃ k : Nat, Q[k]? = some t :=
  (h.ranked hP hs hy _ t x rfl ht hle).1
theorem Que.behind {Ls : List T} {P : List T} {Q : List Nat} {a bb : Nat} (hP : Pres Ls P) (h : Que P Q a bb) {s t : Nat} {x y : T} (hs : Q[a]? = some s) (hy : P[s]? = some y) (ht : P[t]? = some x) (hlt : x.length < y.length) : ∃ k : Nat, k < a ∧ Q[k]? = some t :=
  (h.ranked hP hs hy _ t x rfl ht (Nat.le_of_lt hlt)).2 hlt
/-- A child isn't in the queue yet. -/
theorem Que.new {Ls : List T} {P : List T} {Q : List Nat} {a : Nat} {b : UInt8} (hP : Pres Ls P) (h : Que P Q a b.toNat) {s t : Nat} {y : T} (hs : Q[a]? = some s) (hy : P[s]? = some y) (ht : P[t]? = some (y ++ [b])) : ∀ i : Nat, Q[i]? ≠ some t := by
  intro i hi
  have h0 : t ≠ 0 := fun e => by
    subst e
    rw [hP.root] at ht
    injection ht with ht
    simp at ht
  obtain ⟨k, s', y', b', hk, hb, hy', e⟩ := h.parent i t _ hi h0 ht
  have e1 := List.append_inj_left' e rfl
  have e2 := List.append_inj_right' e rfl
  simp at e2
  subst e1; subst e2
  obtain rfl := hP.dist s s' y hy hy'
  obtain rfl := h.nodup a k s hs hk
  rcases hb with hb | ⟨_, hb⟩ <;> omega
theorem behind_succ {a bb k b : Nat} (h : Behind a (bb + 1) k b) : Behind a bb k b ∨ (k = a ∧ b = bb) := by
  rcases h with h | ⟨h1, h2⟩
  · exact .inl (.inl h)
  · rcases Nat.lt_or_ge b bb with h3 | h3
    · exact .inl (.inr ⟨h1, h3⟩)
    · exact .inr ⟨h1, by omega⟩
theorem behind_more {a bb k b : Nat} (h : Behind a bb k b) : Behind a (bb + 1) k b := by
  rcases h with h | ⟨h1, h2⟩
  · exact .inl h
  · exact .inr ⟨h1, by omega⟩
/-- A byte without a child. -/
theorem Que.skip {Ls : List T} {P : List T} {Q : List Nat} {a : Nat} {b : UInt8} (hP : Pres Ls P) (h : Que P Q a b.toNat) {s : Nat} {y : T} (hs : Q[a]? = some s) (hy : P[s]? = some y) (hno : isPre Ls (y ++ [b]) = false) : Que P Q a (b.toNat + 1) := by
  refine ⟨h.nodup, h.first, h.lt, fun i t x h1 h2 h3 => ?_, fun k s' j y' b' h1 h2 h3 h4 => ?_, h.depth, h.depth1⟩
  · obtain ⟨k, s', y', b', h4, h5, h6⟩ := h.parent i t x h1 h2 h3
    exact ⟨k, s', y', b', h4, behind_more h5, h6⟩
  · rcases behind_succ h2 with h5 | ⟨rfl, h5⟩
    · exact h.child k s' j y' b' h1 h5 h3 h4
    · rw [hs] at h1; injection h1 with h1; subst h1
      rw [hy] at h3; injection h3 with h3; subst h3
      rw [UInt8.toNat_inj.1 h5] at h4
      have := (hP.mem _).2 ⟨j, h4⟩
      rw [hno] at this
      cases this
/-- A byte with a child: it is put into the queue. -/
theorem Que.push {Ls : List T} {P : List T} {Q : List Nat} {a : Nat} {b : UInt8} (hP : Pres Ls P) (h : Que P Q a b.toNat) {s t : Nat} {y : T} (hs : Q[a]? = some s) (hy : P[s]? = some y) (ht : P[t]? = some (y ++ [b])) : Que P (Q ++ [t]) a (b.toNat + 1) := by
  have hal : a < Q.length := (List.getElem?_eq_some_iff.1 hs).1
  have hg : ∀ (i u : Nat), (Q ++ [t])[i]? = some u → Q[i]? = some u ∨ (i = Q.length ∧ u = t) := fun i u hi => by
    rcases Nat.lt_or_ge i Q.length with h1 | h1
    · rw [List.getElem?_append_left h1] at hi; exact .inl hi
    · rw [List.getElem?_append_right h1] at hi
      have h0 : i - Q.length = 0 := by
        have := (List.getElem?_eq_some_iff.1 hi).1
        simp at this; omega
      rw [h0] at hi
      simp at hi
      exact .inr ⟨by omega, hi.symm⟩
  have hold : ∀ (i u : Nat), Q[i]? = some u → (Q ++ [t])[i]? = some u := fun i u hi => by
    rw [List.getElem?_append_left (List.getElem?_eq_some_iff.1 hi).1]; exact hi
  have hnew : (Q ++ [t])[Q.length]? = some t := by simp
  have hnot := h.new hP hs hy ht
  refine ⟨fun i j u h1 h2 => ?_, hold _ _ h.first, fun i u h1 => ?_, fun i u x h1 h2 h3 => ?_, fun k s' j y' b' h1 h2 h3 h4 => ?_, fun k k' s1 s2 x x' hkk h1 h2 h3 h4 => ?_, fun k u s' x y' h1 h2 h3 h4 => ?_⟩
  · rcases hg i u h1 with h3 | ⟨h3, h4⟩ <;> rcases hg j u h2 with h5 | ⟨h5, h6⟩
    · exact h.nodup i j u h3 h5
    · subst h6; exact absurd h3 (hnot i)
    · subst h4; exact absurd h5 (hnot j)
    · omega
  · rcases hg i u h1 with h3 | ⟨_, rfl⟩
    · exact h.lt i u h3
    · exact (List.getElem?_eq_some_iff.1 ht).1
  · rcases hg i u h1 with h4 | ⟨_, rfl⟩
    · obtain ⟨k, s', y', b', h5, h6, h7⟩ := h.parent i u x h4 h2 h3
      exact ⟨k, s', y', b', hold _ _ h5, behind_more h6, h7⟩
    · rw [ht] at h3; injection h3 with h3
      exact ⟨a, s, y, b, hold _ _ hs, .inr ⟨rfl, by omega⟩, hy, h3.symm⟩
  · rcases hg k s' h1 with h5 | ⟨h5, rfl⟩
    · rcases behind_succ h2 with h6 | ⟨rfl, h6⟩
      · obtain ⟨i, hi⟩ := h.child k s' j y' b' h5 h6 h3 h4
        exact ⟨i, hold _ _ hi⟩
      · rw [hs] at h5; injection h5 with h5; subst h5
        rw [hy] at h3; injection h3 with h3; subst h3
        rw [UInt8.toNat_inj.1 h6] at h4
        obtain rfl := hP.dist j t _ h4 ht
        exact ⟨Q.length, hnew⟩
    · rcases h2 with h2 | ⟨h2, _⟩ <;> omega
  · rcases hg k s1 h1 with h5 | ⟨h5, rfl⟩ <;> rcases hg k' s2 h2 with h6 | ⟨h6, rfl⟩
    · exact h.depth k k' s1 s2 x x' hkk h5 h6 h3 h4
    · have := h.depth1 k s1 s x y h5 hs h3 hy
      rw [ht] at h4; injection h4 with h4
      subst h4
      simp; omega
    · have := (List.getElem?_eq_some_iff.1 h6).1; omega
    · rw [h3] at h4; injection h4 with h4; rw [h4]; exact Nat.le_refl _
  · rcases hg a s' h2 with h5 | ⟨h5, _⟩
    · rcases hg k u h1 with h6 | ⟨_, rfl⟩
      · exact h.depth1 k u s' x y' h6 h5 h3 h4
      · rw [hs] at h5; injection h5 with h5; subst h5
        rw [hy] at h4; injection h4 with h4; subst h4
        rw [ht] at h3; injection h3 with h3; subst h3
        simp
    · omega
/-- All bytes of a state are done: the next one. -/
theorem Que.turn {P : List T} {Q : List Nat} {a : Nat} (h : Que P Q a 256) {s : Nat} {y : T} (hs : Q[a]? = some s) (hy : P[s]? = some y) : Que P Q (a + 1) 0 := by
  have hb : ∀ (k : Nat) (b : UInt8), Behind (a + 1) 0 k b.toNat ↔ Behind a 256 k b.toNat := fun k b => by
    have := UInt8.toNat_lt b
    constructor
    · rintro (h | ⟨_, h⟩)
      · rcases Nat.lt_or_ge k a with h1 | h1
        · exact .inl h1
        · exact .inr ⟨by omega, this⟩
      · omega
    · rintro (h | ⟨h, _⟩)
      · exact .inl (by omega)
      · exact .inl (by omega)
  refine ⟨h.nodup, h.first, h.lt, fun i t x h1 h2 h3 => ?_, fun k s' j y' b' h1 h2 h3 h4 => h.child k s' j y' b' h1 ((hb k b').1 h2) h3 h4, h.depth, fun k t s' x y' h1 h2 h3 h4 => ?_⟩
  · obtain ⟨k, s', y', b', h4, h5, h6⟩ := h.parent i t x h1 h2 h3
    exact ⟨k, s', y', b', h4, (hb k b').2 h5, h6⟩
  · have h5 := h.depth1 k t s x y h1 hs h3 hy
    have h6 := h.depth a (a + 1) s s' y y' (by omega) hs h2 hy h4
    omega
/-- At the end all states are in the queue. -/
theorem Que.all {Ls : List T} {P : List T} {Q : List Nat} {a bb : Nat} (hP : Pres Ls P) (h : Que P Q a bb) (ha : Q.length ≤ a) : ∀ (n t : Nat) (x : T), x.length = n → P[t]? = some x → ∃ k : Nat, Q[k]? = some t := by
  intro n
  induction n with
  | zero =>
    intro t x hn ht
    obtain rfl : x = [] := List.eq_nil_of_length_eq_zero hn
    obtain rfl : t = 0 := hP.dist t 0 [] ht hP.root
    exact ⟨0, h.first⟩
  | succ n ih =>
    intro t x hn ht
    rcases List.eq_nil_or_concat x with rfl | ⟨z, c, rfl⟩
    · simp at hn
    · rw [List.concat_eq_append] at *
      have hzp : isPre Ls z = true := isPre_prefix ((hP.mem _).2 ⟨t, ht⟩) (List.prefix_append _ _)
      obtain ⟨p, hp⟩ := (hP.mem z).1 hzp
      rw [List.length_append, List.length_singleton] at hn
      obtain ⟨k, hk⟩ := ih p z (by omega) hp
      exact h.child k p t z c hk (.inl (Nat.lt_of_lt_of_le (List.getElem?_eq_some_iff.1 hk).1 ha)) hp ht
theorem nodup_short : ∀ (n : Nat) (Q : List Nat), Q.Nodup → (∀ t ∈ Q, t < n) → Q.length ≤ n := by
  intro n
  induction n with
  | zero =>
    intro Q _ h
    cases Q with
    | nil => exact Nat.le_refl _
    | cons t Q => exact absurd (h t (List.mem_cons_self ..)) (Nat.not_lt_zero _)
  | succ n ih =>
    intro Q hQ h
    by_cases hn : n ∈ Q
    · have h1 := ih (Q.erase n) (hQ.erase n) (fun t ht => by
        have h2 := hQ.mem_erase_iff.1 ht
        have := h t h2.2
        omega)
      rw [List.length_erase_of_mem hn] at h1
      omega
    · have h1 := ih Q hQ (fun t ht => by
        have h2 := h t ht
        have h3 : t ≠ n := fun e => hn (e ▸ ht)
        omega)
      omega
/-- The queue is no longer than there are states. -/
theorem Que.short {P : List T} {Q : List Nat} {a bb : Nat} (h : Que P Q a bb) : Q.length ≤ P.length := by
  have hnd : Q.Nodup := by
    rw [List.Nodup, List.pairwise_iff_getElem]
    intro i j hi hj hij he
    have e1 : Q[j]? = some Q[j] := List.getElem?_eq_getElem hj
    have e2 : Q[i]? = some Q[i] := List.getElem?_eq_getElem hi
    rw [he] at e2
    have := h.nodup i j _ e2 e1
    omega
  refine nodup_short _ Q hnd (fun t ht => ?_)
  obtain ⟨i, hi, e⟩ := List.mem_iff_getElem.1 ht
  exact h.lt i t (by rw [List.getElem?_eq_getElem hi, e])

end Go.Proofs.Ytameecogopnkjaa.AM
