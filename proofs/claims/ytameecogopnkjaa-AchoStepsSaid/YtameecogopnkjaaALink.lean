/- The states linked: what the queue's walk has done to them, and what they are at its end. Plain law, no program in sight. -/
import Derived.Test.YtameecogopnkjaaAQueue
namespace Go.Proofs.Ytameecogopnkjaa.AM

structure Lnk (Ls P : List T) (Q : List Nat) (a bb : Nat) (ns : List Nd) : Prop where
  pres : ns.map (·.pre) = P
  done : ∀ (k s : Nat) (nd : Nd) (b : UInt8), Q[k]? = some s → Behind a bb k b.toNat → ns[s]? = some nd → ∃ j : Nat, nd.next b.toNat = (j : Int) ∧ P[j]? = some (step Ls (nd.pre ++ [b]))
  undone : ∀ (s : Nat) (nd : Nd) (b : UInt8), ns[s]? = some nd → (∀ k, Q[k]? = some s → ¬ Behind a bb k b.toNat) → (∃ j : Nat, nd.next b.toNat = (j : Int) ∧ P[j]? = some (nd.pre ++ [b])) ∨ (nd.next b.toNat = -1 ∧ isPre Ls (nd.pre ++ [b]) = false)
  ready : ∀ (k t : Nat) (nd : Nd), Q[k]? = some t → ns[t]? = some nd → nd.hits = hits Ls nd.pre ∧ (t ≠ 0 → ∃ f : Nat, nd.fail = (f : Int) ∧ P[f]? = some (step Ls nd.pre.tail))
  unready : ∀ (t : Nat) (nd : Nd), (∀ k : Nat, Q[k]? ≠ some t) → ns[t]? = some nd → nd.hits = own Ls nd.pre
theorem pre_at {P : List T} {ns : List Nd} (h : ns.map (·.pre) = P) {i : Nat} {nd : Nd} (hi : ns[i]? = some nd) : P[i]? = some nd.pre := by
  rw [← h, List.getElem?_map, hi]; rfl
theorem at_pre {P : List T} {ns : List Nd} (h : ns.map (·.pre) = P) {i : Nat} {x : T} (hi : P[i]? = some x) : ∃ nd : Nd, ns[i]? = some nd ∧ nd.pre = x := by
  rw [← h, List.getElem?_map] at hi
  exact Option.map_eq_some_iff.1 hi
theorem set_pres {P : List T} {ns : List Nd} (h : ns.map (·.pre) = P) {i : Nat} {nd nd' : Nd} (hi : ns[i]? = some nd) (he : nd'.pre = nd.pre) : (ns.set i nd').map (·.pre) = P := by
  rw [List.map_set, h, he]
  have := pre_at h hi
  apply List.ext_getElem?
  intro j
  rw [List.getElem?_set]
  have hl := (List.getElem?_eq_some_iff.1 this).1
  by_cases e : i = j
  · subst e
    rw [if_pos rfl, if_pos hl, this]
  · simp [e]
theorem pres_of {S : T → Prop} {H : T → List Nat} {Ls : List T} {ns : List Nd} (h : Trie S H ns) (hS : ∀ x, S x ↔ isPre Ls x = true) : Pres Ls (ns.map (·.pre)) := by
  refine ⟨?_, fun i j x h1 h2 => ?_, fun x => ?_⟩
  · obtain ⟨r, hr, e⟩ := h.root
    rw [List.getElem?_map, hr, ← e]; rfl
  · obtain ⟨a, ha, rfl⟩ := at_pre rfl h1
    obtain ⟨b, hb, e⟩ := at_pre rfl h2
    exact h.dist i j a b ha hb e.symm
  · rw [← hS, h.mem]
    constructor
    · rintro ⟨i, nd, h1, rfl⟩; exact ⟨i, pre_at rfl h1⟩
    · rintro ⟨i, h1⟩
      obtain ⟨nd, h2, h3⟩ := at_pre rfl h1
      exact ⟨i, nd, h2, h3⟩
theorem own_nil (Ls : List T) (h : ∀ l ∈ Ls, l ≠ []) : own Ls [] = [] := by
  rw [List.eq_nil_iff_forall_not_mem]
  intro k hk
  rw [mem_own] at hk
  have h1 := hk.2
  rw [List.getD_eq_getElem?_getD, List.getElem?_eq_getElem hk.1] at h1
  exact h _ (List.getElem_mem hk.1) h1
theorem Lnk.start {Ls : List T} {ns : List Nd} (h : Trie (fun x => isPre Ls x = true) (own Ls) ns) (hne : ∀ l ∈ Ls, l ≠ []) : Lnk Ls (ns.map (·.pre)) [0] 0 0 ns := by
  have h0 : ∀ (i t : Nat), [0][i]? = some t → i = 0 ∧ t = 0 := fun i t h => by
    cases i with
    | zero => simp at h; exact ⟨rfl, h.symm⟩
    | succ i => simp at h
  refine ⟨rfl, fun k s nd b _ hb _ => ?_, fun s nd b hs _ => ?_, fun k t nd hk ht => ?_, fun t nd _ ht => h.hits t nd ht⟩
  · rcases hb with hb | ⟨_, hb⟩ <;> omega
  · rcases h.next s nd hs b with ⟨j, nd', h1, h2, h3⟩ | ⟨h1, h2⟩
    · exact .inl ⟨j, h1, by rw [← h3]; exact pre_at rfl h2⟩
    · exact .inr ⟨h1, by simpa using h2⟩
  · obtain ⟨_, rfl⟩ := h0 k t hk
    obtain ⟨r, hr, e⟩ := h.root
    rw [hr] at ht; injection ht with ht; subst ht
    refine ⟨?_, fun h => absurd rfl h⟩
    rw [h.hits 0 r hr, e, own_nil Ls hne, hits_nil Ls hne]

section
variable {Ls P : List T} {Q : List Nat} {a : Nat} {b : UInt8} {ns : List Nd} {s : Nat} {nd : Nd}
theorem tail_snoc (x : T) (b : UInt8) (h : x ≠ []) : (x ++ [b]).tail = x.tail ++ [b] := by
  cases x with
  | nil => exact absurd rfl h
  | cons c x => rfl
/-- Where a text's longest shorter end leads to. -/
theorem Lnk.back (hP : Pres Ls P) (hQ : Que P Q a b.toNat) (h : Lnk Ls P Q a b.toNat ns) (hs : Q[a]? = some s) (hn : ns[s]? = some nd) (h0 : s ≠ 0) :
    ∃ (f j : Nat) (ndf : Nd), nd.fail = (f : Int) ∧ ns[f]? = some ndf ∧ ndf.next b.toNat = (j : Int) ∧ P[j]? = some (step Ls (nd.pre ++ [b]).tail) := by
  have hy := pre_at h.pres hn
  have hne : nd.pre ≠ [] := fun e => by
    rw [e] at hy
    exact h0 (hP.dist s 0 [] hy hP.root)
  obtain ⟨f, h1, h2⟩ := (h.ready a s nd hs hn).2 h0
  obtain ⟨ndf, h3, h4⟩ := at_pre h.pres h2
  have hlen : (step Ls nd.pre.tail).length < nd.pre.length := by
    have := (step_suffix Ls nd.pre.tail).length_le
    rw [List.length_tail] at this
    have := List.length_pos_iff.2 hne
    omega
  obtain ⟨k, hk, hkf⟩ := hQ.behind hP hs hy h2 hlen
  obtain ⟨j, h5, h6⟩ := h.done k f ndf b hkf (.inl hk) h3
  refine ⟨f, j, ndf, h1, h3, h5, ?_⟩
  rw [h6, h4, step_step, tail_snoc _ _ hne]
theorem Lnk.back0 (hP : Pres Ls P) (h : Lnk Ls P Q a b.toNat ns) (hn : ns[0]? = some nd) : P[0]? = some (step Ls (nd.pre ++ [b]).tail) := by
  have hy := pre_at h.pres hn
  rw [hP.root] at hy
  injection hy with hy
  rw [← hy, hP.root]
  rfl
/-- The way that is there, or none. -/
theorem Lnk.way (hQ : Que P Q a b.toNat) (h : Lnk Ls P Q a b.toNat ns) (hs : Q[a]? = some s) (hn : ns[s]? = some nd) :
    (∃ j : Nat, nd.next b.toNat = (j : Int) ∧ P[j]? = some (nd.pre ++ [b])) ∨ (nd.next b.toNat = -1 ∧ isPre Ls (nd.pre ++ [b]) = false) := by
  refine h.undone s nd b hn (fun k hk hb => ?_)
  obtain rfl := hQ.nodup a k s hs hk
  rcases hb with hb | ⟨_, hb⟩ <;> omega
theorem step_tail (Ls : List T) (x : T) (b : UInt8) (h : isPre Ls (x ++ [b]) = false) : step Ls (x ++ [b]) = step Ls (x ++ [b]).tail := by
  cases x with
  | nil => exact step_not Ls b [] h
  | cons c x => exact step_not Ls c (x ++ [b]) h
/-- None: the shorter end's is put there. -/
theorem Lnk.fill (hQ : Que P Q a b.toNat) (h : Lnk Ls P Q a b.toNat ns) (hs : Q[a]? = some s) (hn : ns[s]? = some nd) {j : Nat} {nd' : Nd} (hno : isPre Ls (nd.pre ++ [b]) = false) (hj : P[j]? = some (step Ls (nd.pre ++ [b]).tail))
    (e1 : nd'.pre = nd.pre) (e2 : nd'.next = upd nd.next b.toNat (j : Int)) (e3 : nd'.fail = nd.fail) (e4 : nd'.hits = nd.hits) : Lnk Ls P Q a (b.toNat + 1) (ns.set s nd') := by
  have hsl := (List.getElem?_eq_some_iff.1 hn).1
  have hg : ∀ (t : Nat) (m : Nd), (ns.set s nd')[t]? = some m → (t = s ∧ m = nd') ∨ (t ≠ s ∧ ns[t]? = some m) := fun t m hm => by
    rw [getElem?_set' _ _ _ _ hsl] at hm
    split at hm
    · rename_i e; injection hm with hm; exact .inl ⟨e, hm.symm⟩
    · rename_i e; exact .inr ⟨e, hm⟩
  refine ⟨set_pres h.pres hn e1, fun k t m c hk hb hm => ?_, fun t m c hm hb => ?_, fun k t m hk hm => ?_, fun t m hk hm => ?_⟩
  · rcases hg t m hm with ⟨rfl, rfl⟩ | ⟨hne, hm⟩
    · rw [e1, e2]
      by_cases ec : c = b
      · subst ec
        refine ⟨j, by simp [upd], ?_⟩
        rw [hj, step_tail _ _ _ hno]
      · have hcb : ¬ c.toNat = b.toNat := fun e => ec (UInt8.toNat_inj.1 e)
        simp only [upd, if_neg hcb]
        rcases behind_succ hb with hb | ⟨_, hb⟩
        · exact h.done k t nd c hk hb hn
        · exact absurd hb hcb
    · rcases behind_succ hb with hb | ⟨rfl, hb⟩
      · exact h.done k t m c hk hb hm
      · rw [hs] at hk; injection hk with hk; exact absurd hk.symm hne
  · rcases hg t m hm with ⟨rfl, rfl⟩ | ⟨hne, hm⟩
    · rw [e1, e2]
      have hcb : ¬ c.toNat = b.toNat := fun e => hb a hs (.inr ⟨rfl, by omega⟩)
      simp only [upd, if_neg hcb]
      exact h.undone t nd c hn (fun k hk h1 => hb k hk (behind_more h1))
    · exact h.undone t m c hm (fun k hk h1 => hb k hk (behind_more h1))
  · rcases hg t m hm with ⟨rfl, rfl⟩ | ⟨_, hm⟩
    · rw [e4, e1, e3]; exact h.ready k t nd hk hn
    · exact h.ready k t m hk hm
  · rcases hg t m hm with ⟨rfl, rfl⟩ | ⟨_, hm⟩
    · exact absurd hs (hk a)
    · exact h.unready t m hk hm
/-- One: it gets its shorter end and the numbers of that one's literals, sorted. -/
theorem Lnk.push (hP : Pres Ls P) (hQ : Que P Q a b.toNat) (h : Lnk Ls P Q a b.toNat ns) (hs : Q[a]? = some s) (hn : ns[s]? = some nd) {t j : Nat} {m m' : Nd} (hway : nd.next b.toNat = (t : Int)) (ht : P[t]? = some (nd.pre ++ [b])) (hm : ns[t]? = some m) (hj : P[j]? = some (step Ls (nd.pre ++ [b]).tail))
    (e1 : m'.pre = m.pre) (e2 : m'.next = m.next) (e3 : m'.fail = (j : Int)) (e4 : m'.hits = hits Ls (nd.pre ++ [b])) : Lnk Ls P (Q ++ [t]) a (b.toNat + 1) (ns.set t m') := by
  have htl := (List.getElem?_eq_some_iff.1 hm).1
  have hpm : m.pre = nd.pre ++ [b] := by
    have := pre_at h.pres hm
    rw [ht] at this; injection this with this; exact this.symm
  have hy := pre_at h.pres hn
  have hnot := hQ.new hP hs hy ht
  have hq : ∀ (k u : Nat), (Q ++ [t])[k]? = some u → Q[k]? = some u ∨ (k = Q.length ∧ u = t) := fun i u hi => by
    rcases Nat.lt_or_ge i Q.length with h1 | h1
    · rw [List.getElem?_append_left h1] at hi; exact .inl hi
    · rw [List.getElem?_append_right h1] at hi
      have h0 : i - Q.length = 0 := by
        have := (List.getElem?_eq_some_iff.1 hi).1
        simp at this; omega
      rw [h0] at hi
      simp at hi
      exact .inr ⟨by omega, hi.symm⟩
  have hqo : ∀ (k u : Nat), Q[k]? = some u → (Q ++ [t])[k]? = some u := fun i u hi => by
    rw [List.getElem?_append_left (List.getElem?_eq_some_iff.1 hi).1]; exact hi
  have hg : ∀ (u : Nat) (n : Nd), (ns.set t m')[u]? = some n → (u = t ∧ n = m') ∨ (u ≠ t ∧ ns[u]? = some n) := fun u n hu => by
    rw [getElem?_set' _ _ _ _ htl] at hu
    split at hu
    · rename_i e; injection hu with hu; exact .inl ⟨e, hu.symm⟩
    · rename_i e; exact .inr ⟨e, hu⟩
  have hal := (List.getElem?_eq_some_iff.1 hs).1
  refine ⟨set_pres h.pres hm e1, fun k u n c hk hb hu => ?_, fun u n c hu hb => ?_, fun k u n hk hu => ?_, fun u n hk hu => ?_⟩
  · have hk' : Q[k]? = some u := by
      rcases hq k u hk with h1 | ⟨h1, _⟩
      · exact h1
      · rcases hb with hb | ⟨hb, _⟩ <;> omega
    rcases hg u n hu with ⟨rfl, rfl⟩ | ⟨_, hu⟩
    · exact absurd hk' (hnot k)
    · rcases behind_succ hb with hb2 | ⟨e5, e6⟩
      · exact h.done k u n c hk' hb2 hu
      · rw [e5, hs] at hk'; injection hk' with hk'; subst hk'
        rw [hn] at hu; injection hu with hu; subst hu
        rw [UInt8.toNat_inj.1 e6]
        refine ⟨t, hway, ?_⟩
        rw [step_of _ _ ((hP.mem _).2 ⟨t, ht⟩)]
        exact ht
  · rcases hg u n hu with ⟨rfl, rfl⟩ | ⟨_, hu⟩
    · rw [e1, e2]
      exact h.undone u m c hm (fun k hk h1 => absurd hk (hnot k))
    · exact h.undone u n c hu (fun k hk h1 => hb k (hqo k u hk) (behind_more h1))
  · rcases hq k u hk with h1 | ⟨_, rfl⟩
    · rcases hg u n hu with ⟨rfl, rfl⟩ | ⟨_, hu⟩
      · exact absurd h1 (hnot k)
      · exact h.ready k u n h1 hu
    · rcases hg u n hu with ⟨_, rfl⟩ | ⟨h2, _⟩
      · rw [e4, e1, hpm, e3]
        exact ⟨rfl, fun _ => ⟨j, rfl, hj⟩⟩
      · exact absurd rfl h2
  · rcases hg u n hu with ⟨rfl, rfl⟩ | ⟨_, hu⟩
    · exact absurd (by simp) (hk Q.length)
    · exact h.unready u n (fun k h1 => hk k (hqo k u h1)) hu
/-- What is put together for it: its own, and the shorter end's. -/
theorem Lnk.parts (hP : Pres Ls P) (hQ : Que P Q a b.toNat) (h : Lnk Ls P Q a b.toNat ns) (hs : Q[a]? = some s) (hn : ns[s]? = some nd) {t j : Nat} {m mj : Nd} (ht : P[t]? = some (nd.pre ++ [b])) (hm : ns[t]? = some m) (hj : P[j]? = some (step Ls (nd.pre ++ [b]).tail)) (hmj : ns[j]? = some mj) :
    t ≠ j ∧ (m.hits.length ≤ Ls.length ∧ mj.hits.length ≤ Ls.length) ∧ ∀ l : List Nat, l.Perm (m.hits ++ mj.hits) → l.Pairwise (· ≤ ·) → l = hits Ls (nd.pre ++ [b]) := by
  have hy := pre_at h.pres hn
  have hpm : m.pre = nd.pre ++ [b] := by
    have := pre_at h.pres hm
    rw [ht] at this; injection this with this; exact this.symm
  have hpj : mj.pre = step Ls (nd.pre ++ [b]).tail := by
    have := pre_at h.pres hmj
    rw [hj] at this; injection this with this; exact this.symm
  have hlen : (step Ls (nd.pre ++ [b]).tail).length ≤ nd.pre.length := by
    have := (step_suffix Ls (nd.pre ++ [b]).tail).length_le
    rw [List.length_tail, List.length_append, List.length_singleton] at this
    omega
  obtain ⟨k, hk⟩ := hQ.in_ hP hs hy hj hlen
  have hh := (h.ready k j mj hk hmj).1
  have ho := h.unready t m (hQ.new hP hs hy ht) hm
  refine ⟨fun e => ?_, ⟨?_, ?_⟩, fun l hp hl => ?_⟩
  · subst e
    rw [hj] at ht
    injection ht with ht
    rw [ht, List.length_append, List.length_singleton] at hlen
    omega
  · rw [ho]
    exact Nat.le_trans (List.length_filter_le _ _) (by rw [List.length_range]; exact Nat.le_refl _)
  · rw [hh]
    exact Nat.le_trans (List.length_filter_le _ _) (by rw [List.length_range]; exact Nat.le_refl _)
  · rw [hh, ho, hpm, hpj, hits_step] at hp
    cases hx : nd.pre ++ [b] with
    | nil => simp at hx
    | cons c x =>
      rw [hx] at hp
      exact merge_hits Ls c x l hp hl
end
theorem Lnk.turn {Ls P : List T} {Q : List Nat} {a : Nat} {ns : List Nd} (h : Lnk Ls P Q a 256 ns) : Lnk Ls P Q (a + 1) 0 ns := by
  have hb : ∀ (k : Nat) (b : UInt8), Behind (a + 1) 0 k b.toNat ↔ Behind a 256 k b.toNat := fun k b => by
    have := UInt8.toNat_lt b
    constructor
    · rintro (h | ⟨_, h⟩)
      · rcases Nat.lt_or_ge k a with h1 | h1
        · exact .inl h1
        · exact .inr ⟨by omega, this⟩
      · omega
    · rintro (h | ⟨h, _⟩)
      · exact .inl (by omega)
      · exact .inl (by omega)
  exact ⟨h.pres, fun k s nd b h1 h2 h3 => h.done k s nd b h1 ((hb k b).1 h2) h3, fun s nd b h1 h2 => h.undone s nd b h1 (fun k hk h3 => h2 k hk ((hb k b).2 h3)), h.ready, h.unready⟩

/-! ### The machine -/
structure Good (Ls : List T) (ns : List Nd) : Prop where
  pres : Pres Ls (ns.map (·.pre))
  hits : ∀ (i : Nat) (nd : Nd), ns[i]? = some nd → nd.hits = hits Ls nd.pre
  next : ∀ (i : Nat) (nd : Nd) (b : UInt8), ns[i]? = some nd → ∃ (j : Nat) (nd' : Nd), nd.next b.toNat = (j : Int) ∧ ns[j]? = some nd' ∧ nd'.pre = step Ls (nd.pre ++ [b])
theorem Lnk.good {Ls P : List T} {Q : List Nat} {a : Nat} {ns : List Nd} (hP : Pres Ls P) (hQ : Que P Q a 0) (h : Lnk Ls P Q a 0 ns) (ha : Q.length ≤ a) : Good Ls ns := by
  refine ⟨by rw [h.pres]; exact hP, fun i nd hi => ?_, fun i nd b hi => ?_⟩
  · obtain ⟨k, hk⟩ := hQ.all hP ha _ i _ rfl (pre_at h.pres hi)
    exact (h.ready k i nd hk hi).1
  · obtain ⟨k, hk⟩ := hQ.all hP ha _ i _ rfl (pre_at h.pres hi)
    obtain ⟨j, h1, h2⟩ := h.done k i nd b hk (.inl (Nat.lt_of_lt_of_le (List.getElem?_eq_some_iff.1 hk).1 ha)) hi
    obtain ⟨nd', h3, h4⟩ := at_pre h.pres h2
    exact ⟨j, nd', h1, h3, h4⟩
theorem Good.root {Ls : List T} {ns : List Nd} (h : Good Ls ns) : ∃ nd : Nd, ns[0]? = some nd ∧ nd.pre = [] := at_pre rfl h.pres.root

end Go.Proofs.Ytameecogopnkjaa.AM
