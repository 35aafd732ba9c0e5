/- The machine of literals in memory: its block, the row of its states, their texts and numbers. -/
import Derived.Test.YtameecogopnkjaaRows
import Derived.Test.YtameecogopnkjaaMem
import Derived.Test.YtameecogopnkjaaALink
import Derived.WalkSpells
import Derived.Deep.RegionLaw
import Derived.Deep.MidRow
import Derived.Deep.RegionHeld
import Derived.Outline
namespace Go.Proofs.Ytameecogopnkjaa.AW
open Go.ChangeShapes Go.WideShapes Go.ChangeAt Go.RowKit
open Go.Proofs.Ytameecogopnkjaa.B Go.Proofs.Ytameecogopnkjaa.AM
set_option linter.unusedVariables false

/-! ### Rows of the call's own -/
theorem own_lower {w : World} {base base' : Nat} {e : TypeId} {size n : Nat} {v : Value} {xs : List Value} (h : w.ownsRow base e size v n xs) (hb : base' ≤ base) : w.ownsRow base' e size v n xs := by
  refine ⟨h.1, ?_⟩
  rcases h.2 with ⟨rfl, rfl⟩ | ⟨g, cap, cur, rfl, hg, r⟩
  · exact .inl ⟨rfl, rfl⟩
  · exact .inr ⟨g, cap, cur, rfl, Nat.le_trans hb hg, r⟩
theorem own_block {w : World} {base : Nat} {e : TypeId} {size n : Nat} {v : Value} {xs : List Value} (h : w.ownsRow base e size v n xs) : ∀ k, v.ownBlock = some k → base ≤ k ∧ k < w.heap.size := by
  intro k hk
  rcases h.2 with ⟨rfl, rfl⟩ | ⟨g, cap, cur, rfl, hg, hh, _⟩
  · simp [Value.ownBlock] at hk
  · have e1 : g = k := by simpa [Value.ownBlock] using hk
    subst e1
    exact ⟨hg, Blk.lt (t := e) (cs := cur) hh⟩
theorem own_apart {w : World} {b b' s s' n n' : Nat} {e e' : TypeId} {v v' : Value} {xs xs' : List Value} (h : w.ownsRow b e s v n xs) (h' : w.ownsRow b' e' s' v' n' xs') (hne : e ≠ e') : ∀ k, v.ownBlock = some k → v'.ownBlock ≠ some k := by
  intro k hk hk'
  rcases h.2 with ⟨rfl, _⟩ | ⟨g, cap, cur, rfl, _, hh, _⟩
  · simp [Value.ownBlock] at hk
  · have hg : g = k := by simpa [Value.ownBlock] using hk
    subst hg
    exact own_ne_blk h' (show Blk w g e cur from hh) (Ne.symm hne) hk'
theorem own_empty (w : World) (t : TypeId) : (w.alloc (.cells #[] t)).ownsRow w.heap.size t 1 (.slice (some ⟨w.heap.size, 0, none⟩) 0 0) 0 (u8s []) := World.ownsRow_lit w #[] 0 (Nat.le_refl _) (by simp [maxLen]) rfl
theorem own_set {w : World} {base : Nat} {e : TypeId} {size n c : Nat} {ad : Addr} {xs : List Value} (h : w.ownsRow base e size (.slice (some ad) n c) n xs) (j : Nat) (x : Value) (hj : j < n * size) :
    (w.setCell (ad.add j) x).ownsRow base e size (.slice (some ad) n c) n (xs.set j x) := by
  refine ⟨by rw [List.length_set]; exact h.1, ?_⟩
  rcases h.2 with ⟨h1, _⟩ | ⟨g, cap, cur, h1, hb, hh, h3, h4, h5, h6⟩
  · cases h1
  · injection h1 with h1 h2 h3'
    injection h1 with h1
    subst h1; subst h3'
    refine .inr ⟨g, c, cur.setIfInBounds j x, rfl, hb, ?_, h3, h4, by rw [Array.size_setIfInBounds]; exact h5, ?_⟩
    · rw [add_lit, Nat.zero_add]
      simp [World.setCell, Array.getElem?_modify, hh]
    · rw [Array.toList_setIfInBounds, List.take_set, h6]
theorem own_cell {w : World} {base : Nat} {e : TypeId} {size n c : Nat} {ad : Addr} {xs : List Value} (h : w.ownsRow base e size (.slice (some ad) n c) n xs) (j : Nat) (v : Value) (hj : xs[j]? = some v) :
    w.cell? (ad.add j) = some v ∧ w.frozen? (ad.add j) = false ∧ base ≤ ad.block ∧ (ad.add j).block = ad.block := by
  have hjl := (List.getElem?_eq_some_iff.1 hj).1
  have hl := h.1
  rcases h.2 with ⟨h1, _⟩ | ⟨g, cap, cur, h1, hb, hh, h3, h4, h5, h6⟩
  · cases h1
  · injection h1 with h1 h2 h3'
    injection h1 with h1
    subst h1
    refine ⟨?_, ?_, hb, add_block _ _⟩
    · rw [← h6, List.getElem?_take, if_pos (by omega)] at hj
      rw [add_lit, Nat.zero_add, cell_of_row _ _ _ cur e (0, 0) hh, ← hj, Array.getElem?_toList]
    · rw [add_lit, Nat.zero_add]
      simp [World.frozen?, hh]
theorem own_some {w : World} {base : Nat} {e : TypeId} {size n c : Nat} {A : Option Addr} {xs : List Value} (h : w.ownsRow base e size (.slice A n c) n xs) (hn : 0 < n) : ∃ ad, A = some ad := by
  rcases h.2 with ⟨_, h1⟩ | ⟨g, cap, cur, h1, _⟩
  · omega
  · injection h1 with h1
    exact ⟨_, h1⟩
theorem rd_row (w : World) (C : List Value) (t : TypeId) (size : Nat) (hl : C.length = size) : Rd (w.alloc (.cells C.toArray t)) (w.heap.size + 1) size (some ⟨w.heap.size, 0, none⟩) 1 1 C :=
  ⟨by omega, Nat.le_refl _, by simp [maxLen], fun _ => ⟨_, rfl, by simp, fun j u hu => by
    rw [add_lit, Nat.zero_add, cell_of_row _ _ _ C.toArray t (0, 0) (heap_alloc_new w _)]
    simpa using hu⟩⟩

/-! ### A state's cells -/
def nodeCells (p : Value) (next : Nat → Int) (fail : Int) (h : Value) : List Value := p :: ((List.range 256).map (fun b => Value.int .i64 (next b)) ++ [.int .i64 fail, h])
theorem nodeCells_length (p : Value) (next : Nat → Int) (fail : Int) (h : Value) : (nodeCells p next fail h).length = 259 := by simp [nodeCells]
theorem nodeCells_congr (p : Value) (f f' : Nat → Int) (fail : Int) (h : Value) (e : ∀ b, b < 256 → f b = f' b) : nodeCells p f fail h = nodeCells p f' fail h := by
  have : (List.range 256).map (fun b => Value.int .i64 (f b)) = (List.range 256).map (fun b => Value.int .i64 (f' b)) := List.map_congr_left (fun b hb => by rw [e b (List.mem_range.1 hb)])
  rw [nodeCells, nodeCells, this]
theorem nodeCells_0 (p : Value) (next : Nat → Int) (fail : Int) (h : Value) : (nodeCells p next fail h)[0]? = some p := rfl
theorem nodeCells_next (p : Value) (next : Nat → Int) (fail : Int) (h : Value) (b : Nat) (hb : b < 256) : (nodeCells p next fail h)[b + 1]? = some (.int .i64 (next b)) := by
  rw [nodeCells, List.getElem?_cons_succ, List.getElem?_append_left (by simpa using hb)]
  simp [hb]
theorem nodeCells_fail (p : Value) (next : Nat → Int) (fail : Int) (h : Value) : (nodeCells p next fail h)[257]? = some (.int .i64 fail) := by
  rw [nodeCells, List.getElem?_cons_succ, List.getElem?_append_right (by simp)]
  simp
theorem nodeCells_hits (p : Value) (next : Nat → Int) (fail : Int) (h : Value) : (nodeCells p next fail h)[258]? = some h := by
  rw [nodeCells, List.getElem?_cons_succ, List.getElem?_append_right (by simp)]
  simp
theorem nodeCells_set_next (p : Value) (next : Nat → Int) (fail : Int) (h : Value) (b : Nat) (v : Int) (hb : b < 256) : (nodeCells p next fail h).set (b + 1) (.int .i64 v) = nodeCells p (upd next b v) fail h := by
  apply List.ext_getElem?
  intro j
  rw [List.getElem?_set, nodeCells_length]
  by_cases e : b + 1 = j
  · subst e
    rw [if_pos rfl, if_pos (by omega), nodeCells_next _ _ _ _ _ hb]
    simp [upd]
  · rw [if_neg e]
    cases j with
    | zero => rfl
    | succ j =>
      rw [nodeCells, nodeCells, List.getElem?_cons_succ, List.getElem?_cons_succ]
      rcases Nat.lt_or_ge j 256 with h1 | h1
      · rw [List.getElem?_append_left (by simpa using h1), List.getElem?_append_left (by simpa using h1)]
        have hjb : ¬ j = b := fun e2 => e (by omega)
        simp [h1, upd, hjb]
      · rw [List.getElem?_append_right (by simpa using h1), List.getElem?_append_right (by simpa using h1)]
        simp
theorem nodeCells_set_fail (p : Value) (next : Nat → Int) (fail v : Int) (h : Value) : (nodeCells p next fail h).set 257 (.int .i64 v) = nodeCells p next v h := by
  rw [nodeCells, nodeCells, List.set_cons_succ, List.set_append_right _ _ (by simp)]
  simp
theorem nodeCells_set_hits (p : Value) (next : Nat → Int) (fail : Int) (h v : Value) : (nodeCells p next fail h).set 258 v = nodeCells p next fail v := by
  rw [nodeCells, nodeCells, List.set_cons_succ, List.set_append_right _ _ (by simp)]
  simp
theorem nodeCells_one (A : Option Addr) (n c : Nat) (next : Nat → Int) (fail : Int) (A' : Option Addr) (n' c' : Nat) : ∀ u ∈ nodeCells (.slice A n c) next fail (.slice A' n' c'), u.oneCell' = true := by
  intro u hu
  rw [nodeCells, List.mem_cons, List.mem_append] at hu
  rcases hu with rfl | hu | hu
  · rfl
  · obtain ⟨b, _, rfl⟩ := List.mem_map.1 hu; rfl
  · simp only [List.mem_cons, List.not_mem_nil, or_false] at hu
    rcases hu with rfl | rfl <;> rfl
def AM.Nd.vp (nd : Nd) : Value := .slice nd.pA nd.pre.length nd.pc
def AM.Nd.vh (nd : Nd) : Value := .slice nd.hA nd.hits.length nd.hc
def ndCells (nd : Nd) : List Value := nodeCells (.slice nd.pA nd.pre.length nd.pc) nd.next nd.fail (.slice nd.hA nd.hits.length nd.hc)
def cellsAll (ns : List Nd) : List Value := ns.flatMap ndCells
theorem ndCells_length (nd : Nd) : (ndCells nd).length = 259 := nodeCells_length _ _ _ _
theorem cellsAll_length (ns : List Nd) : (cellsAll ns).length = ns.length * 259 := by
  induction ns with
  | nil => rfl
  | cons nd ns ih =>
    rw [cellsAll, List.flatMap_cons, List.length_append, List.length_cons, ndCells_length]
    have : (List.flatMap ndCells ns).length = ns.length * 259 := ih
    rw [this]; omega
theorem cellsAll_at (ns : List Nd) (i k : Nat) (nd : Nd) (h : ns[i]? = some nd) (hk : k < 259) : (cellsAll ns)[i * 259 + k]? = (ndCells nd)[k]? := by
  induction ns generalizing i with
  | nil => simp at h
  | cons d ns ih =>
    have e : cellsAll (d :: ns) = ndCells d ++ cellsAll ns := rfl
    have hl := ndCells_length d
    rw [e]
    cases i with
    | zero =>
      simp only [List.getElem?_cons_zero, Option.some.injEq] at h
      subst h
      rw [Nat.zero_mul, Nat.zero_add, List.getElem?_append_left (by omega)]
    | succ i =>
      rw [List.getElem?_cons_succ] at h
      rw [List.getElem?_append_right (by omega), hl, show (i + 1) * 259 + k - 259 = i * 259 + k by omega]
      exact ih i h
theorem cellsAll_set (ns : List Nd) (i k : Nat) (nd nd' : Nd) (v : Value) (h : ns[i]? = some nd) (hk : k < 259) (he : ndCells nd' = (ndCells nd).set k v) : (cellsAll ns).set (i * 259 + k) v = cellsAll (ns.set i nd') := by
  induction ns generalizing i with
  | nil => simp at h
  | cons d ns ih =>
    have e : cellsAll (d :: ns) = ndCells d ++ cellsAll ns := rfl
    have hl := ndCells_length d
    rw [e]
    cases i with
    | zero =>
      simp only [List.getElem?_cons_zero, Option.some.injEq] at h
      subst h
      rw [Nat.zero_mul, Nat.zero_add, List.set_append_left _ _ (by omega), List.set_cons_zero, ← he]
      rfl
    | succ i =>
      rw [List.getElem?_cons_succ] at h
      rw [List.set_append_right _ _ (by omega), hl, show (i + 1) * 259 + k - 259 = i * 259 + k by omega, List.set_cons_succ, ih i h]
      rfl
theorem cellsAll_snoc (ns : List Nd) (nd : Nd) : cellsAll (ns ++ [nd]) = cellsAll ns ++ ndCells nd := by simp [cellsAll]
theorem cellsAll_one (ns : List Nd) : ∀ u ∈ cellsAll ns, u.oneCell' = true := by
  intro u hu
  obtain ⟨nd, _, h⟩ := List.mem_flatMap.1 hu
  exact nodeCells_one _ _ _ _ _ _ _ _ u h
def ints (ks : List Nat) : List Value := ks.map fun (k : Nat) => .int .i64 (k : Int)

/-! ### The machine -/
structure Mach (u : World) (g : Nat) (ns : List Nd) (An : Option Addr) (cn : Nat) (w : World) : Prop where
  blk : Blk w g 55 #[.slice An ns.length cn]
  ge : u.heap.size ≤ g
  row : w.ownsRow u.heap.size 60 259 (.slice An ns.length cn) ns.length (cellsAll ns)
  pre : ∀ (i : Nat) (nd : Nd), ns[i]? = some nd → w.ownsRow u.heap.size 5 1 (.slice nd.pA nd.pre.length nd.pc) nd.pre.length (u8s nd.pre)
  hit : ∀ (i : Nat) (nd : Nd), ns[i]? = some nd → w.ownsRow u.heap.size 3 1 (.slice nd.hA nd.hits.length nd.hc) nd.hits.length (ints nd.hits)
  apart : ∀ (i j : Nat) (a b : Nd) (k : Nat), ns[i]? = some a → ns[j]? = some b → i ≠ j → (Value.slice a.hA a.hits.length a.hc).ownBlock = some k → (Value.slice b.hA b.hits.length b.hc).ownBlock ≠ some k
  below : Below u.heap.size u w
section
variable {u w w' : World} {g cn : Nat} {ns : List Nd} {An : Option Addr}
theorem Mach.fr {S : Nat → Prop} (h : Mach u g ns An cn w) (hf : Fr w w' S) (hg : ¬ S g) (hr : ∀ k, (Value.slice An ns.length cn).ownBlock = some k → ¬ S k)
    (hp : ∀ (i : Nat) (nd : Nd) (k : Nat), ns[i]? = some nd → (Value.slice nd.pA nd.pre.length nd.pc).ownBlock = some k → ¬ S k)
    (hh : ∀ (i : Nat) (nd : Nd) (k : Nat), ns[i]? = some nd → (Value.slice nd.hA nd.hits.length nd.hc).ownBlock = some k → ¬ S k) (hu : ∀ k, S k → u.heap.size ≤ k) : Mach u g ns An cn w' :=
  ⟨h.blk.fr hf hg, h.ge, own_fr h.row hf hr, fun i nd hi => own_fr (h.pre i nd hi) hf (fun k => hp i nd k hi), fun i nd hi => own_fr (h.hit i nd hi) hf (fun k => hh i nd k hi), h.apart, h.below.trans (hf.below hu h.below.size)⟩
theorem Mach.over (h : Mach u g ns An cn w) (hb : Below w.heap.size w w') : Mach u g ns An cn w' :=
  h.fr (S := fun _ => False) (Fr.new hb) (fun e => e) (fun _ _ e => e) (fun _ _ _ _ _ e => e) (fun _ _ _ _ _ e => e) (fun _ e => e.elim)
/-- A state more. -/
theorem Mach.push {w2 : World} {A2 pA : Option Addr} {c2 pc : Nat} {xs : T} (h : Mach u g ns An cn w) (hg : w.grownBy w2 (Value.slice An ns.length cn).ownBlock)
    (ho : w2.ownsRow u.heap.size 60 259 (.slice A2 (ns.length + 1) c2) (ns.length + 1) (cellsAll ns ++ nodeCells (.slice pA xs.length pc) (fun _ => -1) 0 (.slice none 0 0)))
    (hp : w.ownsRow u.heap.size 5 1 (.slice pA xs.length pc) xs.length (u8s xs)) :
    Mach u g (ns ++ [⟨xs, fun _ => -1, 0, [], pA, pc, none, 0⟩]) A2 c2 (w2.setCell ⟨g, 0, none⟩ (.slice A2 (ns.length + 1) c2)) := by
  have hf : Fr w w2 (fun k => (Value.slice An ns.length cn).ownBlock = some k) := (Fr.refl w _).grown hg (fun k e _ => e)
  have hb2 : Blk w2 g 55 #[.slice An ns.length cn] := h.blk.fr hf (own_ne_blk h.row h.blk (by decide))
  have hf2 : Fr w (w2.setCell ⟨g, 0, none⟩ (.slice A2 (ns.length + 1) c2)) (fun k => k = g ∨ (Value.slice An ns.length cn).ownBlock = some k) := (hf.mono (fun _ _ e => .inr e)).setCell (fun _ => .inl rfl) _
  have hnp : ∀ (A : Option Addr) (n c : Nat) (ys : List Value), w.ownsRow u.heap.size 5 1 (.slice A n c) n ys → ∀ k, (Value.slice A n c).ownBlock = some k → ¬ (k = g ∨ (Value.slice An ns.length cn).ownBlock = some k) := fun A n c ys h1 k hk e => by
    rcases e with e | e
    · exact own_ne_blk h1 h.blk (by decide) (e ▸ hk)
    · exact own_apart h1 h.row (by decide) k hk e
  have hni : ∀ (A : Option Addr) (n c : Nat) (ys : List Value), w.ownsRow u.heap.size 3 1 (.slice A n c) n ys → ∀ k, (Value.slice A n c).ownBlock = some k → ¬ (k = g ∨ (Value.slice An ns.length cn).ownBlock = some k) := fun A n c ys h1 k hk e => by
    rcases e with e | e
    · exact own_ne_blk h1 h.blk (by decide) (e ▸ hk)
    · exact own_apart h1 h.row (by decide) k hk e
  have hat : ∀ (i : Nat) (nd : Nd), (ns ++ [⟨xs, fun _ => -1, 0, [], pA, pc, none, 0⟩])[i]? = some nd → ns[i]? = some nd ∨ (i = ns.length ∧ nd = ⟨xs, fun _ => -1, 0, [], pA, pc, none, 0⟩) := fun i nd hi => by
    rcases Nat.lt_or_ge i ns.length with h1 | h1
    · rw [List.getElem?_append_left h1] at hi; exact .inl hi
    · rw [List.getElem?_append_right h1] at hi
      have h0 : i - ns.length = 0 := by
        have := (List.getElem?_eq_some_iff.1 hi).1
        simp at this; omega
      rw [h0] at hi
      simp at hi
      exact .inr ⟨by omega, hi.symm⟩
  have hlen : (ns ++ [(⟨xs, fun _ => -1, 0, [], pA, pc, none, 0⟩ : Nd)]).length = ns.length + 1 := by simp
  refine ⟨?_, h.ge, ?_, fun i nd hi => ?_, fun i nd hi => ?_, fun i j a b k hi hj hne hk => ?_, ?_⟩
  · rw [hlen]
    simpa using hb2.set 0 (.slice A2 (ns.length + 1) c2)
  · rw [hlen, cellsAll_snoc]
    refine own_fr ho (Fr.one w2 g 0 _) (fun k hk e => ?_)
    subst e
    exact own_ne_blk ho hb2 (by decide) hk
  · rcases hat i nd hi with h1 | ⟨_, rfl⟩
    · exact own_fr (h.pre i nd h1) hf2 (hnp _ _ _ _ (h.pre i nd h1))
    · exact own_fr hp hf2 (hnp _ _ _ _ hp)
  · rcases hat i nd hi with h1 | ⟨_, rfl⟩
    · exact own_fr (h.hit i nd h1) hf2 (hni _ _ _ _ (h.hit i nd h1))
    · exact World.ownsRow_nil _ _ _ _
  · rcases hat i a hi with h1 | ⟨h1, rfl⟩ <;> rcases hat j b hj with h2 | ⟨h2, rfl⟩
    · exact h.apart i j a b k h1 h2 hne hk
    · simp [Value.ownBlock]
    · simp [Value.ownBlock] at hk
    · omega
  · exact h.below.trans (hf2.below (fun k e => by
      rcases e with e | e
      · rw [e]; exact h.ge
      · exact (own_block h.row k e).1) h.below.size)
/-- A cell of a state is written. -/
theorem Mach.put {i k : Nat} {nd nd' : Nd} {ad : Addr} {v : Value} (h : Mach u g ns (some ad) cn w) (hi : ns[i]? = some nd) (hk : k < 259) (he : ndCells nd' = (ndCells nd).set k v) (e1 : nd'.pre = nd.pre) (e2 : nd'.hits = nd.hits) (e3 : nd'.pA = nd.pA) (e4 : nd'.pc = nd.pc) (e5 : nd'.hA = nd.hA) (e6 : nd'.hc = nd.hc) :
    Mach u g (ns.set i nd') (some ad) cn (w.setCell (ad.add (i * 259 + k)) v) := by
  have hil := (List.getElem?_eq_some_iff.1 hi).1
  have hf : Fr w (w.setCell (ad.add (i * 259 + k)) v) (fun x => x = ad.block) := (Fr.refl w (fun x => x = ad.block)).setCell (p := ad.add (i * 259 + k)) (fun _ => add_block _ _) v
  have hb : (Value.slice (some ad) ns.length cn).ownBlock = some ad.block := rfl
  have hat : ∀ (j : Nat) (a : Nd), (ns.set i nd')[j]? = some a → ∃ a0 : Nd, ns[j]? = some a0 ∧ a.pre = a0.pre ∧ a.hits = a0.hits ∧ a.pA = a0.pA ∧ a.pc = a0.pc ∧ a.hA = a0.hA ∧ a.hc = a0.hc := fun j a hj => by
    rw [getElem?_set' _ _ _ _ hil] at hj
    split at hj
    · rename_i e
      injection hj with hj
      subst hj; subst e
      exact ⟨nd, hi, e1, e2, e3, e4, e5, e6⟩
    · exact ⟨a, hj, rfl, rfl, rfl, rfl, rfl, rfl⟩
  refine ⟨?_, h.ge, ?_, fun j a hj => ?_, fun j a hj => ?_, fun j j' a b k hj hj' hne hk => ?_, ?_⟩
  · rw [List.length_set]
    exact h.blk.fr hf (fun e => own_ne_blk h.row h.blk (by decide) (by rw [hb, ← e]))
  · rw [List.length_set, ← cellsAll_set ns i k nd nd' v hi hk he]
    exact own_set h.row _ v (by omega)
  · obtain ⟨a0, h1, h2, h3, h4, h5, h6, h7⟩ := hat j a hj
    rw [h2, h4, h5]
    exact own_fr (h.pre j a0 h1) hf (fun k hk e => own_apart (h.pre j a0 h1) h.row (by decide) k hk (by rw [hb, ← e]))
  · obtain ⟨a0, h1, h2, h3, h4, h5, h6, h7⟩ := hat j a hj
    rw [h3, h6, h7]
    exact own_fr (h.hit j a0 h1) hf (fun k hk e => own_apart (h.hit j a0 h1) h.row (by decide) k hk (by rw [hb, ← e]))
  · obtain ⟨a0, h1, h2, h3, h4, h5, h6, h7⟩ := hat j a hj
    obtain ⟨b0, g1, g2, g3, g4, g5, g6, g7⟩ := hat j' b hj'
    rw [h3, h6, h7] at hk
    rw [g3, g6, g7]
    exact h.apart j j' a0 b0 k h1 g1 hne hk
  · exact h.below.trans (hf.below (fun k e => by rw [e]; exact (own_block h.row _ hb).1) h.below.size)
theorem hits_at (ad : Addr) (s : Nat) : ad.add (s * 259 + 258) = ⟨(ad.add (s * 259)).block, (ad.add (s * 259)).off + 258, none⟩ := by
  rw [← B.add_add]; rfl
theorem fail_at (ad : Addr) (s : Nat) : ad.add (s * 259 + 257) = ⟨(ad.add (s * 259)).block, (ad.add (s * 259)).off + 257, none⟩ := by
  rw [← B.add_add]; rfl
theorem Mach.hits_cell {s : Nat} {ad : Addr} {nd : Nd} (h : Mach u g ns (some ad) cn w) (hs : ns[s]? = some nd) :
    w.cell? ⟨(ad.add (s * 259)).block, (ad.add (s * 259)).off + 258, none⟩ = some (.slice nd.hA nd.hits.length nd.hc) ∧ w.frozen? ⟨(ad.add (s * 259)).block, (ad.add (s * 259)).off + 258, none⟩ = false := by
  have h1 := own_cell h.row (s * 259 + 258) (.slice nd.hA nd.hits.length nd.hc) (by rw [cellsAll_at ns s 258 nd hs (by omega)]; exact nodeCells_hits _ _ _ _)
  rw [hits_at] at h1
  exact ⟨h1.1, h1.2.1⟩
theorem Mach.fail_cell {s : Nat} {ad : Addr} {nd : Nd} (h : Mach u g ns (some ad) cn w) (hs : ns[s]? = some nd) :
    w.cell? ⟨(ad.add (s * 259)).block, (ad.add (s * 259)).off + 257, none⟩ = some (.int .i64 nd.fail) ∧ w.frozen? ⟨(ad.add (s * 259)).block, (ad.add (s * 259)).off + 257, none⟩ = false := by
  have h1 := own_cell h.row (s * 259 + 257) (.int .i64 nd.fail) (by rw [cellsAll_at ns s 257 nd hs (by omega)]; exact nodeCells_fail _ _ _ _)
  rw [fail_at] at h1
  exact ⟨h1.1, h1.2.1⟩
theorem Mach.put_fail {s : Nat} {ad : Addr} {nd : Nd} (h : Mach u g ns (some ad) cn w) (hs : ns[s]? = some nd) (v : Int) :
    Mach u g (ns.set s { nd with fail := v }) (some ad) cn (w.setCell ⟨(ad.add (s * 259)).block, (ad.add (s * 259)).off + 257, none⟩ (.int .i64 v)) := by
  rw [← fail_at]
  exact h.put hs (by omega) (nodeCells_set_fail _ _ _ _ _).symm rfl rfl rfl rfl rfl rfl
/-- Behind an append onto a state's numbers, ahead of the store: the machine's block, its row. -/
theorem Mach.grown_parts {s : Nat} {ad : Addr} {nd : Nd} {w2 : World} (h : Mach u g ns (some ad) cn w) (hs : ns[s]? = some nd) (hg : w.grownBy w2 (Value.slice nd.hA nd.hits.length nd.hc).ownBlock) :
    Blk w2 g 55 #[.slice (some ad) ns.length cn] ∧ w2.ownsRow u.heap.size 60 259 (.slice (some ad) ns.length cn) ns.length (cellsAll ns) := by
  have hf : Fr w w2 (fun k => (Value.slice nd.hA nd.hits.length nd.hc).ownBlock = some k) := (Fr.refl w _).grown hg (fun k e _ => e)
  exact ⟨h.blk.fr hf (own_ne_blk (h.hit s nd hs) h.blk (by decide)), own_fr h.row hf (fun k hk e => own_apart h.row (h.hit s nd hs) (by decide) k hk e)⟩
theorem Mach.grown_cells {s : Nat} {ad : Addr} {nd : Nd} {w2 : World} (h : Mach u g ns (some ad) cn w) (hs : ns[s]? = some nd) (hg : w.grownBy w2 (Value.slice nd.hA nd.hits.length nd.hc).ownBlock) :
    w2.cell? ⟨g, 0, none⟩ = some (.slice (some ad) ns.length cn) ∧ w2.cell? ⟨(ad.add (s * 259)).block, (ad.add (s * 259)).off + 258, none⟩ = some (.slice nd.hA nd.hits.length nd.hc) ∧ w2.frozen? ⟨(ad.add (s * 259)).block, (ad.add (s * 259)).off + 258, none⟩ = false := by
  obtain ⟨h1, h2⟩ := h.grown_parts hs hg
  have h3 := own_cell h2 (s * 259 + 258) (.slice nd.hA nd.hits.length nd.hc) (by rw [cellsAll_at ns s 258 nd hs (by omega)]; exact nodeCells_hits _ _ _ _)
  rw [hits_at] at h3
  exact ⟨h1.at_ rfl, h3.1, h3.2.1⟩
/-- The numbers of a state, grown and stored. -/
theorem Mach.put_hits {s c2 : Nat} {ad : Addr} {nd : Nd} {w2 : World} {A2 : Option Addr} {ks : List Nat} (h : Mach u g ns (some ad) cn w) (hs : ns[s]? = some nd) (hg : w.grownBy w2 (Value.slice nd.hA nd.hits.length nd.hc).ownBlock)
    (ho : w2.ownsRow u.heap.size 3 1 (.slice A2 ks.length c2) ks.length (ints ks)) (hat : (Value.slice A2 ks.length c2).ownBlock = (Value.slice nd.hA nd.hits.length nd.hc).ownBlock ∨ (Value.slice A2 ks.length c2).ownBlock = some w.heap.size) :
    Mach u g (ns.set s { nd with hits := ks, hA := A2, hc := c2 }) (some ad) cn (w2.setCell ⟨(ad.add (s * 259)).block, (ad.add (s * 259)).off + 258, none⟩ (.slice A2 ks.length c2)) := by
  rw [← hits_at]
  have hil := (List.getElem?_eq_some_iff.1 hs).1
  obtain ⟨hb2, hr2⟩ := h.grown_parts hs hg
  have hf : Fr w w2 (fun k => (Value.slice nd.hA nd.hits.length nd.hc).ownBlock = some k) := (Fr.refl w _).grown hg (fun k e _ => e)
  have hf2 : Fr w (w2.setCell (ad.add (s * 259 + 258)) (.slice A2 ks.length c2)) (fun k => k = ad.block ∨ (Value.slice nd.hA nd.hits.length nd.hc).ownBlock = some k) := (hf.mono (fun _ _ e => .inr e)).setCell (p := ad.add (s * 259 + 258)) (fun _ => .inl (add_block _ _)) _
  have hf3 : Fr w2 (w2.setCell (ad.add (s * 259 + 258)) (.slice A2 ks.length c2)) (fun k => k = ad.block) := (Fr.refl w2 (fun k => k = ad.block)).setCell (p := ad.add (s * 259 + 258)) (fun _ => add_block _ _) _
  have hb : (Value.slice (some ad) ns.length cn).ownBlock = some ad.block := rfl
  have hat2 : ∀ (j : Nat) (a : Nd), (ns.set s { nd with hits := ks, hA := A2, hc := c2 })[j]? = some a → (j = s ∧ a = { nd with hits := ks, hA := A2, hc := c2 }) ∨ (j ≠ s ∧ ns[j]? = some a) := fun j a hj => by
    rw [getElem?_set' _ _ _ _ hil] at hj
    split at hj
    · rename_i e; injection hj with hj; exact .inl ⟨e, hj.symm⟩
    · rename_i e; exact .inr ⟨e, hj⟩
  have hold : ∀ (j : Nat) (a : Nd), j ≠ s → ns[j]? = some a → ∀ k, (Value.slice a.hA a.hits.length a.hc).ownBlock = some k → ¬ (k = ad.block ∨ (Value.slice nd.hA nd.hits.length nd.hc).ownBlock = some k) := fun j a hne hj k hk e => by
    rcases e with e | e
    · exact own_apart (h.hit j a hj) h.row (by decide) k hk (by rw [hb, e])
    · exact h.apart j s a nd k hj hs hne hk e
  have hnew : ∀ (j : Nat) (a : Nd) (k : Nat), j ≠ s → ns[j]? = some a → (Value.slice a.hA a.hits.length a.hc).ownBlock = some k → (Value.slice A2 ks.length c2).ownBlock ≠ some k := fun j a k hne hj hk e => by
    rcases hat with e1 | e1
    · rw [e1] at e
      exact h.apart j s a nd k hj hs hne hk e
    · rw [e1] at e
      injection e with e
      have := (own_block (h.hit j a hj) k hk).2
      omega
  refine ⟨?_, h.ge, ?_, fun j a hj => ?_, fun j a hj => ?_, fun j j' a b k hj hj' hne hk => ?_, ?_⟩
  · rw [List.length_set]
    exact hb2.fr hf3 (fun e => own_ne_blk h.row h.blk (by decide) (by rw [hb, ← e]))
  · rw [List.length_set, ← cellsAll_set ns s 258 nd { nd with hits := ks, hA := A2, hc := c2 } (.slice A2 ks.length c2) hs (by omega) (nodeCells_set_hits _ _ _ _ _).symm]
    exact own_set hr2 _ _ (by omega)
  · have hp : ∀ a0 : Nd, ns[j]? = some a0 → (w2.setCell (ad.add (s * 259 + 258)) (.slice A2 ks.length c2)).ownsRow u.heap.size 5 1 (.slice a0.pA a0.pre.length a0.pc) a0.pre.length (u8s a0.pre) := fun a0 h0 =>
      own_fr (h.pre j a0 h0) hf2 (fun k hk e => by
        rcases e with e | e
        · exact own_apart (h.pre j a0 h0) h.row (by decide) k hk (by rw [hb, e])
        · exact own_apart (h.pre j a0 h0) (h.hit s nd hs) (by decide) k hk e)
    rcases hat2 j a hj with ⟨rfl, rfl⟩ | ⟨_, h0⟩
    · exact hp nd hs
    · exact hp a h0
  · rcases hat2 j a hj with ⟨rfl, rfl⟩ | ⟨hne, h0⟩
    · exact own_fr ho hf3 (fun k hk e => by
        subst e
        exact own_apart ho hr2 (by decide) _ hk hb)
    · exact own_fr (h.hit j a h0) hf2 (hold j a hne h0)
  · rcases hat2 j a hj with ⟨rfl, rfl⟩ | ⟨hn1, h0⟩ <;> rcases hat2 j' b hj' with ⟨h1, h2⟩ | ⟨hn2, h1⟩
    · exact absurd h1.symm hne
    · intro e
      exact hnew j' b k hn2 h1 e hk
    · subst h2
      exact hnew j a k hn1 h0 hk
    · exact h.apart j j' a b k h0 h1 hne hk
  · exact h.below.trans (hf2.below (fun k e => by
      rcases e with e | e
      · rw [e]; exact (own_block h.row _ hb).1
      · exact (own_block (h.hit s nd hs) k e).1) h.below.size)
end
end Go.Proofs.Ytameecogopnkjaa.AW
