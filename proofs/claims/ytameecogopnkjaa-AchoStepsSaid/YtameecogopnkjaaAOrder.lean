/- The memory of acho's link: the machine, and the queue of numbers beside it. -/
import Derived.Test.YtameecogopnkjaaASort
import Derived.Test.YtameecogopnkjaaAPut
namespace Go.Proofs.Ytameecogopnkjaa.AW
open Go.ChangeShapes Go.WideShapes Go.ChangeAt Go.RowKit
open Go.Proofs.Ytameecogopnkjaa.B Go.Proofs.Ytameecogopnkjaa.AM
set_option linter.unusedVariables false

theorem bdrewN (w : World) (n : Nat) : Below w.heap.size w (w.drewN n) := ⟨rfl, rfl, rfl, Nat.le_refl _, fun _ _ => rfl⟩
theorem cellsAll_same (ns : List Nd) (i : Nat) (nd nd' : Nd) (h : ns[i]? = some nd) (he : ndCells nd' = ndCells nd) : cellsAll (ns.set i nd') = cellsAll ns := by
  have h0 : (ndCells nd)[0]? = some (.slice nd.pA nd.pre.length nd.pc) := rfl
  have h1 := cellsAll_set ns i 0 nd nd' (.slice nd.pA nd.pre.length nd.pc) h (by omega) (by rw [he]; rfl)
  rw [← h1]
  apply List.ext_getElem?
  intro j
  rw [List.getElem?_set]
  by_cases e : i * 259 + 0 = j
  · subst e
    have hl : i * 259 + 0 < (cellsAll ns).length := by
      have := (List.getElem?_eq_some_iff.1 h).1
      rw [cellsAll_length]; omega
    rw [if_pos rfl, if_pos hl, cellsAll_at ns i 0 nd h (by omega), h0]
  · rw [if_neg e]
section
variable {u w w' : World} {g cn : Nat} {ns : List Nd} {An : Option Addr}
/-- A state's numbers in another order. -/
theorem Mach.resort {t : Nat} {ad : Addr} {nd : Nd} {ks : List Nat} (h : Mach u g ns (some ad) cn w) (hs : ns[t]? = some nd) (hl : ks.length = nd.hits.length) (hf : Fr w w' (fun k => (Value.slice nd.hA nd.hits.length nd.hc).ownBlock = some k))
    (ho : w'.ownsRow u.heap.size 3 1 (.slice nd.hA nd.hits.length nd.hc) nd.hits.length (ints ks)) : Mach u g (ns.set t { nd with hits := ks }) (some ad) cn w' := by
  have hil := (List.getElem?_eq_some_iff.1 hs).1
  have hc : ndCells { nd with hits := ks } = ndCells nd := by
    show nodeCells _ _ _ (.slice nd.hA ks.length nd.hc) = nodeCells _ _ _ _
    rw [hl]
  have hat2 : ∀ (j : Nat) (a : Nd), (ns.set t { nd with hits := ks })[j]? = some a → (j = t ∧ a = { nd with hits := ks }) ∨ (j ≠ t ∧ ns[j]? = some a) := fun j a hj => by
    rw [getElem?_set' _ _ _ _ hil] at hj
    split at hj
    · rename_i e; injection hj with hj; exact .inl ⟨e, hj.symm⟩
    · rename_i e; exact .inr ⟨e, hj⟩
  have hlen : ∀ (j : Nat) (a : Nd), (ns.set t { nd with hits := ks })[j]? = some a → ∃ a0 : Nd, ns[j]? = some a0 ∧ a.pre = a0.pre ∧ a.pA = a0.pA ∧ a.pc = a0.pc ∧ a.hA = a0.hA ∧ a.hc = a0.hc ∧ a.hits.length = a0.hits.length := fun j a hj => by
    rcases hat2 j a hj with ⟨rfl, rfl⟩ | ⟨_, h0⟩
    · exact ⟨nd, hs, rfl, rfl, rfl, rfl, rfl, hl⟩
    · exact ⟨a, h0, rfl, rfl, rfl, rfl, rfl, rfl⟩
  refine ⟨?_, h.ge, ?_, fun j a hj => ?_, fun j a hj => ?_, fun j j' a b k hj hj' hne hk => ?_, ?_⟩
  · rw [List.length_set]
    exact h.blk.fr hf (own_ne_blk (h.hit t nd hs) h.blk (by decide))
  · rw [List.length_set, cellsAll_same ns t nd _ hs hc]
    exact own_fr h.row hf (fun k hk e => own_apart h.row (h.hit t nd hs) (by decide) k hk e)
  · obtain ⟨a0, h1, h2, h3, h4, _⟩ := hlen j a hj
    rw [h2, h3, h4]
    exact own_fr (h.pre j a0 h1) hf (fun k hk e => own_apart (h.pre j a0 h1) (h.hit t nd hs) (by decide) k hk e)
  · rcases hat2 j a hj with ⟨rfl, rfl⟩ | ⟨hne, h0⟩
    · show w'.ownsRow u.heap.size 3 1 (.slice nd.hA ks.length nd.hc) ks.length (ints ks)
      rw [hl]; exact ho
    · exact own_fr (h.hit j a h0) hf (fun k hk e => h.apart j t a nd k h0 hs hne hk e)
  · obtain ⟨a0, h1, _, _, _, h5, h6, h7⟩ := hlen j a hj
    obtain ⟨b0, g1, _, _, _, g5, g6, g7⟩ := hlen j' b hj'
    rw [h5, h6, h7] at hk
    rw [g5, g6, g7]
    exact h.apart j j' a0 b0 k h1 g1 hne hk
  · exact h.below.trans (hf.below (fun k e => (own_block (h.hit t nd hs) k e).1) h.below.size)
end

structure LS (u : World) (g : Nat) (ns : List Nd) (ad : Addr) (cn : Nat) (Q : List Nat) (Ao : Option Addr) (co : Nat) (w : World) : Prop where
  m : Mach u g ns (some ad) cn w
  o : w.ownsRow u.heap.size 3 1 (.slice Ao Q.length co) Q.length (ints Q)
  ap : ∀ (i : Nat) (nd : Nd) (k : Nat), ns[i]? = some nd → (Value.slice nd.hA nd.hits.length nd.hc).ownBlock = some k → (Value.slice Ao Q.length co).ownBlock ≠ some k
section
variable {u w w' : World} {g cn co : Nat} {ns : List Nd} {ad : Addr} {Q : List Nat} {Ao : Option Addr}
theorem LS.over (h : LS u g ns ad cn Q Ao co w) (hb : Below w.heap.size w w') : LS u g ns ad cn Q Ao co w' :=
  ⟨h.m.over hb, own_fr h.o (Fr.new hb (S := fun _ => False)) (fun _ _ e => e), h.ap⟩
theorem LS.keep_o (h : LS u g ns ad cn Q Ao co w) (p : Addr) (v : Value) (hp : p.block = ad.block) : (w.setCell p v).ownsRow u.heap.size 3 1 (.slice Ao Q.length co) Q.length (ints Q) :=
  own_fr h.o ((Fr.refl w (fun k => k = ad.block)).setCell (p := p) (fun _ => hp) v) (fun k hk e => own_apart h.o h.m.row (by decide) k hk (by rw [e]; rfl))
theorem set_ap {t : Nat} {nd nd' : Nd} (h : LS u g ns ad cn Q Ao co w) (hs : ns[t]? = some nd) (e1 : nd'.hA = nd.hA) (e2 : nd'.hc = nd.hc) (e3 : nd'.hits.length = nd.hits.length) :
    ∀ (i : Nat) (a : Nd) (k : Nat), (ns.set t nd')[i]? = some a → (Value.slice a.hA a.hits.length a.hc).ownBlock = some k → (Value.slice Ao Q.length co).ownBlock ≠ some k := fun i a k hi hk => by
  rw [getElem?_set' _ _ _ _ (List.getElem?_eq_some_iff.1 hs).1] at hi
  split at hi
  · injection hi with hi
    subst hi
    rw [e1, e2, e3] at hk
    exact h.ap t nd k hs hk
  · exact h.ap i a k hi hk
theorem LS.put_next {s b : Nat} {nd : Nd} (h : LS u g ns ad cn Q Ao co w) (hs : ns[s]? = some nd) (hb : b < 256) (v : Int) :
    LS u g (ns.set s { nd with next := upd nd.next b v }) ad cn Q Ao co (w.setCell ⟨(ad.add (s * 259)).block, (ad.add (s * 259)).off + 1 + b, none⟩ (.int .i64 v)) :=
  ⟨h.m.put_next hs hb v, h.keep_o _ _ (add_block _ _), set_ap h hs rfl rfl rfl⟩
theorem LS.put_fail {s : Nat} {nd : Nd} (h : LS u g ns ad cn Q Ao co w) (hs : ns[s]? = some nd) (v : Int) :
    LS u g (ns.set s { nd with fail := v }) ad cn Q Ao co (w.setCell ⟨(ad.add (s * 259)).block, (ad.add (s * 259)).off + 257, none⟩ (.int .i64 v)) :=
  ⟨h.m.put_fail hs v, h.keep_o _ _ (add_block _ _), set_ap h hs rfl rfl rfl⟩
theorem LS.put_hits {s c2 : Nat} {nd : Nd} {w2 : World} {A2 : Option Addr} {ks : List Nat} (h : LS u g ns ad cn Q Ao co w) (hs : ns[s]? = some nd) (hg : w.grownBy w2 (Value.slice nd.hA nd.hits.length nd.hc).ownBlock)
    (ho : w2.ownsRow u.heap.size 3 1 (.slice A2 ks.length c2) ks.length (ints ks)) (hat : (Value.slice A2 ks.length c2).ownBlock = (Value.slice nd.hA nd.hits.length nd.hc).ownBlock ∨ (Value.slice A2 ks.length c2).ownBlock = some w.heap.size) :
    LS u g (ns.set s { nd with hits := ks, hA := A2, hc := c2 }) ad cn Q Ao co (w2.setCell ⟨(ad.add (s * 259)).block, (ad.add (s * 259)).off + 258, none⟩ (.slice A2 ks.length c2)) := by
  have hf : Fr w w2 (fun k => (Value.slice nd.hA nd.hits.length nd.hc).ownBlock = some k) := (Fr.refl w _).grown hg (fun k e _ => e)
  have ho2 := own_fr h.o hf (fun k hk e => h.ap s nd k hs e hk)
  refine ⟨h.m.put_hits hs hg ho hat, own_fr ho2 ((Fr.refl w2 (fun k => k = ad.block)).setCell (p := ⟨(ad.add (s * 259)).block, (ad.add (s * 259)).off + 258, none⟩) (fun _ => add_block _ _) _) (fun k hk e => own_apart h.o h.m.row (by decide) k hk (by rw [e]; rfl)), fun i a k hi hk => ?_⟩
  rw [getElem?_set' _ _ _ _ (List.getElem?_eq_some_iff.1 hs).1] at hi
  split at hi
  · injection hi with hi
    subst hi
    rcases hat with e | e
    · exact h.ap s nd k hs (e ▸ hk)
    · intro e2
      have hk' : (Value.slice A2 ks.length c2).ownBlock = some k := hk
      rw [e] at hk'
      injection hk' with hk'
      have := (own_block h.o k e2).2
      omega
  · exact h.ap i a k hi hk
theorem LS.resort {t : Nat} {nd : Nd} {ks : List Nat} (h : LS u g ns ad cn Q Ao co w) (hs : ns[t]? = some nd) (hl : ks.length = nd.hits.length) (hf : Fr w w' (fun k => (Value.slice nd.hA nd.hits.length nd.hc).ownBlock = some k))
    (ho : w'.ownsRow u.heap.size 3 1 (.slice nd.hA nd.hits.length nd.hc) nd.hits.length (ints ks)) : LS u g (ns.set t { nd with hits := ks }) ad cn Q Ao co w' :=
  ⟨h.m.resort hs hl hf ho, own_fr h.o hf (fun k hk e => h.ap t nd k hs e hk), set_ap h hs rfl rfl hl⟩
/-- A number more in the queue. -/
theorem LS.push {w2 : World} {A2 : Option Addr} {c2 t : Nat} (h : LS u g ns ad cn Q Ao co w) (hg : w.grownBy w2 (Value.slice Ao Q.length co).ownBlock)
    (ho : w2.ownsRow u.heap.size 3 1 (.slice A2 (Q.length + 1) c2) (Q.length + 1) (ints Q ++ [.int .i64 (t : Int)])) (hat : (Value.slice A2 (Q.length + 1) c2).ownBlock = (Value.slice Ao Q.length co).ownBlock ∨ (Value.slice A2 (Q.length + 1) c2).ownBlock = some w.heap.size) :
    LS u g ns ad cn (Q ++ [t]) A2 c2 w2 := by
  have hks : ints Q ++ [.int .i64 (t : Int)] = ints (Q ++ [t]) := by simp [ints]
  have hl2 : Q.length + 1 = (Q ++ [t]).length := by simp
  rw [hks, hl2] at ho
  rw [hl2] at hat
  have hf : Fr w w2 (fun k => (Value.slice Ao Q.length co).ownBlock = some k) := (Fr.refl w _).grown hg (fun k e _ => e)
  refine ⟨h.m.fr hf (own_ne_blk h.o h.m.blk (by decide)) (fun k hk e => own_apart h.o h.m.row (by decide) k e hk) (fun i nd k hi hk e => own_apart h.o (h.m.pre i nd hi) (by decide) k e hk) (fun i nd k hi hk e => h.ap i nd k hi hk e) (fun k e => (own_block h.o k e).1), ho, fun i nd k hi hk e => ?_⟩
  rcases hat with e1 | e1
  · rw [e1] at e; exact h.ap i nd k hi hk e
  · rw [e1] at e
    injection e with e
    have := (own_block (h.m.hit i nd hi) k hk).2
    omega
end
end Go.Proofs.Ytameecogopnkjaa.AW
