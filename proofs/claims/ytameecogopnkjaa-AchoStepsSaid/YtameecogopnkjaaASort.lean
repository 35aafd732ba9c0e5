/- Numbers of a row of the call's own, sorted by the library; and copied. -/
import Derived.Test.YtameecogopnkjaaAMem
import Derived.Test.YtameecogopnkjaaAShelf
import Derived.Sort.OwnSorted
namespace Go.Proofs.Ytameecogopnkjaa.AW
open Go.ChangeShapes Go.WideShapes Go.ChangeAt Go.RowKit Go.Sort
open Go.Proofs.Ytameecogopnkjaa.B Go.Proofs.Ytameecogopnkjaa.AM
set_option linter.unusedVariables false

def enc1 (z : Int) : Value := .int .i64 z
theorem ints_eq (ks : List Nat) : ints ks = (ks.map fun (k : Nat) => (k : Int)).map enc1 := by
  rw [List.map_map]; rfl
theorem holds_ints {w : World} {g : Nat} {cur : Array Value} {e : TypeId} {zs : List Int} (hb : w.heap[g]? = some (.cells cur e (0, 0))) (ht : cur.toList.take zs.length = zs.map enc1) : Holds enc1 w g 0 zs.toArray := by
  intro j hj
  have hj' : j < zs.length := by simpa using hj
  refine ⟨?_, by simp [World.frozen?, hb]⟩
  have h1 : (cur.toList.take zs.length)[j]? = (zs.map enc1)[j]? := by rw [ht]
  rw [List.getElem?_take_of_lt hj'] at h1
  simp only [World.cell?, hb, Nat.zero_add]
  simp only [Option.isSome_none, Bool.false_eq_true, if_false]
  rw [← Array.getElem?_toList, h1]
  simp [hj']
theorem heap_sorted1 {w : World} {g n : Nat} {os : Array Obj} {cur : Array Value} {e : TypeId} {fr : Nat × Nat} (d : Array Int) (hb : w.heap[g]? = some (.cells cur e fr)) :
    (grow (putRow enc1 (Sort.ahead w n) g 0 d) os).heap[g]? = some (.cells (putCells enc1 0 d cur) e fr) := by
  have hg : g < w.heap.size := (Array.getElem?_eq_some_iff.1 hb).1
  rw [heap_grow_old _ _ (by simpa using hg)]
  simp [putRow, mapBlock, Sort.ahead, Array.getElem?_modify, hb, onCells]
theorem fr_sorted1 {w : World} {g n : Nat} {os : Array Obj} (d : Array Int) : Fr w (grow (putRow enc1 (Sort.ahead w n) g 0 d) os) (· = g) := by
  refine ⟨rfl, rfl, rfl, by simp, fun k hk hne => ?_⟩
  rw [heap_grow_old _ _ (by simpa using hk)]
  have : g ≠ k := fun e => hne e.symm
  simp [putRow, mapBlock, Sort.ahead, Array.getElem?_modify, this]
theorem take_putCells1 (cur : Array Value) (ts : List Int) (h : ts.length ≤ cur.size) : (putCells enc1 0 ts.toArray cur).toList.take ts.length = ts.map enc1 := by
  apply List.ext_getElem?
  intro j
  by_cases hj : j < ts.length
  · rw [List.getElem?_take_of_lt hj, Array.getElem?_toList]
    simp [putCells, hj, show j < cur.size by omega]
  · rw [List.getElem?_take_eq_none (by omega), List.getElem?_eq_none (by simp; omega)]

theorem sort_own {w : World} {base c : Nat} {A : Option Addr} {ks : List Nat} (h : w.ownsRow base 3 1 (.slice A ks.length c) ks.length (ints ks)) (hl : ks.length ≤ 100000) :
    Calls Try.prog 33 #[.slice A ks.length c] w fun e w' => e = .returned (.tuple #[]) ∧ ∃ ks' : List Nat, ks'.Perm ks ∧ ks'.Pairwise (· ≤ ·) ∧ w'.ownsRow base 3 1 (.slice A ks.length c) ks.length (ints ks') ∧ Fr w w' (fun k => (Value.slice A ks.length c).ownBlock = some k) := by
  rcases h.2 with ⟨h1, h2⟩ | ⟨g, cap, cur, h1, hb, hh, h3, h4, h5, h6⟩
  · have hk : ks = [] := List.eq_nil_of_length_eq_zero h2
    subst hk
    refine (Try.slices_Sort_int_none A c w).mono ?_
    rintro e w' ⟨rfl, rfl⟩
    exact ⟨rfl, [], List.Perm.refl _, List.Pairwise.nil, h, Fr.refl _ _⟩
  · injection h1 with h1 _ h1'
    subst h1; subst h1'
    rw [Nat.mul_one] at h6
    have hzl : (ks.map fun (k : Nat) => (k : Int)).length = ks.length := List.length_map ..
    have hH : Holds enc1 w g 0 (ks.map fun (k : Nat) => (k : Int)).toArray := holds_ints hh (by rw [hzl, h6, ints_eq])
    have hc := Try.slices_Sort_int g 0 c (ks.map fun (k : Nat) => (k : Int)) w hH (Array.getElem?_eq_some_iff.1 hh).1 (by rw [hzl]; omega)
    rw [hzl] at hc
    refine hc.mono ?_
    rintro e w' ⟨rfl, n, os, rfl⟩
    have hm : (ks.map fun (k : Nat) => (k : Int)).mergeSort (fun x y => decide (x ≤ y)) = (ks.mergeSort (fun x y => decide (x ≤ y))).map fun (k : Nat) => (k : Int) := by
      rw [List.map_mergeSort]
      intro a _ b _
      simp
    have hml : (ks.mergeSort (fun x y => decide (x ≤ y))).length = ks.length := List.length_mergeSort _
    refine ⟨rfl, ks.mergeSort (fun x y => decide (x ≤ y)), List.mergeSort_perm _ _, ?_, ?_, (fr_sorted1 _).mono (fun k _ e => by rw [e]; rfl)⟩
    · have := List.pairwise_mergeSort (le := fun (x y : Nat) => decide (x ≤ y)) (fun a b c h1 h2 => by simp at *; omega) (fun a b => by simp; omega) ks
      exact this.imp (fun h => by simpa using h)
    · rw [hm]
      refine ⟨by rw [ints, List.length_map, hml, Nat.mul_one], .inr ⟨g, c, _, rfl, hb, heap_sorted1 _ hh, h3, h4, by simp [putCells, h5], ?_⟩⟩
      have ht := take_putCells1 cur ((ks.mergeSort (fun x y => decide (x ≤ y))).map fun (k : Nat) => (k : Int)) (by rw [List.length_map, hml]; omega)
      rw [List.length_map, hml] at ht
      rw [Nat.mul_one, ints_eq]
      exact ht

end Go.Proofs.Ytameecogopnkjaa.AW
