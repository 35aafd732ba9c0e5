/- The order of hits: the walk of the sort's closure, and what the library's sort makes of a row of hits. -/
import Derived.Test.YtkjpcincjoaeeaaTConf
import Derived.Test.YtkjpcincjoaeeaaTShelf
import Derived.Shelf.SlSortCmp.NoneTotal
namespace Go.Proofs.Ytkjpcincjoaeeaa.TW
open Go.ChangeShapes Go.WideShapes Go.ChangeAt Go.RowKit Go.Sort Go.Lib
open Go.Proofs.Ytkjpcincjoaeeaa.B Go.Proofs.Ytkjpcincjoaeeaa.AM Go.Proofs.Ytkjpcincjoaeeaa.AW Go.Proofs.Ytkjpcincjoaeeaa.TM
set_option linter.unusedVariables false

theorem compare_any (x y : Int) (w : World) : Calls Try.prog 32 #[.int .i64 x, .int .i64 y] w fun e w' => e = .returned (.int .i64 (Lib.compareInt x y)) ∧ w = w' := by
  rcases Int.lt_trichotomy x y with h | h | h
  · have e : Lib.compareInt x y = -1 := by unfold Lib.compareInt; simp [h]
    rw [e]
    go_enter Try.func32, Try.ntmps32
    go_wp2_with go_in
    go_ret
    exact ⟨rfl, rfl⟩
  · subst h
    have e : Lib.compareInt x x = 0 := by unfold Lib.compareInt; simp
    rw [e]
    go_enter Try.func32, Try.ntmps32
    go_wp2_with go_in
    go_ret
    exact ⟨rfl, rfl⟩
  · have e : Lib.compareInt x y = 1 := by unfold Lib.compareInt; rw [if_neg (by omega), if_pos h]
    have h2 : decide (x < y) = false := decide_eq_false (by omega)
    rw [e]
    go_enter Try.func32, Try.ntmps32
    go_wp2_with go_in
    go_ret
    exact ⟨rfl, rfl⟩
def orInt (a b : Int) : Int := if a = 0 then b else a
theorem or_any {w : World} {g : Nat} (a b : Int) (h0 : w.cell? ⟨g, 0, none⟩ = some (.int .i64 a)) (h1 : w.cell? ⟨g, 1, none⟩ = some (.int .i64 b)) :
    Calls Try.prog 31 #[.slice (some ⟨g, 0, none⟩) 2 2] w fun e w' => e = .returned (.int .i64 (orInt a b)) ∧ w = w' := by
  by_cases ha : a = 0
  · subst ha
    have e : orInt 0 b = b := rfl
    rw [e]
    by_cases hb : b = 0
    · subst hb
      go_enter Try.func31, Try.ntmps31
      go_wp2_with fail
      refine wp_loop_rounds 3 ?_
      rw [rounds_succ]
      go_wp2_with fail
      rw [rounds_succ]
      go_wp2_with fail
      rw [rounds_succ]
      go_wp2_with fail
      go_ret
      exact ⟨rfl, rfl⟩
    · have hbi : (b != 0) = true := by simp [hb]
      go_enter Try.func31, Try.ntmps31
      go_wp2_with fail
      refine wp_loop_rounds 3 ?_
      rw [rounds_succ]
      go_wp2_with fail
      rw [rounds_succ]
      go_wp2_with fail
      go_ret
      exact ⟨rfl, rfl⟩
  · have hai : (a != 0) = true := by simp [ha]
    have e : orInt a b = a := by rw [orInt, if_neg ha]
    rw [e]
    clear ha e
    go_enter Try.func31, Try.ntmps31
    go_wp2_with fail
    refine wp_loop_rounds 3 ?_
    rw [rounds_succ]
    go_wp2_with fail
    go_ret
    exact ⟨rfl, rfl⟩
def cfH (x y : Nat × Nat) : Int := orInt (Lib.compareInt (x.2 : Int) (y.2 : Int)) (Lib.compareInt (x.1 : Int) (y.1 : Int))
def encH (x : Nat × Nat) : List Value := [.int .i64 (x.1 : Int), .int .i64 (x.2 : Int)]
theorem cell3 (w : World) (o1 o2 : Obj) (cs : Array Value) (t : TypeId) (i : Nat) (v : Value) (h : cs[i]? = some v) : (((w.alloc o1).alloc o2).alloc (.cells cs t)).cell? ⟨w.heap.size + 1 + 1, i, none⟩ = some v := by
  have h1 := (Blk.new ((w.alloc o1).alloc o2) t cs).at_ h
  rwa [show ((w.alloc o1).alloc o2).heap.size = w.heap.size + 1 + 1 by simp] at h1
theorem grow3 (w : World) (o1 o2 o3 : Obj) : (((w.alloc o1).alloc o2).alloc o3).drew = grow (w.drewN 1) #[o1, o2, o3] := by
  rw [alloc_eq_grow, alloc_eq_grow, alloc_eq_grow, grow_grow, grow_grow]
  rfl
set_option maxHeartbeats 1000000 in
theorem closure_any (x1 x2 y1 y2 : Int) (w : World) : Calls Try.prog 30 #[.agg #[.int .i64 x1, .int .i64 x2], .agg #[.int .i64 y1, .int .i64 y2]] w fun e w' => e = .returned (.int .i64 (orInt (Lib.compareInt x2 y2) (Lib.compareInt x1 y1))) ∧ ∃ q os', w' = grow (w.drewN q) os' := by
  have hc := compare_any x2 y2
  have hd := compare_any x1 y1
  generalize Lib.compareInt x2 y2 = a at *
  generalize Lib.compareInt x1 y1 = b at *
  have ho := fun w g => or_any (w := w) (g := g) a b
  generalize orInt a b = r at *
  have HC := hide hc
  have HD := hide hd
  have HO := hide ho
  clear hc hd ho
  go_enter Try.func30, Try.ntmps30
  go_wp2_with fail
  go_region_held3 (fun w' => w'.cell? ⟨w.heap.size, 0, none⟩ = some (.int .i64 x1) ∧ w'.cell? ⟨w.heap.size, 1, none⟩ = some (.int .i64 x2) ∧ w'.cell? ⟨w.heap.size + 1, 0, none⟩ = some (.int .i64 y1) ∧ w'.cell? ⟨w.heap.size + 1, 1, none⟩ = some (.int .i64 y2)) (go_keep)
    (first
      | (go_at_call 32; (with_reducible refine (HC.out _).mono ?_); rintro e w6 ⟨rfl, rfl⟩)
      | (go_at_call 32; (with_reducible refine (HD.out _).mono ?_); rintro e w6 ⟨rfl, rfl⟩)
      | (go_at_call 31; (with_reducible refine (HO.out _ _ (by simp; exact cell3 _ _ _ _ _ 0 _ rfl) (by simp; exact cell3 _ _ _ _ _ 1 _ rfl)).mono ?_); rintro e w6 ⟨rfl, rfl⟩))
  all_goals
    go_wp2_with fail
    go_ret
    exact ⟨rfl, 1, _, grow3 _ _ _ _⟩
theorem encH_len (x : Nat × Nat) : (encH x).length = 2 := rfl
theorem encH_one (x : Nat × Nat) : ∀ v ∈ encH x, v.oneCell' = true := by
  intro v hv
  simp [encH] at hv
  rcases hv with rfl | rfl <;> rfl
theorem cmpLays (blk off size : Nat) (w : World) : CmpLays Try.prog 30 #[] encH 2 cfH blk off size w :=
  fun _ _ _ _ x y => closure_any x.1 x.2 y.1 y.2 _
theorem lt_before (x y : Nat × Nat) : ltOf cfH x y = true ↔ before x y := by
  unfold ltOf cfH orInt before Lib.compareInt
  by_cases h1 : x.2 < y.2
  · simp [h1]
  · by_cases h2 : y.2 < x.2
    · simp [h1, h2]; omega
    · have e : x.2 = y.2 := by omega
      by_cases h3 : x.1 < y.1
      · simp [e, h3]
      · by_cases h4 : y.1 < x.1
        · simp [e, h3, h4]
        · simp [e, h3, h4]
theorem swoH : SWO (ltOf cfH) where
  irrefl x := Bool.eq_false_iff.2 fun h => before_irrefl x ((lt_before x x).1 h)
  trans x y z h1 h2 := (lt_before x z).2 (before_trans ((lt_before x y).1 h1) ((lt_before y z).1 h2))
  ntrans x y z h1 h2 := by
    rw [Bool.eq_false_iff, ne_eq, lt_before] at *
    unfold before at *
    omega

/-! ### The row behind the sort -/
theorem flat_hits (d : HitL) : (flatK encH 2 d.toArray).toList = hitCells d := by
  apply List.ext_getElem?
  intro j
  have hl : (flatK encH 2 d.toArray).size = d.length * 2 := by simp
  have hl2 := hitCells_len d
  by_cases hj : j < d.length * 2
  · have h1 := get_flatK encH 2 d.toArray j (by simpa using hj)
    have h2 : (flatK encH 2 d.toArray).toList[j]? = some (flatK encH 2 d.toArray)[j]! := by
      rw [Array.getElem?_toList, Array.getElem?_eq_getElem (by omega), getElem!_pos _ j (by omega)]
    rw [h2, h1]
    have hq : j / 2 < d.length := by omega
    obtain ⟨x, hx⟩ : ∃ x, d[j / 2]? = some x := ⟨_, List.getElem?_eq_getElem hq⟩
    have hx2 : d.toArray[j / 2]! = x := by
      rw [getElem!_pos _ _ (by simpa using hq)]
      have := (List.getElem?_eq_some_iff.1 hx).2
      simpa using this
    rw [hx2]
    obtain ⟨c1, c2⟩ := hitCells_at d (j / 2) x hx
    rcases Nat.mod_two_eq_zero_or_one j with e | e
    · rw [e, show j = j / 2 * 2 by omega, c1]; rfl
    · rw [e, show j = j / 2 * 2 + 1 by omega, c2]; rfl
  · rw [List.getElem?_eq_none (by rw [Array.length_toList]; omega), List.getElem?_eq_none (by omega)]
theorem holds_cells {w : World} {g : Nat} {cur : Array Value} {e : TypeId} {F : Array Value} (hb : w.heap[g]? = some (.cells cur e (0, 0))) (ht : cur.toList.take F.size = F.toList) : Holds id w g 0 F := by
  intro j hj
  refine ⟨?_, by simp [World.frozen?, hb]⟩
  have h1 : (cur.toList.take F.size)[j]? = F.toList[j]? := by rw [ht]
  rw [List.getElem?_take_of_lt hj] at h1
  simp only [World.cell?, hb, Nat.zero_add]
  simp only [Option.isSome_none, Bool.false_eq_true, if_false]
  rw [← Array.getElem?_toList, h1, Array.getElem?_toList, Array.getElem?_eq_getElem hj, getElem!_pos _ j hj]
  rfl
theorem heap_sortedK {w : World} {g n : Nat} {os : Array Obj} {cur : Array Value} {e : TypeId} {fr : Nat × Nat} (F : Array Value) (hb : w.heap[g]? = some (.cells cur e fr)) :
    (grow (putRow id (Sort.ahead w n) g 0 F) os).heap[g]? = some (.cells (putCells id 0 F cur) e fr) := by
  have hg : g < w.heap.size := (Array.getElem?_eq_some_iff.1 hb).1
  rw [heap_grow_old _ _ (by simpa using hg)]
  simp [putRow, mapBlock, Sort.ahead, Array.getElem?_modify, hb, onCells]
theorem fr_sortedK {w : World} {g n : Nat} {os : Array Obj} (F : Array Value) : Fr w (grow (putRow id (Sort.ahead w n) g 0 F) os) (· = g) := by
  refine ⟨rfl, rfl, rfl, by simp, fun k hk hne => ?_⟩
  rw [heap_grow_old _ _ (by simpa using hk)]
  have : g ≠ k := fun e => hne e.symm
  simp [putRow, mapBlock, Sort.ahead, Array.getElem?_modify, this]
theorem take_putCellsK (cur F : Array Value) (h : F.size ≤ cur.size) : (putCells id 0 F cur).toList.take F.size = F.toList := by
  apply List.ext_getElem?
  intro j
  by_cases hj : j < F.size
  · rw [List.getElem?_take_of_lt hj, Array.getElem?_toList, Array.getElem?_toList]
    simp [putCells, hj, show j < cur.size by omega]
  · rw [List.getElem?_take_eq_none (by omega), List.getElem?_eq_none (by rw [Array.length_toList]; omega)]
theorem sortHits_any {w : World} {base c : Nat} {A : Option Addr} {d : HitL} (h : w.ownsRow base 51 2 (.slice A d.length c) d.length (hitCells d)) (hd : d.length ≤ 1000000000000) :
    Calls Try.prog 29 #[.slice A d.length c, .func (.func 30) #[] #[]] w fun e w' => e = .returned (.tuple #[]) ∧ ∃ d' : HitL, d'.Perm d ∧ (d'.Pairwise fun x y => ¬ before y x) ∧ w'.ownsRow base 51 2 (.slice A d.length c) d.length (hitCells d') ∧ Fr w w' (fun k => (Value.slice A d.length c).ownBlock = some k) := by
  rcases h.2 with ⟨h1, h2⟩ | ⟨g, cap, cur, h1, hb, hh, h3, h4, h5, h6⟩
  · have hk : d = [] := List.eq_nil_of_length_eq_zero h2
    subst hk
    have hc := AnyF.slices_SortFunc_none Try.sortHit A c (.func (.func 30) #[] #[]) w
    change Calls Try.prog 29 _ _ _ at hc
    refine hc.mono ?_
    rintro e w' ⟨rfl, rfl⟩
    exact ⟨rfl, [], List.Perm.refl _, List.Pairwise.nil, h, Fr.refl _ _⟩
  · injection h1 with h1 _ h1'
    subst h1; subst h1'
    have hfs : (flatK encH 2 d.toArray).size = d.length * 2 := by simp
    have hH : HoldsK encH 2 w g 0 d.toArray := holds_cells hh (by rw [hfs, h6, flat_hits])
    have eg : ∀ args w, (callFunc 30 args).run Try.prog w = .ok (.enter 30 args) w := enters_of Try.func30 (by kernel_rfl) rfl
    have hc := AnyQ.slices_SortFunc Try.sortHit 2 Try.isAgg51 Try.sizeOf51 encH encH_len encH_one cfH swoH 30 #[] g 0 c d.toArray w eg (cmpLays g 0 _ w) hH (Array.getElem?_eq_some_iff.1 hh).1 (by simp; omega)
    change Calls Try.prog 29 _ _ _ at hc
    rw [List.size_toArray] at hc
    refine hc.mono ?_
    rintro e w' ⟨rfl, da, n, os, hp, hs, rfl⟩
    obtain ⟨d', rfl⟩ : ∃ d' : HitL, da = d'.toArray := ⟨da.toList, by simp⟩
    obtain ⟨hp1, _, hp2⟩ := hp
    have hl : d'.length = d.length := by simpa using hp1
    have hp3 : d'.Perm d := by
      have e1 : d'.toArray.extract 0 d.length = d'.toArray := by
        rw [← hl]; simp
      have e2 : d.toArray.extract 0 d.length = d.toArray := by simp
      rw [e1, e2] at hp2
      exact hp2
    have hfs' : (flatK encH 2 d'.toArray).size = d.length * 2 := by simp [hl]
    refine ⟨rfl, d', hp3, ?_, ?_, (fr_sortedK _).mono (fun k _ e => by rw [e]; rfl)⟩
    · rw [List.pairwise_iff_getElem]
      intro i j hi hj hij hbf
      have h7 := hs i j (Nat.zero_le _) hij (by omega)
      rw [getElem!_pos _ i (by simpa using hi), getElem!_pos _ j (by simpa using hj)] at h7
      have h8 := (lt_before _ _).2 hbf
      simp only [List.getElem_toArray] at h7
      rw [h8] at h7
      cases h7
    · refine ⟨by rw [hitCells_len, hl], .inr ⟨g, c, _, rfl, hb, heap_sortedK _ hh, h3, h4, by simp [putCells, h5], ?_⟩⟩
      have ht := take_putCellsK cur (flatK encH 2 d'.toArray) (by rw [hfs']; omega)
      rw [hfs', flat_hits] at ht
      exact ht
end Go.Proofs.Ytkjpcincjoaeeaa.TW
