/- The walks of acho's document: Same, SameInts, SameTexts, Copy, States. -/
import Derived.Test.YtameecogopnkjaaARef3
namespace Go.Proofs.Ytameecogopnkjaa.AW
open Go.ChangeShapes Go.WideShapes Go.ChangeAt Go.RowKit
open Go.Proofs.Ytameecogopnkjaa.B Go.Proofs.Ytameecogopnkjaa.AM
set_option linter.unusedVariables false

theorem add_lit1 (ad : Addr) (i : Nat) : ad.add (i + 1) = ⟨(ad.add i).block, (ad.add i).off + 1, none⟩ := by
  rw [← B.add_add]
  rfl
theorem hitCells_len (hs : List (Nat × Nat)) : (hitCells hs).length = hs.length * 2 := by
  induction hs with
  | nil => rfl
  | cons x hs ih =>
    have : (hitCells (x :: hs)).length = 2 + (hitCells hs).length := by simp [hitCells]; omega
    rw [this, ih, List.length_cons]; omega
theorem hitCells_at (hs : List (Nat × Nat)) (i : Nat) (x : Nat × Nat) (h : hs[i]? = some x) : (hitCells hs)[i * 2]? = some (.int .i64 (x.1 : Int)) ∧ (hitCells hs)[i * 2 + 1]? = some (.int .i64 (x.2 : Int)) := by
  induction hs generalizing i with
  | nil => simp at h
  | cons d hs ih =>
    have e : hitCells (d :: hs) = .int .i64 (d.1 : Int) :: .int .i64 (d.2 : Int) :: hitCells hs := rfl
    rw [e]
    cases i with
    | zero => simp at h; subst h; exact ⟨rfl, rfl⟩
    | succ i =>
      rw [List.getElem?_cons_succ] at h
      have := ih i h
      rw [show (i + 1) * 2 = (i * 2) + 1 + 1 by omega]
      exact this
theorem take_eq_all {α : Type} {xs ys : List α} (h : xs.length = ys.length) {i : Nat} (hi : i = xs.length) (e : xs.take i = ys.take i) : xs = ys := by
  subst hi
  rwa [List.take_length, h, List.take_length] at e
theorem take_eq_next {α : Type} {xs ys : List α} {i : Nat} {x y : α} (hx : xs[i]? = some x) (hy : ys[i]? = some y) (e : xs.take i = ys.take i) (hxy : x = y) : xs.take (i + 1) = ys.take (i + 1) := by
  obtain ⟨h1, e1⟩ := List.getElem?_eq_some_iff.1 hx
  obtain ⟨h2, e2⟩ := List.getElem?_eq_some_iff.1 hy
  rw [List.take_succ_eq_append_getElem h1, List.take_succ_eq_append_getElem h2, e, e1, e2, hxy]
theorem ne_of_at {α : Type} {xs ys : List α} {i : Nat} {x y : α} (hx : xs[i]? = some x) (hy : ys[i]? = some y) (hxy : x ≠ y) : xs ≠ ys := fun e => by
  subst e
  rw [hx] at hy
  exact hxy (Option.some.inj hy)

set_option maxHeartbeats 1000000 in
theorem same_any {w : World} {B B' n c n' c' : Nat} {A A' : Option Addr} {xs ys : List (Nat × Nat)} (h : Rd w B 2 A n c (hitCells xs)) (h' : Rd w B' 2 A' n' c' (hitCells ys)) :
    Calls Try.prog 15 #[.slice A n c, .slice A' n' c'] w fun e w' => e = .returned (.bool (decide (xs = ys))) ∧ Drew w w' := by
  have hl := h.len
  have hl' := h'.len
  rw [hitCells_len] at hl hl'
  have hx : xs.length = n := by omega
  have hy : ys.length = n' := by omega
  have hc := h.cap
  have hm : c ≤ 9223372036854775807 := h.max
  have HX := hide h
  have HY := hide h'
  have HLX := hide (show _ ∧ _ from ⟨hx, hy⟩)
  clear h h' hl hl' hx hy
  by_cases hnn : n = n'
  · subst hnn
    go_enter Try.func15, Try.ntmps15
    go_wp2_with fail
    go_loopw [5] (fun iv wr => ∃ (i : Nat), iv = .int .i64 i ∧ i ≤ n ∧ xs.take i = ys.take i ∧ Drew w wr) (fun iv _ => n - (intOf iv).toNat)
    case atStart => exact ⟨0, rfl, by omega, rfl, Drew.refl _⟩
    case round =>
      obtain ⟨i, rfl, hi, heq, hdr⟩ := hrel
      have HEQ := hide heq
      have HW := hide hdr
      clear heq hdr
      by_cases hlt : i < n
      · obtain ⟨ad, rfl, hadb, hcc⟩ := (HX.out.drew_ HW.out).lies (by omega)
        obtain ⟨ad', rfl, hadb', hcc'⟩ := (HY.out.drew_ HW.out).lies (by omega)
        obtain ⟨⟨x1, x2⟩, hx⟩ : ∃ x, xs[i]? = some x := ⟨_, List.getElem?_eq_getElem (by have := HLX.out.1; omega)⟩
        obtain ⟨⟨y1, y2⟩, hy⟩ : ∃ x, ys[i]? = some x := ⟨_, List.getElem?_eq_getElem (by have := HLX.out.2; omega)⟩
        have a1 := hcc _ _ (hitCells_at xs i _ hx).1
        have a2 := hcc _ _ (hitCells_at xs i _ hx).2
        have b1 := hcc' _ _ (hitCells_at ys i _ hy).1
        have b2 := hcc' _ _ (hitCells_at ys i _ hy).2
        have e1 : IntKind.i64.wrap ((i : Int) + 1) = (i : Int) + 1 := IntWalk.i64_in _ (by omega)
        have HA := hide (show _ ∧ _ from ⟨hx, hy⟩)
        rw [add_lit1] at a2 b2
        clear hcc hcc' hx hy
        by_cases h1 : x1 = y1
        · subst h1
          by_cases h2 : x2 = y2
          · subst h2
            go_wp2_with fail
            go_quiet (fail)
            go_wp2_with fail
            go_roundw
            case rel => exact ⟨i + 1, by go_num, by omega, take_eq_next HA.out.1 HA.out.2 HEQ.out rfl, HW.out.drewN _⟩
            case measure => simp [intOf]; omega
          · have hd : decide (xs = ys) = false := decide_eq_false (ne_of_at HA.out.1 HA.out.2 (fun e => h2 (Prod.mk.inj e).2))
            have HD := hide hd
            have hi2 : ¬ (x2 : Int) = (y2 : Int) := by omega
            clear hd h2
            go_wp2_with fail
            go_quiet (fail)
            go_wp2_with fail
            go_ret
            exact ⟨by rw [HD.out]; rfl, HW.out.drewN _⟩
        · have hd : decide (xs = ys) = false := decide_eq_false (ne_of_at HA.out.1 HA.out.2 (fun e => h1 (Prod.mk.inj e).1))
          have HD := hide hd
          have hi1 : ¬ (x1 : Int) = (y1 : Int) := by omega
          clear hd h1
          go_wp2_with fail
          go_quiet (fail)
          go_wp2_with fail
          go_ret
          exact ⟨by rw [HD.out]; rfl, HW.out.drewN _⟩
      · obtain rfl : n = i := by omega
        have hd : xs = ys := take_eq_all (HLX.out.1.trans HLX.out.2.symm) HLX.out.1.symm HEQ.out
        have HD := hide (decide_eq_true hd)
        clear hd
        go_wp2_with fail
        go_ret
        exact ⟨by rw [HD.out]; rfl, HW.out⟩
  · have hd : decide (xs = ys) = false := decide_eq_false (fun e => hnn (by rw [← HLX.out.1, ← HLX.out.2, e]))
    have hni : ((n : Int) == (n' : Int)) = false := beq_eq_false_iff_ne.2 (by omega)
    have HD := hide hd
    clear hd
    go_enter Try.func15, Try.ntmps15
    go_wp2_with fail
    go_ret
    exact ⟨by rw [HD.out]; rfl, Drew.refl _⟩

set_option maxHeartbeats 1000000 in
theorem sameInts_any {w : World} {B B' n c n' c' : Nat} {A A' : Option Addr} {xs ys : List Nat} (h : Rd w B 1 A n c (ints xs)) (h' : Rd w B' 1 A' n' c' (ints ys)) :
    Calls Try.prog 21 #[.slice A n c, .slice A' n' c'] w fun e w' => e = .returned (.bool (decide (xs = ys))) ∧ Drew w w' := by
  have hl := h.len
  have hl' := h'.len
  rw [ints, List.length_map] at hl hl'
  have hx : xs.length = n := by omega
  have hy : ys.length = n' := by omega
  have hc := h.cap
  have hm : c ≤ 9223372036854775807 := h.max
  have HX := hide h
  have HY := hide h'
  have HLX := hide (show _ ∧ _ from ⟨hx, hy⟩)
  clear h h' hl hl' hx hy
  by_cases hnn : n = n'
  · subst hnn
    go_enter Try.func21, Try.ntmps21
    go_wp2_with fail
    go_loopw [5] (fun iv wr => ∃ (i : Nat), iv = .int .i64 i ∧ i ≤ n ∧ xs.take i = ys.take i ∧ Drew w wr) (fun iv _ => n - (intOf iv).toNat)
    case atStart => exact ⟨0, rfl, by omega, rfl, Drew.refl _⟩
    case round =>
      obtain ⟨i, rfl, hi, heq, hdr⟩ := hrel
      have HEQ := hide heq
      have HW := hide hdr
      clear heq hdr
      by_cases hlt : i < n
      · obtain ⟨ad, rfl, hadb, hcc⟩ := (HX.out.drew_ HW.out).lies (by omega)
        obtain ⟨ad', rfl, hadb', hcc'⟩ := (HY.out.drew_ HW.out).lies (by omega)
        obtain ⟨x1, hx⟩ : ∃ x, xs[i]? = some x := ⟨_, List.getElem?_eq_getElem (by have := HLX.out.1; omega)⟩
        obtain ⟨y1, hy⟩ : ∃ x, ys[i]? = some x := ⟨_, List.getElem?_eq_getElem (by have := HLX.out.2; omega)⟩
        have a1 := hcc i (.int .i64 (x1 : Int)) (by rw [ints, List.getElem?_map, hx]; rfl)
        have b1 := hcc' i (.int .i64 (y1 : Int)) (by rw [ints, List.getElem?_map, hy]; rfl)
        have e1 : IntKind.i64.wrap ((i : Int) + 1) = (i : Int) + 1 := IntWalk.i64_in _ (by omega)
        have HA := hide (show _ ∧ _ from ⟨hx, hy⟩)
        clear hcc hcc' hx hy
        by_cases h1 : x1 = y1
        · subst h1
          go_wp2_with fail
          go_quiet (fail)
          go_wp2_with fail
          go_roundw
          case rel => exact ⟨i + 1, by go_num, by omega, take_eq_next HA.out.1 HA.out.2 HEQ.out rfl, HW.out.drewN _⟩
          case measure => simp [intOf]; omega
        · have hd : decide (xs = ys) = false := decide_eq_false (ne_of_at HA.out.1 HA.out.2 h1)
          have HD := hide hd
          have hi1 : ((x1 : Int) == (y1 : Int)) = false := beq_eq_false_iff_ne.2 (by omega)
          clear hd h1
          go_wp2_with fail
          go_quiet (fail)
          go_wp2_with fail
          go_ret
          exact ⟨by rw [HD.out]; rfl, HW.out.drewN _⟩
      · obtain rfl : n = i := by omega
        have hd : xs = ys := take_eq_all (HLX.out.1.trans HLX.out.2.symm) HLX.out.1.symm HEQ.out
        have HD := hide (decide_eq_true hd)
        clear hd
        go_wp2_with fail
        go_ret
        exact ⟨by rw [HD.out]; rfl, HW.out⟩
  · have hd : decide (xs = ys) = false := decide_eq_false (fun e => hnn (by rw [← HLX.out.1, ← HLX.out.2, e]))
    have hni : ((n : Int) == (n' : Int)) = false := beq_eq_false_iff_ne.2 (by omega)
    have HD := hide hd
    clear hd
    go_enter Try.func21, Try.ntmps21
    go_wp2_with fail
    go_ret
    exact ⟨by rw [HD.out]; rfl, Drew.refl _⟩
end Go.Proofs.Ytameecogopnkjaa.AW
