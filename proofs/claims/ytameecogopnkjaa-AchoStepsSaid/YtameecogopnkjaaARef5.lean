/- The walks of acho's document: SameTexts, Copy, States. -/
import Derived.Test.YtameecogopnkjaaARef4
namespace Go.Proofs.Ytameecogopnkjaa.AW
open Go.ChangeShapes Go.WideShapes Go.ChangeAt Go.RowKit
open Go.Proofs.Ytameecogopnkjaa.B Go.Proofs.Ytameecogopnkjaa.AM
set_option linter.unusedVariables false

set_option maxHeartbeats 1000000 in
theorem sameTexts_any {w : World} {B B' n c n' c' : Nat} {A A' : Option Addr} {xs ys : List T} (h : Texts w B A n c xs) (h' : Texts w B' A' n' c' ys) :
    Calls Try.prog 12 #[.slice A n c, .slice A' n' c'] w fun e w' => e = .returned (.bool (decide (xs = ys))) ∧ Drew w w' := by
  have hx := h.count
  have hy := h'.count
  have hc := h.room
  have hm : c ≤ 9223372036854775807 := h.max
  have HX := hide h
  have HY := hide h'
  have HLX := hide (show _ ∧ _ from ⟨hx, hy⟩)
  clear h h' hx hy
  by_cases hnn : n = n'
  · subst hnn
    go_enter Try.func12, Try.ntmps12
    go_wp2_with fail
    go_loopw [5] (fun iv wr => ∃ (i : Nat), iv = .int .i64 i ∧ i ≤ n ∧ xs.take i = ys.take i ∧ Drew w wr) (fun iv _ => n - (intOf iv).toNat)
    case atStart => exact ⟨0, rfl, by omega, rfl, Drew.refl _⟩
    case round =>
      obtain ⟨i, rfl, hi, heq, hdr⟩ := hrel
      have HEQ := hide heq
      have HW := hide hdr
      clear heq hdr
      by_cases hlt : i < n
      · obtain ⟨ad, x1, A1, c1, rfl, _, hx, a1, hr1⟩ := (HX.out.drew HW.out).at_ hlt
        obtain ⟨ad', y1, A2, c2, rfl, _, hy, b1, hr2⟩ := (HY.out.drew HW.out).at_ hlt
        have s1 := fun k => run_str (P := Try.prog) 23 9 5 Try.underlying23 Try.underlying5 Try.underlying9 (hr1.drewN k)
        have s2 := fun k => run_str (P := Try.prog) 23 9 5 Try.underlying23 Try.underlying5 Try.underlying9 (hr2.drewN k)
        have e1 : IntKind.i64.wrap ((i : Int) + 1) = (i : Int) + 1 := IntWalk.i64_in _ (by omega)
        have HA := hide (show _ ∧ _ from ⟨hx, hy⟩)
        clear hr1 hr2 hx hy
        go_wp2_with fail
        go_quiet (fail)
        rw [str_beq]
        by_cases h1 : x1 = y1
        · subst h1
          rw [beq_self_eq_true]
          clear s1 s2
          go_wp2_with fail
          go_roundw
          case rel => exact ⟨i + 1, by go_num, by omega, take_eq_next HA.out.1 HA.out.2 HEQ.out rfl, HW.out.drewN _⟩
          case measure => simp [intOf]; omega
        · have hd : decide (xs = ys) = false := decide_eq_false (ne_of_at HA.out.1 HA.out.2 h1)
          have HD := hide hd
          rw [beq_eq_false_iff_ne.2 h1]
          clear hd h1 s1 s2
          go_wp2_with fail
          go_ret
          exact ⟨by rw [HD.out]; rfl, HW.out.drewN _⟩
      · obtain rfl : n = i := by omega
        have hd : xs = ys := take_eq_all (HLX.out.1.trans HLX.out.2.symm) HLX.out.1.symm HEQ.out
        have HD := hide (decide_eq_true hd)
        clear hd
        go_wp2_with fail
        go_ret
        exact ⟨by rw [HD.out]; rfl, HW.out⟩
  · have hd : decide (xs = ys) = false := decide_eq_false (fun e => hnn (by rw [← HLX.out.1, ← HLX.out.2, e]))
    have hni : ((n : Int) == (n' : Int)) = false := beq_eq_false_iff_ne.2 (by omega)
    have HD := hide hd
    clear hd
    go_enter Try.func12, Try.ntmps12
    go_wp2_with fail
    go_ret
    exact ⟨by rw [HD.out]; rfl, Drew.refl _⟩

/-- A list of texts of the call's own. -/
structure OwnTexts (w : World) (base : Nat) (A : Option Addr) (n c : Nat) (vs : List Value) (Ls : List T) : Prop where
  row : w.ownsRow base 23 1 (.slice A n c) n vs
  count : Ls.length = n
  each : ∀ (i : Nat) (l : T), Ls[i]? = some l → ∃ A1 c1, vs[i]? = some (.slice A1 l.length c1) ∧ w.ownsRow base 5 1 (.slice A1 l.length c1) l.length (u8s l)
theorem OwnTexts.texts {w : World} {base n c : Nat} {A : Option Addr} {vs : List Value} {Ls : List T} (h : OwnTexts w base A n c vs Ls) : Texts w w.heap.size A n c Ls := by
  have hr := Rd.of_own h.row
  refine ⟨h.count, hr.cap, hr.max, fun hn => ?_⟩
  obtain ⟨ad, e, hb, hc⟩ := hr.lies hn
  refine ⟨ad, e, hb, fun i l hl => ?_⟩
  obtain ⟨A1, c1, h1, h2⟩ := h.each i l hl
  exact ⟨A1, c1, hc i _ h1, Rd.of_own h2⟩
theorem OwnTexts.over {w w' : World} {base n c : Nat} {A : Option Addr} {vs : List Value} {Ls : List T} (h : OwnTexts w base A n c vs Ls) (hb : Below w.heap.size w w') : OwnTexts w' base A n c vs Ls :=
  ⟨own_over h.row hb, h.count, fun i l hl => by
    obtain ⟨A1, c1, h1, h2⟩ := h.each i l hl
    exact ⟨A1, c1, h1, own_over h2 hb⟩⟩
theorem OwnTexts.nil_ (w : World) : OwnTexts (w.alloc (.cells #[] 23)) w.heap.size (some ⟨w.heap.size, 0, none⟩) 0 0 [] [] := ⟨own_none w _ 1, rfl, fun i l h => by simp at h⟩
/-- One more. -/
theorem OwnTexts.push {w w' : World} {base n c c' c1 : Nat} {A A' A1 : Option Addr} {vs : List Value} {Ls : List T} {l : T} {o : Obj} (h : OwnTexts w base A n c vs Ls) (hl : w.ownsRow base 5 1 (.slice A1 l.length c1) l.length (u8s l))
    (ho : w'.ownsRow base 23 1 (.slice A' (n + 1) c') (n + 1) (vs ++ [.slice A1 l.length c1])) (hg : (w.alloc o).grownBy w' (Value.slice A n c).ownBlock) : OwnTexts w' base A' (n + 1) c' (vs ++ [.slice A1 l.length c1]) (Ls ++ [l]) := by
  have hvl : vs.length = n := by have := h.row.1; omega
  have hct := h.count
  refine ⟨ho, by rw [List.length_append, hct]; rfl, fun i x hx => ?_⟩
  rcases Nat.lt_or_ge i n with h1 | h1
  · rw [List.getElem?_append_left (by omega)] at hx
    obtain ⟨A2, c2, h2, h3⟩ := h.each i x hx
    exact ⟨A2, c2, by rw [List.getElem?_append_left (by omega)]; exact h2, own_grown_other h.row h3 hg (by decide)⟩
  · rw [List.getElem?_append_right (by omega)] at hx
    have hi : i - Ls.length = 0 := by
      have := (List.getElem?_eq_some_iff.1 hx).1
      simp at this; omega
    rw [hi] at hx
    simp at hx
    subst hx
    exact ⟨A1, c1, by rw [List.getElem?_append_right (by omega), show i - vs.length = 0 by omega]; rfl, own_grown_other h.row hl hg (by decide)⟩
end Go.Proofs.Ytameecogopnkjaa.AW
