/- The walks of acho's document: what literals begin with, the ends of a text, the numbers. -/
import Derived.Test.YtameecogopnkjaaAUse
import Derived.Test.YtameecogopnkjaaAScan
namespace Go.Proofs.Ytameecogopnkjaa.AW
open Go.ChangeShapes Go.WideShapes Go.ChangeAt Go.RowKit
open Go.Proofs.Ytameecogopnkjaa.B Go.Proofs.Ytameecogopnkjaa.AM
set_option linter.unusedVariables false

/-- Nothing has turned but what was drawn. -/
def Drew (w w' : World) : Prop := ∃ m, w' = w.drewN m
theorem Drew.refl (w : World) : Drew w w := ⟨0, rfl⟩
theorem Drew.drewN {w w' : World} (h : Drew w w') (k : Nat) : Drew w (w'.drewN k) := by
  obtain ⟨m, rfl⟩ := h
  exact ⟨m + k, by rw [World.drewN_drewN]⟩
theorem Drew.trans {a b c : World} (h : Drew a b) (k : Drew b c) : Drew a c := by
  obtain ⟨m, rfl⟩ := k
  exact h.drewN m
theorem Drew.below {w w' : World} (h : Drew w w') : Below w.heap.size w w' := by
  obtain ⟨m, rfl⟩ := h
  exact bdrewN w m
theorem Texts.drew {w w' : World} {B len cap : Nat} {a : Option Addr} {Ls : List T} (h : Texts w B a len cap Ls) (hd : Drew w w') : Texts w' B a len cap Ls := by
  obtain ⟨m, rfl⟩ := hd
  exact h.drewN m
theorem _root_.Go.Proofs.Ytameecogopnkjaa.B.Rd.drew_ {w w' : World} {B size n c : Nat} {A : Option Addr} {xs : List Value} (h : Rd w B size A n c xs) (hd : Drew w w') : Rd w' B size A n c xs := by
  obtain ⟨m, rfl⟩ := hd
  exact h.drewN m
theorem own_drew {w w' : World} {base : Nat} {e : TypeId} {size n : Nat} {v : Value} {xs : List Value} (h : w.ownsRow base e size v n xs) (hd : Drew w w') : w'.ownsRow base e size v n xs := by
  obtain ⟨m, rfl⟩ := hd
  exact h
theorem snoc_all {p : T → Bool} {a b : List T} {l : T} (e : a = b ++ [l]) (h : ∀ x ∈ b, p x = false) (hl : p l = false) : ∀ x ∈ a, p x = false := by
  subst e
  intro x hx
  rcases List.mem_append.1 hx with h1 | h1
  · exact h x h1
  · rw [List.mem_singleton] at h1; subst h1; exact hl
theorem str_beq (a b : T) : ((str a).toList == (str b).toList) = (a == b) := by
  rw [show (str a).toList = a from ByteArray.toList_mk _, show (str b).toList = b from ByteArray.toList_mk _]
theorem suffix_dec (w x : T) (h : x.length ≤ w.length) : x.isSuffixOf w = (w.drop (w.length - x.length) == x) := by
  rw [Bool.eq_iff_iff, List.isSuffixOf_iff_suffix, beq_iff_eq, List.suffix_iff_eq_drop]
  exact ⟨fun h => h.symm, fun h => h.symm⟩
theorem prefix_dec (l x : T) (h : x.length ≤ l.length) : x.isPrefixOf l = (l.take x.length == x) := by
  rw [Bool.eq_iff_iff, List.isPrefixOf_iff_prefix, beq_iff_eq, List.prefix_iff_eq_take]
  exact ⟨fun h => h.symm, fun h => h.symm⟩

set_option maxHeartbeats 1000000 in
theorem ends_any {w : World} {B n c n' c' : Nat} {A A' : Option Addr} {t x : T} (h : Rd w B 1 A n c (u8s t)) (hx : Rd w B 1 A' n' c' (u8s x)) :
    Calls Try.prog 26 #[.slice A n c, .slice A' n' c'] w fun e w' => e = .returned (.bool (x.isSuffixOf t)) ∧ Drew w w' := by
  have hl := h.length8
  have hl' := hx.length8
  have hc := h.cap
  have hm : c ≤ 9223372036854775807 := h.max
  by_cases hle : n' ≤ n
  · obtain ⟨k, hk⟩ : ∃ k, n = k + n' := ⟨n - n', by omega⟩
    have s1 := fun m => run_str (P := Try.prog) 23 9 5 Try.underlying23 Try.underlying5 Try.underlying9 ((h.tail8 (i := k) (by omega)).drewN m)
    simp only [Nat.mul_one] at s1
    have s2 := fun m => run_str (P := Try.prog) 23 9 5 Try.underlying23 Try.underlying5 Try.underlying9 (hx.drewN m)
    have hd := suffix_dec t x (by omega)
    rw [hl, hl', show n - n' = k by omega] at hd
    have HD := hide hd
    have e1 : IntKind.i64.wrap ((n : Int) - (n' : Int)) = (k : Int) := by rw [show (n : Int) - (n' : Int) = (k : Int) by omega]; exact IntWalk.i64_in _ (by omega)
    have e2 : (k : Int) ≤ (n : Int) := by omega
    have e3 : (n : Int) ≤ (c : Int) := by omega
    have HK := hide hk
    clear hk hl hl'
    clear h hx hd
    go_enter Try.func26, Try.ntmps26
    go_wp2_with fail
    go_quiet (fail)
    go_wp2_with fail
    all_goals (go_ret; exact ⟨by rw [HD.out]; exact congrArg (fun b => Ending.returned (.bool b)) (str_beq _ _), ⟨nq, rfl⟩⟩)
  · have hd : x.isSuffixOf t = false := by
      rw [Bool.eq_false_iff, ne_eq, List.isSuffixOf_iff_suffix]
      exact fun hs => by have := hs.length_le; omega
    rw [hd]
    clear h hx hd
    go_enter Try.func26, Try.ntmps26
    go_wp2_with fail
    go_quiet (fail)
    go_wp2_with fail
    go_ret
    exact ⟨rfl, ⟨nq, rfl⟩⟩
theorem isPre_false {Ls : List T} {x : T} (hx : x ≠ []) (h : ∀ l ∈ Ls, x.isPrefixOf l = false) : isPre Ls x = false := by
  rw [Bool.eq_false_iff, ne_eq, isPre_iff]
  rintro (h1 | ⟨l, hl, h1⟩)
  · exact hx h1
  · rw [← List.isPrefixOf_iff_prefix, h l hl] at h1
    cases h1
set_option maxHeartbeats 1000000 in
theorem refPrefix_any {w : World} {B B' len cap n c : Nat} {a A : Option Addr} {Ls : List T} {x : T} (h : Texts w B a len cap Ls) (hx : Rd w B' 1 A n c (u8s x)) :
    Calls Try.prog 20 #[.slice a len cap, .slice A n c] w fun e w' => e = .returned (.bool (isPre Ls x)) ∧ Drew w w' := by
  have hl := hx.length8
  have hnc := hx.cap
  have hmx : c ≤ 9223372036854775807 := hx.max
  have hcp := h.room
  have hmp : cap ≤ 9223372036854775807 := h.max
  have HC := hide h.count
  have HT := hide h
  have HX := hide hx
  have HL := hide hl
  clear h hx hl
  by_cases h0 : n = 0
  · subst h0
    have hx0 : x = [] := List.eq_nil_of_length_eq_zero HL.out
    subst hx0
    go_enter Try.func20, Try.ntmps20
    go_wp2_with fail
    go_ret
    exact ⟨rfl, ⟨0, rfl⟩⟩
  · have h0i : ((n : Int) == 0) = false := beq_eq_false_iff_ne.2 (by omega)
    go_enter Try.func20, Try.ntmps20
    go_wp2_with fail
    go_loopw [5] (fun iv wr => ∃ (i : Nat), iv = .int .i64 i ∧ i ≤ len ∧ Drew w wr ∧ ∀ l ∈ Ls.take i, x.isPrefixOf l = false) (fun iv _ => len - (intOf iv).toNat)
    case atStart => exact ⟨0, rfl, by omega, ⟨0, rfl⟩, by simp⟩
    case round =>
      obtain ⟨i, rfl, hi, hdr, hno⟩ := hrel
      have HN := hide hno
      have HW := hide hdr
      clear hno hdr
      by_cases hlt : i < len
      · obtain ⟨ad, l, A1, c1, rfl, _, hl, hc, hrd⟩ := (HT.out.drew HW.out).at_ hlt
        have hrd2 := fun k => hrd.drewN k
        have hrx := fun k => (HX.out.drew_ HW.out).drewN k
        have HLL := hide hl
        have e1 : IntKind.i64.wrap ((i : Int) + 1) = (i : Int) + 1 := IntWalk.i64_in _ (by omega)
        have hcl := hrd.cap
        have hml : c1 ≤ 9223372036854775807 := hrd.max
        have HLx := HL.out
        obtain ⟨ll, hll⟩ : ∃ ll, l.length = ll := ⟨_, rfl⟩
        by_cases hle : n ≤ ll
        · have s1 := fun k => run_str (P := Try.prog) 23 9 5 Try.underlying23 Try.underlying5 Try.underlying9 ((hrd2 k).head8 (j := n) (by omega))
          have s2 := fun k => run_str (P := Try.prog) 23 9 5 Try.underlying23 Try.underlying5 Try.underlying9 (hrx k)
          have hd := prefix_dec l x (by omega)
          rw [HLx] at hd
          have HD := hide hd
          have e2 : (n : Int) ≤ (ll : Int) := by omega
          have e3 : (n : Int) ≤ (c1 : Int) := by omega
          rw [hll] at hc
          clear hl hrd hll hd hrd2 hrx HLx
          go_wp2_with fail
          go_quiet (fail)
          rw [str_beq, ← HD.out]
          by_cases hyes : x.isPrefixOf l = true
          · have hp : isPre Ls x = true := by rw [isPre_iff]; exact .inr ⟨l, mem_of HLL.out, List.isPrefixOf_iff_prefix.1 hyes⟩
            have HP := hide hp
            clear hp
            rw [hyes]
            go_wp2_with fail
            go_ret
            exact ⟨by rw [HP.out]; rfl, HW.out.drewN _⟩
          · have hnx : x.isPrefixOf l = false := Bool.eq_false_iff.2 hyes
            rw [hnx]
            have HNX := hide hnx
            clear hnx hyes
            go_wp2_with fail
            go_roundw
            case rel => exact ⟨i + 1, by go_num, by omega, HW.out.drewN _, snoc_all (take_next HLL.out) HN.out HNX.out⟩
            case measure => simp [intOf]; omega
        · have hnx : x.isPrefixOf l = false := by
            rw [Bool.eq_false_iff, ne_eq, List.isPrefixOf_iff_prefix]
            exact fun hs => by have := hs.length_le; omega
          have HNX := hide hnx
          rw [hll] at hc
          clear hl hrd hll hrd2 hrx HLx hnx
          go_wp2_with fail
          go_quiet (fail)
          go_wp2_with fail
          go_roundw
          case rel => exact ⟨i + 1, by go_num, by omega, HW.out.drewN _, snoc_all (take_next HLL.out) HN.out HNX.out⟩
          case measure => simp [intOf]; omega
      · obtain rfl : i = len := by omega
        have hf : isPre Ls x = false := isPre_false (fun e => h0 (by rw [← HL.out, e]; rfl)) (fun l hl => HN.out l (by rw [← HC.out, List.take_length]; exact hl))
        have HF := hide hf
        clear hf
        go_wp2_with fail
        go_ret
        exact ⟨by rw [HF.out]; rfl, HW.out⟩
end Go.Proofs.Ytameecogopnkjaa.AW
