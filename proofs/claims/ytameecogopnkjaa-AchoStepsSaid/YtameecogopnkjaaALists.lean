/- A list of texts, as the walks read it; the numbers that refuse it. -/
import Derived.Test.YtameecogopnkjaaAMem
namespace Go.Proofs.Ytameecogopnkjaa.AW
open Go.ChangeShapes Go.WideShapes Go.ChangeAt Go.RowKit
open Go.Proofs.Ytameecogopnkjaa.B Go.Proofs.Ytameecogopnkjaa.AM
set_option linter.unusedVariables false

structure Texts (w : World) (B : Nat) (a : Option Addr) (len cap : Nat) (Ls : List T) : Prop where
  count : Ls.length = len
  room : len ≤ cap
  max : cap ≤ maxLen
  lies : 0 < len → ∃ ad, a = some ad ∧ ad.block < B ∧ ∀ (i : Nat) (l : T), Ls[i]? = some l → ∃ A c, w.cell? (ad.add i) = some (.slice A l.length c) ∧ Rd w B 1 A l.length c (u8s l)
section
variable {w w' : World} {B B' len cap : Nat} {a : Option Addr} {Ls : List T}
theorem Texts.keep (h : Texts w B a len cap Ls) (hk : ∀ p : Addr, p.block < B → w'.cell? p = w.cell? p) : Texts w' B a len cap Ls :=
  ⟨h.count, h.room, h.max, fun hn => by
    obtain ⟨ad, e, hb, hc⟩ := h.lies hn
    refine ⟨ad, e, hb, fun i l hl => ?_⟩
    obtain ⟨A, c, h1, h2⟩ := hc i l hl
    exact ⟨A, c, (hk _ (by rw [add_block]; exact hb)).trans h1, h2.keep hk⟩⟩
theorem Texts.below (h : Texts w B a len cap Ls) (hb : Below B w w') : Texts w' B a len cap Ls := h.keep fun _ hp => hb.cell hp
theorem Texts.more (h : Texts w B a len cap Ls) (hB : B ≤ B') : Texts w B' a len cap Ls :=
  ⟨h.count, h.room, h.max, fun hn => by
    obtain ⟨ad, e, hb, hc⟩ := h.lies hn
    refine ⟨ad, e, by omega, fun i l hl => ?_⟩
    obtain ⟨A, c, h1, h2⟩ := hc i l hl
    exact ⟨A, c, h1, h2.more hB⟩⟩
theorem Texts.over (h : Texts w w.heap.size a len cap Ls) (hb : Below w.heap.size w w') : Texts w' w'.heap.size a len cap Ls := (h.below hb).more hb.size
theorem Texts.drewN (h : Texts w B a len cap Ls) (k : Nat) : Texts (w.drewN k) B a len cap Ls := h.keep fun _ _ => rfl
theorem Texts.at_ (h : Texts w B a len cap Ls) {i : Nat} (hi : i < len) : ∃ ad l A c, a = some ad ∧ ad.block < B ∧ Ls[i]? = some l ∧ w.cell? (ad.add i) = some (.slice A l.length c) ∧ Rd w B 1 A l.length c (u8s l) := by
  obtain ⟨ad, e, hb, hc⟩ := h.lies (by omega)
  have hl := h.count
  have ho : Ls[i]? = some (Ls[i]'(by omega)) := List.getElem?_eq_getElem (by omega)
  obtain ⟨A, c, h1, h2⟩ := hc i _ ho
  exact ⟨ad, _, A, c, e, hb, ho, h1, h2⟩
end

/-! ### Numbers of a list of texts -/
def gsum (Ls : List T) : Nat := Ls.foldr (fun l n => l.length + 1 + n) 0
def tsum (Ls : List T) : Nat := Ls.foldr (fun l n => l.length + n) 0
theorem gsum_append (a b : List T) : gsum (a ++ b) = gsum a + gsum b := by
  induction a with
  | nil => simp [gsum]
  | cons x a ih =>
    show x.length + 1 + gsum (a ++ b) = x.length + 1 + gsum a + gsum b
    omega
theorem tsum_append (a b : List T) : tsum (a ++ b) = tsum a + tsum b := by
  induction a with
  | nil => simp [tsum]
  | cons x a ih =>
    show x.length + tsum (a ++ b) = x.length + tsum a + tsum b
    omega
theorem gsum_one (l : T) : gsum [l] = l.length + 1 := rfl
theorem tsum_one (l : T) : tsum [l] = l.length := by simp [tsum]
theorem take_next {Ls : List T} {i : Nat} {l : T} (h : Ls[i]? = some l) : Ls.take (i + 1) = Ls.take i ++ [l] := by
  obtain ⟨hi, e⟩ := List.getElem?_eq_some_iff.1 h
  rw [List.take_succ_eq_append_getElem hi, e]
theorem gsum_take {Ls : List T} {i : Nat} {l : T} (h : Ls[i]? = some l) : gsum (Ls.take (i + 1)) = gsum (Ls.take i) + (l.length + 1) := by rw [take_next h, gsum_append, gsum_one]
theorem tsum_take {Ls : List T} {i : Nat} {l : T} (h : Ls[i]? = some l) : tsum (Ls.take (i + 1)) = tsum (Ls.take i) + l.length := by rw [take_next h, tsum_append, tsum_one]
theorem tsum_le (Ls : List T) (i : Nat) : tsum (Ls.take i) ≤ tsum Ls := by
  have := tsum_append (Ls.take i) (Ls.drop i)
  rw [List.take_append_drop] at this
  omega
theorem tsum_le_gsum (Ls : List T) : tsum Ls + Ls.length = gsum Ls := by
  induction Ls with
  | nil => rfl
  | cons x a ih =>
    show x.length + tsum a + (a.length + 1) = x.length + 1 + gsum a
    omega
/-- The number that refuses a list, or 0. -/
def checkNo (Ls : List T) : Nat := if 256 < Ls.length then 230 else if ∃ l ∈ Ls, l.length = 0 ∨ 200 < l.length then 2 else if 4000 < tsum Ls then 231 else 0
theorem checkNo_0 {Ls : List T} (h : checkNo Ls = 0) : Ls.length ≤ 256 ∧ (∀ l ∈ Ls, l ≠ []) ∧ (∀ l ∈ Ls, l.length ≤ 200) ∧ tsum Ls ≤ 4000 := by
  rw [checkNo] at h
  split at h
  · cases h
  · split at h
    · cases h
    · rename_i h1 h2
      split at h
      · cases h
      · refine ⟨by omega, fun l hl e => h2 ⟨l, hl, .inl (by rw [e]; rfl)⟩, fun l hl => ?_, by omega⟩
        rcases Nat.lt_or_ge 200 l.length with h4 | h4
        · exact absurd ⟨l, hl, .inr h4⟩ h2
        · exact h4
theorem mem_of {Ls : List T} {i : Nat} {l : T} (h : Ls[i]? = some l) : l ∈ Ls := List.mem_of_getElem? h

theorem wrap64_id (n : Int) (h1 : -9223372036854775808 ≤ n) (h2 : n ≤ 9223372036854775807) : wrap64 n = n := by
  unfold wrap64
  omega
theorem wrap_small (n : Int) (l : Nat) (h1 : n ≤ 300) (h0 : 0 ≤ n) (h2 : l ≤ 200) : wrap64 (n + wrap64 ((l : Int) + 1)) = n + ((l : Int) + 1) := by
  rw [wrap64_id ((l : Int) + 1) (by omega) (by omega), wrap64_id _ (by omega) (by omega)]
def GreatIs (Ls : List T) (w : World) (e : Ending) (w' : World) : Prop := ∃ b : Bool, e = .returned (.bool b) ∧ w = w' ∧ (b = false → gsum Ls ≤ 300 ∨ ∃ l ∈ Ls, 200 < l.length)
set_option maxHeartbeats 1000000 in
/-- Great tells the truth, but of texts that are too long for a literal. -/
theorem great_any {w : World} {B len cap : Nat} {a : Option Addr} {Ls : List T} (h : Texts w B a len cap Ls) :
    Calls Try.prog 8 #[.slice a len cap] w (GreatIs Ls w) := by
  have HT := hide h
  have hrm := h.room
  have hmx : cap ≤ 9223372036854775807 := h.max
  have hct := h.count
  clear h
  go_enter Try.func8, Try.ntmps8
  go_wp2_with fail
  go_loop [3, 4] (fun nv iv => ∃ (n : Int) (i : Nat), nv = .int .i64 n ∧ iv = .int .i64 i ∧ i ≤ len ∧ (n = gsum (Ls.take i) ∨ ∃ l ∈ Ls, 200 < l.length)) (fun _ iv => len - (intOf iv).toNat)
  case atStart => exact ⟨0, 0, rfl, rfl, by omega, .inl rfl⟩
  case round =>
    obtain ⟨n, i, rfl, rfl, hi, hn⟩ := hrel
    have HN := hide hn
    clear hn
    by_cases hlt : i < len
    · by_cases hle : n ≤ 300
      · obtain ⟨ad, l, A, c, rfl, _, hl, hc, hrd⟩ := HT.out.at_ hlt
        have HL := hide hl
        have e1 : IntKind.i64.wrap ((i : Int) + 1) = (i : Int) + 1 := IntWalk.i64_in _ (by omega)
        have hmx2 : c ≤ 9223372036854775807 := hrd.max
        have hcp2 := hrd.cap
        clear hl hrd
        go_wp2_with fail
        go_round
        case rel =>
          refine ⟨_, i + 1, rfl, by go_num, by omega, ?_⟩
          rcases Nat.lt_or_ge 200 l.length with h4 | h4
          · exact .inr ⟨l, mem_of HL.out, h4⟩
          · rcases HN.out with h5 | h5
            · left
              have h6 := gsum_take HL.out
              rw [wrap_small n l.length hle (by omega) (by omega), h6]
              omega
            · exact .inr h5
        case measure => simp [intOf]; omega
      · go_wp2_with fail
        go_ret
        exact ⟨true, rfl, rfl, fun h => by cases h⟩
    · obtain rfl : i = len := by omega
      by_cases hle : n ≤ 300
      · have hd : decide ((300 : Int) < n) = false := decide_eq_false (by omega)
        go_wp2_with fail
        go_ret
        refine ⟨false, rfl, rfl, fun _ => ?_⟩
        rcases HN.out with h5 | h5
        · left
          rw [← hct, List.take_length] at h5
          omega
        · exact .inr h5
      · go_wp2_with fail
        go_ret
        exact ⟨true, rfl, rfl, fun h => by cases h⟩

set_option maxHeartbeats 1000000 in
theorem check_any {w : World} {B len cap : Nat} {a : Option Addr} {Ls : List T} (h : Texts w B a len cap Ls) :
    Calls Try.prog 9 #[.slice a len cap] w fun e w' => e = .returned (.int .i64 (checkNo Ls : Int)) ∧ w = w' := by
  have HT := hide h
  have hct := h.count
  clear h
  by_cases hbig : 256 < len
  · have e : checkNo Ls = 230 := by rw [checkNo, if_pos (by omega)]
    rw [e]
    go_enter Try.func9, Try.ntmps9
    go_wp2_with fail
    go_ret
    exact ⟨rfl, rfl⟩
  · go_enter Try.func9, Try.ntmps9
    go_wp2_with fail
    go_loop [3, 4] (fun nv iv => ∃ (i : Nat), nv = .int .i64 (tsum (Ls.take i) : Int) ∧ iv = .int .i64 i ∧ i ≤ len ∧ (∀ l ∈ Ls.take i, ¬ (l.length = 0 ∨ 200 < l.length)) ∧ tsum (Ls.take i) ≤ i * 200) (fun _ iv => len - (intOf iv).toNat)
    case atStart => exact ⟨0, rfl, rfl, by omega, by simp, by simp [tsum]⟩
    case round =>
      obtain ⟨i, rfl, rfl, hi, hok, hts⟩ := hrel
      have HOK := hide hok
      clear hok
      by_cases hlt : i < len
      · obtain ⟨ad, l, A, c, rfl, _, hl, hc, hrd⟩ := HT.out.at_ hlt
        have HL := hide hl
        have e1 : IntKind.i64.wrap ((i : Int) + 1) = (i : Int) + 1 := IntWalk.i64_in _ (by omega)
        clear hl hrd
        by_cases h0 : l.length = 0
        · have e : checkNo Ls = 2 := by rw [checkNo, if_neg (by omega), if_pos ⟨l, mem_of HL.out, .inl h0⟩]
          have HEE := hide e
          clear e
          go_wp2_with fail
          go_ret
          exact ⟨by rw [HEE.out]; rfl, rfl⟩
        · have h0i : ((l.length : Int) == 0) = false := beq_eq_false_iff_ne.2 (by omega)
          by_cases h2 : 200 < l.length
          · have e : checkNo Ls = 2 := by rw [checkNo, if_neg (by omega), if_pos ⟨l, mem_of HL.out, .inr h2⟩]
            have HEE := hide e
            clear e
            have h2i : (200 : Int) < (l.length : Int) := by omega
            go_wp2_with fail
            go_ret
            exact ⟨by rw [HEE.out]; rfl, rfl⟩
          · have h2n : (l.length : Int) ≤ 200 := by omega
            have h6 := tsum_take HL.out
            have HX := hide h6
            have e2 : IntKind.i64.wrap ((tsum (Ls.take i) : Int) + (l.length : Int)) = (tsum (Ls.take i) : Int) + (l.length : Int) := IntWalk.i64_in _ (by omega)
            clear h6
            go_wp2_with fail
            go_round
            case rel =>
              refine ⟨i + 1, by rw [HX.out]; go_num, by go_num, by omega, fun x hx => ?_, by rw [HX.out]; omega⟩
              rw [take_next HL.out] at hx
              rcases List.mem_append.1 hx with h7 | h7
              · exact HOK.out x h7
              · rw [List.mem_singleton] at h7
                subst h7
                omega
            case measure => simp [intOf]; omega
      · obtain rfl : i = len := by omega
        have htk : Ls.take i = Ls := by rw [← hct, List.take_length]
        have hno : ¬ ∃ l ∈ Ls, l.length = 0 ∨ 200 < l.length := fun ⟨l, hl, h7⟩ => HOK.out l (htk.symm ▸ hl) h7
        rw [htk] at hts
        clear HOK
        simp only [htk]
        by_cases h4 : 4000 < tsum Ls
        · have e : checkNo Ls = 231 := by rw [checkNo, if_neg (by omega), if_neg hno, if_pos h4]
          have HEE := hide e
          clear e
          have h4i : (4000 : Int) < (tsum Ls : Int) := by omega
          go_wp2_with fail
          go_ret
          exact ⟨by rw [HEE.out]; rfl, rfl⟩
        · have e : checkNo Ls = 0 := by rw [checkNo, if_neg (by omega), if_neg hno, if_neg h4]
          have HEE := hide e
          clear e
          have h4i : (tsum Ls : Int) ≤ 4000 := by omega
          go_wp2_with fail
          go_ret
          exact ⟨by rw [HEE.out]; rfl, rfl⟩
end Go.Proofs.Ytameecogopnkjaa.AW
