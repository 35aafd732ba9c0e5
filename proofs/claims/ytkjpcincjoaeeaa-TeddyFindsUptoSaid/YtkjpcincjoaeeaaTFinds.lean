/- The walks of the filter's first and Maybe, and of the document's First and Begins. -/
import Derived.Test.YtkjpcincjoaeeaaTNew
import Derived.BigQuiet
import Derived.Deep.QuietTactic
namespace Go.Proofs.Ytkjpcincjoaeeaa.TW
open Go.ChangeShapes Go.WideShapes Go.ChangeAt Go.RowKit
open Go.Proofs.Ytkjpcincjoaeeaa.B Go.Proofs.Ytkjpcincjoaeeaa.AM Go.Proofs.Ytkjpcincjoaeeaa.AW Go.Proofs.Ytkjpcincjoaeeaa.TM
open Go.Proofs.Ytkjpcincjoaeeaa.LW (index_u8)
set_option linter.unusedVariables false

/-- Does a literal of some buckets begin with a byte? -/
def firstIn (Ls : List T) (set b : Nat) : Bool := (List.range Ls.length).any fun i => set.testBit (i % 8) && (at8 (Ls.getD i []) 0 == b)
theorem firstIn_yes {Ls : List T} {set b i : Nat} {l : T} (hl : Ls[i]? = some l) (h1 : set.testBit (i % 8) = true) (h2 : at8 l 0 = b) : firstIn Ls set b = true := by
  have hi : i < Ls.length := (List.getElem?_eq_some_iff.1 hl).1
  rw [firstIn, List.any_eq_true]
  refine ⟨i, List.mem_range.2 hi, ?_⟩
  rw [List.getD_eq_getElem?_getD, hl]
  simp [h1, h2]
theorem firstIn_no {Ls : List T} {set b : Nat} (h : ∀ j, j < Ls.length → (set.testBit (j % 8) && (at8 (Ls.getD j []) 0 == b)) = false) : firstIn Ls set b = false := by
  rw [firstIn, List.any_eq_false]
  intro j hj
  rw [h j (List.mem_range.1 hj)]
  simp
theorem firstIn_iff {Ls : List T} {set b : Nat} : firstIn Ls set b = true ↔ ∃ i l, Ls[i]? = some l ∧ set.testBit (i % 8) = true ∧ at8 l 0 = b := by
  constructor
  · intro h
    rw [firstIn, List.any_eq_true] at h
    obtain ⟨i, hi, h⟩ := h
    have hi := List.mem_range.1 hi
    refine ⟨i, Ls[i], List.getElem?_eq_getElem hi, ?_⟩
    rw [List.getD_eq_getElem?_getD, List.getElem?_eq_getElem hi] at h
    simpa using h
  · rintro ⟨i, l, h0, h1, h2⟩
    exact firstIn_yes h0 h1 h2

set_option maxRecDepth 10000 in
set_option maxHeartbeats 1000000 in
theorem first_any {u w : World} {g cL set b : Nat} {Ls : List T} {AL : Option Addr} {vs : List Value} {bs : Bs} {lo hi : Mask} (hF : Filt u g Ls AL cL vs bs lo hi w) (hn : Ls.length ≤ 300) (hl0 : ∀ l ∈ Ls, l ≠ []) (hs : set < 256) :
    Calls Try.prog 36 #[.pointer (some ⟨g, 0, none⟩), .int .u8 (set : Int), .int .u8 (b : Int)] w fun e w' => e = .returned (.bool (firstIn Ls set b)) ∧ w = w' := by
  have hcl := hF.cell_list
  have HF := hide hF
  have HL0 := hide hl0
  clear hF hl0
  go_enter Try.func36, Try.ntmps36
  go_wp2_with fail
  go_loop [14] (fun iv => ∃ i : Nat, iv = .int .i64 i ∧ i ≤ Ls.length ∧ ∀ j, j < i → (set.testBit (j % 8) && (at8 (Ls.getD j []) 0 == b)) = false) (fun iv => Ls.length - (intOf iv).toNat)
  case atStart => exact ⟨0, rfl, by omega, fun j h => by omega⟩
  case round =>
    obtain ⟨i, rfl, hi, hall⟩ := hrel
    have HA := hide hall
    clear hall
    by_cases hlt : i < Ls.length
    · obtain ⟨ad, l, A1, c1, rfl, _, hl, hcel, hrd⟩ := HF.out.texts.at_ hlt
      have hlz : l ≠ [] := HL0.out l (mem_of hl)
      have hlp : 0 < l.length := List.length_pos_iff.2 hlz
      obtain ⟨a1, rfl, _, hcb⟩ := hrd.byte (i := 0) hlp
      rw [show a1.add 0 = a1 by simp [Addr.add]] at hcb
      have hld : Ls.getD i [] = l := by rw [List.getD_eq_getElem?_getD, hl]; rfl
      obtain ⟨q, hq⟩ : ∃ q, at8 l 0 = q := ⟨_, rfl⟩
      have hq2 := at8_lt l 0
      rw [hq] at hcb hq2
      obtain ⟨r, hr, hr8, hri⟩ := mod8_of i
      have hbt := bit_is set r hs
      have HQ := hide (show _ ∧ _ ∧ _ from ⟨hq, hld, hl⟩)
      have e1 : IntKind.i64.wrap ((i : Int) + 1) = (i : Int) + 1 := IntWalk.i64_in _ (by omega)
      have HRI := hide hri
      have hil : (i : Int) < (Ls.length : Int) := by omega
      have hlpi : (0 : Int) < (l.length : Int) := by omega
      clear hrd hlz hq hld hl hri
      by_cases hbit : set.testBit r = true
      · rw [if_pos hbit] at hbt
        have HBit := hide hbit
        clear hbit
        by_cases hqb : q = b
        · subst hqb
          go_wp2_with fail
          go_ret
          exact ⟨by rw [firstIn_yes HQ.out.2.2 (by rw [HRI.out]; exact HBit.out) HQ.out.1]; rfl, rfl⟩
        · have hqi : ((q : Int) == (b : Int)) = false := beq_eq_false_iff_ne.2 (by omega)
          have HQB := hide hqb
          clear hqb
          go_wp2_with fail
          go_round
          case rel =>
            refine ⟨i + 1, by go_num, by omega, fun j hj => ?_⟩
            rcases Nat.lt_or_ge j i with h1 | h1
            · exact HA.out j h1
            · obtain rfl : j = i := by omega
              rw [HQ.out.2.1, HQ.out.1, beq_eq_false_iff_ne.2 HQB.out, Bool.and_false]
          case measure => simp [intOf]; omega
      · have hbf : set.testBit r = false := Bool.eq_false_iff.2 hbit
        rw [if_neg hbit] at hbt
        have HBit := hide hbf
        clear hbit hbf
        go_wp2_with fail
        go_round
        case rel =>
          refine ⟨i + 1, by go_num, by omega, fun j hj => ?_⟩
          rcases Nat.lt_or_ge j i with h1 | h1
          · exact HA.out j h1
          · obtain rfl : j = i := by omega
            rw [HRI.out, HBit.out, Bool.false_and]
        case measure => simp [intOf]; omega
    · obtain rfl : i = Ls.length := by omega
      go_wp2_with fail
      go_ret
      exact ⟨by rw [firstIn_no HA.out]; rfl, rfl⟩

/-! ### Maybe -/
def maybeTo (Ls : List T) (t : T) (P : Nat → Nat) (n : Nat) : List Nat := (List.range n).filter fun p => !(P p == 0) && firstIn Ls (P p) (at8 t p)
theorem maybeTo_yes {Ls : List T} {t : T} {P : Nat → Nat} {n : Nat} (h0 : P n ≠ 0) (h1 : firstIn Ls (P n) (at8 t n) = true) : maybeTo Ls t P (n + 1) = maybeTo Ls t P n ++ [n] := by
  rw [maybeTo, List.range_succ, List.filter_append, List.filter_cons, h1, Bool.and_true, beq_eq_false_iff_ne.2 h0]; rfl
theorem maybeTo_no {Ls : List T} {t : T} {P : Nat → Nat} {n : Nat} (h : P n = 0 ∨ firstIn Ls (P n) (at8 t n) = false) : maybeTo Ls t P (n + 1) = maybeTo Ls t P n := by
  rw [maybeTo, List.range_succ, List.filter_append, List.filter_cons]
  have e : (!(P n == 0) && firstIn Ls (P n) (at8 t n)) = false := by
    rcases h with h | h
    · rw [h]; rfl
    · rw [h, Bool.and_false]
  rw [e]
  simp [maybeTo]
theorem maybeTo_len (Ls : List T) (t : T) (P : Nat → Nat) (n : Nat) : (maybeTo Ls t P n).length ≤ n := Nat.le_trans (List.length_filter_le _ _) (by rw [List.length_range]; exact Nat.le_refl _)
def NewInts (w : World) (xs : List Nat) (e : Ending) (w' : World) : Prop := ∃ A' c', e = .returned (.slice A' xs.length c') ∧ w'.ownsRow w.heap.size 3 1 (.slice A' xs.length c') xs.length (ints xs) ∧ Below w.heap.size w w'

set_option maxRecDepth 10000 in
set_option maxHeartbeats 1000000 in
theorem maybe_any {u w : World} {g cL c : Nat} {Ls : List T} {AL A : Option Addr} {vs : List Value} {bs : Bs} {lo hi : Mask} {t : T} (hF : Filt u g Ls AL cL vs bs lo hi w) (ht : Rd w w.heap.size 1 A t.length c (u8s t)) (hn : Ls.length ≤ 300) (htl : t.length ≤ 5000) (hl0 : ∀ l ∈ Ls, l ≠ []) :
    Calls Try.prog 21 #[.pointer (some ⟨g, 0, none⟩), .slice A t.length c] w (NewInts w (maybeTo Ls t (fun p => passTo lo hi t p 3) t.length)) := by
  obtain ⟨i2, hi2, hy0, hy1, hy2⟩ := info_parts info_int
  obtain ⟨P, hP⟩ : ∃ P : Nat → Nat, (fun p => passTo lo hi t p 3) = P := ⟨_, rfl⟩
  have hP8 : ∀ p, P p < 256 := fun p => by rw [← hP]; exact passTo_lt _ _ _ _ _
  have hPs := fun (w' : World) (h : Below w.heap.size w w') (i : Nat) (hi3 : i ≤ 1000000000) => pass_any (hF.over h).blk (ht.over h) hF.small.1 hF.small.2 hi3
  have hPe : ∀ i, (arr8 .u8 fun k => (passTo lo hi t (i + k) 3 : Int)) = arr8 .u8 fun k => (P (i + k) : Int) := fun i => by rw [← hP]
  simp only [hPe] at hPs
  rw [hP]
  have HPS := hide hPs
  have HF := hide hF
  have HR := hide ht
  have HP8 := hide hP8
  have HL0 := hide hl0
  have hcap : c ≤ 9223372036854775807 := ht.max
  have hcap2 : t.length ≤ c := ht.cap
  clear hF ht hl0 hPs hPe hP hP8
  go_enter Try.func21, Try.ntmps21
  go_wp2_with fail
  go_loopw [4, 5] (fun ov iv wr => ∃ (i : Nat) (out : List Nat) (Ao : Option Addr) (co : Nat), ov = .slice Ao out.length co ∧ iv = .int .i64 i ∧ i ≤ t.length + 8 ∧ out = maybeTo Ls t P (min i t.length) ∧ wr.ownsRow w.heap.size 3 1 (.slice Ao out.length co) out.length (ints out) ∧ Below w.heap.size w wr) (fun _ iv _ => t.length + 8 - (intOf iv).toNat)
  case atStart => exact ⟨0, [], none, 0, rfl, rfl, by omega, by simp [maybeTo], World.ownsRow_nil _ _ _ _, Below.refl _ _⟩
  case round =>
    obtain ⟨w0, rfl⟩ : ∃ w0, w0 = wr := ⟨_, rfl⟩
    obtain ⟨i, out, Ao, co, rfl, rfl, hi, hout, hown, hbel⟩ := hrel
    have HOut := hide hout
    have HI := hide (show _ ∧ _ from ⟨hown, hbel⟩)
    clear hout hown hbel
    by_cases hlt : i < t.length
    · have hps := HPS.out w0 HI.out.2 i (by omega)
      obtain ⟨L8, hL8⟩ : ∃ L8, eight (fun k => (P (i + k) : Int)) = L8 := ⟨_, rfl⟩
      have hix := fun k (hk : k < 8) w => index_u8 (fun k => (P (i + k) : Int)) k hk w
      have hae : arr8 .u8 (fun k => (P (i + k) : Int)) = .agg L8.toArray := by rw [← hL8]; rfl
      rw [hae] at hps
      simp only [hae] at hix
      have HIX := hide hix
      have HP1 := hide hps
      clear hL8 hix hae hps
      go_wp2_with fail
      refine HP1.out.mono ?_
      rintro e w1 ⟨rfl, hb1⟩
      have HI2 := hide (show _ ∧ _ from ⟨own_over HI.out.1 hb1, HI.out.2.trans (hb1.mono HI.out.2.size)⟩)
      clear hb1
      go_wp2_with fail
      go_loopw [4, 19] (fun ov kv wl => ∃ (k : Nat) (out2 : List Nat) (Ao2 : Option Addr) (co2 : Nat), ov = .slice Ao2 out2.length co2 ∧ kv = .int .i64 k ∧ k ≤ 8 ∧ out2 = maybeTo Ls t P (min (i + k) t.length) ∧ wl.ownsRow w.heap.size 3 1 (.slice Ao2 out2.length co2) out2.length (ints out2) ∧ Below w.heap.size w wl) (fun _ kv _ => 8 - (intOf kv).toNat)
      case atStart => exact ⟨0, out, Ao, co, rfl, rfl, by omega, HOut.out, HI2.out.1, HI2.out.2⟩
      case round =>
        clear HI2 HI HOut
        obtain ⟨wk, rfl⟩ : ∃ wk, wk = wr := ⟨_, rfl⟩
        obtain ⟨k, out2, Ao2, co2, rfl, rfl, hk, hout2, hown, hbel⟩ := hrel
        have hol : out2.length ≤ 5000 := by
          rw [hout2]
          have := maybeTo_len Ls t P (min (i + k) t.length)
          omega
        have HOut2 := hide hout2
        have HI := hide (show _ ∧ _ from ⟨hown, hbel⟩)
        clear hout2 hown hbel
        have e4 : IntKind.i64.wrap ((i : Int) + 8) = (i : Int) + 8 := IntWalk.i64_in _ (by omega)
        by_cases hk8 : k < 8
        · obtain ⟨a, ha⟩ : ∃ a, i + k = a := ⟨_, rfl⟩
          obtain ⟨S, hS⟩ : ∃ S, P a = S := ⟨_, rfl⟩
          have hix : ∀ w, (Instr.index 63 (.agg L8.toArray) (.int .i64 (k : Int))).run Try.prog w = .ok (.int .u8 (S : Int)) w := fun w => by rw [← hS, ← ha]; exact HIX.out k hk8 w
          have e1 : IntKind.i64.wrap ((i : Int) + (k : Int)) = (a : Int) := by rw [show (i : Int) + (k : Int) = (a : Int) by omega]; exact IntWalk.i64_in _ (by omega)
          have e2 : IntKind.i64.wrap ((k : Int) + 1) = (k : Int) + 1 := IntWalk.i64_in _ (by omega)
          have hki : decide ((k : Int) < 8) = true := decide_eq_true (by omega)
          have hS8 : S < 256 := by rw [← hS]; exact HP8.out a
          have HA := hide (show _ ∧ _ from ⟨ha, hS⟩)
          clear ha hS
          by_cases hS0 : S = 0
          · subst hS0
            have HN : Hid (out2 = maybeTo Ls t P (min (i + (k + 1)) t.length)) := hide (by
              rw [HOut2.out]
              by_cases hin : a < t.length
              · rw [show min (i + (k + 1)) t.length = a + 1 by have := HA.out.1; omega, show min (i + k) t.length = a by have := HA.out.1; omega, maybeTo_no (.inl HA.out.2)]
              · rw [show min (i + (k + 1)) t.length = t.length by have := HA.out.1; omega, show min (i + k) t.length = t.length by have := HA.out.1; omega])
            go_wp2_with fail
            go_roundw
            case rel => exact ⟨k + 1, out2, Ao2, co2, rfl, by go_num, by omega, HN.out, HI.out.1, HI.out.2⟩
            case measure => simp [intOf]; omega
          · have hSi : ((S : Int) == 0) = false := beq_eq_false_iff_ne.2 (by omega)
            have hSj : ((S : Int) != 0) = true := by rw [bne, hSi]; rfl
            by_cases hin : a < t.length
            · have hini : (a : Int) < (t.length : Int) := by omega
              have hfa := first_any (b := at8 t a) (HF.out.over HI.out.2) hn HL0.out hS8
              obtain ⟨ad, hAd, _, hcb⟩ := (HR.out.below HI.out.2).byte (i := a) hin
              subst hAd
              have hq2 := at8_lt t a
              obtain ⟨q, hq⟩ : ∃ q, at8 t a = q := ⟨_, rfl⟩
              rw [hq] at hcb hfa hq2
              have HFA := hide hfa
              have HQ := hide hq
              have HS0 := hide hS0
              clear hfa hq hS0
              go_wp2_with fail
              refine HFA.out.mono ?_
              rintro e w5 ⟨rfl, rfl⟩
              by_cases hf : firstIn Ls S q = true
              · rw [hf]
                obtain ⟨out3, ho3, hol3⟩ : ∃ out3, out2 ++ [a] = out3 ∧ out2.length + 1 = out3.length := ⟨_, rfl, by simp⟩
                have hc3 : ints out2 ++ [.int .i64 (a : Int)] = ints out3 := by rw [← ho3, ints, ints, List.map_append]; rfl
                have HN : Hid (out3 = maybeTo Ls t P (min (i + (k + 1)) t.length)) := hide (by
                  rw [← ho3, HOut2.out, show min (i + (k + 1)) t.length = a + 1 by have := HA.out.1; omega, show min (i + k) t.length = a by have := HA.out.1; omega, maybeTo_yes (by rw [HA.out.2]; exact HS0.out) (by rw [HA.out.2, HQ.out]; exact hf)])
                have hsz := HI.out.2.size
                have HC3 := hide hc3
                clear hf HFA ho3 hc3
                go_wp2_with (at_builtin; refine wpList_append_rd _ rfl (.tmp 43) (.tmp 45) _ rfl w.heap.size 3 i2 _ 1 8 Try.underlying46 hi2 hy0 hy1 hy2 rfl (by omega) (.slice Ao2 out2.length co2) out2.length (ints out2) rfl (HI.out.1.alloc _) (wk.heap.size + 1) (some ⟨wk.heap.size, 0, none⟩) 1 1 [.int .i64 (a : Int)] rfl (Rd.one wk _ _) (by simp [Value.oneCell']) (by simp only [maxLen]; omega) (by omega) (by simp; omega) ?_; intro A8 c8 w8 hown8 hg8 hat8; have p1 := (HI.out.2.alloc hsz _).trans (below_grown (HI.out.1.alloc _) hg8 (Nat.le_refl _) (by simp; omega)); rw [hol3] at hown8; have H8 := hide (show _ ∧ _ from ⟨hown8, p1⟩); clear hown8 hg8 hat8 p1)
                go_roundw
                case rel => exact ⟨k + 1, out3, A8, c8, by rw [← hol3], by go_num, by omega, HN.out, by rw [← HC3.out]; exact H8.out.1, H8.out.2⟩
                case measure => simp [intOf]; omega
              · have hff : firstIn Ls S q = false := Bool.eq_false_iff.2 hf
                rw [hff]
                have HN : Hid (out2 = maybeTo Ls t P (min (i + (k + 1)) t.length)) := hide (by
                  rw [HOut2.out, show min (i + (k + 1)) t.length = a + 1 by have := HA.out.1; omega, show min (i + k) t.length = a by have := HA.out.1; omega, maybeTo_no (.inr (by rw [HA.out.2, HQ.out]; exact hff))])
                clear hf hff HFA
                go_wp2_with fail
                go_roundw
                case rel => exact ⟨k + 1, out2, Ao2, co2, rfl, by go_num, by omega, HN.out, HI.out.1, HI.out.2⟩
                case measure => simp [intOf]; omega
            · have hini : decide ((a : Int) < (t.length : Int)) = false := decide_eq_false (by omega)
              have HN : Hid (out2 = maybeTo Ls t P (min (i + (k + 1)) t.length)) := hide (by
                rw [HOut2.out, show min (i + (k + 1)) t.length = t.length by have := HA.out.1; omega, show min (i + k) t.length = t.length by have := HA.out.1; omega])
              go_wp2_with fail
              go_roundw
              case rel => exact ⟨k + 1, out2, Ao2, co2, rfl, by go_num, by omega, HN.out, HI.out.1, HI.out.2⟩
              case measure => simp [intOf]; omega
        · obtain rfl : k = 8 := by omega
          go_wp2_with fail
          go_roundw
          case rel => exact ⟨i + 8, out2, Ao2, co2, rfl, by go_num, by omega, HOut2.out, HI.out.1, HI.out.2⟩
          case measure => simp [intOf]; omega
    · have hfull : out = maybeTo Ls t P t.length := by rw [HOut.out, Nat.min_eq_right (by omega)]
      have HFU := hide hfull
      have hti : decide ((i : Int) < (t.length : Int)) = false := decide_eq_false (by omega)
      clear hfull HOut
      go_wp2_with fail
      go_ret
      exact ⟨Ao, co, by rw [← HFU.out]; rfl, by rw [← HFU.out]; exact HI.out.1, HI.out.2⟩

/-! ### The document's First and Begins -/
theorem any_no {Ls : List T} {p : T → Bool} (h : ∀ l ∈ Ls.take Ls.length, p l = false) : Ls.any p = false := by
  rw [List.any_eq_false]
  intro l hl
  rw [h l (by rw [List.take_length]; exact hl)]
  simp
set_option maxRecDepth 10000 in
set_option maxHeartbeats 1000000 in
theorem refFirst_any {w : World} {B len cap b : Nat} {a : Option Addr} {Ls : List T} (h : Texts w B a len cap Ls) (hl0 : ∀ l ∈ Ls, l ≠ []) :
    Calls Try.prog 22 #[.slice a len cap, .int .u8 (b : Int)] w fun e w' => e = .returned (.bool (Ls.any fun l => at8 l 0 == b)) ∧ w = w' := by
  have hct := h.count
  have hrm := h.room
  have hmx : cap ≤ 9223372036854775807 := h.max
  have HT := hide h
  have HL0 := hide hl0
  have HCT := hide hct
  clear h hl0 hct
  go_enter Try.func22, Try.ntmps22
  go_wp2_with fail
  go_loop [5] (fun iv => ∃ i : Nat, iv = .int .i64 i ∧ i ≤ len ∧ ∀ l ∈ Ls.take i, (at8 l 0 == b) = false) (fun iv => len - (intOf iv).toNat)
  case atStart => exact ⟨0, rfl, by omega, by simp⟩
  case round =>
    obtain ⟨i, rfl, hi, hall⟩ := hrel
    have HA := hide hall
    clear hall
    by_cases hlt : i < len
    · obtain ⟨ad, l, A1, c1, rfl, _, hl, hcel, hrd⟩ := HT.out.at_ hlt
      have hlz : l ≠ [] := HL0.out l (mem_of hl)
      have hlp : 0 < l.length := List.length_pos_iff.2 hlz
      obtain ⟨a1, rfl, _, hcb⟩ := hrd.byte (i := 0) hlp
      rw [show a1.add 0 = a1 by simp [Addr.add]] at hcb
      obtain ⟨q, hq⟩ : ∃ q, at8 l 0 = q := ⟨_, rfl⟩
      have hq2 := at8_lt l 0
      rw [hq] at hcb hq2
      have HQ := hide (show _ ∧ _ from ⟨hq, hl⟩)
      have e1 : IntKind.i64.wrap ((i : Int) + 1) = (i : Int) + 1 := IntWalk.i64_in _ (by omega)
      have hil : (i : Int) < (len : Int) := by omega
      have hlpi : (0 : Int) < (l.length : Int) := by omega
      clear hrd hlz hq hl
      by_cases hqb : q = b
      · subst hqb
        go_wp2_with fail
        go_ret
        exact ⟨by rw [List.any_eq_true.2 ⟨l, mem_of HQ.out.2, by rw [HQ.out.1]; exact beq_self_eq_true _⟩]; rfl, rfl⟩
      · have hqi : ((q : Int) == (b : Int)) = false := beq_eq_false_iff_ne.2 (by omega)
        have HQB := hide hqb
        clear hqb
        go_wp2_with fail
        go_round
        case rel => exact ⟨i + 1, by go_num, by omega, snoc_all (take_next HQ.out.2) HA.out (by rw [HQ.out.1]; exact beq_eq_false_iff_ne.2 HQB.out)⟩
        case measure => simp [intOf]; omega
    · obtain rfl : i = len := by omega
      go_wp2_with fail
      go_ret
      exact ⟨by rw [any_no (by rw [HCT.out]; exact HA.out)]; rfl, rfl⟩
theorem begins_dec (t l : T) (p : Nat) (h : l.length + p ≤ t.length) : l.isPrefixOf (t.drop p) = ((t.drop p).take l.length == l) := by
  rw [Bool.eq_iff_iff, List.isPrefixOf_iff_prefix, beq_iff_eq, List.prefix_iff_eq_take]
  exact ⟨fun h => h.symm, fun h => h.symm⟩
theorem begins_no (t l : T) (p : Nat) (hp : p ≤ t.length) (h : ¬ l.length + p ≤ t.length) : l.isPrefixOf (t.drop p) = false := by
  rw [Bool.eq_false_iff, ne_eq, List.isPrefixOf_iff_prefix]
  exact fun hs => by have := hs.length_le; rw [List.length_drop] at this; omega
set_option maxRecDepth 10000 in
set_option maxHeartbeats 1000000 in
theorem refBegins_any {w : World} {B B' len cap n c p : Nat} {a A : Option Addr} {Ls : List T} {t : T} (h : Texts w B a len cap Ls) (ht : Rd w B' 1 A n c (u8s t)) (hl0 : ∀ l ∈ Ls, l ≠ []) (hlm : ∀ l ∈ Ls, l.length ≤ 1000) (hp : p ≤ n) (hn : n ≤ 1000) :
    Calls Try.prog 23 #[.slice a len cap, .slice A n c, .int .i64 (p : Int)] w fun e w' => e = .returned (.bool (Ls.any fun l => l.isPrefixOf (t.drop p))) ∧ Drew w w' := by
  have htl := ht.length8
  have hct := h.count
  have hrm := h.room
  have hmx : cap ≤ 9223372036854775807 := h.max
  have hcap : c ≤ 9223372036854775807 := ht.max
  have hcap2 := ht.cap
  have HT := hide h
  have HR := hide ht
  have HL0 := hide hl0
  have HLM := hide hlm
  have HCT := hide hct
  have HTL := hide htl
  clear h ht hl0 hlm hct htl
  go_enter Try.func23, Try.ntmps23
  go_wp2_with fail
  go_loopw [7] (fun iv wr => ∃ (i : Nat), iv = .int .i64 i ∧ i ≤ len ∧ Drew w wr ∧ ∀ l ∈ Ls.take i, l.isPrefixOf (t.drop p) = false) (fun iv _ => len - (intOf iv).toNat)
  case atStart => exact ⟨0, rfl, by omega, ⟨0, rfl⟩, by simp⟩
  case round =>
    obtain ⟨i, rfl, hi, hdr, hno⟩ := hrel
    have HN := hide hno
    have HW := hide hdr
    clear hno hdr
    by_cases hlt : i < len
    · obtain ⟨ad, l, A1, c1, rfl, _, hl, hc, hrd⟩ := (HT.out.drew HW.out).at_ hlt
      have hlz : l ≠ [] := HL0.out l (mem_of hl)
      have hlp : 0 < l.length := List.length_pos_iff.2 hlz
      have hlq := HLM.out l (mem_of hl)
      have s2 := fun k => run_str (P := Try.prog) 32 9 5 Try.underlying32 Try.underlying5 Try.underlying9 (hrd.drewN k)
      have hrx := fun k => (HR.out.drew_ HW.out).drewN k
      have HLL := hide hl
      have hc1 := hrd.cap
      have hcm := hrd.max
      have e0 : IntKind.i64.wrap ((i : Int) + 1) = (i : Int) + 1 := IntWalk.i64_in _ (by omega)
      have e1 : IntKind.i64.wrap ((n : Int) - (p : Int)) = (n : Int) - (p : Int) := IntWalk.i64_in _ (by omega)
      obtain ⟨ll, hll⟩ : ∃ ll, l.length = ll := ⟨_, rfl⟩
      rw [hll] at hc s2 hlp hlq hc1
      have hil : (i : Int) < (len : Int) := by omega
      by_cases hle : ll + p ≤ n
      · obtain ⟨adt, rfl, _⟩ := HR.out.lies (by omega)
        have hd := begins_dec t l p (by rw [HTL.out]; omega)
        have s1 := fun k => run_str (P := Try.prog) 32 9 5 Try.underlying32 Try.underlying5 Try.underlying9 ((hrx k).cut8 (i := p) (j := p + ll) (by omega) (by omega))
        simp only [Nat.mul_one, Nat.add_sub_cancel_left, if_neg (show ¬ c = p by omega), Option.map_some] at s1
        rw [hll] at hd
        have HD := hide hd
        have e2 : IntKind.i64.wrap ((p : Int) + (ll : Int)) = (p : Int) + (ll : Int) := IntWalk.i64_in _ (by omega)
        have e3 : decide ((ll : Int) ≤ (n : Int) - (p : Int)) = true := decide_eq_true (by omega)
        have e4 : (p : Int) + (ll : Int) ≤ (c : Int) := by omega
        have e5 : (p : Int) ≤ (p : Int) + (ll : Int) := by omega
        clear hl hlz hrd hll hrx hd
        go_wp2_with fail
        go_quiet (fail)
        go_wp2_with fail
        · have hb : l.isPrefixOf (t.drop p) = true := by rw [HD.out, ← str_beq]; assumption
          go_ret
          exact ⟨by rw [List.any_eq_true.2 ⟨l, mem_of HLL.out, hb⟩]; rfl, HW.out.trans ⟨nq, rfl⟩⟩
        · have hb : l.isPrefixOf (t.drop p) = false := by rw [HD.out, ← str_beq]; first | assumption | exact Bool.eq_false_iff.2 (by assumption)
          exact ⟨⟨i + 1, by go_num, by omega, HW.out.trans ⟨nq, rfl⟩, snoc_all (take_next HLL.out) HN.out hb⟩, by simp [intOf]; omega⟩
      · have hd := begins_no t l p (by rw [HTL.out]; omega) (by rw [HTL.out, hll]; omega)
        have HD := hide hd
        have e3 : decide ((ll : Int) ≤ (n : Int) - (p : Int)) = false := decide_eq_false (by omega)
        have e3b : ¬ ((ll : Int) ≤ (n : Int) - (p : Int)) := by omega
        clear hl hlz hrd hll hrx hd s2
        go_wp2_with fail
        go_quiet (fail)
        go_wp2_with fail
        go_roundw
        case rel => exact ⟨i + 1, by go_num, by omega, HW.out.trans ⟨nq, rfl⟩, snoc_all (take_next HLL.out) HN.out HD.out⟩
        case measure => simp [intOf]; omega
    · obtain rfl : i = len := by omega
      go_wp2_with fail
      go_ret
      exact ⟨by rw [any_no (by rw [HCT.out]; exact HN.out)]; rfl, HW.out⟩
end Go.Proofs.Ytkjpcincjoaeeaa.TW
