/- The walks of package pack: a copy, the pen. -/
import Derived.Test.YthfmfcgjcilagaaRows
import Derived.Test.YthfmfcgjcilagaaMem
import Derived.WalkSpells
import Derived.Deep.RegionLaw
import Derived.Outline
namespace Go.Proofs.Ythfmfcgjcilagaa.PW
open Go.ChangeShapes Go.WideShapes Go.ChangeAt Go.RowKit
open Go.Proofs.Ythfmfcgjcilagaa.B
set_option linter.unusedVariables false

theorem info_u8 : (Try.prog.info? 5).map (fun i => (i.zero, i.size, i.bytes)) = some (some (.int .u8 0), 1, 1) := by kernel_rfl

/-- A copy in new memory; nil stays nil. -/
theorem clone_any {w : World} {A : Option Addr} {n c : Nat} {bs : List UInt8} (h : Rd w w.heap.size 1 A n c (u8s bs)) (hn : n ≤ 140737488351232) :
    Calls Try.prog 28 #[.slice A n c] w fun e w' => ∃ A' c', e = .returned (.slice A' n c') ∧ w'.ownsRow w.heap.size 5 1 (.slice A' n c') n (u8s bs) ∧ Below w.heap.size w w' := by
  have hq := fun w : World => Lib.run_eql_slice_nil (P := Try.prog) w 25 5 A n c 0 0 Try.underlying25
  rcases A with _ | ad
  · have hn0 : n = 0 := by
      rcases Nat.eq_zero_or_pos n with h0 | h0
      · exact h0
      · obtain ⟨_, h1, _⟩ := h.lies h0
        cases h1
    subst hn0
    have hb : bs = [] := List.eq_nil_of_length_eq_zero h.length8
    subst hb
    go_enter Try.func28, Try.ntmps28
    go_wp2_with fail
    go_ret
    exact ⟨none, 0, rfl, World.ownsRow_nil _ _ _ _, Below.refl _ _⟩
  · obtain ⟨i0, hi0, hz0, hz1, hz2⟩ := info_parts info_u8
    have hr := h.alloc (Nat.le_refl _) (.cells #[] 5)
    have ho : (w.alloc (.cells #[] 5)).ownsRow w.heap.size 5 1 (.slice (some ⟨w.heap.size, 0, none⟩) 0 0) 0 [] := World.ownsRow_lit w #[] 0 (Nat.le_refl _) (by simp [maxLen]) rfl
    have HR := hide hr
    have HO := hide ho
    clear hr ho h
    go_enter Try.func28, Try.ntmps28
    go_wp2_with (at_builtin; refine wpList_append_rd _ rfl (.tmp 5) (.tmp 6) _ rfl w.heap.size 5 i0 _ 1 1 Try.underlying25 hi0 hz0 hz1 hz2 rfl (by omega) (.slice (some ⟨w.heap.size, 0, none⟩) 0 0) 0 [] rfl HO.out w.heap.size (some ad) n c (u8s bs) rfl HR.out (u8s_one _) (by simp only [maxLen]; omega) (by omega) (by simp) ?_; intro A1 c1 w1 hown1 hg1 hat1)
    simp only [Nat.zero_add, List.nil_append] at hown1
    have hb1 : Below w.heap.size w w1 := ((Below.refl _ _).alloc (Nat.le_refl _) _).trans (below_grown HO.out hg1 (Nat.le_refl _) (by simp))
    go_ret
    exact ⟨A1, c1, rfl, hown1, hb1⟩

/-- A number in so many bytes, the one of the least weight first. -/
def leB (n i : Nat) : UInt8 := UInt8.ofNat (n / 2 ^ (8 * i))
def le (n k : Nat) : List UInt8 := (List.range k).map (leB n)
theorem le_succ (n k : Nat) : le n (k + 1) = le n k ++ [leB n k] := by simp [le, List.range_succ]
theorem le_length (n k : Nat) : (le n k).length = k := by simp [le]
theorem leB_int (n i : Nat) : IntKind.u8.wrap ((n : Int) / 2 ^ (8 * i)) = ((leB n i).toNat : Int) := by
  rw [IntKind.wrap_u8', leB, UInt8.toNat_ofNat', Int.natCast_emod, Int.natCast_ediv, Int.natCast_pow]
  rfl

/-- What a call of the pen may turn: the pen's own cell and the row that it has written to. -/
def Pn (g : Nat) (A : Option Addr) (k c : Nat) (i : Nat) : Prop := i = g ∨ (Value.slice A k c).ownBlock = some i

theorem penUint_bad {w : World} {g : Nat} {n size : Int} (hn : 0 ≤ n) (hs : -9223372036854775808 ≤ size) (hs' : size ≤ 9223372036854775807) (h : size < 1 ∨ 8 < size ∨ (size < 8 ∧ 0 < n / 2 ^ (8 * size).toNat)) :
    Calls Try.prog 11 #[.pointer (some ⟨g, 0, none⟩), .int .u64 n, .int .i64 size] w fun e w' => e = .returned (.int .i64 2) ∧ w = w' := by
  rcases h with h | h | ⟨h, h2⟩
  · go_enter Try.func11, Try.ntmps11
    go_wp2_with fail
    go_ret
    exact ⟨rfl, rfl⟩
  · go_enter Try.func11, Try.ntmps11
    go_wp2_with fail
    go_ret
    exact ⟨rfl, rfl⟩
  · by_cases h3 : size < 1
    · go_enter Try.func11, Try.ntmps11
      go_wp2_with fail
      go_ret
      exact ⟨rfl, rfl⟩
    · go_enter Try.func11, Try.ntmps11
      go_wp2_with fail
      go_ret
      exact ⟨rfl, rfl⟩

/-- One append onto the pen's row, and the new row stored in the pen. -/
theorem pen_step {w wr W1 w2 : World} {B g k c n1 n2 : Nat} {A : Option Addr} {v1 v2 : Value} {xs ys : List Value}
    (hblk : Blk wr g 27 #[v1]) (hown : wr.ownsRow B 5 1 v1 n1 xs) (hfr : Fr w wr (Pn g A k c)) (hin : ∀ j, v1.ownBlock = some j → j < w.heap.size → Pn g A k c j)
    (hW : Below wr.heap.size wr W1) (hg2 : W1.grownBy w2 v1.ownBlock) (hown2 : w2.ownsRow B 5 1 v2 n2 ys) (hat : v2.ownBlock = v1.ownBlock ∨ v2.ownBlock = some W1.heap.size) :
    Blk (w2.setCell ⟨g, 0, none⟩ v2) g 27 #[v2] ∧ (w2.setCell ⟨g, 0, none⟩ v2).ownsRow B 5 1 v2 n2 ys ∧ Fr w (w2.setCell ⟨g, 0, none⟩ v2) (Pn g A k c) ∧ (∀ j, v2.ownBlock = some j → j < w.heap.size → Pn g A k c j) := by
  have hb1 := hblk.below hW hblk.lt
  have hb2 : Blk w2 g 27 #[v1] := hb1.grown hg2 (own_ne_blk hown hblk (by decide))
  have hf1 : Fr w W1 (Pn g A k c) := hfr.step (Fr.new hW) (fun _ _ h => h)
  have hf2 : Fr w w2 (Pn g A k c) := hf1.grown hg2 hin
  refine ⟨by simpa using hb2.set 0 v2, ?_, hf2.setCell (fun _ => .inl rfl) v2, ?_⟩
  · refine own_fr hown2 ((Fr.refl w2 (· = g)).setCell (fun _ => rfl) v2) (fun j hj e => ?_)
    subst e
    exact own_ne_blk hown2 hb2 (by decide) hj
  · intro j hj hlt
    rcases hat with h | h
    · exact hin j (h ▸ hj) hlt
    · rw [h] at hj
      injection hj with hj
      have := hf1.size
      omega

set_option maxHeartbeats 1000000 in
theorem penUint_ok {w : World} {B g k c N size : Nat} {A : Option Addr} {bs : List UInt8} (hP : Blk w g 27 #[.slice A k c]) (hO : w.ownsRow B 5 1 (.slice A k c) k (u8s bs)) (hB : B ≤ w.heap.size)
    (hs1 : 1 ≤ size) (hs8 : size ≤ 8) (hN : size < 8 → N < 2 ^ (8 * size)) (hN' : N < 18446744073709551616) (hk : k ≤ 140737488355320) :
    Calls Try.prog 11 #[.pointer (some ⟨g, 0, none⟩), .int .u64 (N : Int), .int .i64 (size : Int)] w fun e w' => ∃ A' c', e = .returned (.int .i64 0) ∧
      Blk w' g 27 #[.slice A' (k + size) c'] ∧ w'.ownsRow B 5 1 (.slice A' (k + size) c') (k + size) (u8s (bs ++ le N size)) ∧ Fr w w' (Pn g A k c) ∧ (∀ i, (Value.slice A' (k + size) c').ownBlock = some i → i < w.heap.size → Pn g A k c i) := by
  obtain ⟨i0, hi0, hz0, hz1, hz2⟩ := info_parts info_u8
  have hdec : size < 8 → ((N : Int) / 2 ^ (8 * size) : Int) = 0 := fun h => by
    have h1 := hN h
    have e : ((N : Int) / 2 ^ (8 * size)) = ((N / 2 ^ (8 * size) : Nat) : Int) := by
      rw [Int.natCast_ediv, Int.natCast_pow]; rfl
    rw [e, Nat.div_eq_of_lt h1]
    rfl
  have HP := hide hP
  have HO := hide hO
  have HD := hide hdec
  have HN := hide hN
  clear hP hO hdec hN
  go_enter Try.func11, Try.ntmps11
  by_cases h8 : size < 8
  · have hd := HD.out h8
    go_wp2_with fail
    clear hd
    go_loopw [26] (fun s wr => ∃ i : Nat, i ≤ size ∧ s = .int .i64 i ∧ ∃ A' c', Blk wr g 27 #[.slice A' (k + i) c'] ∧ wr.ownsRow B 5 1 (.slice A' (k + i) c') (k + i) (u8s (bs ++ le N i)) ∧ Fr w wr (Pn g A k c) ∧ (∀ j, (Value.slice A' (k + i) c').ownBlock = some j → j < w.heap.size → Pn g A k c j)) (fun s _ => size - (intOf s).toNat)
    case atStart => exact ⟨0, by omega, rfl, A, c, by simpa using HP.out, by simpa [le] using HO.out, Fr.refl _ _, fun j hj _ => .inr (by simpa using hj)⟩
    case round =>
      obtain ⟨i, hi, rfl, A1, c1, hblk, hown, hfr, hin⟩ := hrel
      by_cases hlt : i < size
      · have hv := leB_int N i
        have hw8 : IntKind.i64.wrap (8 * (i : Int)) = 8 * (i : Int) := IntWalk.i64_in _ (by omega)
        have h08 : (0 : Int) ≤ 8 * (i : Int) := by omega
        have ht8 : (8 * (i : Int)).toNat = 8 * i := by omega
        have hcell := hblk.at_ (i := 0) rfl
        have hlg := hblk.lt
        have HO1 := hide hown
        have HB1 := hide hblk
        have HF1 := hide hfr
        have HI1 := hide hin
        clear hown hblk hfr hin
        go_wp2_with fail
        go_region_law ((refine step_append_rd _ (by rfl) (.tmp 33) (.tmp 39) 25 (by rfl) B 5 i0 _ 1 1 Try.underlying25 hi0 hz0 hz1 hz2 rfl (by omega) (.slice A1 (k + i) c1) (k + i) _ (by rfl) ((HO1.out.alloc _).drew) (wr.heap.size + 1) (some ⟨wr.heap.size, 0, none⟩) 1 1 [.int .u8 ((leB N i).toNat : Int)] (by rfl) ((Rd.one wr _ _).drew) (by simp [Value.oneCell']) (by simp only [maxLen]; omega) (by omega) (by have := HF1.out.size; simp; omega) ?_; intro A2 c2 w2 hown2 hg2 hat2; have hb2 := Blk.grown ((HB1.out.alloc _).drew) hg2 (own_ne_blk HO1.out HB1.out (by decide)); have hc2 := hb2.at_ (i := 0) rfl; have hf2 := hb2.frozen 0))
        all_goals
          have hst := pen_step HB1.out HO1.out HF1.out HI1.out ((Below.refl _ _).alloc (Nat.le_refl _) _).drew hg2 hown2 (by simpa using hat2)
          have HST := hide hst
          clear hst hb2 hc2 hf2 hown2 hg2 hat2 hcell hv hw8 h08 ht8
          go_wp2_with fail
          go_roundw
          case rel => exact ⟨i + 1, by omega, by go_num, A2, c2, by rw [le_succ, ← List.append_assoc, u8s_append]; exact HST.out⟩
          case measure => simp [intOf]; omega
      · obtain rfl : i = size := by omega
        have HX := hide (show _ ∧ _ ∧ _ ∧ _ from ⟨hblk, hown, hfr, hin⟩)
        clear hblk hown hfr hin
        go_wp2_with fail
        go_ret
        exact ⟨A1, c1, rfl, HX.out⟩

  · go_wp2_with fail
    go_loopw [26] (fun s wr => ∃ i : Nat, i ≤ size ∧ s = .int .i64 i ∧ ∃ A' c', Blk wr g 27 #[.slice A' (k + i) c'] ∧ wr.ownsRow B 5 1 (.slice A' (k + i) c') (k + i) (u8s (bs ++ le N i)) ∧ Fr w wr (Pn g A k c) ∧ (∀ j, (Value.slice A' (k + i) c').ownBlock = some j → j < w.heap.size → Pn g A k c j)) (fun s _ => size - (intOf s).toNat)
    case atStart => exact ⟨0, by omega, rfl, A, c, by simpa using HP.out, by simpa [le] using HO.out, Fr.refl _ _, fun j hj _ => .inr (by simpa using hj)⟩
    case round =>
      obtain ⟨i, hi, rfl, A1, c1, hblk, hown, hfr, hin⟩ := hrel
      by_cases hlt : i < size
      · have hv := leB_int N i
        have hw8 : IntKind.i64.wrap (8 * (i : Int)) = 8 * (i : Int) := IntWalk.i64_in _ (by omega)
        have h08 : (0 : Int) ≤ 8 * (i : Int) := by omega
        have ht8 : (8 * (i : Int)).toNat = 8 * i := by omega
        have hcell := hblk.at_ (i := 0) rfl
        have hlg := hblk.lt
        have HO1 := hide hown
        have HB1 := hide hblk
        have HF1 := hide hfr
        have HI1 := hide hin
        clear hown hblk hfr hin
        go_wp2_with fail
        go_region_law ((refine step_append_rd _ (by rfl) (.tmp 33) (.tmp 39) 25 (by rfl) B 5 i0 _ 1 1 Try.underlying25 hi0 hz0 hz1 hz2 rfl (by omega) (.slice A1 (k + i) c1) (k + i) _ (by rfl) ((HO1.out.alloc _).drew) (wr.heap.size + 1) (some ⟨wr.heap.size, 0, none⟩) 1 1 [.int .u8 ((leB N i).toNat : Int)] (by rfl) ((Rd.one wr _ _).drew) (by simp [Value.oneCell']) (by simp only [maxLen]; omega) (by omega) (by have := HF1.out.size; simp; omega) ?_; intro A2 c2 w2 hown2 hg2 hat2; have hb2 := Blk.grown ((HB1.out.alloc _).drew) hg2 (own_ne_blk HO1.out HB1.out (by decide)); have hc2 := hb2.at_ (i := 0) rfl; have hf2 := hb2.frozen 0))
        all_goals
          have hst := pen_step HB1.out HO1.out HF1.out HI1.out ((Below.refl _ _).alloc (Nat.le_refl _) _).drew hg2 hown2 (by simpa using hat2)
          have HST := hide hst
          clear hst hb2 hc2 hf2 hown2 hg2 hat2 hcell hv hw8 h08 ht8
          go_wp2_with fail
          go_roundw
          case rel => exact ⟨i + 1, by omega, by go_num, A2, c2, by rw [le_succ, ← List.append_assoc, u8s_append]; exact HST.out⟩
          case measure => simp [intOf]; omega
      · obtain rfl : i = size := by omega
        have HX := hide (show _ ∧ _ ∧ _ ∧ _ from ⟨hblk, hown, hfr, hin⟩)
        clear hblk hown hfr hin
        go_wp2_with fail
        go_ret
        exact ⟨A1, c1, rfl, HX.out⟩


theorem penBytes_bad {w : World} {g nb cb : Nat} {Ab : Option Addr} (hcb : nb ≤ cb) (hmax : cb ≤ maxLen) (h : 4294967296 ≤ nb) :
    Calls Try.prog 13 #[.pointer (some ⟨g, 0, none⟩), .slice Ab nb cb] w fun e w' => e = .returned (.int .i64 2) ∧ w = w' := by
  unfold maxLen at hmax
  have h32 : 0 < (nb : Int) / 2 ^ (8 * (4 : Int)).toNat := by
    rw [show ((2 : Int) ^ (8 * (4 : Int)).toNat) = 4294967296 from rfl]
    omega
  have H := hide h32
  clear h32
  go_enter Try.func13, Try.ntmps13
  go_wp2_with fail
  refine (penUint_bad (by omega) (by omega) (by omega) (.inr (.inr ⟨by omega, H.out⟩))).mono ?_
  rintro e w' ⟨rfl, rfl⟩
  go_wp2_with fail
  go_ret
  exact ⟨rfl, rfl⟩

set_option maxHeartbeats 1000000 in
theorem penBytes_ok {w : World} {B g k c nb cb : Nat} {A Ab : Option Addr} {bs bb : List UInt8} (hP : Blk w g 27 #[.slice A k c]) (hO : w.ownsRow B 5 1 (.slice A k c) k (u8s bs)) (hB : B ≤ w.heap.size)
    (hR : ∀ w', Fr w w' (Pn g A k c) → Rd w' w'.heap.size 1 Ab nb cb (u8s bb)) (h32 : nb < 4294967296) (hk : k + nb ≤ 140737488355300) :
    Calls Try.prog 13 #[.pointer (some ⟨g, 0, none⟩), .slice Ab nb cb] w fun e w' => ∃ A' c', e = .returned (.int .i64 0) ∧
      Blk w' g 27 #[.slice A' (k + 4 + nb) c'] ∧ w'.ownsRow B 5 1 (.slice A' (k + 4 + nb) c') (k + 4 + nb) (u8s (bs ++ (le nb 4 ++ bb))) ∧ Fr w w' (Pn g A k c) ∧ (∀ i, (Value.slice A' (k + 4 + nb) c').ownBlock = some i → i < w.heap.size → Pn g A k c i) := by
  obtain ⟨i0, hi0, hz0, hz1, hz2⟩ := info_parts info_u8
  have HP := hide hP
  have HO := hide hO
  have HR := hide hR
  clear hP hO hR
  go_enter Try.func13, Try.ntmps13
  go_wp2_with fail
  refine (penUint_ok (size := 4) HP.out HO.out hB (by omega) (by omega) (fun _ => by omega) (by omega) (by omega)).mono ?_
  rintro e w1 ⟨A1, c1, rfl, hb1, ho1, hf1, hi1⟩
  have hcell := hb1.at_ (i := 0) rfl
  have hr1 := HR.out w1 hf1
  have hsz := hf1.size
  have HB1 := hide hb1
  have HO1 := hide ho1
  have HF1 := hide hf1
  have HI1 := hide hi1
  have HR1 := hide hr1
  clear hb1 ho1 hf1 hi1 hr1 HR HP HO
  go_wp2_with (at_builtin; refine wpList_append_rd _ rfl (.tmp 18) (.tmp 19) _ rfl B 5 i0 _ 1 1 Try.underlying25 hi0 hz0 hz1 hz2 rfl (by omega) (.slice A1 (k + 4) c1) (k + 4) _ rfl HO1.out w1.heap.size Ab nb cb (u8s bb) rfl HR1.out (u8s_one _) (by simp only [maxLen]; omega) (by omega) (by omega) ?_; intro A2 c2 w2 hown2 hg2 hat2; have hb2 := Blk.grown HB1.out hg2 (own_ne_blk HO1.out HB1.out (by decide)); have hc2 := hb2.at_ (i := 0) rfl; have hf2 := hb2.frozen 0)
  have hst := pen_step HB1.out HO1.out HF1.out HI1.out (Below.refl _ _) hg2 hown2 hat2
  rw [← u8s_append, List.append_assoc] at hst
  go_ret
  exact ⟨A2, c2, rfl, hst⟩

theorem penData_any {w : World} {B g k c : Nat} {A : Option Addr} {bs : List UInt8} (hP : Blk w g 27 #[.slice A k c]) (hO : w.ownsRow B 5 1 (.slice A k c) k (u8s bs)) (hk : k ≤ 140737488351232) :
    Calls Try.prog 15 #[.pointer (some ⟨g, 0, none⟩)] w fun e w' => ∃ A' c', e = .returned (.slice A' k c') ∧ w'.ownsRow w.heap.size 5 1 (.slice A' k c') k (u8s bs) ∧ Below w.heap.size w w' := by
  have hcell := hP.at_ (i := 0) rfl
  have HR := hide (Rd.of_own hO)
  clear hP hO
  go_enter Try.func15, Try.ntmps15
  go_wp2_with fail
  refine (clone_any HR.out hk).mono ?_
  rintro e w1 ⟨A1, c1, rfl, ho1, hb1⟩
  have HX := hide (show _ ∧ _ from ⟨ho1, hb1⟩)
  clear ho1 hb1
  go_wp2_with fail
  go_ret
  exact ⟨A1, c1, rfl, HX.out⟩
end Go.Proofs.Ythfmfcgjcilagaa.PW
