/- The walks of the eye, the program's. -/
import Derived.Test.YthfmfcgjcilagaaPPen
import Derived.Test.YthfmfcgjcilagaaLMath
namespace Go.Proofs.Ythfmfcgjcilagaa.PW
open Go.ChangeShapes Go.WideShapes Go.ChangeAt Go.RowKit
open Go.Proofs.Ythfmfcgjcilagaa.B
open Go.Proofs.Ythfmfcgjcilagaa.LM (wordTo wordTo_or' wordTo_congr wordTo_lt)
set_option linter.unusedVariables false

theorem newEye_any {w : World} {A : Option Addr} {n c : Nat} {bs : List UInt8} (h : Rd w w.heap.size 1 A n c (u8s bs)) (hn : n ≤ 140737488351232) :
    Calls Try.prog 17 #[.slice A n c] w fun e w' => ∃ g A' c', e = .returned (.pointer (some ⟨g, 0, none⟩)) ∧ Blk w' g 64 #[.slice A' n c'] ∧ w.heap.size ≤ g ∧
      w'.ownsRow w.heap.size 5 1 (.slice A' n c') n (u8s bs) ∧ Below w.heap.size w w' := by
  go_enter Try.func17, Try.ntmps17
  go_wp2_with fail
  refine (clone_any h hn).mono ?_
  rintro e w1 ⟨A1, c1, rfl, ho1, hb1⟩
  have HX := hide (show _ ∧ _ from ⟨ho1, hb1⟩)
  clear ho1 hb1
  go_wp2_with fail
  go_ret
  exact ⟨_, A1, c1, rfl, Blk.new _ _ _, HX.out.2.size, HX.out.1.alloc _, HX.out.2.alloc HX.out.2.size _⟩

theorem left_any {w : World} {g n c : Nat} {A : Option Addr} (hP : Blk w g 64 #[.slice A n c]) :
    Calls Try.prog 22 #[.pointer (some ⟨g, 0, none⟩)] w fun e w' => e = .returned (.int .i64 n) ∧ w = w' := by
  have hcell := hP.at_ (i := 0) rfl
  clear hP
  go_enter Try.func22, Try.ntmps22
  go_wp2_with fail
  go_ret
  exact ⟨rfl, rfl⟩

theorem eyeUint_arg {w : World} {g : Nat} {size : Int} (hs : -9223372036854775808 ≤ size) (hs' : size ≤ 9223372036854775807) (h : size < 1 ∨ 8 < size) :
    Calls Try.prog 18 #[.pointer (some ⟨g, 0, none⟩), .int .i64 size] w fun e w' => e = .returned (.tuple #[.int .u64 0, .int .i64 2]) ∧ w = w' := by
  rcases h with h | h
  · go_enter Try.func18, Try.ntmps18
    go_wp2_with fail
    go_ret2
    exact ⟨rfl, rfl⟩
  · go_enter Try.func18, Try.ntmps18
    go_wp2_with fail
    go_ret2
    exact ⟨rfl, rfl⟩

theorem eyeUint_short {w : World} {g n c size : Nat} {A : Option Addr} (hP : Blk w g 64 #[.slice A n c]) (h1 : 1 ≤ size) (h8 : size ≤ 8) (hn : n < size) :
    Calls Try.prog 18 #[.pointer (some ⟨g, 0, none⟩), .int .i64 (size : Int)] w fun e w' => e = .returned (.tuple #[.int .u64 0, .int .i64 40]) ∧ w = w' := by
  have hcell := hP.at_ (i := 0) rfl
  clear hP
  go_enter Try.func18, Try.ntmps18
  go_wp2_with fail
  go_ret2
  exact ⟨rfl, rfl⟩

/-- What a number that was read leaves: the number, and the eye so much further. -/
def EyeRead (w : World) (B g n size : Nat) (A : Option Addr) (bs : List UInt8) (e : Ending) (w' : World) : Prop :=
  ∃ A' c', e = .returned (.tuple #[.int .u64 (wordTo (at8 bs) size : Int), .int .i64 0]) ∧ w' = w.setCell ⟨g, 0, none⟩ (.slice A' (n - size) c') ∧ Rd w B 1 A' (n - size) c' (u8s (bs.drop size)) ∧ SubA A' A

set_option maxHeartbeats 1000000 in
theorem eyeUint_ok {w : World} {B g n c size : Nat} {A : Option Addr} {bs : List UInt8} (hP : Blk w g 64 #[.slice A n c]) (hR : Rd w B 1 A n c (u8s bs)) (h1 : 1 ≤ size) (h8 : size ≤ 8) (hn : size ≤ n) :
    Calls Try.prog 18 #[.pointer (some ⟨g, 0, none⟩), .int .i64 (size : Int)] w (EyeRead w B g n size A bs) := by
  have hcell := hP.at_ (i := 0) rfl
  have hfz := hP.frozen 0
  have hm := hR.max
  have hcap := hR.cap
  unfold maxLen at hm
  have HR := hide hR
  clear hR hP
  go_enter Try.func18, Try.ntmps18
  go_wp2_with fail
  go_loop [4, 30] (fun v s => ∃ k : Nat, k ≤ size ∧ s = .int .i64 k ∧ v = .int .u64 (wordTo (at8 bs) k : Int)) (fun _ s => size - (intOf s).toNat)
  case atStart => exact ⟨0, by omega, rfl, rfl⟩
  case round =>
    obtain ⟨k, hk, rfl, rfl⟩ := hrel
    by_cases hlt : k < size
    · obtain ⟨ad, rfl, _, hc⟩ := HR.out.byte (i := k) (by omega)
      have hnext := hide (wordTo_or' (at8 bs) k (by omega) (fun j _ => at8_lt bs j))
      have hb := at8_lt bs k
      go_wp2_with fail
      go_round
      case rel => exact ⟨k + 1, by omega, by go_num, by rw [← hnext.out, Go.Proofs.Ythfmfcgjcilagaa.LM.wrap_u64_small _ hb]⟩
      case measure => simp [intOf]; omega
    · obtain rfl : k = size := by omega
      by_cases hck : c = k
      · have hT := HR.out.tail8 hn
        rw [if_pos hck] at hT
        have HT := hide hT
        clear hT HR
        go_wp2_with fail
        go_ret2
        exact ⟨_, _, rfl, rfl, by have h := HT.out; rwa [hck, Nat.sub_self] at h, SubA.refl _⟩
      · have hT := HR.out.tail8 hn
        rw [if_neg hck, Nat.mul_one] at hT
        have HT := hide hT
        clear hT HR
        go_wp2_with fail
        go_ret2
        exact ⟨_, _, rfl, rfl, HT.out, SubA.map _ _⟩

theorem Rd_setCell_ne {w : World} {B n c g : Nat} {A : Option Addr} {xs : List Value} (h : Rd w B 1 A n c xs) (hne : ∀ ad, A = some ad → ad.block ≠ g) (u : Value) : Rd (w.setCell ⟨g, 0, none⟩ u) B 1 A n c xs :=
  ⟨h.len, h.cap, h.max, fun hn => by
    obtain ⟨ad, e, hb, hc⟩ := h.lies hn
    refine ⟨ad, e, hb, fun j v hv => ?_⟩
    rw [World.cell?_setCell_other _ _ _ _ (fun e2 => hne ad e (by have h3 := congrArg Addr.block e2; rw [add_block] at h3; exact h3.symm))]
    exact hc j v hv⟩

theorem eyeBytes_short {w : World} {g n c : Nat} {A : Option Addr} (hP : Blk w g 64 #[.slice A n c]) (hn : n < 4) :
    Calls Try.prog 20 #[.pointer (some ⟨g, 0, none⟩)] w fun e w' => e = .returned (.tuple #[.slice none 0 0, .int .i64 40]) ∧ w = w' := by
  have hcell := hP.at_ (i := 0) rfl
  have HP := hide hP
  clear hP
  go_enter Try.func20, Try.ntmps20
  go_wp2_with fail
  refine (eyeUint_short (size := 4) HP.out (by omega) (by omega) hn).mono ?_
  rintro e w' ⟨rfl, rfl⟩
  go_wp2_with fail
  go_ret2
  exact ⟨rfl, rfl⟩

theorem eyeBytes_over {w : World} {B g n c : Nat} {A : Option Addr} {bs : List UInt8} (hP : Blk w g 64 #[.slice A n c]) (hR : Rd w B 1 A n c (u8s bs)) (hn : 4 ≤ n) (hN : n - 4 < wordTo (at8 bs) 4) :
    Calls Try.prog 20 #[.pointer (some ⟨g, 0, none⟩)] w fun e w' => e = .returned (.tuple #[.slice none 0 0, .int .i64 40]) ∧ Blk w' g 64 #[.slice A n c] ∧ Fr w w' (· = g) := by
  have hcell := hP.at_ (i := 0) rfl
  have hm := hR.max
  have hcap := hR.cap
  unfold maxLen at hm
  have HP := hide hP
  have HR := hide hR
  clear hP hR
  go_enter Try.func20, Try.ntmps20
  go_wp2_with fail
  refine (eyeUint_ok (size := 4) HP.out HR.out (by omega) (by omega) hn).mono ?_
  rintro e w1 ⟨A1, c1, rfl, rfl, hR1, hs1⟩
  have hb1 : Blk (w.setCell ⟨g, 0, none⟩ (.slice A1 (n - 4) c1)) g 64 #[.slice A1 (n - 4) c1] := by simpa using HP.out.set 0 (.slice A1 (n - 4) c1)
  have hf1 : Fr w (w.setCell ⟨g, 0, none⟩ (.slice A1 (n - 4) c1)) (· = g) := Fr.one _ _ _ _
  generalize w.setCell ⟨g, 0, none⟩ (.slice A1 (n - 4) c1) = w1 at *
  have hc1 := hb1.at_ (i := 0) rfl
  have hz1 := hb1.frozen 0
  have HB1 := hide hb1
  have HF1 := hide hf1
  clear hb1 hf1 hs1 hR1 HR HP
  go_wp2_with fail
  go_ret2
  exact ⟨rfl, by simpa using HB1.out.set 0 (.slice A n c), HF1.out.setCell (fun _ => rfl) _⟩

/-- What bytes that were read leave: the bytes in new memory, and the eye so much further. -/
def EyeGot (w : World) (B g n N : Nat) (A : Option Addr) (bs : List UInt8) (e : Ending) (w' : World) : Prop :=
  ∃ A1 c1 A2 c2, e = .returned (.tuple #[.slice A1 N c1, .int .i64 0]) ∧ w'.ownsRow w.heap.size 5 1 (.slice A1 N c1) N (u8s ((bs.drop 4).take N)) ∧ Blk w' g 64 #[.slice A2 (n - 4 - N) c2] ∧
    Rd w' B 1 A2 (n - 4 - N) c2 (u8s (bs.drop (4 + N))) ∧ SubA A2 A ∧ Fr w w' (· = g)

theorem eyeGot_close {w w1 w2 : World} {B g n N c2 c3 : Nat} {A A2 A3 : Option Addr} {bs xs ys : List UInt8} {v : Value} (hz : w1.heap.size = w.heap.size)
    (ho : w2.ownsRow w1.heap.size 5 1 (.slice A2 N c2) N (u8s xs)) (hk : Blk w2 g 64 #[v]) (hf : Fr w w2 (· = g)) (hr : Rd w2 B 1 A3 (n - 4 - N) c3 (u8s ys)) (hs : SubA A3 A) (hne : ∀ ad, A = some ad → ad.block ≠ g) (hx : xs = (bs.drop 4).take N) (hy : ys = bs.drop (4 + N)) :
    EyeGot w B g n N A bs (.returned (.tuple #[.slice A2 N c2, .int .i64 0])) (w2.setCell ⟨g, 0, none⟩ (.slice A3 (n - 4 - N) c3)) := by
  subst hx
  subst hy
  refine ⟨A2, c2, A3, c3, rfl, ?_, by simpa using hk.set 0 (.slice A3 (n - 4 - N) c3), Rd_setCell_ne hr (hs.ne hne) _, hs, hf.trans (Fr.one _ _ _ _)⟩
  rw [hz] at ho
  refine own_fr ho (Fr.one w2 g 0 (.slice A3 (n - 4 - N) c3)) (fun k hk2 e => ?_)
  subst e
  exact own_ne_blk ho hk (by decide) hk2

set_option maxHeartbeats 1000000 in
theorem eyeBytes_ok {w : World} {B g n c N : Nat} {A : Option Addr} {bs : List UInt8} (hP : Blk w g 64 #[.slice A n c]) (hR : Rd w B 1 A n c (u8s bs)) (hBs : B ≤ w.heap.size) (hne : ∀ ad, A = some ad → ad.block ≠ g) (hn : 4 ≤ n) (hn' : n ≤ 140737488351232)
    (hN : wordTo (at8 bs) 4 = N) (hNn : N ≤ n - 4) :
    Calls Try.prog 20 #[.pointer (some ⟨g, 0, none⟩)] w (EyeGot w B g n N A bs) := by
  have hcell := hP.at_ (i := 0) rfl
  have hm := hR.max
  have hcap := hR.cap
  unfold maxLen at hm
  have HP := hide hP
  have HR := hide hR
  have HN := hide hN
  have HE := hide hne
  clear hP hR hN hne
  go_enter Try.func20, Try.ntmps20
  go_wp2_with fail
  refine (eyeUint_ok (size := 4) HP.out HR.out (by omega) (by omega) hn).mono ?_
  rintro e w1 ⟨A1, c1, rfl, rfl, hR1, hs1⟩
  rw [HN.out]
  have hb1 : Blk (w.setCell ⟨g, 0, none⟩ (.slice A1 (n - 4) c1)) g 64 #[.slice A1 (n - 4) c1] := by simpa using HP.out.set 0 (.slice A1 (n - 4) c1)
  have hf1 : Fr w (w.setCell ⟨g, 0, none⟩ (.slice A1 (n - 4) c1)) (· = g) := Fr.one _ _ _ _
  have hR1' := Rd_setCell_ne hR1 (hs1.ne HE.out) (.slice A1 (n - 4) c1)
  have hsz : (w.setCell ⟨g, 0, none⟩ (.slice A1 (n - 4) c1)).heap.size = w.heap.size := by simp
  generalize w.setCell ⟨g, 0, none⟩ (.slice A1 (n - 4) c1) = w1 at *
  have hc1 := hb1.at_ (i := 0) rfl
  have hz1 := hb1.frozen 0
  have hcap1 := hR1'.cap
  have hmax1 := hR1'.max
  unfold maxLen at hmax1
  have HB1 := hide hb1
  have HF1 := hide hf1
  have HR1 := hide hR1'
  have HS1 := hide hs1
  have HZ := hide hsz
  clear hb1 hf1 hs1 hR1 hR1' HR HP hsz
  go_wp2_with fail
  refine (clone_any ((HR1.out.head8 (j := N) (by omega)).more (by rw [HZ.out]; exact hBs)) (by omega)).mono ?_
  rintro e w2 ⟨A2, c2, rfl, ho2, hb2⟩
  have hbk2 := HB1.out.below hb2 HB1.out.lt
  have hc2 := hbk2.at_ (i := 0) rfl
  have hz2 := hbk2.frozen 0
  have hR2 := HR1.out.below (hb2.mono (by rw [HZ.out]; exact hBs))
  have hf2 : Fr w w2 (· = g) := HF1.out.step (Fr.new hb2) (fun _ _ h => h)
  have HO2 := hide ho2
  have HK2 := hide hbk2
  have HR2 := hide hR2
  have HF2 := hide hf2
  clear ho2 hb2 hbk2 hR2 hf2
  by_cases hck : c1 = N
  · have hT := HR2.out.tail8 hNn
    rw [if_pos hck] at hT
    have HT := hide hT
    clear hT
    go_wp2_with fail
    go_ret2
    exact eyeGot_close HZ.out HO2.out HK2.out HF2.out (by have h := HT.out; rwa [hck, Nat.sub_self] at h) HS1.out HE.out rfl (by rw [List.drop_drop])
  · have hT := HR2.out.tail8 hNn
    rw [if_neg hck, Nat.mul_one] at hT
    have HT := hide hT
    clear hT
    go_wp2_with fail
    go_ret2
    exact eyeGot_close HZ.out HO2.out HK2.out HF2.out HT.out ((SubA.map _ _).trans HS1.out) HE.out rfl (by rw [List.drop_drop])
end Go.Proofs.Ythfmfcgjcilagaa.PW
