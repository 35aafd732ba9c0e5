/- The walks of riddleref19.Feed and riddleref19.Kept; Great for texts that may be long. -/
import Derived.Test.YtkjpcincjoaeeaaTCuts
import Derived.BigQuiet
import Derived.Deep.QuietTactic
namespace Go.Proofs.Ytkjpcincjoaeeaa.TW
open Go.ChangeShapes Go.WideShapes Go.ChangeAt Go.RowKit
open Go.Proofs.Ytkjpcincjoaeeaa.B Go.Proofs.Ytkjpcincjoaeeaa.AM Go.Proofs.Ytkjpcincjoaeeaa.AW Go.Proofs.Ytkjpcincjoaeeaa.TM
set_option linter.unusedVariables false

theorem wrap_big (n : Int) (l : Nat) (h1 : n ≤ 300) (h0 : 0 ≤ n) (h2 : l ≤ 1048576) : wrap64 (n + wrap64 ((l : Int) + 1)) = n + ((l : Int) + 1) := by
  rw [wrap64_id ((l : Int) + 1) (by omega) (by omega), wrap64_id _ (by omega) (by omega)]
def GreatBig (Ls : List T) (w : World) (e : Ending) (w' : World) : Prop := ∃ b : Bool, e = .returned (.bool b) ∧ w = w' ∧ (b = false → gsum Ls ≤ 300)
set_option maxHeartbeats 1000000 in
theorem great_big {w : World} {B len cap : Nat} {a : Option Addr} {Ls : List T} (h : Texts w B a len cap Ls) (hb : ∀ l ∈ Ls, l.length ≤ 1048576) :
    Calls Try.prog 8 #[.slice a len cap] w (GreatBig Ls w) := by
  have HT := hide h
  have HBB := hide hb
  have hrm := h.room
  have hmx : cap ≤ 9223372036854775807 := h.max
  have hct := h.count
  clear h hb
  go_enter Try.func8, Try.ntmps8
  go_wp2_with fail
  go_loop [3, 4] (fun nv iv => ∃ (n : Int) (i : Nat), nv = .int .i64 n ∧ iv = .int .i64 i ∧ i ≤ len ∧ n = gsum (Ls.take i)) (fun _ iv => len - (intOf iv).toNat)
  case atStart => exact ⟨0, 0, rfl, rfl, by omega, rfl⟩
  case round =>
    obtain ⟨n, i, rfl, rfl, hi, hn⟩ := hrel
    have HN := hide hn
    clear hn
    by_cases hlt : i < len
    · by_cases hle : n ≤ 300
      · obtain ⟨ad, l, A, c, rfl, _, hl, hc, hrd⟩ := HT.out.at_ hlt
        have HL := hide hl
        have e1 : IntKind.i64.wrap ((i : Int) + 1) = (i : Int) + 1 := IntWalk.i64_in _ (by omega)
        have hmx2 : c ≤ 9223372036854775807 := hrd.max
        have hcp2 := hrd.cap
        clear hl hrd
        go_wp2_with fail
        go_round
        case rel =>
          refine ⟨_, i + 1, rfl, by go_num, by omega, ?_⟩
          have h6 := gsum_take HL.out
          have h5 := HN.out
          rw [wrap_big n l.length hle (by omega) (HBB.out l (mem_of HL.out)), h6]
          omega
        case measure => simp [intOf]; omega
      · go_wp2_with fail
        go_ret
        exact ⟨true, rfl, rfl, fun h => by cases h⟩
    · obtain rfl : i = len := by omega
      by_cases hle : n ≤ 300
      · have hd : decide ((300 : Int) < n) = false := decide_eq_false (by omega)
        go_wp2_with fail
        go_ret
        refine ⟨false, rfl, rfl, fun _ => ?_⟩
        have h5 := HN.out
        rw [← hct, List.take_length] at h5
        omega
      · go_wp2_with fail
        go_ret
        exact ⟨true, rfl, rfl, fun h => by cases h⟩
set_option maxHeartbeats 1000000 in
theorem refKept_any {w : World} {B len cap f : Nat} {a : Option Addr} {Ls : List T} (h : Texts w B a len cap Ls) (hlm : ∀ l ∈ Ls, l.length ≤ 200) (hf : f ≤ 100000000) :
    Calls Try.prog 16 #[.slice a len cap, .int .i64 (f : Int)] w fun e w' => e = .returned (.int .i64 ((min f (mostOf Ls - 1) : Nat) : Int)) ∧ w = w' := by
  have HT := hide h
  have HLM := hide hlm
  have hrm := h.room
  have hmx : cap ≤ 9223372036854775807 := h.max
  have hct := h.count
  clear h hlm
  go_enter Try.func16, Try.ntmps16
  go_wp2_with fail
  go_loop [5, 6] (fun mv iv => ∃ (m i : Nat), mv = .int .i64 (m : Int) ∧ iv = .int .i64 (i : Int) ∧ i ≤ len ∧ m = max 1 (mostOf (Ls.take i)) ∧ m ≤ 200) (fun _ iv => len - (intOf iv).toNat)
  case atStart => exact ⟨1, 0, rfl, rfl, by omega, rfl, by omega⟩
  case round =>
    obtain ⟨m, i, rfl, rfl, hi, hm, hm2⟩ := hrel
    have HM := hide hm
    clear hm
    by_cases hlt : i < len
    · obtain ⟨ad, l, A, c, rfl, _, hl, hc, hrd⟩ := HT.out.at_ hlt
      have hll := HLM.out l (mem_of hl)
      have HNX : Hid (mostOf (Ls.take (i + 1)) = max (mostOf (Ls.take i)) l.length) := hide (by rw [take_next hl, mostOf_snoc])
      have e1 : IntKind.i64.wrap ((i : Int) + 1) = (i : Int) + 1 := IntWalk.i64_in _ (by omega)
      clear hl hrd
      by_cases hgt : m < l.length
      · have hgi : (m : Int) < (l.length : Int) := by omega
        go_wp2_with fail
        go_round
        case rel => exact ⟨l.length, i + 1, rfl, by go_num, by omega, by have := HM.out; rw [HNX.out]; omega, hll⟩
        case measure => simp [intOf]; omega
      · have hgi : decide ((m : Int) < (l.length : Int)) = false := decide_eq_false (by omega)
        go_wp2_with fail
        go_round
        case rel => exact ⟨m, i + 1, rfl, by go_num, by omega, by have := HM.out; rw [HNX.out]; omega, hm2⟩
        case measure => simp [intOf]; omega
    · obtain rfl : i = len := by omega
      have hm := HM.out
      have hm1 : 1 ≤ m := by omega
      have HMM : Hid (m = max 1 (mostOf Ls)) := hide (by rw [hm, ← hct, List.take_length])
      have e2 : IntKind.i64.wrap ((m : Int) - 1) = (m : Int) - 1 := IntWalk.i64_in _ (by omega)
      clear hm
      by_cases hlf : f < m - 1
      · have hlfi : (f : Int) < (m : Int) - 1 := by omega
        go_wp2_with fail
        go_ret
        have hv : min f (mostOf Ls - 1) = f := by have := HMM.out; omega
        exact ⟨by rw [hv]; rfl, rfl⟩
      · have hlfi : decide ((f : Int) < (m : Int) - 1) = false := decide_eq_false (by omega)
        go_wp2_with fail
        go_ret
        have hv : ((min f (mostOf Ls - 1) : Nat) : Int) = (m : Int) - 1 := by have := HMM.out; omega
        exact ⟨by rw [hv]; rfl, rfl⟩
def behind (full : HitL) (b n : Nat) : HitL := (full.take n).filter fun h => decide (b < h.2)
theorem behind_next {full : HitL} {b n : Nat} {h : Nat × Nat} (hh : full[n]? = some h) : behind full b (n + 1) = behind full b n ++ (if b < h.2 then [h] else []) := by
  obtain ⟨h1, h2⟩ := List.getElem?_eq_some_iff.1 hh
  rw [behind, List.take_succ_eq_append_getElem h1, h2, List.filter_append, behind]
  congr 1
  by_cases e : b < h.2
  · simp [e]
  · simp [e]
set_option maxRecDepth 10000 in
set_option maxHeartbeats 1000000 in
theorem refFeed_any {w : World} {len cap n c b : Nat} {a A : Option Addr} {Ls : List T} {t : T} (h : Texts w w.heap.size a len cap Ls) (ht : Rd w w.heap.size 1 A n c (u8s t)) (hid : len ≤ 300) (hn : n ≤ 1000) (hl0 : ∀ l ∈ Ls, l ≠ []) (hb : b ≤ 1000000) :
    Calls Try.prog 14 #[.slice a len cap, .slice A n c, .int .i64 (b : Int)] w (NewHits w ((scanTo Ls t t.length).filter fun h => decide (b < h.2))) := by
  obtain ⟨i2, hi2, hy0, hy1, hy2⟩ := info_parts info_hit
  have hct := h.count
  have hba := (Below.refl w.heap.size w).alloc (Nat.le_refl _) (.cells #[] 51)
  have hrs := refScan_any (h.over hba) (ht.over hba) hid hn
  rw [refTo_scan _ _ hl0] at hrs
  have htl := ht.length8
  have hfl := scanTo_len Ls t t.length (by omega)
  obtain ⟨full, hfull⟩ : ∃ full, scanTo Ls t t.length = full := ⟨_, rfl⟩
  rw [hfull] at hrs hfl ⊢
  have hfl2 : full.length ≤ 300000 := by omega
  have HRS := hide hrs
  have HBA := hide hba
  clear h ht hba hrs hfl htl hfull hct
  go_enter Try.func14, Try.ntmps14
  go_wp2_with fail
  refine HRS.out.mono ?_
  rintro e w5 ⟨A5, c5, rfl, ho5, hb5⟩
  have hzc : (w.alloc (.cells #[] 51)).heap.size = w.heap.size + 1 := by simp
  have hap5 : ∀ k, (Value.slice A5 full.length c5).ownBlock = some k → (Value.slice (some ⟨w.heap.size, 0, none⟩) 0 0).ownBlock ≠ some k := fun k hk e => by
    have h1 := (own_block ho5 k hk).1
    have h2 := Option.some.inj (show some w.heap.size = some k from e)
    omega
  have H5 := hide (show _ ∧ _ ∧ _ ∧ _ from ⟨own_lower ho5 (base' := w.heap.size) (by omega), own_over (own_none w 51 2) hb5, hap5, HBA.out.trans (hb5.mono (by omega))⟩)
  clear ho5 hb5 hap5 hzc HRS HBA
  go_wp2_with fail
  go_loopw [7, 9] (fun ov nv wr => ∃ (n : Nat) (out : HitL) (Ao : Option Addr) (co : Nat), ov = .slice Ao out.length co ∧ nv = .int .i64 n ∧ n ≤ full.length ∧ out = behind full b n ∧ out.length ≤ n ∧ wr.ownsRow w.heap.size 51 2 (.slice Ao out.length co) out.length (hitCells out) ∧ wr.ownsRow w.heap.size 51 2 (.slice A5 full.length c5) full.length (hitCells full) ∧ (∀ k, (Value.slice A5 full.length c5).ownBlock = some k → (Value.slice Ao out.length co).ownBlock ≠ some k) ∧ Below w.heap.size w wr) (fun _ nv _ => full.length - (intOf nv).toNat)
  case atStart => exact ⟨0, [], _, 0, rfl, rfl, by omega, by simp [behind], by simp, H5.out.2.1, H5.out.1, H5.out.2.2.1, H5.out.2.2.2⟩
  case round =>
    clear H5
    obtain ⟨w0, rfl⟩ : ∃ w0, w0 = wr := ⟨_, rfl⟩
    obtain ⟨n, out, Ao, co, rfl, rfl, hnf, hout, hol, hown, hfr, hap, hbel⟩ := hrel
    have HOut := hide hout
    have HI := hide (show _ ∧ _ ∧ _ ∧ _ from ⟨hown, hfr, hap, hbel⟩)
    clear hout hown hfr hap hbel
    by_cases hlt : n < full.length
    · obtain ⟨h, hh⟩ : ∃ h, full[n]? = some h := ⟨_, List.getElem?_eq_getElem hlt⟩
      obtain ⟨h1, h2⟩ := h
      obtain ⟨af, rfl⟩ := own_some HI.out.2.1 (by omega)
      have hcs := hitCells_at full n _ hh
      have k1 := (own_cell HI.out.2.1 _ _ hcs.1).1
      have k2 := (own_cell HI.out.2.1 _ _ hcs.2).1
      rw [add_lit1] at k2
      have e1 : IntKind.i64.wrap ((n : Int) + 1) = (n : Int) + 1 := IntWalk.i64_in _ (by omega)
      have hnx := behind_next (b := b) hh
      clear hh hcs
      by_cases hgt : b < h2
      · have hgi : (b : Int) < (h2 : Int) := by omega
        rw [if_pos hgt] at hnx
        obtain ⟨out3, ho3, hol3⟩ : ∃ out3, out ++ [(h1, h2)] = out3 ∧ out.length + 1 = out3.length := ⟨_, rfl, by simp⟩
        have HNX2 : Hid (out3 = behind full b (n + 1)) := hide (by rw [hnx, ← ho3, HOut.out])
        have HC3 : Hid (hitCells out ++ [.int .i64 (h1 : Int), .int .i64 (h2 : Int)] = hitCells out3) := hide (by rw [← ho3]; exact (hitCells_snoc out (h1, h2)).symm)
        have hsz0 : w.heap.size ≤ w0.heap.size := HI.out.2.2.2.size
        clear hgt hnx ho3
        go_wp2_with (at_builtin; refine wpList_append_rd _ rfl (.tmp 27) (.tmp 32) _ rfl w.heap.size 51 i2 _ 2 16 Try.underlying33 hi2 hy0 hy1 hy2 rfl (by omega) (.slice Ao out.length co) out.length (hitCells out) rfl (HI.out.1.alloc _) (w0.heap.size + 1) (some ⟨w0.heap.size, 0, none⟩) 1 1 [.int .i64 (h1 : Int), .int .i64 (h2 : Int)] rfl (rd_two w0 _ _ _) (by simp [Value.oneCell']) (by simp only [maxLen]; omega) (by omega) (by simp; omega) ?_; intro A8 c8 w8 hown8 hg8 hat8; have p1 := (HI.out.2.2.2.alloc hsz0 _).trans (below_grown (HI.out.1.alloc _) hg8 (Nat.le_refl _) (by simp; omega)); have p2 := own_grown_apart HI.out.2.1 HI.out.2.2.1 hg8; have p3 := apart_next HI.out.2.1 HI.out.2.2.1 hat8; rw [hol3] at hown8 p3; have H8 := hide (show _ ∧ _ ∧ _ ∧ _ from ⟨hown8, p2, p3, p1⟩); clear hown8 hg8 hat8 p1 p2 p3)
        go_roundw
        case rel => exact ⟨n + 1, out3, A8, c8, by rw [← hol3], by go_num, by omega, HNX2.out, by omega, by rw [← HC3.out]; exact H8.out.1, H8.out.2.1, H8.out.2.2.1, H8.out.2.2.2⟩
        case measure => simp [intOf]; omega
      · have hgi : decide ((b : Int) < (h2 : Int)) = false := decide_eq_false (by omega)
        rw [if_neg hgt, List.append_nil] at hnx
        have HNX2 : Hid (out = behind full b (n + 1)) := hide (by rw [hnx, HOut.out])
        have hgn : ¬ (h2 : Int) > (b : Int) := by omega
        clear hnx
        go_wp2_with fail
        go_roundw
        case rel => exact ⟨n + 1, out, Ao, co, rfl, by go_num, by omega, HNX2.out, by omega, HI.out.1, HI.out.2.1, HI.out.2.2.1, HI.out.2.2.2⟩
        case measure => simp [intOf]; omega
    · obtain rfl : n = full.length := by omega
      have HO2 : Hid (out = full.filter fun h => decide (b < h.2)) := hide (by rw [HOut.out, behind, List.take_length])
      go_wp2_with fail
      go_ret
      exact ⟨Ao, co, by rw [← HO2.out]; rfl, by rw [← HO2.out]; exact HI.out.1, HI.out.2.2.2⟩
end Go.Proofs.Ytkjpcincjoaeeaa.TW
