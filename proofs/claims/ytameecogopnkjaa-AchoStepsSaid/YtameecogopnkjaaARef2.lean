/- The walks of acho's document: Hits, Step, Scan, Same. -/
import Derived.Test.YtameecogopnkjaaARef
namespace Go.Proofs.Ytameecogopnkjaa.AW
open Go.ChangeShapes Go.WideShapes Go.ChangeAt Go.RowKit
open Go.Proofs.Ytameecogopnkjaa.B Go.Proofs.Ytameecogopnkjaa.AM
set_option linter.unusedVariables false

def hitsTo (Ls : List T) (t : T) (i : Nat) : List Nat := (List.range i).filter fun i => (Ls.getD i []).isSuffixOf t
theorem hitsTo_all (Ls : List T) (t : T) : hitsTo Ls t Ls.length = AM.hits Ls t := rfl
theorem hitsTo_yes {Ls : List T} {t l : T} {i : Nat} (h : Ls[i]? = some l) (hs : l.isSuffixOf t = true) : hitsTo Ls t (i + 1) = hitsTo Ls t i ++ [i] := by
  have e : Ls.getD i [] = l := by rw [List.getD_eq_getElem?_getD, h]; rfl
  rw [hitsTo, List.range_succ, List.filter_append, List.filter_cons, e, if_pos hs]; rfl
theorem hitsTo_no {Ls : List T} {t l : T} {i : Nat} (h : Ls[i]? = some l) (hs : l.isSuffixOf t = false) : hitsTo Ls t (i + 1) = hitsTo Ls t i := by
  have e : Ls.getD i [] = l := by rw [List.getD_eq_getElem?_getD, h]; rfl
  rw [hitsTo, List.range_succ, List.filter_append, List.filter_cons, e, hs]; simp [hitsTo]
theorem hitsTo_len (Ls : List T) (t : T) (i : Nat) : (hitsTo Ls t i).length ≤ i := Nat.le_trans (List.length_filter_le _ _) (by rw [List.length_range]; exact Nat.le_refl _)
theorem own_none (w : World) (t : TypeId) (size : Nat) : (w.alloc (.cells #[] t)).ownsRow w.heap.size t size (.slice (some ⟨w.heap.size, 0, none⟩) 0 0) 0 [] := World.ownsRow_lit w #[] 0 (Nat.le_refl _) (by simp [maxLen]) (by simp)

set_option maxHeartbeats 1000000 in
theorem refHits_any {w : World} {len cap n c : Nat} {a A : Option Addr} {Ls : List T} {t : T} (h : Texts w w.heap.size a len cap Ls) (ht : Rd w w.heap.size 1 A n c (u8s t)) (hid : len ≤ 300) :
    Calls Try.prog 23 #[.slice a len cap, .slice A n c] w fun e w' => ∃ A' c', e = .returned (.slice A' (AM.hits Ls t).length c') ∧ w'.ownsRow w.heap.size 3 1 (.slice A' (AM.hits Ls t).length c') (AM.hits Ls t).length (ints (AM.hits Ls t)) ∧ Below w.heap.size w w' := by
  obtain ⟨i0, hi0, hz0, hz1, hz2⟩ := info_parts info_int
  have HC := hide h.count
  have HT := hide h
  have HR := hide ht
  clear h ht
  go_enter Try.func23, Try.ntmps23
  go_wp2_with fail
  go_loopw [5, 6] (fun ov iv wr => ∃ (i : Nat) (Ao : Option Addr) (co : Nat), iv = .int .i64 i ∧ i ≤ len ∧ ov = .slice Ao (hitsTo Ls t i).length co ∧ wr.ownsRow w.heap.size 3 1 (.slice Ao (hitsTo Ls t i).length co) (hitsTo Ls t i).length (ints (hitsTo Ls t i)) ∧ Below w.heap.size w wr) (fun _ iv _ => len - (intOf iv).toNat)
  case atStart => exact ⟨0, _, 0, rfl, by omega, rfl, own_none w _ 1, (Below.refl _ _).alloc (Nat.le_refl _) _⟩
  case round =>
    obtain ⟨i, Ao, co, rfl, hi, rfl, hown, hbel⟩ := hrel
    have HO := hide hown
    have HB := hide hbel
    clear hown hbel
    by_cases hlt : i < len
    · obtain ⟨ad, l, A1, c1, rfl, _, hl, hc, hrd⟩ := (HT.out.below HB.out).at_ hlt
      have he := ends_any (HR.out.below HB.out) hrd
      have HE := hide he
      have HLL := hide hl
      have e1 : IntKind.i64.wrap ((i : Int) + 1) = (i : Int) + 1 := IntWalk.i64_in _ (by omega)
      have hhl := hitsTo_len Ls t i
      clear hl hrd he
      go_wp2_with fail
      refine HE.out.mono ?_
      rintro e w2 ⟨rfl, hd⟩
      have HO2 := hide (own_drew HO.out hd)
      have HB2 := hide (HB.out.trans (hd.below.mono HB.out.size))
      clear hd HE
      by_cases hyes : l.isSuffixOf t = true
      · rw [hyes]
        have hn := hitsTo_yes HLL.out hyes
        have HN := hide hn
        have hsz := HB2.out.size
        clear hn hyes
        go_wp2_with (at_builtin; refine wpList_append_rd _ rfl (.tmp 20) (.tmp 22) _ rfl w.heap.size 3 i0 _ 1 8 Try.underlying46 hi0 hz0 hz1 hz2 rfl (by omega) (.slice Ao (hitsTo Ls t i).length co) (hitsTo Ls t i).length (ints (hitsTo Ls t i)) rfl (HO2.out.alloc _) (w2.heap.size + 1) (some ⟨w2.heap.size, 0, none⟩) 1 1 [.int .i64 (i : Int)] rfl (Rd.one w2 _ _) (by simp [Value.oneCell']) (by simp only [maxLen]; omega) (by omega) (by simp; omega) ?_; intro A4 c4 w4 hown4 hg4 hat4; have hb4 := (HB2.out.alloc hsz _).trans (below_grown (HO2.out.alloc _) hg4 (Nat.le_refl _) (by simp; omega)); have H4 := hide (show _ ∧ _ from ⟨hown4, hb4⟩); clear hown4 hg4 hat4 hb4)
        go_roundw
        case rel => exact ⟨i + 1, A4, c4, by go_num, by omega, by rw [HN.out, List.length_append]; rfl, by rw [HN.out, List.length_append, ints, List.map_append]; exact H4.out.1, H4.out.2⟩
        case measure => simp [intOf]; omega
      · have hno : l.isSuffixOf t = false := Bool.eq_false_iff.2 hyes
        rw [hno]
        have hn := hitsTo_no HLL.out hno
        have HN := hide hn
        clear hn hyes hno
        go_wp2_with fail
        go_roundw
        case rel => exact ⟨i + 1, Ao, co, by go_num, by omega, by rw [HN.out], by rw [HN.out]; exact HO2.out, HB2.out⟩
        case measure => simp [intOf]; omega
    · obtain rfl : len = i := by omega
      have hall : hitsTo Ls t len = AM.hits Ls t := by rw [← HC.out]; rfl
      rw [hall] at HO
      simp only [hall]
      go_wp2_with fail
      go_ret
      exact ⟨Ao, co, rfl, HO.out, HB.out⟩

theorem step_drop_no {Ls : List T} {t : T} {k : Nat} (hk : k < t.length) (h : isPre Ls (t.drop k) = false) : AM.step Ls (t.drop k) = AM.step Ls (t.drop (k + 1)) := by
  rw [List.drop_eq_getElem_cons hk] at h ⊢
  exact step_not Ls _ _ h
def NewText (w : World) (x : T) (e : Ending) (w' : World) : Prop := ∃ A' c', e = .returned (.slice A' x.length c') ∧ Rd w' w'.heap.size 1 A' x.length c' (u8s x) ∧ Below w.heap.size w w'
set_option maxHeartbeats 1000000 in
theorem refStep_any {w : World} {len cap n c : Nat} {a A : Option Addr} {Ls : List T} {t : T} (h : Texts w w.heap.size a len cap Ls) (ht : Rd w w.heap.size 1 A n c (u8s t)) :
    Calls Try.prog 25 #[.slice a len cap, .slice A n c] w (NewText w (AM.step Ls t)) := by
  have hl := ht.length8
  subst hl
  have hcp := ht.cap
  have hmx : c ≤ 9223372036854775807 := ht.max
  have HT := hide h
  have HR := hide ht
  clear h ht
  go_enter Try.func25, Try.ntmps25
  go_wp2_with fail
  go_loopw [5] (fun iv wr => ∃ (k : Nat), iv = .int .i64 k ∧ k ≤ t.length ∧ Drew w wr ∧ AM.step Ls t = AM.step Ls (t.drop k)) (fun iv _ => t.length - (intOf iv).toNat)
  case atStart => exact ⟨0, rfl, by omega, Drew.refl _, by simp⟩
  case round =>
    obtain ⟨k, rfl, hk, hdr, hst⟩ := hrel
    have HS := hide hst
    have HD := hide hdr
    clear hst hdr
    by_cases hlt : k < t.length
    · have e1 : IntKind.i64.wrap ((k : Int) + 1) = (k : Int) + 1 := IntWalk.i64_in _ (by omega)
      have hrt := HR.out.tail8 (i := k) hk
      simp only [Nat.mul_one, if_neg (show ¬ c = k by omega)] at hrt
      have hp := refPrefix_any (HT.out.drew HD.out) (hrt.drew_ HD.out)
      have HRT := hide hrt
      have HP := hide hp
      have hck : ¬ c = k := by omega
      clear hrt hp
      go_wp2_with fail
      refine HP.out.mono ?_
      rintro e w2 ⟨rfl, hd⟩
      have HD2 := hide (HD.out.trans hd)
      clear hd HP
      by_cases hyes : isPre Ls (t.drop k) = true
      · rw [hyes]
        have hs := step_of Ls _ hyes
        have HY := hide hs
        clear hs hyes
        go_wp2_with fail
        go_ret
        have he : AM.step Ls t = t.drop k := by rw [HS.out, HY.out]
        exact ⟨A.map fun x => x.add k, c - k, by rw [he, List.length_drop]; rfl, by rw [he, List.length_drop]; exact (HRT.out.drew_ HD2.out).more HD2.out.below.size, HD2.out.below⟩
      · have hno : isPre Ls (t.drop k) = false := Bool.eq_false_iff.2 hyes
        rw [hno]
        have HNO := hide hno
        clear hyes hno
        go_wp2_with fail
        go_roundw
        case rel => exact ⟨k + 1, by go_num, by omega, HD2.out, by rw [HS.out, step_drop_no hlt HNO.out]⟩
        case measure => simp [intOf]; omega
    · have hke : t.length = k := by omega
      have hs0 : AM.step Ls t = [] := by rw [HS.out, ← hke, List.drop_length]; rfl
      have HZ := hide hs0
      clear hs0
      go_wp2_with fail
      go_ret
      refine ⟨_, 0, by rw [HZ.out]; rfl, ?_, (Below.refl _ _).trans (HD.out.below.alloc HD.out.below.size _)⟩
      rw [HZ.out]
      exact Rd.of_own (own_none wr _ 1)
end Go.Proofs.Ytameecogopnkjaa.AW
