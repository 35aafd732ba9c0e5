/- The walks of acho's document: Copy, States; the law's spoil. -/
import Derived.Test.YtameecogopnkjaaARef5
namespace Go.Proofs.Ytameecogopnkjaa.AW
open Go.ChangeShapes Go.WideShapes Go.ChangeAt Go.RowKit
open Go.Proofs.Ytameecogopnkjaa.B Go.Proofs.Ytameecogopnkjaa.AM
set_option linter.unusedVariables false

theorem info_bytes : (Try.prog.info? 23).map (fun i => (i.zero, i.size, i.bytes)) = some (some (.slice none 0 0), 1, 24) := by kernel_rfl
def NewTexts (w : World) (Ls : List T) (e : Ending) (w' : World) : Prop := ∃ A' c' vs, e = .returned (.slice A' Ls.length c') ∧ OwnTexts w' w.heap.size A' Ls.length c' vs Ls ∧ Below w.heap.size w w'
theorem app_lit {u u' : World} {bs : List UInt8} {A : Option Addr} {n c : Nat} (hown : u'.ownsRow u.heap.size 5 1 (.slice A (0 + n) c) (0 + n) (u8s [] ++ u8s bs)) (hg : (u.alloc (.cells #[] 5)).grownBy u' (Value.slice (some ⟨u.heap.size, 0, none⟩) 0 0).ownBlock) :
    u'.ownsRow u.heap.size 5 1 (.slice A n c) n (u8s bs) ∧ Below u.heap.size u u' :=
  ⟨by simpa [u8s] using hown, ((Below.refl _ _).alloc (Nat.le_refl _) _).trans (below_grown (own_empty u _) hg (Nat.le_refl _) (by simp))⟩

set_option maxRecDepth 10000 in
set_option maxHeartbeats 1000000 in
theorem copy_any {w : World} {len cap : Nat} {a : Option Addr} {Ls : List T} (h : Texts w w.heap.size a len cap Ls) (hb : ∀ l ∈ Ls, l.length ≤ 1048576) (hn : len ≤ 1048576) :
    Calls Try.prog 10 #[.slice a len cap] w (NewTexts w Ls) := by
  obtain ⟨i0, hi0, hz0, hz1, hz2⟩ := info_parts info_u8
  obtain ⟨i1, hi1, hy0, hy1, hy2⟩ := info_parts info_bytes
  have hct := h.count
  have HT := hide h
  have HBD := hide hb
  clear h hb
  subst hct
  go_enter Try.func10, Try.ntmps10
  go_wp2_with fail
  go_loopw [3, 4] (fun ov iv wr => ∃ (i : Nat) (Ao : Option Addr) (co : Nat) (vs : List Value), iv = .int .i64 i ∧ i ≤ Ls.length ∧ ov = .slice Ao i co ∧ OwnTexts wr w.heap.size Ao i co vs (Ls.take i) ∧ Below w.heap.size w wr) (fun _ iv _ => Ls.length - (intOf iv).toNat)
  case atStart => exact ⟨0, _, 0, [], rfl, by omega, rfl, OwnTexts.nil_ w, (Below.refl _ _).alloc (Nat.le_refl _) _⟩
  case round =>
    obtain ⟨i, Ao, co, vs, rfl, hi, rfl, hown, hbel⟩ := hrel
    have HO := hide hown
    have HB := hide hbel
    clear hown hbel
    by_cases hlt : i < Ls.length
    · obtain ⟨ad, l, A1, c1, rfl, _, hl, hc, hrd⟩ := (HT.out.below HB.out).at_ hlt
      have e1 : IntKind.i64.wrap ((i : Int) + 1) = (i : Int) + 1 := IntWalk.i64_in _ (by omega)
      have hll := HBD.out l (mem_of hl)
      have hc2 : (wr.alloc (.cells #[] 5)).cell? (ad.add i) = some (.slice A1 l.length c1) := (World.cell?_alloc_lt wr _ _ (World.block_lt_of_cell? (h := hc))).trans hc
      have hrd2 := hrd.alloc (w := wr) HB.out.size (.cells #[] 5)
      have HL := hide (show _ ∧ _ from ⟨hl, hrd2⟩)
      clear hl hrd hrd2 hc
      go_wp2_with (first
        | (at_builtin; refine wpList_append_rd _ rfl (.tmp 13) (.tmp 17) _ rfl wr.heap.size 5 i0 _ 1 1 Try.underlying23 hi0 hz0 hz1 hz2 rfl (by omega) (.slice (some ⟨wr.heap.size, 0, none⟩) 0 0) 0 (u8s []) rfl (own_empty wr _) w.heap.size A1 l.length c1 (u8s l) rfl HL.out.2 (u8s_one _) (by simp only [maxLen]; omega) (by omega) (by simp) ?_; intro A3 c3 w3 hown3 hg3 hat3; have H3 := hide (app_lit hown3 hg3); clear hown3 hg3 hat3 hc2)
        | (at_builtin; have ho4 := HO.out.over H3.out.2; have hl4 := own_lower H3.out.1 HB.out.size; have hb3 := HB.out.trans (H3.out.2.mono HB.out.size); refine wpList_append_rd _ rfl (.tmp 12) (.tmp 19) _ rfl w.heap.size 23 i1 _ 1 24 Try.underlying22 hi1 hy0 hy1 hy2 rfl (by omega) (.slice Ao i co) i vs rfl (ho4.row.alloc _) (w3.heap.size + 1) (some ⟨w3.heap.size, 0, none⟩) 1 1 [.slice A3 l.length c3] rfl (Rd.one w3 _ _) (by simp [Value.oneCell']) (by simp only [maxLen]; omega) (by omega) (by simp; have := hb3.size; omega) ?_; intro A4 c4 w4 hown4 hg4 hat4; have ho5 := ho4.push hl4 hown4 hg4; have hb5 := (hb3.alloc hb3.size _).trans (below_grown (ho4.row.alloc _) hg4 (Nat.le_refl _) (by simp; have := hb3.size; omega)); have H5 := hide (show _ ∧ _ from ⟨ho5, hb5⟩); clear ho4 hl4 hb3 hown4 hg4 hat4 ho5 hb5))
      go_roundw
      case rel => exact ⟨i + 1, A4, c4, _, by go_num, by omega, rfl, by rw [take_next HL.out.1]; exact H5.out.1, H5.out.2⟩
      case measure => simp [intOf]; omega
    · obtain rfl : i = Ls.length := by omega
      have htk : Ls.take Ls.length = Ls := List.take_length
      rw [htk] at HO
      go_wp2_with fail
      go_ret
      exact ⟨Ao, co, vs, rfl, HO.out, HB.out⟩
end Go.Proofs.Ytameecogopnkjaa.AW
