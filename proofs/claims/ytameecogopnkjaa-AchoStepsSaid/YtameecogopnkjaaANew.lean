/- The walk of acho.New: a list of literals is refused, or made a machine. -/
import Derived.Test.YtameecogopnkjaaALinkW
import Derived.Test.YtameecogopnkjaaALists
namespace Go.Proofs.Ytameecogopnkjaa.AW
open Go.ChangeShapes Go.WideShapes Go.ChangeAt Go.RowKit
open Go.Proofs.Ytameecogopnkjaa.B Go.Proofs.Ytameecogopnkjaa.AM
set_option linter.unusedVariables false

def NewIs (Ls : List T) (u : World) (e : Ending) (w' : World) : Prop :=
  (checkNo Ls ≠ 0 ∧ e = .returned (.tuple #[.pointer none, .int .i64 (checkNo Ls : Int)]) ∧ u = w') ∨
  (checkNo Ls = 0 ∧ ∃ (g : Nat) (ns : List Nd) (ad : Addr) (cn : Nat), e = .returned (.tuple #[.pointer (some ⟨g, 0, none⟩), .int .i64 0]) ∧ Mach u g ns (some ad) cn w' ∧ AM.Good Ls ns ∧ ns.length ≤ 1 + tsum Ls)
theorem mach_start (u : World) : Mach u u.heap.size [] none 0 (u.alloc (.cells #[.slice none 0 0] 55)) :=
  ⟨Blk.new u _ _, Nat.le_refl _, World.ownsRow_nil _ _ _ _, fun i nd h => by simp at h, fun i nd h => by simp at h, fun i j a b k h => by simp at h, (Below.refl _ _).alloc (Nat.le_refl _) _⟩
theorem trie_start (nd : Nd) (h1 : nd.pre = []) (h2 : ∀ b, b < 256 → nd.next b = -1) (h3 : nd.hits = []) : Trie (fun x => isPre [] x = true) (own []) [nd] :=
  (Trie.start nd h1 h2 h3).congr (fun x => by rw [isPre_iff]; simp) (fun x _ => rfl)

set_option maxRecDepth 10000 in
set_option maxHeartbeats 1000000 in
theorem new_any {u : World} {len cap : Nat} {a : Option Addr} {Ls : List T} (h : Texts u u.heap.size a len cap Ls) :
    Calls Try.prog 11 #[.slice a len cap] u (NewIs Ls u) := by
  have HT := hide h
  have hct := h.count
  clear h
  by_cases hbig : 256 < len
  · have e : checkNo Ls = 230 := by rw [checkNo, if_pos (by omega)]
    have HEE := hide e
    have hbi : (256 : Int) < (len : Int) := by omega
    clear e
    go_enter Try.func11, Try.ntmps11
    go_wp2_with fail
    go_ret2
    exact .inl ⟨by rw [HEE.out]; decide, by rw [HEE.out]; rfl, rfl⟩
  · go_enter Try.func11, Try.ntmps11
    go_wp2_with fail
    go_loop [4, 15] (fun nv iv => ∃ (i : Nat), nv = .int .i64 (tsum (Ls.take i) : Int) ∧ iv = .int .i64 i ∧ i ≤ len ∧ (∀ l ∈ Ls.take i, ¬ (l.length = 0 ∨ 200 < l.length)) ∧ tsum (Ls.take i) ≤ i * 200) (fun _ iv => len - (intOf iv).toNat)
    case atStart => exact ⟨0, rfl, rfl, by omega, by simp, by simp [tsum]⟩
    case round =>
      obtain ⟨i, rfl, rfl, hi, hok, hts⟩ := hrel
      have HOK := hide hok
      clear hok
      by_cases hlt : i < len
      · obtain ⟨ad, l, A, c, rfl, _, hl, hc, hrd⟩ := HT.out.at_ hlt
        have HL := hide hl
        have e1 : IntKind.i64.wrap ((i : Int) + 1) = (i : Int) + 1 := IntWalk.i64_in _ (by omega)
        clear hl hrd
        by_cases h0 : l.length = 0
        · have e : checkNo Ls = 2 := by rw [checkNo, if_neg (by omega), if_pos ⟨l, mem_of HL.out, .inl h0⟩]
          have HEE := hide e
          clear e
          go_wp2_with fail
          go_ret2
          exact .inl ⟨by rw [HEE.out]; decide, by rw [HEE.out]; rfl, rfl⟩
        · have h0i : ((l.length : Int) == 0) = false := beq_eq_false_iff_ne.2 (by omega)
          by_cases h2 : 200 < l.length
          · have e : checkNo Ls = 2 := by rw [checkNo, if_neg (by omega), if_pos ⟨l, mem_of HL.out, .inr h2⟩]
            have HEE := hide e
            clear e
            have h2i : (200 : Int) < (l.length : Int) := by omega
            go_wp2_with fail
            go_ret2
            exact .inl ⟨by rw [HEE.out]; decide, by rw [HEE.out]; rfl, rfl⟩
          · have h2n : (l.length : Int) ≤ 200 := by omega
            have h6 := tsum_take HL.out
            have HX := hide h6
            have e2 : IntKind.i64.wrap ((tsum (Ls.take i) : Int) + (l.length : Int)) = (tsum (Ls.take i) : Int) + (l.length : Int) := IntWalk.i64_in _ (by omega)
            clear h6
            go_wp2_with fail
            go_round
            case rel =>
              refine ⟨i + 1, by rw [HX.out]; go_num, by go_num, by omega, fun x hx => ?_, by rw [HX.out]; omega⟩
              rw [take_next HL.out] at hx
              rcases List.mem_append.1 hx with h7 | h7
              · exact HOK.out x h7
              · rw [List.mem_singleton] at h7
                subst h7
                omega
            case measure => simp [intOf]; omega
      · obtain rfl : len = i := by omega
        have htk : Ls.take len = Ls := by rw [← hct, List.take_length]
        have hno : ¬ ∃ l ∈ Ls, l.length = 0 ∨ 200 < l.length := fun ⟨l, hl, h7⟩ => HOK.out l (htk.symm ▸ hl) h7
        rw [htk] at hts
        clear HOK
        simp only [htk]
        by_cases h4 : 4000 < tsum Ls
        · have e : checkNo Ls = 231 := by rw [checkNo, if_neg (by omega), if_neg hno, if_pos h4]
          have HEE := hide e
          clear e
          have h4i : (4000 : Int) < (tsum Ls : Int) := by omega
          go_wp2_with fail
          go_ret2
          exact .inl ⟨by rw [HEE.out]; decide, by rw [HEE.out]; rfl, rfl⟩
        · have e : checkNo Ls = 0 := by rw [checkNo, if_neg (by omega), if_neg hno, if_neg h4]
          have HEE := hide e
          have h4i : (tsum Ls : Int) ≤ 4000 := by omega
          have HOk := hide (checkNo_0 e)
          have HNO := hide hno
          clear e hno htk
          go_wp2_with fail
          refine (add_any (xs := []) (mach_start u) Rd.none_ (by omega) (by simp)).mono ?_
          rintro e w1 ⟨A1, c1, pA, pc, rfl, hM1⟩
          have hT1 := trie_start ⟨[], fun _ => -1, 0, [], pA, pc, none, 0⟩ rfl (fun _ _ => rfl) rfl
          have HM1 := hide hM1
          have HT1 := hide hT1
          clear hM1 hT1
          go_wp2_with fail
          go_loopw [40] (fun iv wr => ∃ (i : Nat) (ns : List Nd) (A' : Option Addr) (c' : Nat), iv = .int .i64 i ∧ i ≤ len ∧ Mach u u.heap.size ns A' c' wr ∧ Trie (fun x => isPre (Ls.take i) x = true) (own (Ls.take i)) ns ∧ ns.length ≤ 1 + tsum (Ls.take i)) (fun iv _ => len - (intOf iv).toNat)
          case atStart => exact ⟨0, _, A1, c1, rfl, by omega, HM1.out, HT1.out, by simp [tsum]⟩
          case round =>
            clear HM1 HT1
            obtain ⟨i, ns, A', c', rfl, hi, hM, hT, hnl⟩ := hrel
            by_cases hlt : i < len
            · obtain ⟨ad, l, A, c, rfl, hadB, hl, hc, hrd⟩ := HT.out.at_ hlt
              have hc' : wr.cell? (ad.add i) = some (.slice A l.length c) := (hM.below.cell (by rw [add_block]; exact hadB)).trans hc
              have hts := tsum_take hl
              have htl := tsum_le Ls (i + 1)
              have hll := HOk.out.2.2.1 l (mem_of hl)
              have h1 := HOk.out.2.2.2
              have h2 := HOk.out.1
              have e1 : IntKind.i64.wrap ((i : Int) + 1) = (i : Int) + 1 := IntWalk.i64_in _ (by omega)
              have htn := take_next hl
              have hil : (Ls.take i).length = i := by rw [List.length_take]; omega
              have hp := put_any hM hT hrd hll (by omega) (by rw [hil]; omega)
              rw [hil, ← htn] at hp
              have HPU := hide hp
              have HTS := hide (show _ ∧ _ from ⟨hts, hnl⟩)
              clear hc hrd hM hT hts htl htn hil hp hl hnl
              go_wp2_with fail
              refine HPU.out.mono ?_
              rintro e w5 ⟨A5, c5, ns5, rfl, hM5, hT5, hl5⟩
              have H5 := hide (show _ ∧ _ ∧ _ from ⟨hM5, hT5, hl5⟩)
              clear hM5 hT5 hl5 HPU hc'
              go_wp2_with fail
              go_roundw
              case rel => exact ⟨i + 1, ns5, A5, c5, by go_num, by omega, H5.out.1, H5.out.2.1, by have h8 := HTS.out.1; have h9 := HTS.out.2; have h10 := H5.out.2.2; omega⟩
              case measure => simp [intOf]; omega
            · obtain rfl : i = len := by omega
              have htk : Ls.take i = Ls := by rw [← hct, List.take_length]
              rw [htk] at hT hnl
              have h1 := HOk.out.2.2.2
              have h2 := HOk.out.1
              obtain ⟨r, hr, _⟩ := hT.root
              obtain ⟨ad, rfl⟩ := own_some hM.row (by have := (List.getElem?_eq_some_iff.1 hr).1; omega)
              have hlk := link_any hM hT HOk.out.2.1 (by omega) (by omega)
              have HLK := hide hlk
              clear hM hT hlk hr htk
              go_wp2_with fail
              refine HLK.out.mono ?_
              rintro e w5 ⟨ns5, rfl, hM5, hG5, hl5⟩
              have H5 := hide (show _ ∧ _ ∧ _ from ⟨hM5, hG5, hl5⟩)
              clear hM5 hG5 hl5 HLK
              go_wp2_with fail
              go_ret2
              exact .inr ⟨HEE.out, u.heap.size, ns5, ad, c', rfl, H5.out.1, H5.out.2.1, by have := H5.out.2.2; omega⟩
end Go.Proofs.Ytameecogopnkjaa.AW
