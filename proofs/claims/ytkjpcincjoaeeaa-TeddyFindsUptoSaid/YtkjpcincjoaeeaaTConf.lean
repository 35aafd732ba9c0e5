/- The filter as it lies in memory; the walks of confirm and first. -/
import Derived.Test.YtkjpcincjoaeeaaTPass
import Derived.WalkMore
namespace Go.Proofs.Ytkjpcincjoaeeaa.TW
open Go.ChangeShapes Go.WideShapes Go.ChangeAt Go.RowKit
open Go.Proofs.Ytkjpcincjoaeeaa.B Go.Proofs.Ytkjpcincjoaeeaa.AM Go.Proofs.Ytkjpcincjoaeeaa.AW Go.Proofs.Ytkjpcincjoaeeaa.TM
set_option linter.unusedVariables false

abbrev Bs := Nat → Option Addr × Nat
def bval (bs : Bs) (n b : Nat) : Value := .slice (bs b).1 (bucket n b).length (bs b).2
def mostOf (Ls : List T) : Nat := Ls.foldl (fun m l => max m l.length) 0
theorem mostOf_snoc (Ls : List T) (l : T) : mostOf (Ls ++ [l]) = max (mostOf Ls) l.length := by simp [mostOf]
structure Filt (u : World) (g : Nat) (Ls : List T) (AL : Option Addr) (cL : Nat) (vs : List Value) (bs : Bs) (lo hi : Mask) (w : World) : Prop where
  blk : Blk w g 58 (fcells (.slice AL Ls.length cL) lo hi (bval bs Ls.length) (mostOf Ls : Int))
  ge : u.heap.size ≤ g
  list : OwnTexts w u.heap.size AL Ls.length cL vs Ls
  bkt : ∀ b, b < 8 → w.ownsRow u.heap.size 3 1 (bval bs Ls.length b) (bucket Ls.length b).length (ints (bucket Ls.length b))
  apart : ∀ b b' k, b < 8 → b' < 8 → b ≠ b' → (bval bs Ls.length b).ownBlock = some k → (bval bs Ls.length b').ownBlock ≠ some k
  small : Small lo ∧ Small hi
  has : ∀ i, i < Ls.length → Has lo hi (Ls.getD i []) (i % 8)
  below : Below u.heap.size u w
section
variable {u w w' : World} {g cL : Nat} {Ls : List T} {AL : Option Addr} {vs : List Value} {bs : Bs} {lo hi : Mask}
theorem Filt.over (h : Filt u g Ls AL cL vs bs lo hi w) (hb : Below w.heap.size w w') : Filt u g Ls AL cL vs bs lo hi w' :=
  ⟨h.blk.below hb h.blk.lt, h.ge, h.list.over hb, fun b hb8 => own_over (h.bkt b hb8) hb, h.apart, h.small, h.has, h.below.trans (hb.mono h.below.size)⟩
theorem Filt.cell_list (h : Filt u g Ls AL cL vs bs lo hi w) : w.cell? ⟨g, 0, none⟩ = some (.slice AL Ls.length cL) := h.blk.at_ fcells_list
theorem Filt.cell_most (h : Filt u g Ls AL cL vs bs lo hi w) : w.cell? ⟨g, 105, none⟩ = some (.int .i64 (mostOf Ls : Int)) := h.blk.at_ fcells_most
theorem Filt.cell_bkt (h : Filt u g Ls AL cL vs bs lo hi w) {b : Nat} (hb : b < 8) : w.cell? ⟨g, 97 + b, none⟩ = some (.slice (bs b).1 (bucket Ls.length b).length (bs b).2) := h.blk.at_ (fcells_bucket b hb)
theorem Filt.texts (h : Filt u g Ls AL cL vs bs lo hi w) : Texts w w.heap.size AL Ls.length cL Ls := h.list.texts
theorem Filt.pass (h : Filt u g Ls AL cL vs bs lo hi w) {t : T} {p i : Nat} (hi' : i < Ls.length) (hp : Ls.getD i [] <+: t.drop p) : (passTo lo hi t p 3).testBit (i % 8) = true :=
  pass_has (h.has i hi') (Nat.mod_lt _ (by decide)) hp 3 (Nat.le_refl _)
end
theorem pre_iff {l t : T} {p : Nat} : l <+: t.drop p ↔ l.length ≤ t.length - p ∧ ∀ k, k < l.length → at8 t (p + k) = at8 l k := by
  constructor
  · intro h
    have h1 := h.length_le
    rw [List.length_drop] at h1
    exact ⟨h1, fun k hk => at8_pre h hk⟩
  · rintro ⟨h1, h2⟩
    rw [List.prefix_iff_eq_take]
    apply List.ext_getElem?
    intro k
    by_cases hk : k < l.length
    · rw [List.getElem?_take, if_pos hk, List.getElem?_drop]
      have h3 := h2 k hk
      rw [List.getElem?_eq_getElem hk, List.getElem?_eq_getElem (show p + k < t.length by omega)]
      simp only [at8, List.getD_eq_getElem?_getD, List.getElem?_eq_getElem hk, List.getElem?_eq_getElem (show p + k < t.length by omega), Option.getD_some] at h3
      rw [UInt8.toNat_inj.1 h3]
    · rw [List.getElem?_eq_none (by omega), List.getElem?_eq_none (by rw [List.length_take, List.length_drop]; omega)]

set_option maxRecDepth 10000 in
set_option maxHeartbeats 1000000 in
theorem confirm_any {u wF w : World} {g cL c p b co : Nat} {Ls : List T} {AL A Ao : Option Addr} {vs : List Value} {bs : Bs} {lo hi : Mask} {t : T} {out : HitL} (hF : Filt u g Ls AL cL vs bs lo hi wF) (ht : Rd wF wF.heap.size 1 A t.length c (u8s t)) (hw : Below wF.heap.size wF w)
    (ho : w.ownsRow wF.heap.size 51 2 (.slice Ao out.length co) out.length (hitCells out)) (hb : b < 8) (hp : p ≤ t.length) (hn : Ls.length ≤ 300) (hol : out.length ≤ 1000000000) (htl : t.length ≤ 1000000) (hlm : ∀ l ∈ Ls, l.length ≤ 1000) :
    Calls Try.prog 28 #[.pointer (some ⟨g, 0, none⟩), .slice Ao out.length co, .slice A t.length c, .int .i64 (p : Int), .slice (bs b).1 (bucket Ls.length b).length (bs b).2] w fun e w' =>
      ∃ A' c', e = .returned (.slice A' (out ++ conf Ls t p (bucket Ls.length b)).length c') ∧ w'.ownsRow wF.heap.size 51 2 (.slice A' (out ++ conf Ls t p (bucket Ls.length b)).length c') (out ++ conf Ls t p (bucket Ls.length b)).length (hitCells (out ++ conf Ls t p (bucket Ls.length b))) ∧ Below wF.heap.size wF w' := by
  obtain ⟨i2, hi2, hy0, hy1, hy2⟩ := info_parts info_hit
  have hbl := bucket_len Ls.length b
  have hmem := mem_bucket Ls.length b
  have hbo := hF.bkt b hb
  rw [bval] at hbo
  obtain ⟨ids, hids⟩ : ∃ ids, bucket Ls.length b = ids := ⟨_, rfl⟩
  rw [hids] at hbl hmem hbo ⊢
  have HF := hide hF
  have HR := hide ht
  have HW := hide hw
  have HO := hide ho
  have HBO := hide (Rd.of_own hbo)
  have HME := hide hmem
  have HLM := hide hlm
  have hcap : c ≤ 9223372036854775807 := ht.max
  clear hF ht hw ho hbo hids hmem hlm
  go_enter Try.func28, Try.ntmps28
  go_wp2_with fail
  go_step3
  go_wp2_with fail
  go_step3
  go_wp2_with fail
  go_wp2_with fail
  go_loopw [1, 18] (fun ov iv wr => ∃ (j : Nat) (out' : HitL) (Ao' : Option Addr) (co' : Nat), ov = .slice Ao' out'.length co' ∧ iv = .int .i64 j ∧ j ≤ ids.length ∧ out' = out ++ conf Ls t p (ids.take j) ∧ wr.ownsRow wF.heap.size 51 2 (.slice Ao' out'.length co') out'.length (hitCells out') ∧ Below wF.heap.size wF wr) (fun _ iv _ => ids.length - (intOf iv).toNat)
  case atStart => exact ⟨0, out, Ao, co, rfl, rfl, by omega, by simp [conf], HO.out, HW.out⟩
  case round =>
    clear HO HW
    obtain ⟨w0, rfl⟩ : ∃ w0, w0 = wr := ⟨_, rfl⟩
    obtain ⟨j, out', Ao', co', rfl, rfl, hj, hout, hown, hbel⟩ := hrel
    have hol' : out'.length ≤ 1000000000 + 300 := by
      rw [hout, List.length_append]
      have := conf_len Ls t p (ids.take j)
      rw [List.length_take] at this
      omega
    have HOut := hide hout
    have HI := hide (show _ ∧ _ from ⟨hown, hbel⟩)
    clear hout hown hbel
    by_cases hlt : j < ids.length
    · obtain ⟨i, hi'⟩ : ∃ i, ids[j]? = some i := ⟨_, List.getElem?_eq_getElem hlt⟩
      have him := (HME.out i).1 (List.mem_of_getElem? hi')
      obtain ⟨ai, hai, _, hci⟩ := (HBO.out.below HI.out.2).lies (by omega)
      have hci := hci j (.int .i64 (i : Int)) (by rw [ints, List.getElem?_map, hi']; rfl)
      have hcl := (HF.out.over HI.out.2).cell_list
      obtain ⟨ad, l, A1, c1, hAd, _, hl, hcel, hrd⟩ := (HF.out.over HI.out.2).texts.at_ him.1
      have hld : Ls.getD i [] = l := by rw [List.getD_eq_getElem?_getD, hl]; rfl
      have hll := HLM.out l (mem_of hl)
      have htj : conf Ls t p (ids.take (j + 1)) = conf Ls t p (ids.take j) ++ (if l.isPrefixOf (t.drop p) then [(i, p + l.length)] else []) := by
        obtain ⟨hj2, e⟩ := List.getElem?_eq_some_iff.1 hi'
        rw [List.take_succ_eq_append_getElem hj2, e, conf_snoc, hld]
      have HTJ := hide htj
      have HRD := hide hrd
      have hc1 : c1 ≤ 9223372036854775807 := hrd.max
      have e1 : IntKind.i64.wrap ((j : Int) + 1) = (j : Int) + 1 := IntWalk.i64_in _ (by omega)
      have hil : (i : Int) < (Ls.length : Int) := by have := him.1; omega
      rw [hai]
      subst hAd
      clear hi' him hai hl hld htj hrd
      by_cases hfit : l.length ≤ t.length - p
      · have hfd : decide ((t.length : Int) - (p : Int) < (l.length : Int)) = false := decide_eq_false (by omega)
        go_wp2_with fail
        go_loop [38] (fun kv => ∃ k : Nat, kv = .int .i64 k ∧ k ≤ l.length ∧ ∀ k', k' < k → at8 t (p + k') = at8 l k') (fun kv => l.length - (intOf kv).toNat)
        case atStart => exact ⟨0, rfl, by omega, fun k' h => by omega⟩
        case round =>
          obtain ⟨k, rfl, hk, hall⟩ := hrel
          have HA := hide hall
          clear hall
          by_cases hkl : k < l.length
          · obtain ⟨a1, hA1, _, hcb⟩ := HRD.out.byte (i := k) hkl
            subst hA1
            obtain ⟨at_, hAt, _, hct⟩ := (HR.out.below HI.out.2).byte (i := p + k) (by omega)
            subst hAt
            obtain ⟨x, hx⟩ : ∃ x, at8 l k = x := ⟨_, rfl⟩
            obtain ⟨y, hy⟩ : ∃ y, at8 t (p + k) = y := ⟨_, rfl⟩
            have hx2 := at8_lt l k
            have hy2 := at8_lt t (p + k)
            rw [hx] at hcb hx2
            rw [hy] at hct hy2
            have HX := hide (show _ ∧ _ from ⟨hx, hy⟩)
            have e2 : IntKind.i64.wrap ((k : Int) + 1) = (k : Int) + 1 := IntWalk.i64_in _ (by omega)
            have e3 : IntKind.i64.wrap ((p : Int) + (k : Int)) = (p : Int) + (k : Int) := IntWalk.i64_in _ (by omega)
            have e4 : ((p : Int) + (k : Int)).toNat = p + k := by omega
            have e5 : (0 : Int) ≤ (p : Int) + (k : Int) := by omega
            have e6 : (p : Int) + (k : Int) < (t.length : Int) := by omega
            by_cases hxy : y = x
            · have hne : ((y : Int) != (x : Int)) = false := by rw [hxy]; simp
              have HXY := hide hxy
              clear hx hy hxy
              go_wp2_with fail
              go_round
              case rel => exact ⟨k + 1, by go_num, by omega, fun k' h => by
                rcases Nat.lt_or_ge k' k with e | e
                · exact HA.out k' e
                · obtain rfl : k' = k := by omega
                  rw [HX.out.1, HX.out.2, HXY.out]⟩
              case measure => simp [intOf]; omega
            · have hne : ((y : Int) != (x : Int)) = true := by simp; omega
              have HNP : Hid (l.isPrefixOf (t.drop p) = false) := hide (by
                rw [Bool.eq_false_iff, ne_eq, List.isPrefixOf_iff_prefix]
                intro h
                exact hxy (by rw [← hx, ← hy]; exact at8_pre h hkl))
              clear hx hy hxy
              go_wp2_with fail
              go_roundw
              case rel => exact ⟨j + 1, out', Ao', co', rfl, by go_num, by omega, by rw [HTJ.out, HNP.out, HOut.out]; simp, HI.out.1, HI.out.2⟩
              case measure => simp [intOf]; omega
          · obtain rfl : k = l.length := by omega
            have HPP : Hid (l.isPrefixOf (t.drop p) = true) := hide (by rw [List.isPrefixOf_iff_prefix, pre_iff]; exact ⟨hfit, HA.out⟩)
            obtain ⟨out2, ho2, hol2⟩ : ∃ out2, out' ++ [(i, p + l.length)] = out2 ∧ out'.length + 1 = out2.length := ⟨_, rfl, by simp⟩
            have hhc : hitCells out' ++ [.int .i64 (i : Int), .int .i64 ((p : Int) + (l.length : Int))] = hitCells out2 := by
              rw [← ho2, show ((p : Int) + (l.length : Int)) = ((p + l.length : Nat) : Int) by omega]; exact (hitCells_snoc out' (i, p + l.length)).symm
            have HH2 := hide (show _ ∧ _ from ⟨ho2, hhc⟩)
            have e3 : IntKind.i64.wrap ((p : Int) + (l.length : Int)) = (p : Int) + (l.length : Int) := IntWalk.i64_in _ (by omega)
            have hsz := HI.out.2.size
            clear ho2 hhc
            go_wp2_with (at_builtin; refine wpList_append_rd _ rfl (.tmp 52) (.tmp 59) _ rfl wF.heap.size 51 i2 _ 2 16 Try.underlying33 hi2 hy0 hy1 hy2 rfl (by omega) (.slice Ao' out'.length co') out'.length (hitCells out') rfl (HI.out.1.alloc _) (w0.heap.size + 1) (some ⟨w0.heap.size, 0, none⟩) 1 1 [.int .i64 (i : Int), .int .i64 ((p : Int) + (l.length : Int))] rfl (rd_two w0 _ _ _) (by simp [Value.oneCell']) (by simp only [maxLen]; omega) (by omega) (by simp; omega) ?_; intro A4 c4 w4 hown4 hg4 hat4; have hb4 := (HI.out.2.alloc hsz _).trans (below_grown (HI.out.1.alloc _) hg4 (Nat.le_refl _) (by simp; omega)); rw [hol2] at hown4; have H4 := hide (show _ ∧ _ from ⟨hown4, hb4⟩); clear hown4 hg4 hat4 hb4)
            go_roundw
            case rel => exact ⟨j + 1, out2, A4, c4, by rw [← hol2], by go_num, by omega, by rw [HTJ.out, HPP.out, ← HH2.out.1, HOut.out]; simp, by rw [← HH2.out.2]; exact H4.out.1, H4.out.2⟩
            case measure => simp [intOf]; omega
      · have hfi : (t.length : Int) - (p : Int) < (l.length : Int) := by omega
        have HNP : Hid (l.isPrefixOf (t.drop p) = false) := hide (by
          rw [Bool.eq_false_iff, ne_eq, List.isPrefixOf_iff_prefix, pre_iff]
          exact fun h => hfit h.1)
        go_wp2_with fail
        go_roundw
        case rel => exact ⟨j + 1, out', Ao', co', rfl, by go_num, by omega, by rw [HTJ.out, HNP.out, HOut.out]; simp, HI.out.1, HI.out.2⟩
        case measure => simp [intOf]; omega
    · obtain rfl : j = ids.length := by omega
      have hall : out' = out ++ conf Ls t p ids := by rw [HOut.out, List.take_length]
      have HAL := hide hall
      clear HOut hall
      go_wp2_with fail
      rw [Exit.noGoto_ret]
      go_ret
      rw [← HAL.out]
      exact ⟨Ao', co', rfl, HI.out.1, HI.out.2⟩
end Go.Proofs.Ytkjpcincjoaeeaa.TW
