/- The walk of acho's link: the states linked, the shorter texts first. -/
import Derived.Test.YtameecogopnkjaaAOrder
import Derived.BigQuiet
import Derived.Deep.QuietTactic
import Derived.Deep.DeepCutAuto
import Derived.Deep.CutBlock
namespace Go.Proofs.Ytameecogopnkjaa.AW
open Go.ChangeShapes Go.WideShapes Go.ChangeAt Go.RowKit
open Go.Proofs.Ytameecogopnkjaa.B Go.Proofs.Ytameecogopnkjaa.AM
set_option linter.unusedVariables false

theorem own_one (w : World) (t : TypeId) (v : Value) : (w.alloc (.cells #[v] t)).ownsRow w.heap.size t 1 (.slice (some ⟨w.heap.size, 0, none⟩) 1 1) 1 [v] :=
  ⟨rfl, .inr ⟨w.heap.size, 1, #[v], rfl, Nat.le_refl _, heap_alloc_new w _, Nat.le_refl _, by simp [maxLen], rfl, rfl⟩⟩
theorem ls_start {u w : World} {g cn : Nat} {ns : List Nd} {ad : Addr} (h : Mach u g ns (some ad) cn w) : LS u g ns ad cn [0] (some ⟨w.heap.size, 0, none⟩) 1 (w.alloc (.cells #[.int .i64 0] 3)) :=
  ⟨h.over ((Below.refl _ _).alloc (Nat.le_refl _) _), own_lower (own_one w _ _) h.below.size, fun i nd k hi hk e => by
    have h1 := (own_block (h.hit i nd hi) k hk).2
    have h2 : w.heap.size = k := by simpa [Value.ownBlock] using e
    omega⟩
def Mid10 (u : World) (g : Nat) (ns : List Nd) (ad : Addr) (cn : Nat) (Q : List Nat) (Ao : Option Addr) (co : Nat) (P : List T) (x : T) (s6 : Value) (wx : World) : Prop :=
  ∃ j : Nat, s6 = .int .i64 (j : Int) ∧ P[j]? = some x ∧ LS u g ns ad cn Q Ao co wx
def Mid15 (u : World) (g : Nat) (ns : List Nd) (ad : Addr) (cn : Nat) (Q : List Nat) (Ao : Option Addr) (co : Nat) (t : Nat) (m : Nd) (ks : List Nat) (wx : World) : Prop :=
  ∃ A2 c2, LS u g (ns.set t { m with hits := ks, hA := A2, hc := c2 }) ad cn Q Ao co wx
theorem mid15_close {u w w2 : World} {g cn co t c2 : Nat} {ns : List Nd} {ad : Addr} {Q : List Nat} {Ao A2 : Option Addr} {m mj : Nd} (h : LS u g ns ad cn Q Ao co w) (hs : ns[t]? = some m) (hg : w.grownBy w2 (Value.slice m.hA m.hits.length m.hc).ownBlock)
    (ho : w2.ownsRow u.heap.size 3 1 (.slice A2 (m.hits.length + mj.hits.length) c2) (m.hits.length + mj.hits.length) (ints m.hits ++ ints mj.hits)) (hat : (Value.slice A2 (m.hits.length + mj.hits.length) c2).ownBlock = (Value.slice m.hA m.hits.length m.hc).ownBlock ∨ (Value.slice A2 (m.hits.length + mj.hits.length) c2).ownBlock = some w.heap.size) :
    Mid15 u g ns ad cn Q Ao co t m (m.hits ++ mj.hits) (w2.setCell ⟨(ad.add (t * 259)).block, (ad.add (t * 259)).off + 258, none⟩ (.slice A2 (m.hits.length + mj.hits.length) c2)) := by
  have hks : ints m.hits ++ ints mj.hits = ints (m.hits ++ mj.hits) := by simp [ints]
  have hl2 : m.hits.length + mj.hits.length = (m.hits ++ mj.hits).length := by simp
  rw [hks, hl2] at ho
  rw [hl2] at hat ⊢
  exact ⟨A2, c2, h.put_hits hs hg ho hat⟩
theorem ints_one (ks : List Nat) : ∀ u ∈ ints ks, u.oneCell' = true := by
  intro u hu
  obtain ⟨k, _, rfl⟩ := List.mem_map.1 hu
  rfl

set_option maxRecDepth 10000 in
set_option maxHeartbeats 4000000 in
theorem link_any {u w : World} {g cn : Nat} {ns : List Nd} {ad : Addr} {Ls : List T} (hM : Mach u g ns (some ad) cn w) (hT : Trie (fun x => isPre Ls x = true) (own Ls) ns) (hne : ∀ l ∈ Ls, l ≠ []) (hns : ns.length ≤ 5000) (hid : Ls.length ≤ 300) :
    Calls Try.prog 29 #[.pointer (some ⟨g, 0, none⟩)] w fun e w' => ∃ ns', e = .returned (.tuple #[]) ∧ Mach u g ns' (some ad) cn w' ∧ AM.Good Ls ns' ∧ ns'.length = ns.length := by
  obtain ⟨i0, hi0, hz0, hz1, hz2⟩ := info_parts info_int
  have hP := pres_of hT (fun x => Iff.rfl)
  have hLn := Lnk.start hT hne
  have hQ := Que.start hP
  obtain ⟨P, hPn⟩ : ∃ P, ns.map (·.pre) = P := ⟨_, rfl⟩
  rw [hPn] at hP hLn hQ
  have hPl : P.length = ns.length := by rw [← hPn, List.length_map]
  have HP := hide hP
  have hls := ls_start hM
  clear hM hT hP hPn
  go_enter Try.func29, Try.ntmps29
  go_wp2_with fail
  go_loopw [2, 3] (fun ov av wr => ∃ (a : Nat) (Q : List Nat) (ns' : List Nd) (Ao : Option Addr) (co : Nat), av = .int .i64 a ∧ a ≤ Q.length ∧ ov = .slice Ao Q.length co ∧ LS u g ns' ad cn Q Ao co wr ∧ Que P Q a 0 ∧ Lnk Ls P Q a 0 ns') (fun _ av _ => P.length - (intOf av).toNat)
  case atStart => exact ⟨0, [0], ns, _, 1, rfl, by simp, rfl, hls, hQ, hLn⟩
  case round =>
    clear hls hQ hLn
    obtain ⟨a, Q, ns', Ao, co, rfl, ha, rfl, hls, hQ, hLn⟩ := hrel
    have hQs := hQ.short
    by_cases hlt : a < Q.length
    · have hsa : Q[a]? = some (Q[a]'hlt) := List.getElem?_eq_getElem hlt
      obtain ⟨s, hs⟩ : ∃ s, Q[a]? = some s := ⟨_, hsa⟩
      have hsl := hQ.lt a s hs
      obtain ⟨ao, rfl⟩ := own_some hls.o (by omega)
      obtain ⟨hca, _⟩ := own_cell hls.o a (.int .i64 (s : Int)) (by rw [ints, List.getElem?_map, hs]; rfl)
      have HL := hide hls
      have HQ := hide hQ
      have HN := hide hLn
      have HS := hide hs
      clear hls hQ hLn hs hsa
      go_wp2_with fail
      go_loopw [2, 19] (fun ov bv wr => ∃ (b : Nat) (Q' : List Nat) (ns' : List Nd) (Ao : Option Addr) (co : Nat), bv = .int .i64 b ∧ b ≤ 256 ∧ ov = .slice Ao Q'.length co ∧ LS u g ns' ad cn Q' Ao co wr ∧ Que P Q' a b ∧ Lnk Ls P Q' a b ns' ∧ Q'[a]? = some s) (fun _ bv _ => 256 - (intOf bv).toNat)
      case atStart => exact ⟨0, Q, ns', _, co, rfl, by omega, rfl, HL.out, HQ.out, HN.out, HS.out⟩
      case round =>
        clear HL HQ HN HS hca
        obtain ⟨b, Q', ns'', Ao', co', rfl, hb, rfl, hls, hQ, hLn, hs⟩ := hrel
        have hQs' := hQ.short
        have hnl : ns''.length = P.length := by rw [← hLn.pres, List.length_map]
        by_cases hbl : b < 256
        · obtain ⟨bb, rfl⟩ : ∃ bb : UInt8, b = bb.toNat := ⟨UInt8.ofNat b, by rw [UInt8.toNat_ofNat']; omega⟩
          have hns' : ns''[s]? = some (ns''[s]'(by omega)) := List.getElem?_eq_getElem (by omega)
          obtain ⟨nd, hn⟩ : ∃ nd, ns''[s]? = some nd := ⟨_, hns'⟩
          have hc0 := hls.m.blk.at_ (i := 0) rfl
          have hbi : (bb.toNat : Int) < 256 := by omega
          have hsi : (s : Int) < (ns''.length : Int) := by omega
          have HL := hide hls
          have HQ := hide hQ
          have HN := hide hLn
          have HS := hide hs
          have HNd := hide hn
          clear hls hQ hLn hs hns' hn
          go_upto_if 23 with fail
          go_cut [6] (fun s6 wx => Mid10 u g ns'' ad cn Q' Ao' co' P (AM.step Ls (nd.pre ++ [bb]).tail) s6 wx)
          case first =>
            by_cases h0 : s = 0
            · have hbk := hide (HN.out.back0 HP.out (h0 ▸ HNd.out))
              go_wp2_with fail
              go_meet
              exact ⟨0, rfl, hbk.out, HL.out⟩
            · obtain ⟨f, j, ndf, hf1, hf2, hf3, hf4⟩ := HN.out.back HP.out HQ.out HS.out HNd.out h0
              have hfl := (List.getElem?_eq_some_iff.1 hf2).1
              have hfi : (f : Int) < (ns''.length : Int) := by omega
              obtain ⟨k1, _⟩ := HL.out.m.fail_cell HNd.out
              obtain ⟨k2, _⟩ := HL.out.m.next_cell hf2 (UInt8.toNat_lt bb)
              rw [hf1] at k1
              rw [hf3] at k2
              have HB := hide hf4
              clear hf1 hf2 hf3 hf4
              go_wp2_with fail
              go_quiet (fail)
              go_wp2_with fail
              go_meet
              exact ⟨j, rfl, HB.out, HL.out.over (bdrewN _ _)⟩
          case rest =>
            clear HL hc0
            obtain ⟨j, rfl, hj, hls⟩ := hcut
            have hc0 := hls.m.blk.at_ (i := 0) rfl
            obtain ⟨k1, k2⟩ := hls.m.next_cell HNd.out (UInt8.toNat_lt bb)
            have HL := hide hls
            have HJ := hide hj
            have hjl := (List.getElem?_eq_some_iff.1 hj).1
            have e1 : IntKind.i64.wrap ((bb.toNat : Int) + 1) = (bb.toNat : Int) + 1 := IntWalk.i64_in _ (by omega)
            clear hls hj
            rcases HN.out.way HQ.out HS.out HNd.out with ⟨t, ht1, ht2⟩ | ⟨ht1, ht2⟩
            · rw [ht1] at k1
              have htl := (List.getElem?_eq_some_iff.1 ht2).1
              obtain ⟨m, hm, hmp⟩ := at_pre HN.out.pres ht2
              obtain ⟨mj, hmj, hmjp⟩ := at_pre HN.out.pres HJ.out
              obtain ⟨hp1, hp2, hp3⟩ := HN.out.parts HP.out HQ.out HS.out HNd.out ht2 hm HJ.out hmj
              obtain ⟨k3, k4⟩ := HL.out.m.fail_cell hm
              have hti : (t : Int) < (ns''.length : Int) := by omega
              have hji : (j : Int) < (ns''.length : Int) := by omega
              have hls1 := HL.out.put_fail hm (j : Int)
              have HT := hide (show _ ∧ _ ∧ _ ∧ _ ∧ _ ∧ _ from ⟨ht1, ht2, hm, hmj, hp1, hp3⟩)
              have HL1 := hide hls1
              clear ht1 ht2 hm hmj hmp hmjp hp1 hp3 hls1
              obtain ⟨ks, hks⟩ : ∃ ks, m.hits ++ mj.hits = ks := ⟨_, rfl⟩
              have hm1 : (ns''.set t { m with fail := (j : Int) })[t]? = some { m with fail := (j : Int) } := by rw [getElem?_set' _ _ _ _ (by omega), if_pos rfl]
              have hmj1 : (ns''.set t { m with fail := (j : Int) })[j]? = some mj := by rw [getElem?_set' _ _ _ _ (by omega), if_neg (Ne.symm HT.out.2.2.2.2.1)]; exact HT.out.2.2.2.1
              have HM1 := hide hm1
              have HMJ := hide hmj1
              have HKS := hide hks
              have hlb := hp2
              clear hm1 hmj1 hks hp2
              go_upto_region 15 with fail
              clear k1 k2 k3 k4 hc0
              generalize hw1 : World.setCell _ _ _ = w1 at *
              clear hw1
              go_cut [] (fun wx => Mid15 u g (ns''.set t { m with fail := (j : Int) }) ad cn Q' Ao' co' t { m with fail := (j : Int) } ks wx)
              case first =>
                obtain ⟨q1, q2⟩ := HL1.out.m.hits_cell HM1.out
                obtain ⟨q3, q4⟩ := HL1.out.m.hits_cell HMJ.out
                dsimp only at q1
                have hc0 := HL1.out.m.blk.at_ (i := 0) rfl
                have hnn : ns''.length = ns.length := by omega
                rw [List.length_set, hnn] at hc0
                have hti2 : (t : Int) < (ns.length : Int) := by omega
                have hji2 : (j : Int) < (ns.length : Int) := by omega
                have hsu := HL1.out.m.below.size
                go_region_law ((refine step_append_rd _ (by rfl) (.tmp 83) (.tmp 91) 46 (by rfl) u.heap.size 3 i0 _ 1 8 Try.underlying46 hi0 hz0 hz1 hz2 rfl (by omega) (.slice m.hA m.hits.length m.hc) m.hits.length (ints m.hits) (by rfl) ((HL1.out.m.hit t _ HM1.out).drew) w1.heap.size mj.hA mj.hits.length mj.hc (ints mj.hits) (by rfl) ((Rd.of_own (HL1.out.m.hit j mj HMJ.out)).drew) (ints_one _) (by simp only [maxLen]; omega) (by omega) hsu ?_; intro A2 c2 w2 hown2 hg2 hat2; obtain ⟨hcg, hch, hcf⟩ := (HL1.out.m.over ((Below.refl _ _).drew)).grown_cells HM1.out hg2; rw [List.length_set, hnn] at hcg; dsimp only at hch))
                all_goals
                  have hfin := mid15_close (mj := mj) (HL1.out.over ((Below.refl _ _).drew)) HM1.out hg2 hown2 hat2
                  clear hown2 hg2 hat2 hcg hch hcf q1 q2 q3 q4 hc0
                  go_wp2_with fail
                  go_meet
                  rw [← HKS.out]
                  exact hfin
              case rest =>
                obtain ⟨A2, c2, hls2⟩ := hcut
                have hm2 : ((ns''.set t { m with fail := (j : Int) }).set t { ({ m with fail := (j : Int) } : Nd) with hits := ks, hA := A2, hc := c2 })[t]? = some { ({ m with fail := (j : Int) } : Nd) with hits := ks, hA := A2, hc := c2 } := by rw [getElem?_set' _ _ _ _ (by rw [List.length_set]; omega), if_pos rfl]
                have hnn : ns''.length = ns.length := by omega
                have hti2 : (t : Int) < (ns.length : Int) := by omega
                have hc0 := hls2.m.blk.at_ (i := 0) rfl
                rw [List.length_set, List.length_set, hnn] at hc0
                obtain ⟨q1, q2⟩ := hls2.m.hits_cell hm2
                dsimp only at q1
                have hkl : ks.length ≤ 600 := by rw [← HKS.out, List.length_append]; omega
                have HL2 := hide hls2
                have HM2 := hide hm2
                clear hls2 hm2
                go_wp2_with fail
                refine (sort_own (ks := ks) (HL2.out.m.hit t _ HM2.out) (by omega)).mono ?_
                rintro e w3 ⟨rfl, ks', hperm, hsort, ho3, hf3⟩
                have hls3 := HL2.out.resort HM2.out (ks := ks') hperm.length_eq hf3 ho3
                rw [List.set_set, List.set_set] at hls3
                rw [← HKS.out] at hperm
                have hks := HT.out.2.2.2.2.2 ks' hperm hsort
                have HL3 := hide hls3
                have HK3 := hide hks
                have hsu := hls3.m.below.size
                clear q1 q2 hc0 hperm hsort ho3 hf3 hls3 hks HL2 HM2
                go_wp2_with (at_builtin; refine wpList_append_rd _ rfl (.tmp 104) (.tmp 106) _ rfl u.heap.size 3 i0 _ 1 8 Try.underlying46 hi0 hz0 hz1 hz2 rfl (by omega) (.slice Ao' Q'.length co') Q'.length (ints Q') rfl (HL3.out.o.alloc _) (w3.heap.size + 1) (some ⟨w3.heap.size, 0, none⟩) 1 1 [.int .i64 (t : Int)] rfl (Rd.one w3 _ _) (by simp [Value.oneCell']) (by simp only [maxLen]; omega) (by omega) (by simp; omega) ?_; intro A4 c4 w4 hown4 hg4 hat4; have HL4 := hide ((HL3.out.over ((Below.refl _ _).alloc (Nat.le_refl _) _)).push hg4 hown4 hat4); clear hown4 hg4 hat4)
                go_roundw
                case rel =>
                  refine ⟨bb.toNat + 1, Q' ++ [t], _, A4, c4, by go_num, by omega, by rw [List.length_append]; rfl, HL4.out, HQ.out.push HP.out HS.out (pre_at HN.out.pres HNd.out) HT.out.2.1, HN.out.push HP.out HQ.out HS.out HNd.out HT.out.1 HT.out.2.1 HT.out.2.2.1 HJ.out rfl rfl rfl HK3.out, ?_⟩
                  rw [List.getElem?_append_left (List.getElem?_eq_some_iff.1 HS.out).1]
                  exact HS.out
                case measure => simp [intOf]; omega
            · rw [ht1] at k1
              have hls1 := HL.out.put_next HNd.out (UInt8.toNat_lt bb) (j : Int)
              have HL1 := hide hls1
              have hno := hide ht2
              clear hls1 ht1 ht2
              go_wp2_with fail
              go_roundw
              case rel => exact ⟨bb.toNat + 1, Q', _, Ao', co', by go_num, by omega, rfl, HL1.out, HQ.out.skip HP.out HS.out (pre_at HN.out.pres HNd.out) hno.out, HN.out.fill HQ.out HS.out HNd.out hno.out HJ.out rfl rfl rfl rfl, HS.out⟩
              case measure => simp [intOf]; omega
        · obtain rfl : b = 256 := by omega
          have hal := (List.getElem?_eq_some_iff.1 hs).1
          have e1 : IntKind.i64.wrap ((a : Int) + 1) = (a : Int) + 1 := IntWalk.i64_in _ (by omega)
          have hy : ∃ y : T, P[s]? = some y := ⟨_, List.getElem?_eq_getElem hsl⟩
          obtain ⟨y, hy⟩ := hy
          have HX := hide (show _ ∧ _ ∧ _ from ⟨hls, hQ.turn hs hy, hLn.turn⟩)
          clear hls hQ hLn hs hy
          go_wp2_with fail
          go_roundw
          case rel => exact ⟨a + 1, Q', ns'', Ao', co', by go_num, by omega, rfl, HX.out.1, HX.out.2.1, HX.out.2.2⟩
          case measure => simp [intOf]; omega
    · have hnl : ns'.length = P.length := by rw [← hLn.pres, List.length_map]
      have HX := hide (show _ ∧ _ from ⟨hls.m, hLn.good HP.out hQ (by omega)⟩)
      clear hls hQ hLn
      go_wp2_with fail
      go_end0
      exact ⟨ns', rfl, HX.out.1, HX.out.2, by omega⟩
end Go.Proofs.Ytameecogopnkjaa.AW
