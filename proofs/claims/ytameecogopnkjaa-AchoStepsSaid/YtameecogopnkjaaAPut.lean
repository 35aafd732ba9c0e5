/- The walk of acho's put: a literal into the tree. -/
import Derived.Test.YtameecogopnkjaaAWalk
namespace Go.Proofs.Ytameecogopnkjaa.AW
open Go.ChangeShapes Go.WideShapes Go.ChangeAt Go.RowKit
open Go.Proofs.Ytameecogopnkjaa.B Go.Proofs.Ytameecogopnkjaa.AM
set_option linter.unusedVariables false

theorem info_int : (Try.prog.info? 3).map (fun i => (i.zero, i.size, i.bytes)) = some (some (.int .i64 0), 1, 8) := by kernel_rfl
theorem own_out (Ls : List T) (x : T) (h : ¬ isPre Ls x = true) : own Ls x = [] := by
  rw [List.eq_nil_iff_forall_not_mem]
  intro k hk
  rw [mem_own] at hk
  exact h (hk.2 ▸ lit_pre Ls k hk.1)
/-- The tree while a literal is put in: what the literals before it begin with, and its first bytes. -/
def Sx (Ls : List T) (l : T) (i : Nat) (x : T) : Prop := isPre Ls x = true ∨ x <+: l.take i
theorem prefix_snoc (x y : T) (b : UInt8) : x <+: y ++ [b] ↔ x <+: y ∨ x = y ++ [b] := by
  constructor
  · intro h
    rcases Nat.lt_or_ge x.length (y.length + 1) with h1 | h1
    · exact .inl (List.prefix_of_prefix_length_le h (List.prefix_append _ _) (by omega))
    · refine .inr (h.eq_of_length ?_)
      have := h.length_le
      rw [List.length_append, List.length_singleton] at this ⊢
      omega
  · rintro (h | rfl)
    · exact h.trans (List.prefix_append _ _)
    · exact List.prefix_refl _
theorem Sx_succ (Ls : List T) (l : T) (i : Nat) (b : UInt8) (hb : l.take (i + 1) = l.take i ++ [b]) (x : T) : Sx Ls l (i + 1) x ↔ Sx Ls l i x ∨ x = l.take i ++ [b] := by
  rw [Sx, Sx, hb, prefix_snoc, or_assoc]
theorem take_snoc8 (bs : T) (i : Nat) (h : i < bs.length) : bs.take (i + 1) = bs.take i ++ [bs.getD i 0] := by
  rw [List.take_succ_eq_append_getElem h, List.getD_eq_getElem?_getD, List.getElem?_eq_getElem h]
  rfl
theorem cell_at (ad : Addr) (s b : Nat) : ad.add (s * 259 + (b + 1)) = ⟨(ad.add (s * 259)).block, (ad.add (s * 259)).off + 1 + b, none⟩ := by
  rw [← B.add_add, show (ad.add (s * 259)).off + 1 + b = (ad.add (s * 259)).off + (b + 1) by omega]
  rfl
theorem Mach.next_cell {u w : World} {g cn s b : Nat} {ns : List Nd} {ad : Addr} {nd : Nd} (h : Mach u g ns (some ad) cn w) (hs : ns[s]? = some nd) (hb : b < 256) :
    w.cell? ⟨(ad.add (s * 259)).block, (ad.add (s * 259)).off + 1 + b, none⟩ = some (.int .i64 (nd.next b)) ∧ w.frozen? ⟨(ad.add (s * 259)).block, (ad.add (s * 259)).off + 1 + b, none⟩ = false := by
  have h1 := own_cell h.row (s * 259 + (b + 1)) (.int .i64 (nd.next b)) (by rw [cellsAll_at ns s (b + 1) nd hs (by omega)]; exact nodeCells_next _ _ _ _ b hb)
  rw [cell_at] at h1
  exact ⟨h1.1, h1.2.1⟩
theorem Mach.put_next {u w : World} {g cn s b : Nat} {ns : List Nd} {ad : Addr} {nd : Nd} (h : Mach u g ns (some ad) cn w) (hs : ns[s]? = some nd) (hb : b < 256) (v : Int) :
    Mach u g (ns.set s { nd with next := upd nd.next b v }) (some ad) cn (w.setCell ⟨(ad.add (s * 259)).block, (ad.add (s * 259)).off + 1 + b, none⟩ (.int .i64 v)) := by
  rw [← cell_at]
  exact h.put hs (by omega) (nodeCells_set_next _ _ _ _ _ _ hb).symm rfl rfl rfl rfl rfl rfl

theorem put_close {u w w2 : World} {g cn s c2 : Nat} {ns : List Nd} {ad : Addr} {A2 : Option Addr} {nd : Nd} {Ls : List T} {l : T} (hM : Mach u g ns (some ad) cn w) (hT : Trie (Sx Ls l l.length) (own Ls) ns) (hs : ns[s]? = some nd) (hpre : nd.pre = l)
    (hg : w.grownBy w2 (Value.slice nd.hA nd.hits.length nd.hc).ownBlock) (ho : w2.ownsRow u.heap.size 3 1 (.slice A2 (nd.hits.length + 1) c2) (nd.hits.length + 1) (ints nd.hits ++ [.int .i64 (Ls.length : Int)]))
    (hat : (Value.slice A2 (nd.hits.length + 1) c2).ownBlock = (Value.slice nd.hA nd.hits.length nd.hc).ownBlock ∨ (Value.slice A2 (nd.hits.length + 1) c2).ownBlock = some w.heap.size) :
    ∃ A' c' ns', Mach u g ns' A' c' (w2.setCell ⟨(ad.add (s * 259)).block, (ad.add (s * 259)).off + 258, none⟩ (.slice A2 (nd.hits.length + 1) c2)) ∧ Trie (fun x => isPre (Ls ++ [l]) x = true) (own (Ls ++ [l])) ns' ∧ ns'.length = ns.length := by
  have hks : ints nd.hits ++ [.int .i64 (Ls.length : Int)] = ints (nd.hits ++ [Ls.length]) := by simp [ints]
  have hl2 : nd.hits.length + 1 = (nd.hits ++ [Ls.length]).length := by simp
  rw [hks, hl2] at ho
  rw [hl2] at hat ⊢
  refine ⟨some ad, cn, _, hM.put_hits hs hg ho hat, (hT.hit hs (nd' := { nd with hits := nd.hits ++ [Ls.length], hA := A2, hc := c2 }) rfl rfl rfl).congr (fun x => ?_) (fun x _ => ?_), List.length_set ..⟩
  · rw [Sx, List.take_length, isPre_snoc, Bool.or_eq_true, List.isPrefixOf_iff_prefix]
  · rw [own_snoc, hpre]

set_option maxRecDepth 10000 in
set_option maxHeartbeats 1000000 in
theorem put_any {u w : World} {g cn n c : Nat} {ns : List Nd} {An A : Option Addr} {Ls : List T} {l : T} (hM : Mach u g ns An cn w) (hT : Trie (fun x => isPre Ls x = true) (own Ls) ns) (h : Rd u u.heap.size 1 A n c (u8s l)) (hn : n ≤ 200) (hns : ns.length + n ≤ 4500) (hid : Ls.length ≤ 300) :
    Calls Try.prog 28 #[.pointer (some ⟨g, 0, none⟩), .int .i64 (Ls.length : Int), .slice A n c] w fun e w' => ∃ A' c' ns', e = .returned (.tuple #[]) ∧ Mach u g ns' A' c' w' ∧ Trie (fun x => isPre (Ls ++ [l]) x = true) (own (Ls ++ [l])) ns' ∧ ns'.length ≤ ns.length + n := by
  have hl := h.length8
  subst hl
  have HR := hide h
  go_enter Try.func28, Try.ntmps28
  go_wp2_with fail
  go_loopw [6, 12] (fun sv iv wr => ∃ (i s : Nat) (ns' : List Nd) (A' : Option Addr) (c' : Nat) (nd : Nd), i ≤ l.length ∧ iv = .int .i64 i ∧ sv = .int .i64 s ∧ ns'[s]? = some nd ∧ nd.pre = l.take i ∧ Mach u g ns' A' c' wr ∧ Trie (Sx Ls l i) (own Ls) ns' ∧ ns'.length ≤ ns.length + i) (fun _ iv _ => l.length - (intOf iv).toNat)
  case atStart =>
    obtain ⟨r, hr, hrp⟩ := hT.root
    exact ⟨0, 0, ns, An, cn, r, by omega, rfl, rfl, hr, hrp, hM, hT.congr (fun x => by rw [Sx]; constructor; exact .inl; rintro (h | h); exact h; rw [List.take_zero, List.prefix_nil] at h; rw [h]; rfl) (fun _ _ => rfl), by omega⟩
  case round =>
    clear hM hT
    obtain ⟨i, s, ns', A', c', nd, hi, rfl, rfl, hs, hpre, hM, hT, hnl⟩ := hrel
    have hsl := (List.getElem?_eq_some_iff.1 hs).1
    obtain ⟨ad, rfl⟩ := own_some hM.row (by omega)
    have hc0 := hM.blk.at_ (i := 0) rfl
    by_cases hlt : i < l.length
    · obtain ⟨al, rfl, _, hcl⟩ := (HR.out.below hM.below).byte (i := i) hlt
      have hsn := take_snoc8 l i hlt
      have hcl' : wr.cell? (al.add i) = some (.int .u8 ((l.getD i 0).toNat : Int)) := hcl
      obtain ⟨b, hbb⟩ : ∃ b, l.getD i 0 = b := ⟨_, rfl⟩
      rw [hbb] at hsn hcl'
      have hb := UInt8.toNat_lt b
      have hbi : (b.toNat : Int) < 256 := by omega
      have hsi : (s : Int) < (ns'.length : Int) := by omega
      obtain ⟨k1, k2⟩ := hM.next_cell hs hb
      have HM := hide hM
      have HT := hide hT
      have HSN := hide hsn
      clear hM hT hcl hbb hsn
      rcases HT.out.next s nd hs b with ⟨j, ndj, hj, hjn, hjp⟩ | ⟨hj, hno⟩
      · rw [hj] at k1
        have hjl := (List.getElem?_eq_some_iff.1 hjn).1
        go_wp2_with fail
        go_roundw
        case rel =>
          refine ⟨i + 1, j, ns', some ad, c', ndj, by omega, by go_num, rfl, hjn, by rw [hjp, hpre, ← HSN.out], HM.out, HT.out.congr (fun x => ?_) (fun _ _ => rfl), by omega⟩
          rw [Sx_succ Ls l i b HSN.out]
          refine ⟨.inl, fun h => ?_⟩
          rcases h with h | h
          · exact h
          · exact (HT.out.mem x).2 ⟨j, ndj, hjn, by rw [hjp, hpre, h]⟩
        case measure => simp [intOf]; omega
      · rw [hj] at k1
        have hci : (i : Int) + 1 ≤ (c : Int) := by have := HR.out.cap; omega
        have e1 : IntKind.i64.wrap ((i : Int) + 1) = (i : Int) + 1 := IntWalk.i64_in _ (by omega)
        have e2 : ((i : Int) + 1).toNat = i + 1 := by omega
        go_wp2_with fail
        refine (add_any HM.out (((HR.out.below HM.out.below).more HM.out.below.size).head8 (j := i + 1) (by omega)) (by omega) (by omega)).mono ?_
        rintro e w5 ⟨A5, c5, pA, pc, rfl, hM5⟩
        obtain ⟨ad5, rfl⟩ := own_some hM5.row (by simp)
        have hs5 : (ns' ++ [(⟨l.take (i + 1), fun _ => -1, 0, [], pA, pc, none, 0⟩ : Nd)])[s]? = some nd := by rw [List.getElem?_append_left hsl]; exact hs
        obtain ⟨k3, k4⟩ := hM5.next_cell hs5 hb
        have hc5 := hM5.blk.at_ (i := 0) rfl
        have hM6 := hM5.put_next hs5 hb (ns'.length : Int)
        have hs6 : ((ns' ++ [(⟨l.take (i + 1), fun _ => -1, 0, [], pA, pc, none, 0⟩ : Nd)]).set s { nd with next := upd nd.next b.toNat (ns'.length : Int) })[s]? = some { nd with next := upd nd.next b.toNat (ns'.length : Int) } := by
          rw [getElem?_set' _ _ _ _ (by simp; omega), if_pos rfl]
        have hn6 : ((ns' ++ [(⟨l.take (i + 1), fun _ => -1, 0, [], pA, pc, none, 0⟩ : Nd)]).set s { nd with next := upd nd.next b.toNat (ns'.length : Int) })[ns'.length]? = some ⟨l.take (i + 1), fun _ => -1, 0, [], pA, pc, none, 0⟩ := by
          rw [getElem?_set' _ _ _ _ (by simp; omega), if_neg (by omega)]; simp
        obtain ⟨k5, _⟩ := hM6.next_cell hs6 hb
        have k6 : upd nd.next b.toNat (ns'.length : Int) b.toNat = (ns'.length : Int) := by simp [upd]
        have hc6 := hM6.blk.at_ (i := 0) rfl
        have hl5 : (ns' ++ [(⟨l.take (i + 1), fun _ => -1, 0, [], pA, pc, none, 0⟩ : Nd)]).length = ns'.length + 1 := by simp
        rw [List.length_set, hl5] at hc6
        rw [hl5] at hc5
        dsimp only at k5
        rw [k6] at k5
        have hT6 := HT.out.add (nd' := { nd with next := upd nd.next b.toNat (ns'.length : Int) }) (new := ⟨l.take (i + 1), fun _ => -1, 0, [], pA, pc, none, 0⟩) hs (b := b) (by omega) (by rw [hpre]; exact HSN.out) (fun _ _ => rfl) rfl (fun hno => own_out _ _ (fun h => hno (.inl h))) rfl rfl rfl
        have HM6 := hide hM6
        have HT6 := hide hT6
        have HS6 := hide hn6
        have hsi5 : (s : Int) < (ns'.length : Int) + 1 := by omega
        clear hM5 hM6 hT6 hs5 hs6 hn6 k1 k2 hc0 HM
        go_wp2_with fail
        go_roundw
        case rel =>
          refine ⟨i + 1, ns'.length, _, some ad5, c5, _, by omega, by go_num, rfl, HS6.out, rfl, HM6.out, HT6.out.congr (fun x => ?_) (fun _ _ => rfl), by rw [List.length_set, hl5]; omega⟩
          rw [Sx_succ Ls l i b HSN.out, hpre]
        case measure => simp [intOf]; omega
    · obtain rfl : i = l.length := by omega
      rw [List.take_length] at hpre
      obtain ⟨i0, hi0, hz0, hz1, hz2⟩ := info_parts info_int
      obtain ⟨k1, k2⟩ := hM.hits_cell hs
      have HM := hide hM
      have HT := hide hT
      have hsi : (s : Int) < (ns'.length : Int) := by omega
      have hbel : Below wr.heap.size wr ((wr.alloc (.cells #[.int .i64 (Ls.length : Int)] 3)).drew) := ((Below.refl _ _).alloc (Nat.le_refl _) _).drew
      have HBL := hide hbel
      have hMa := hM.over ((Below.refl wr.heap.size wr).alloc (Nat.le_refl _) (.cells #[.int .i64 (Ls.length : Int)] 3))
      obtain ⟨k3, k4⟩ := hMa.hits_cell hs
      have hca := hMa.blk.at_ (i := 0) rfl
      clear hM hT hbel hMa
      have hhl : nd.hits.length ≤ 300 := by
        rw [HT.out.hits s nd hs]
        exact Nat.le_trans (List.length_filter_le _ _) (by rw [List.length_range]; exact hid)
      go_wp2_with fail
      go_region_law ((refine step_append_rd _ (by rfl) (.tmp 67) (.tmp 69) 46 (by rfl) u.heap.size 3 i0 _ 1 8 Try.underlying46 hi0 hz0 hz1 hz2 rfl (by omega) (.slice nd.hA nd.hits.length nd.hc) nd.hits.length (ints nd.hits) (by rfl) (((HM.out.hit s nd hs).alloc _).drew) (wr.heap.size + 1) (some ⟨wr.heap.size, 0, none⟩) 1 1 [.int .i64 (Ls.length : Int)] (by rfl) ((Rd.one wr _ _).drew) (by simp [Value.oneCell']) (by simp only [maxLen]; omega) (by omega) (by have := HM.out.below.size; simp; omega) ?_; intro A2 c2 w2 hown2 hg2 hat2; obtain ⟨hcg, hch, hcf⟩ := (HM.out.over HBL.out).grown_cells hs hg2))
      all_goals
        have hfin := put_close (HM.out.over HBL.out) HT.out hs hpre hg2 hown2 hat2
        clear hown2 hg2 hat2 hcg hch hcf k1 k2 k3 k4 hc0 hca
        go_wp2_with fail
        go_end0
        obtain ⟨A', c', ns2, f1, f2, f3⟩ := hfin
        exact ⟨A', c', ns2, rfl, f1, f2, by omega⟩
end Go.Proofs.Ytameecogopnkjaa.AW
