/- The walk of teddy's New. -/
import Derived.Test.YtkjpcincjoaeeaaTScanF
namespace Go.Proofs.Ytkjpcincjoaeeaa.TW
open Go.ChangeShapes Go.WideShapes Go.ChangeAt Go.RowKit
open Go.Proofs.Ytkjpcincjoaeeaa.B Go.Proofs.Ytkjpcincjoaeeaa.AM Go.Proofs.Ytkjpcincjoaeeaa.AW Go.Proofs.Ytkjpcincjoaeeaa.TM
set_option linter.unusedVariables false

/-! ### The filter under way -/
structure FX (u : World) (g : Nat) (LL : List T) (nb : Nat) (LH : List T) (m : Nat) (AL : Option Addr) (cL : Nat) (vs : List Value) (bs : Bs) (lo hi : Mask) (w : World) : Prop where
  blk : Blk w g 58 (fcells (.slice AL LL.length cL) lo hi (bval bs nb) (m : Int))
  ge : u.heap.size ≤ g
  list : OwnTexts w u.heap.size AL LL.length cL vs LL
  bkt : ∀ b, b < 8 → w.ownsRow u.heap.size 3 1 (bval bs nb b) (bucket nb b).length (ints (bucket nb b))
  apart : ∀ b b' k, b < 8 → b' < 8 → b ≠ b' → (bval bs nb b).ownBlock = some k → (bval bs nb b').ownBlock ≠ some k
  small : Small lo ∧ Small hi
  has : ∀ i, i < LH.length → Has lo hi (LH.getD i []) (i % 8)
  below : Below u.heap.size u w
theorem _root_.Go.Proofs.Ytkjpcincjoaeeaa.AW.OwnTexts.fr {w w' : World} {S : Nat → Prop} {base n c : Nat} {A : Option Addr} {vs : List Value} {Ls : List T} (h : OwnTexts w base A n c vs Ls) (hf : Fr w w' S) (hr : ∀ k, (Value.slice A n c).ownBlock = some k → ¬ S k)
    (he : ∀ (A1 : Option Addr) (n1 c1 : Nat) (xs : List Value) (k : Nat), w.ownsRow base 5 1 (.slice A1 n1 c1) n1 xs → (Value.slice A1 n1 c1).ownBlock = some k → ¬ S k) : OwnTexts w' base A n c vs Ls :=
  ⟨own_fr h.row hf hr, h.count, fun i l hl => by
    obtain ⟨A1, c1, h1, h2⟩ := h.each i l hl
    exact ⟨A1, c1, h1, own_fr h2 hf (fun k hk => he A1 _ c1 _ k h2 hk)⟩⟩
section
variable {u w w' : World} {g nb m cL : Nat} {LL LH : List T} {AL : Option Addr} {vs : List Value} {bs : Bs} {lo hi : Mask}
theorem FX.over (h : FX u g LL nb LH m AL cL vs bs lo hi w) (hb : Below w.heap.size w w') : FX u g LL nb LH m AL cL vs bs lo hi w' :=
  ⟨h.blk.below hb h.blk.lt, h.ge, h.list.over hb, fun b hb8 => own_over (h.bkt b hb8) hb, h.apart, h.small, h.has, h.below.trans (hb.mono h.below.size)⟩
/-- A step that writes the filter's own block alone. -/
theorem FX.own_step {m' : Nat} {LH' : List T} {lo' hi' : Mask} (h : FX u g LL nb LH m AL cL vs bs lo hi w) (hf : Fr w w' (· = g)) (hb : Blk w' g 58 (fcells (.slice AL LL.length cL) lo' hi' (bval bs nb) (m' : Int))) (hs : Small lo' ∧ Small hi') (hh : ∀ i, i < LH'.length → Has lo' hi' (LH'.getD i []) (i % 8)) : FX u g LL nb LH' m' AL cL vs bs lo' hi' w' :=
  ⟨hb, h.ge, h.list.fr hf (fun k hk e => by subst e; exact own_ne_blk h.list.row h.blk (by decide) hk) (fun A1 n1 c1 xs k h2 hk e => by subst e; exact own_ne_blk h2 h.blk (by decide) hk), fun b hb8 => own_fr (h.bkt b hb8) hf (fun k hk e => by subst e; exact own_ne_blk (h.bkt b hb8) h.blk (by decide) hk), h.apart, hs, hh, h.below.trans (hf.below (fun k e => by rw [e]; exact h.ge) h.below.size)⟩
theorem FX.most (h : FX u g LL nb LH m AL cL vs bs lo hi w) (m' : Nat) : FX u g LL nb LH m' AL cL vs bs lo hi (w.setCell ⟨g, 105, none⟩ (.int .i64 (m' : Int))) :=
  h.own_step (Fr.one w g 105 _) (by have h1 := h.blk.set 105 (.int .i64 (m' : Int)); rwa [fcells_set_most] at h1) h.small h.has
theorem FX.push_list {w2 : World} {A1 A4 : Option Addr} {c1 c4 : Nat} {l : T} {o : Obj} (h : FX u g LL nb LH m AL cL vs bs lo hi w) (hl : w.ownsRow u.heap.size 5 1 (.slice A1 l.length c1) l.length (u8s l))
    (ho : w2.ownsRow u.heap.size 32 1 (.slice A4 (LL.length + 1) c4) (LL.length + 1) (vs ++ [.slice A1 l.length c1])) (hg : (w.alloc o).grownBy w2 (Value.slice AL LL.length cL).ownBlock) :
    FX u g (LL ++ [l]) nb LH m A4 c4 (vs ++ [.slice A1 l.length c1]) bs lo hi (w2.setCell ⟨g, 0, none⟩ (.slice A4 (LL.length + 1) c4)) := by
  have hf : Fr w w2 (fun k => (Value.slice AL LL.length cL).ownBlock = some k) := ((Fr.refl w _).alloc o).grown hg (fun k e _ => e)
  have hb2 : Blk w2 g 58 _ := h.blk.fr hf (own_ne_blk h.list.row h.blk (by decide))
  have hx := h.list.push hl ho hg
  have hf2 : Fr w2 (w2.setCell ⟨g, 0, none⟩ (.slice A4 (LL.length + 1) c4)) (· = g) := Fr.one w2 g 0 _
  refine ⟨?_, h.ge, ?_, fun b hb8 => ?_, h.apart, h.small, h.has, ?_⟩
  · have h1 := hb2.set 0 (.slice A4 (LL.length + 1) c4)
    rw [fcells_set_list] at h1
    rw [List.length_append]
    exact h1
  · rw [List.length_append]
    exact hx.fr hf2 (fun k hk e => by subst e; exact own_ne_blk hx.row hb2 (by decide) hk) (fun A1 n1 c1 xs k h2 hk e => by subst e; exact own_ne_blk h2 hb2 (by decide) hk)
  · have h3 := own_fr (h.bkt b hb8) hf (fun k hk e => own_apart (h.bkt b hb8) h.list.row (by decide) k hk e)
    exact own_fr h3 hf2 (fun k hk e => by subst e; exact own_ne_blk h3 hb2 (by decide) hk)
  · exact (h.below.trans (hf.below (fun k e => (own_block h.list.row k e).1) h.below.size)).trans (hf2.below (fun k e => by rw [e]; exact h.ge) (Nat.le_trans h.below.size hf.size))
theorem FX.push_bucket {w2 : World} {A4 : Option Addr} {b c4 : Nat} {o : Obj} (h : FX u g LL nb LH m AL cL vs bs lo hi w) (hb : b < 8) (hbn : nb % 8 = b)
    (ho : w2.ownsRow u.heap.size 3 1 (.slice A4 ((bucket nb b).length + 1) c4) ((bucket nb b).length + 1) (ints (bucket nb b) ++ [.int .i64 (nb : Int)])) (hg : (w.alloc o).grownBy w2 (bval bs nb b).ownBlock)
    (hat : (Value.slice A4 ((bucket nb b).length + 1) c4).ownBlock = (bval bs nb b).ownBlock ∨ (Value.slice A4 ((bucket nb b).length + 1) c4).ownBlock = some (w.alloc o).heap.size) :
    FX u g LL (nb + 1) LH m AL cL vs (fun i => if i = b then (A4, c4) else bs i) lo hi (w2.setCell ⟨g, 97 + b, none⟩ (.slice A4 ((bucket nb b).length + 1) c4)) := by
  have hf : Fr w w2 (fun k => (bval bs nb b).ownBlock = some k) := ((Fr.refl w _).alloc o).grown hg (fun k e _ => e)
  have hb2 : Blk w2 g 58 _ := h.blk.fr hf (own_ne_blk (h.bkt b hb) h.blk (by decide))
  have hf2 : Fr w2 (w2.setCell ⟨g, 97 + b, none⟩ (.slice A4 ((bucket nb b).length + 1) c4)) (· = g) := Fr.one w2 g _ _
  have hlen : (bucket (nb + 1) b).length = (bucket nb b).length + 1 := by rw [bucket_succ, if_pos hbn]; simp
  have hval : ∀ b', bval (fun i => if i = b then (A4, c4) else bs i) (nb + 1) b' = if b' = b then .slice A4 ((bucket nb b).length + 1) c4 else bval bs nb b' := fun b' => by
    by_cases e : b' = b
    · subst e
      simp only [bval, if_true, hlen]
    · simp only [bval, if_neg e]
      rw [bucket_succ, if_neg (by omega), List.append_nil]
  have hints : ∀ b', ints (bucket (nb + 1) b') = if b' = b then ints (bucket nb b) ++ [.int .i64 (nb : Int)] else ints (bucket nb b') := fun b' => by
    by_cases e : b' = b
    · subst e
      rw [if_pos rfl, bucket_succ, if_pos hbn, ints, List.map_append]
      rfl
    · rw [if_neg e, bucket_succ, if_neg (by omega), List.append_nil]
  refine ⟨?_, h.ge, ?_, fun b' hb8 => ?_, fun b' b'' k h1 h2 hne hk => ?_, h.small, h.has, ?_⟩
  · have h1 := hb2.set (97 + b) (.slice A4 ((bucket nb b).length + 1) c4)
    rw [fcells_set_bucket b hb] at h1
    have e : (bval (fun i => if i = b then (A4, c4) else bs i) (nb + 1)) = fun i => if i = b then .slice A4 ((bucket nb b).length + 1) c4 else bval bs nb i := funext hval
    rw [e]
    exact h1
  · have h3 := h.list.fr hf (fun k hk e => own_apart h.list.row (h.bkt b hb) (by decide) k hk e) (fun A1 n1 c1 xs k h2 hk e => own_apart h2 (h.bkt b hb) (by decide) k hk e)
    exact h3.fr hf2 (fun k hk e => by subst e; exact own_ne_blk h3.row hb2 (by decide) hk) (fun A1 n1 c1 xs k h2 hk e => by subst e; exact own_ne_blk h2 hb2 (by decide) hk)
  · rw [hval, hints]
    by_cases e : b' = b
    · subst e
      rw [if_pos rfl, if_pos rfl, hlen]
      exact own_fr ho hf2 (fun k hk e => by subst e; exact own_ne_blk ho hb2 (by decide) hk)
    · rw [if_neg e, if_neg e, bucket_succ, if_neg (by omega), List.append_nil]
      have h3 := own_fr (h.bkt b' hb8) hf (fun k hk e2 => h.apart b' b k hb8 hb e hk e2)
      exact own_fr h3 hf2 (fun k hk e => by subst e; exact own_ne_blk h3 hb2 (by decide) hk)
  · rw [hval] at hk
    rw [hval]
    by_cases e1 : b' = b
    · subst e1
      rw [if_pos rfl] at hk
      rw [if_neg (Ne.symm hne)]
      rcases hat with h5 | h5
      · exact h.apart b' b'' k h1 h2 hne (h5 ▸ hk)
      · intro e2
        rw [h5] at hk
        have h6 := Option.some.inj hk
        have h7 := (own_block (h.bkt b'' h2) k e2).2
        simp at h6
        omega
    · rw [if_neg e1] at hk
      by_cases e2 : b'' = b
      · subst e2
        rw [if_pos rfl]
        rcases hat with h5 | h5
        · rw [h5]; exact h.apart b' b'' k h1 h2 hne hk
        · rw [h5]
          intro e3
          have h6 := Option.some.inj e3
          have h7 := (own_block (h.bkt b' h1) k hk).2
          simp at h6
          omega
      · rw [if_neg e2]
        exact h.apart b' b'' k h1 h2 hne hk
  · exact (h.below.trans (hf.below (fun k e => (own_block (h.bkt b hb) k e).1) h.below.size)).trans (hf2.below (fun k e => by rw [e]; exact h.ge) (Nat.le_trans h.below.size hf.size))
end
theorem FX.filt {u w : World} {g cL : Nat} {Ls : List T} {AL : Option Addr} {vs : List Value} {bs : Bs} {lo hi : Mask} (h : FX u g Ls Ls.length Ls (mostOf Ls) AL cL vs bs lo hi w) : Filt u g Ls AL cL vs bs lo hi w :=
  ⟨h.blk, h.ge, h.list, h.bkt, h.apart, h.small, h.has, h.below⟩
theorem fx_start {u u5 : World} (hb : Below u.heap.size u u5) : FX u u5.heap.size [] 0 [] 0 none 0 [] (fun _ => (none, 0)) (fun _ _ => 0) (fun _ _ => 0) (u5.alloc (.cells (fcells (.slice none 0 0) (fun _ _ => 0) (fun _ _ => 0) (bval (fun _ => (none, 0)) 0) (0 : Int)) 58)) :=
  ⟨Blk.new u5 _ _, hb.size, ⟨World.ownsRow_nil _ _ _ _, rfl, fun i l h => by simp at h⟩, fun b _ => World.ownsRow_nil _ _ _ _, fun b b' k _ _ _ hk => by simp [bval, Value.ownBlock] at hk, ⟨fun _ _ _ _ => (by decide : (0 : Nat) < 256), fun _ _ _ _ => (by decide : (0 : Nat) < 256)⟩, fun i h => by simp at h, hb.alloc hb.size _⟩

theorem run_max2 (P : Program) (ats : Array TypeId) (t : TypeId) (a b : Nat) (w : World) : (Builtin.max_ ats t #[.int .i64 (a : Int), .int .i64 (b : Int)]).run P w = .ok (.int .i64 ((max a b : Nat) : Int)) w := by
  by_cases h : a < b
  · have h1 : (a : Int) < (b : Int) := by omega
    simp [Builtin.max_, Builtin.max2, h1]; omega
  · have h1 : ¬ (a : Int) < (b : Int) := by omega
    simp [Builtin.max_, Builtin.max2, h1]; omega
theorem mod8_of (i : Nat) : ∃ b : Nat, (i : Int).tmod 8 = (b : Int) ∧ b < 8 ∧ i % 8 = b := ⟨i % 8, by rw [Int.tmod_eq_emod_of_nonneg (by omega)]; omega, Nat.mod_lt _ (by decide), rfl⟩
def Mid2 (u : World) (g : Nat) (LL : List T) (nb : Nat) (LH : List T) (m : Nat) (AL : Option Addr) (cL : Nat) (vs : List Value) (lo hi : Mask) (w : World) : Prop := ∃ bs, FX u g LL nb LH m AL cL vs bs lo hi w
def Mid1 (u : World) (g : Nat) (Ls : List T) (l : T) (nb m : Nat) (bs : Bs) (lo hi : Mask) (w : World) : Prop := ∃ AL cL vs, FX u g (Ls ++ [l]) nb Ls m AL cL vs bs lo hi w
def FNewIs (Ls : List T) (u : World) (e : Ending) (w' : World) : Prop :=
  (checkNo Ls ≠ 0 ∧ e = .returned (.tuple #[.pointer none, .int .i64 (checkNo Ls : Int)]) ∧ u = w') ∨
  (checkNo Ls = 0 ∧ ∃ (g : Nat) (AL : Option Addr) (cL : Nat) (vs : List Value) (bs : Bs) (lo hi : Mask), e = .returned (.tuple #[.pointer (some ⟨g, 0, none⟩), .int .i64 0]) ∧ Filt u g Ls AL cL vs bs lo hi w')

set_option maxRecDepth 10000 in
set_option maxHeartbeats 1000000 in
theorem fnew_any {u : World} {len cap : Nat} {a : Option Addr} {Ls : List T} (h : Texts u u.heap.size a len cap Ls) :
    Calls Try.prog 10 #[.slice a len cap] u (FNewIs Ls u) := by
  obtain ⟨i1, hi1, hy0, hy1, hy2⟩ := info_parts info_bytes
  obtain ⟨i0, hi0, hz0, hz1, hz2⟩ := info_parts info_int
  have HT := hide h
  have hct := h.count
  have hN := new_any h
  have HN := hide hN
  clear h hN
  go_enter Try.func10, Try.ntmps10
  go_wp2_with fail
  refine HN.out.mono ?_
  rintro e u5 (⟨hc, rfl, rfl⟩ | ⟨hc, g, ns, ad, cn, rfl, hM, hG, hnl⟩)
  · obtain ⟨N, hcn⟩ : ∃ N, checkNo Ls = N := ⟨_, rfl⟩
    have HCN := hide hcn
    rw [hcn] at hc ⊢
    have hci : ((N : Int) == 0) = false := beq_eq_false_iff_ne.2 (by omega)
    have hcj : ((N : Int) != 0) = true := by rw [bne, hci]; rfl
    have HC := hide hc
    clear HN hcn hc
    go_wp2_with fail
    go_ret2
    exact .inl ⟨by rw [HCN.out]; exact HC.out, by rw [HCN.out]; rfl, rfl⟩
  · have HC := hide hc
    have HB := hide hM.below
    clear hc hM hG hnl HN
    go_wp2_with fail
    have hf0 := fx_start HB.out
    generalize hq : u5.alloc (.cells _ _) = w6
    rw [show u5.alloc (.cells (fcells (.slice none 0 0) (fun _ _ => 0) (fun _ _ => 0) (bval (fun _ => (none, 0)) 0) (0 : Int)) 58) = w6 by rw [← hq]; kernel_rfl] at hf0
    clear hq
    go_loopw [21] (fun iv wr => ∃ (i : Nat) (AL : Option Addr) (cL : Nat) (vs : List Value) (bs : Bs) (lo hi : Mask), iv = .int .i64 i ∧ i ≤ len ∧ FX u u5.heap.size (Ls.take i) i (Ls.take i) (mostOf (Ls.take i)) AL cL vs bs lo hi wr) (fun iv _ => len - (intOf iv).toNat)
    case atStart => exact ⟨0, _, _, _, _, _, _, rfl, by omega, hf0⟩
    case round =>
      clear hf0
      obtain ⟨w0, rfl⟩ : ∃ w0, w0 = wr := ⟨_, rfl⟩
      obtain ⟨i, AL, cL, vs, bs, lo, hi, rfl, hi', hfx⟩ := hrel
      have HFX := hide hfx
      clear hfx
      have hli : (Ls.take i).length = i := by rw [List.length_take]; omega
      by_cases hlt : i < len
      · obtain ⟨ad, l, A1, c1, rfl, hadb, hl, hcl0, hrd0⟩ := HT.out.at_ hlt
        have hcl := (HFX.out.below.cell (p := ad.add i) (by rw [add_block]; exact hadb)).trans hcl0
        have hrd := hrd0.below HFX.out.below
        have HRD := hide hrd0
        clear hcl0 hrd0
        have hcs := checkNo_0 HC.out
        have hll := hcs.2.2.1 l (mem_of hl)
        have hi256 : i < 256 := by omega
        have hc0 : w0.cell? ⟨u5.heap.size, 0, none⟩ = some (.slice AL i cL) := by
          have h := HFX.out.blk.at_ fcells_list
          rwa [hli] at h
        have hlow : Below u.heap.size u w0 := HFX.out.below
        have hsz0 : u.heap.size ≤ w0.heap.size := hlow.size
        have HLI := hide hli
        have HGL := hide HFX.out.blk.lt
        have hclo := clone_any (w := w0.drew) (((hrd.below (Below.refl _ _)).more (B' := w0.heap.size) hlow.size).drew) (by omega)
        have HCL := hide hclo
        have HL := hide hl
        have hrow := HFX.out.list.row
        rw [hli] at hrow
        have HROW := hide hrow
        clear hclo hrd hl hrow hli
        go_wp2_with fail
        go_upto_region 8 with fail
        go_cut [] (fun wx => Mid1 u u5.heap.size (Ls.take i) l i (mostOf (Ls.take i)) bs lo hi wx)
        case first =>
          go_region_law (first
            | (go_at_call 25; (with_reducible refine HCL.out.mono ?_); rintro e w2 ⟨A2, c2, rfl, ho2, hb2⟩; have hk2 := (hb2.cell (p := ⟨u5.heap.size, 0, none⟩) HGL.out).trans hc0; have hk3 := fun o => (World.cell?_alloc_lt w2 o ⟨u5.heap.size, 0, none⟩ (Nat.lt_of_lt_of_le HGL.out hb2.size)).trans hk2; have HO2 := hide (show _ ∧ _ from ⟨ho2, hb2⟩); clear ho2 hb2)
            | (go_simp; go_at_call 25; (with_reducible refine HCL.out.mono ?_); rintro e w2 ⟨A2, c2, rfl, ho2, hb2⟩; have hk2 := (hb2.cell (p := ⟨u5.heap.size, 0, none⟩) HGL.out).trans hc0; have hk3 := fun o => (World.cell?_alloc_lt w2 o ⟨u5.heap.size, 0, none⟩ (Nat.lt_of_lt_of_le HGL.out hb2.size)).trans hk2; have HO2 := hide (show _ ∧ _ from ⟨ho2, hb2⟩); clear ho2 hb2)
            | (refine step_append_rd _ (by rfl) (.tmp 30) (.tmp 33) 22 (by rfl) u.heap.size 32 i1 _ 1 24 Try.underlying22 hi1 hy0 hy1 hy2 rfl (by omega) (.slice AL i cL) i vs (by rfl) ((own_over (w := w0.drew) HROW.out HO2.out.2).alloc _) (w2.heap.size + 1) (some ⟨w2.heap.size, 0, none⟩) 1 1 [.slice A2 l.length c2] (by rfl) (Rd.one w2 _ _) (by simp [Value.oneCell']) (by simp only [maxLen]; omega) (by omega) (by simp; have := HO2.out.2.size; simp at this; omega) ?_; intro A4 c4 w4 hown4 hg4 hat4; have hfx2 := HFX.out.over (Bl ((Below.refl w0.heap.size w0).drew) HO2.out.2); have hbk := (hfx2.blk.alloc _).grown hg4 (own_ne_blk (own_over (w := w0.drew) HROW.out HO2.out.2) hfx2.blk (by decide)); have hk4 := hbk.at_ fcells_list; have hf4 := hbk.frozen 0; have hp := hfx2.push_list (l := l) (own_lower HO2.out.1 hsz0) (by rw [HLI.out]; exact hown4) (by rw [HLI.out]; exact hg4); rw [HLI.out] at hp; have HP := hide hp; clear hown4 hg4 hat4 hfx2 hbk hp))
          all_goals
            go_wp2_with fail
            go_meet
            exact ⟨A4, c4, _, HP.out⟩
        case rest =>
          obtain ⟨w8, rfl⟩ : ∃ w8, w8 = wc := ⟨_, rfl⟩
          obtain ⟨AL2, cL2, vs2, h8⟩ := hcut
          have HX8 := hide h8
          clear h8 HCL HROW HFX hc0
          have hm8 := HX8.out.blk.at_ fcells_most
          have hmf := HX8.out.blk.frozen 105
          have hmx := fun w => run_max2 Try.prog #[3, 3] 3 (mostOf (Ls.take i)) l.length w
          have h9 := HX8.out.most (max (mostOf (Ls.take i)) l.length)
          have H9 := hide h9
          clear h9
          go_wp2_with fail
          have h9 := H9.out
          clear H9 HX8 hm8 hmf hmx
          generalize World.setCell _ _ _ = w9 at h9 ⊢
          obtain ⟨b, hb1, hb8, hb3⟩ := mod8_of i
          have hrow := h9.bkt b hb8
          rw [bval] at hrow
          have hcb := h9.blk.at_ (fcells_bucket b hb8)
          rw [bval] at hcb
          have hcb2 := fun o => (World.cell?_alloc_lt w9 o ⟨u5.heap.size, 97 + b, none⟩ h9.blk.lt).trans hcb
          have hbl := bucket_len i b
          have HROW := hide hrow
          have H9 := hide h9
          have HB3 := hide hb3
          have hsz9 : u.heap.size ≤ w9.heap.size := h9.below.size
          have hb0 : (0 : Int) ≤ (b : Int) := by omega
          have hbi : (b : Int) < 8 := by omega
          clear h9 hrow hb3
          go_upto_region 10 with fail
          go_cut [] (fun wx => Mid2 u u5.heap.size (Ls.take i ++ [l]) (i + 1) (Ls.take i) (max (mostOf (Ls.take i)) l.length) AL2 cL2 vs2 lo hi wx)
          case first =>
            go_region_law (refine step_append_rd _ (by rfl) (.tmp 56) (.tmp 58) 46 (by rfl) u.heap.size 3 i0 _ 1 8 Try.underlying46 hi0 hz0 hz1 hz2 rfl (by omega) (.slice (bs b).1 (bucket i b).length (bs b).2) (bucket i b).length (ints (bucket i b)) (by rfl) ((HROW.out.alloc _).drew) (w9.heap.size + 1) (some ⟨w9.heap.size, 0, none⟩) 1 1 [.int .i64 (i : Int)] (by rfl) ((Rd.one w9 _ _).drew) (by simp [Value.oneCell']) (by simp only [maxLen]; omega) (by omega) (by simp; omega) ?_; intro A4 c4 w4 hown4 hg4 hat4; have hbk := ((H9.out.blk.alloc _).drew).grown hg4 (own_ne_blk HROW.out H9.out.blk (by decide)); have hk4 := hbk.at_ (fcells_bucket b hb8); have hf4 := hbk.frozen (97 + b); have hp := H9.out.push_bucket hb8 HB3.out hown4 ⟨hg4.os, hg4.tape, hg4.output, hg4.size, hg4.block⟩ hat4; have HP := hide hp; clear hown4 hg4 hat4 hbk hp)
            all_goals
              go_wp2_with fail
              go_meet
              exact ⟨_, HP.out⟩
          case rest =>
            obtain ⟨w10, rfl⟩ : ∃ w10, w10 = wc := ⟨_, rfl⟩
            obtain ⟨bs2, h10⟩ := hcut
            have H10 := hide h10
            clear h10 H9 HROW hcb hcb2
            have hqb : (2 ^ b : Nat) < 256 := Nat.lt_of_lt_of_le (Nat.pow_lt_pow_right (by decide) hb8) (by decide)
            have hno := note_any (b := b) H10.out.blk (HRD.out.below H10.out.below) H10.out.ge H10.out.small.1 H10.out.small.2 hqb (by rw [Nat.testBit_two_pow_self])
            have hqi : (2 : Int) ^ b % 256 = ((2 ^ b : Nat) : Int) := by
              have e : ((2 ^ b : Nat) : Int) = (2 : Int) ^ b := by simp
              rw [← e]
              exact Int.emod_eq_of_lt (Int.natCast_nonneg _) (Int.ofNat_lt.2 hqb)
            have HNO := hide hno
            have e1 : IntKind.i64.wrap ((i : Int) + 1) = (i : Int) + 1 := IntWalk.i64_in _ (by omega)
            have HTK : Hid (Ls.take (i + 1) = Ls.take i ++ [l]) := hide (take_next HL.out)
            clear hno
            go_wp2_with fail
            rw [hqi]
            refine HNO.out.mono ?_
            rintro e w11 ⟨rfl, lo', hi3, hnt⟩
            have h11 : FX u u5.heap.size (Ls.take (i + 1)) (i + 1) (Ls.take (i + 1)) (mostOf (Ls.take (i + 1))) AL2 cL2 vs2 bs2 lo' hi3 w11 := by
              rw [HTK.out, mostOf_snoc]
              refine H10.out.own_step hnt.fr hnt.blk hnt.small (fun j hj => ?_)
              rcases Nat.lt_or_ge j i with e | e
              · have hlt3 : j < (Ls.take i).length := by rw [HLI.out]; exact e
                have hg : (Ls.take i ++ [l]).getD j [] = (Ls.take i).getD j [] := by
                  rw [List.getD_eq_getElem?_getD, List.getD_eq_getElem?_getD, List.getElem?_append_left hlt3]
                rw [hg]
                exact (H10.out.has j hlt3).grow hnt.grow.1 hnt.grow.2
              · have hje : j = i := by rw [List.length_append, HLI.out] at hj; simp at hj; omega
                have hg : (Ls.take i ++ [l]).getD j [] = l := by
                  rw [List.getD_eq_getElem?_getD, List.getElem?_append_right (by rw [HLI.out]; omega), HLI.out, hje]; simp
                rw [hg, hje, HB3.out]
                exact hnt.has
            have H11 := hide h11
            clear h11 hnt HNO H10
            go_wp2_with fail
            go_roundw
            case rel => exact ⟨i + 1, AL2, cL2, vs2, bs2, lo', hi3, by go_num, by omega, H11.out⟩
            case measure => simp [intOf]; omega
      · obtain rfl : i = len := by omega
        have hfin := HFX.out
        rw [show Ls.take i = Ls by rw [← hct, List.take_length]] at hfin
        have HFI := hide (show Filt u u5.heap.size Ls AL cL vs bs lo hi w0 from FX.filt (by rw [hct]; exact hfin))
        clear hfin HFX hli
        go_wp2_with fail
        go_ret2
        exact .inr ⟨HC.out, u5.heap.size, AL, cL, vs, bs, lo, hi, rfl, HFI.out⟩
end Go.Proofs.Ytkjpcincjoaeeaa.TW
