/- The stream over a filter in memory; the walks of Stream, Kept, Feed. -/
import Derived.Test.YtkjpcincjoaeeaaTFeedM
import Derived.BigQuiet
import Derived.Deep.QuietTactic
namespace Go.Proofs.Ytkjpcincjoaeeaa.TW
open Go.ChangeShapes Go.WideShapes Go.ChangeAt Go.RowKit
open Go.Proofs.Ytkjpcincjoaeeaa.B Go.Proofs.Ytkjpcincjoaeeaa.AM Go.Proofs.Ytkjpcincjoaeeaa.AW Go.Proofs.Ytkjpcincjoaeeaa.TM
set_option linter.unusedVariables false

/-- An owned row stays where another one grows. -/
theorem own_grown_apart {w w' : World} {b' s' n' : Nat} {e' : TypeId} {v v' : Value} {xs' : List Value} {o : Obj} (h' : w.ownsRow b' e' s' v' n' xs') (hap : ∀ k, v'.ownBlock = some k → v.ownBlock ≠ some k) (hg : (w.alloc o).grownBy w' v.ownBlock) : w'.ownsRow b' e' s' v' n' xs' :=
  own_fr h' (((Fr.refl w (fun k => v.ownBlock = some k)).alloc o).grown hg (fun k e _ => e)) (fun k hk e => hap k hk e)
theorem apart_next {w : World} {b' s' n' : Nat} {e' : TypeId} {v v2 v' : Value} {xs' : List Value} {o : Obj} (h' : w.ownsRow b' e' s' v' n' xs') (hap : ∀ k, v'.ownBlock = some k → v.ownBlock ≠ some k) (hat : v2.ownBlock = v.ownBlock ∨ v2.ownBlock = some (w.alloc o).heap.size) : ∀ k, v'.ownBlock = some k → v2.ownBlock ≠ some k := fun k hk e => by
  rcases hat with h1 | h1
  · exact hap k hk (h1 ▸ e)
  · rw [h1] at e
    have h2 := Option.some.inj e
    have h3 := (own_block h' k hk).2
    simp at h2
    omega
theorem _root_.Go.Proofs.Ytkjpcincjoaeeaa.AW.Drew.blk {w w' : World} {g : Nat} {t : TypeId} {cs : Array Value} (h : Drew w w') (hb : Blk w g t cs) : Blk w' g t cs := by
  obtain ⟨m, rfl⟩ := h
  exact hb
/-- A stream. -/
structure Strm (w : World) (s g base m : Nat) (p : T) (A : Option Addr) (c : Nat) : Prop where
  blk : Blk w s 62 #[.pointer (some ⟨g, 0, none⟩), .slice A (tailOf m p).length c, .int .i64 (p.length : Int)]
  kept : w.ownsRow base 5 1 (.slice A (tailOf m p).length c) (tailOf m p).length (u8s (tailOf m p))
section
variable {u w w' : World} {s g base m c : Nat} {p : T} {A : Option Addr}
theorem Strm.over (h : Strm w s g base m p A c) (hb : Below w.heap.size w w') : Strm w' s g base m p A c := ⟨h.blk.below hb h.blk.lt, own_over h.kept hb⟩
theorem Strm.fr {s' : Nat} {cs : Array Value} (h : Strm w s g base m p A c) (hf : Fr w w' (· = s')) (hb : Blk w s' 62 cs) (hne : s ≠ s') : Strm w' s g base m p A c :=
  ⟨h.blk.fr hf hne, own_fr h.kept hf (fun k hk e => by subst e; exact own_ne_blk h.kept hb (by decide) hk)⟩
theorem Filt.fr {cL : Nat} {Ls : List T} {AL : Option Addr} {vs : List Value} {bs : Bs} {lo hi : Mask} {s' : Nat} {cs : Array Value} (h : Filt u g Ls AL cL vs bs lo hi w) (hf : Fr w w' (· = s')) (hb : Blk w s' 62 cs) (hu : u.heap.size ≤ s') : Filt u g Ls AL cL vs bs lo hi w' :=
  ⟨h.blk.fr hf (fun e => h.blk.ne hb (by decide) e), h.ge, h.list.fr hf (fun k hk e => by subst e; exact own_ne_blk h.list.row hb (by decide) hk) (fun A1 n1 c1 xs k h2 hk e => by subst e; exact own_ne_blk h2 hb (by decide) hk), fun b hb8 => own_fr (h.bkt b hb8) hf (fun k hk e => by subst e; exact own_ne_blk (h.bkt b hb8) hb (by decide) hk), h.apart, h.small, h.has, h.below.trans (hf.below (fun k e => by rw [e]; exact hu) h.below.size)⟩
theorem stream_any : Calls Try.prog 11 #[.pointer (some ⟨g, 0, none⟩)] w fun e w' => e = .returned (.pointer (some ⟨w.heap.size, 0, none⟩)) ∧ Strm w' w.heap.size g w.heap.size m [] none 0 ∧ Below w.heap.size w w' := by
  go_enter Try.func11, Try.ntmps11
  go_wp2_with fail
  go_ret
  exact ⟨rfl, ⟨Blk.new w _ _, World.ownsRow_nil _ _ _ _⟩, (Below.refl _ _).alloc (Nat.le_refl _) _⟩
theorem kept_any (h : Strm w s g base m p A c) : Calls Try.prog 15 #[.pointer (some ⟨s, 0, none⟩)] w fun e w' => e = .returned (.int .i64 ((tailOf m p).length : Int)) ∧ w = w' := by
  have hc := h.blk.at_ (i := 1) rfl
  clear h
  go_enter Try.func15, Try.ntmps15
  go_wp2_with fail
  go_ret
  exact ⟨rfl, rfl⟩
end
theorem feedGot_next {Ls : List T} {k x : T} {b n : Nat} {h : Nat × Nat} (hh : (scanTo Ls (k ++ x) (k ++ x).length)[n]? = some h) : feedGot Ls k b x (n + 1) = feedGot Ls k b x n ++ (if k.length < h.2 then [(h.1, b + h.2)] else []) := by
  obtain ⟨h1, h2⟩ := List.getElem?_eq_some_iff.1 hh
  rw [feedGot, List.take_succ_eq_append_getElem h1, h2, List.filter_append, List.map_append, feedGot]
  congr 1
  by_cases e : k.length < h.2
  · simp [e]
  · simp [e]
theorem run_max0 (P : Program) (ats : Array TypeId) (t : TypeId) (b : Int) (w : World) : (Builtin.max_ ats t #[.int .i64 0, .int .i64 b]).run P w = .ok (.int .i64 (if b > 0 then b else 0)) w := by
  simp [Builtin.max_, Builtin.max2]
theorem run_min2 (P : Program) (ats : Array TypeId) (t : TypeId) (a b : Nat) (w : World) : (Builtin.min_ ats t #[.int .i64 (a : Int), .int .i64 (b : Int)]).run P w = .ok (.int .i64 ((min a b : Nat) : Int)) w := by
  by_cases h : (b : Int) < a
  · simp [Builtin.min_, Builtin.min2, h]; omega
  · simp [Builtin.min_, Builtin.min2, h]; omega
def FeedIs (w : World) (s g base m : Nat) (Ls : List T) (p x : T) (e : Ending) (w' : World) : Prop :=
  ∃ A' c' A2 c2, e = .returned (.slice A' (feedOut Ls p x).length c') ∧ w'.ownsRow w.heap.size 51 2 (.slice A' (feedOut Ls p x).length c') (feedOut Ls p x).length (hitCells (feedOut Ls p x)) ∧ Strm w' s g base m (p ++ x) A2 c2 ∧ Fr w w' (· = s)

set_option maxRecDepth 10000 in
set_option maxHeartbeats 1000000 in
theorem feed_new {u w : World} {s g base cL c cx : Nat} {Ls : List T} {AL A Ax : Option Addr} {vs : List Value} {bs : Bs} {lo hi : Mask} {p x : T} (hF : Filt u g Ls AL cL vs bs lo hi w) (hS : Strm w s g base (mostOf Ls) p A c) (hx : Rd w w.heap.size 1 Ax x.length cx (u8s x))
    (hbase : base ≤ w.heap.size) (hus : u.heap.size ≤ s) (hn : Ls.length ≤ 300) (hlm : ∀ l ∈ Ls, l.length ≤ 200) (hl0 : ∀ l ∈ Ls, l ≠ []) (hp : p.length ≤ 100000000) (hxl : x.length ≤ 4000) :
    Calls Try.prog 12 #[.pointer (some ⟨s, 0, none⟩), .slice Ax x.length cx] w (FeedIs w s g w.heap.size (mostOf Ls) Ls p x) := by
  obtain ⟨i0, hi0, hz0, hz1, hz2⟩ := info_parts info_u8
  obtain ⟨i2, hi2, hy0, hy1, hy2⟩ := info_parts info_hit
  have hm200 : mostOf Ls ≤ 200 := mostOf_200 hlm
  have hkl := tailOf_len (mostOf Ls) p
  have hfe := feed_eq Ls p x
  have hsn := tailOf_snoc (mostOf Ls) p x
  obtain ⟨k, hk⟩ : ∃ k, tailOf (mostOf Ls) p = k := ⟨_, rfl⟩
  have hc0 := hS.blk.at_ (i := 0) rfl
  have hc1 := hS.blk.at_ (i := 1) rfl
  have hc2 := hS.blk.at_ (i := 2) rfl
  have hkept := hS.kept
  rw [hk] at hkl hfe hsn hc1 hkept
  have hk1 : k.length ≤ 200 := by omega
  have hk2 : k.length ≤ p.length := by omega
  have HKL := hide hkl
  have HS := hide hS
  have HK := hide hk
  have HF := hide hF
  have HX := hide hx
  have HKE := hide hkept
  have HFE := hide hfe
  have HSN := hide hsn
  have HLM := hide hlm
  have HL0 := hide hl0
  have HUS := hide hus
  have hcl := clone_any (Rd.of_own hkept) (by omega)
  have HCL := hide hcl
  clear hS hk hF hx hkept hfe hsn hlm hl0 hcl hkl
  go_enter Try.func12, Try.ntmps12
  go_wp2_with fail
  refine HCL.out.mono ?_
  rintro e w1 ⟨A1, c1, rfl, ho1, hb1⟩
  have H1 := hide (show _ ∧ _ from ⟨ho1, hb1⟩)
  clear ho1 hb1 HCL
  go_wp2_with (at_builtin; refine wpList_append_rd _ rfl (.tmp 14) (.tmp 15) _ rfl w.heap.size 5 i0 _ 1 1 Try.underlying32 hi0 hz0 hz1 hz2 rfl (by omega) (.slice A1 k.length c1) k.length (u8s k) rfl H1.out.1 w.heap.size Ax x.length cx (u8s x) rfl (HX.out.below H1.out.2) (u8s_one _) (by simp only [maxLen]; omega) (by omega) H1.out.2.size ?_; intro A2 c2 w2 hown2 hg2 hat2; have hb2 := H1.out.2.trans (below_grown H1.out.1 hg2 (Nat.le_refl _) H1.out.2.size); rw [← u8s_append] at hown2; have H2 := hide (show _ ∧ _ from ⟨hown2, hb2⟩); clear hown2 hg2 hat2 hb2)
  have hS2 := HS.out.over H2.out.2
  have hF2 := HF.out.over H2.out.2
  have d1 := hS2.blk.at_ (i := 1) rfl
  rw [HK.out] at d1
  have d2 := hS2.blk.at_ (i := 2) rfl
  have d0 := hS2.blk.at_ (i := 0) rfl
  obtain ⟨b, hb⟩ : ∃ b, p.length - k.length = b := ⟨_, rfl⟩
  have eb : IntKind.i64.wrap ((p.length : Int) - (k.length : Int)) = (b : Int) := by rw [show (p.length : Int) - (k.length : Int) = (b : Int) by omega]; exact IntWalk.i64_in _ (by omega)
  have hbl : b ≤ 100000000 := by omega
  have HBB := hide hb
  have HX2 := hide (show _ ∧ _ from ⟨hS2, hF2⟩)
  clear hS2 hF2 hb
  go_quiet (fail)
  go_wp2_with fail
  have hbd := bdrewN w2 nq
  have hw3 := H2.out.2.trans (hbd.mono H2.out.2.size)
  have ho3 := own_over H2.out.1 hbd
  have hS3 := HX2.out.1.over hbd
  have hF3 := HX2.out.2.over hbd
  generalize w2.drewN nq = w3 at *
  have hall : (k ++ x).length = k.length + x.length := List.length_append
  have hsc := fscan_any (t := k ++ x) (A := A2) (c := c2) hF3 (by rw [hall]; exact Rd.of_own ho3) hn (by omega) (fun l h => Nat.le_trans (HLM.out l h) (by omega)) HL0.out
  have hfl := scanTo_len Ls (k ++ x) (k ++ x).length hn
  have hfn := fun n h => feedGot_next (Ls := Ls) (k := k) (x := x) (b := b) (n := n) (h := h)
  obtain ⟨full, hfull⟩ : ∃ full, scanTo Ls (k ++ x) (k ++ x).length = full := ⟨_, rfl⟩
  have hfe := HFE.out
  rw [hfull] at hsc hfl hfn hfe
  rw [hall] at hsc hfl
  rw [HBB.out] at hfe
  have HSC := hide hsc
  have H3 := hide (show _ ∧ _ ∧ _ ∧ _ from ⟨hw3, ho3, hS3, hF3⟩)
  have HFN := hide hfn
  have HFE2 := hide hfe
  have HALL := hide hall
  have HFU := hide hfull
  clear hsc hw3 ho3 hS3 hF3 hfn hfe hall hfull hbd HX2 HFE
  refine HSC.out.mono ?_
  rintro e w5 ⟨A5, c5, rfl, ho5, hb5⟩
  have hsz3 : w.heap.size ≤ w3.heap.size := H3.out.1.size
  have H5 := hide (show _ ∧ _ ∧ _ from ⟨own_lower ho5 hsz3, own_over H3.out.2.1 hb5, H3.out.1.trans (hb5.mono hsz3)⟩)
  clear ho5 hb5 HSC
  go_wp2_with fail
  go_loopw [4, 34] (fun ov nv wr => ∃ (n : Nat) (out : HitL) (Ao : Option Addr) (co : Nat), ov = .slice Ao out.length co ∧ nv = .int .i64 n ∧ n ≤ full.length ∧ out = feedGot Ls k b x n ∧ out.length ≤ n ∧ wr.ownsRow w.heap.size 51 2 (.slice Ao out.length co) out.length (hitCells out) ∧ wr.ownsRow w.heap.size 51 2 (.slice A5 full.length c5) full.length (hitCells full) ∧ (∀ k, (Value.slice A5 full.length c5).ownBlock = some k → (Value.slice Ao out.length co).ownBlock ≠ some k) ∧ wr.ownsRow w.heap.size 5 1 (.slice A2 (k.length + x.length) c2) (k.length + x.length) (u8s (k ++ x)) ∧ Below w.heap.size w wr) (fun _ nv _ => full.length - (intOf nv).toNat)
  case atStart => exact ⟨0, [], none, 0, rfl, rfl, by omega, by simp [feedGot], by simp, World.ownsRow_nil _ _ _ _, H5.out.1, fun k _ e => by simp [Value.ownBlock] at e, H5.out.2.1, H5.out.2.2⟩
  case round =>
    clear H5 H3
    obtain ⟨w0, rfl⟩ : ∃ w0, w0 = wr := ⟨_, rfl⟩
    obtain ⟨n, out, Ao, co, rfl, rfl, hnf, hout, hol, hown, hfr, hap, hall, hbel⟩ := hrel
    have HOut := hide hout
    have HI := hide (show _ ∧ _ ∧ _ ∧ _ ∧ _ from ⟨hown, hfr, hap, hall, hbel⟩)
    have HAP := hide hap
    clear hout hown hfr hap hall hbel
    by_cases hlt : n < full.length
    · obtain ⟨h, hh⟩ : ∃ h, full[n]? = some h := ⟨_, List.getElem?_eq_getElem hlt⟩
      obtain ⟨h1, h2⟩ := h
      obtain ⟨af, rfl⟩ := own_some HI.out.2.1 (by omega)
      have hcs := hitCells_at full n _ hh
      have k1 := (own_cell HI.out.2.1 _ _ hcs.1).1
      have k2 := (own_cell HI.out.2.1 _ _ hcs.2).1
      rw [add_lit1] at k2
      have e1 : IntKind.i64.wrap ((n : Int) + 1) = (n : Int) + 1 := IntWalk.i64_in _ (by omega)
      have hnx := HFN.out n _ hh
      have HNX := hide hnx
      have HH2 : Hid (h2 ≤ 4200) := hide (by have h9 := ((mem_scanTo Ls (k ++ x) (h1, h2) (k ++ x).length).1 (by rw [HFU.out]; exact List.mem_of_getElem? hh)).2.1; simp only at h9; rw [HALL.out] at h9; omega)
      clear hh hcs hnx
      have hal := HI.out.2.2.2.2.alloc HI.out.2.2.2.2.size (.cells #[.int .i64 (h1 : Int), .int .i64 (h2 : Int)] 51)
      have hs1 := (HS.out.over hal).blk.at_ (i := 1) rfl
      rw [HK.out] at hs1
      have hkh := (Blk.new w0 51 #[.int .i64 (h1 : Int), .int .i64 (h2 : Int)]).at_ (i := 1) (v := .int .i64 (h2 : Int)) rfl
      have HAL := hide hal
      clear hal
      go_wp2_with fail
      go_upto_region 6 with fail
      go_cut [45] (fun sv wx => sv = .bool (decide (k.length < h2)) ∧ Drew (w0.alloc (.cells #[.int .i64 (h1 : Int), .int .i64 (h2 : Int)] 51)) wx)
      case first =>
        by_cases hgt : k.length < h2
        · have hgi : (k.length : Int) < (h2 : Int) := by omega
          have HG := hide hgt
          clear hgt
          go_quiet (fail)
          go_wp2_with fail
          go_meet
          exact ⟨by simp [HG.out], ⟨_, rfl⟩⟩
        · have hgi : decide ((k.length : Int) < (h2 : Int)) = false := decide_eq_false (by omega)
          have HG := hide hgt
          clear hgt
          go_quiet (fail)
          go_wp2_with fail
          go_meet
          exact ⟨by simp [HG.out], ⟨_, rfl⟩⟩
      case rest =>
        obtain ⟨w6, rfl⟩ : ∃ w6, w6 = wc := ⟨_, rfl⟩
        obtain ⟨rfl, hdr⟩ := hcut
        have HD := hide (show _ ∧ _ ∧ _ ∧ _ ∧ _ from ⟨own_drew (HI.out.1.alloc _) hdr, own_drew (HI.out.2.1.alloc _) hdr, own_drew (HI.out.2.2.2.1.alloc _) hdr, HAL.out.trans (hdr.below.mono HAL.out.size), hdr.blk (Blk.new w0 51 #[.int .i64 (h1 : Int), .int .i64 (h2 : Int)])⟩)
        have q0 := HD.out.2.2.2.2.at_ (i := 0) (v := .int .i64 (h1 : Int)) rfl
        have q1 := HD.out.2.2.2.2.at_ (i := 1) (v := .int .i64 (h2 : Int)) rfl
        clear hdr HI hs1 hkh HAL k1 k2
        by_cases hgt : k.length < h2
        · rw [decide_eq_true hgt]
          have hnx := HNX.out
          rw [if_pos hgt] at hnx
          obtain ⟨out3, ho3, hol3⟩ : ∃ out3, out ++ [(h1, b + h2)] = out3 ∧ out.length + 1 = out3.length := ⟨_, rfl, by simp⟩
          have HNX2 : Hid (out3 = feedGot Ls k b x (n + 1)) := hide (by rw [hnx, ← ho3, HOut.out])
          have e2 : IntKind.i64.wrap ((b : Int) + (h2 : Int)) = (b : Int) + (h2 : Int) := IntWalk.i64_in _ (by have := HH2.out; omega)
          have hc3 : hitCells out ++ [.int .i64 (h1 : Int), .int .i64 ((b : Int) + (h2 : Int))] = hitCells out3 := by
            rw [← ho3, show ((b : Int) + (h2 : Int)) = ((b + h2 : Nat) : Int) by omega]; exact (hitCells_snoc out (h1, b + h2)).symm
          have HC3 := hide hc3
          have hsz6 : w.heap.size ≤ w6.heap.size := HD.out.2.2.2.1.size
          clear hgt hnx ho3 hc3
          go_wp2_with (at_builtin; refine wpList_append_rd _ rfl (.tmp 46) (.tmp 54) _ rfl w.heap.size 51 i2 _ 2 16 Try.underlying33 hi2 hy0 hy1 hy2 rfl (by omega) (.slice Ao out.length co) out.length (hitCells out) rfl (HD.out.1.alloc _) (w6.heap.size + 1) (some ⟨w6.heap.size, 0, none⟩) 1 1 [.int .i64 (h1 : Int), .int .i64 ((b : Int) + (h2 : Int))] rfl (rd_two w6 _ _ _) (by simp [Value.oneCell']) (by simp only [maxLen]; omega) (by omega) (by simp; omega) ?_; intro A8 c8 w8 hown8 hg8 hat8; have p1 := (HD.out.2.2.2.1.alloc hsz6 _).trans (below_grown (HD.out.1.alloc _) hg8 (Nat.le_refl _) (by simp; omega)); have p2 := own_grown_apart HD.out.2.1 HAP.out hg8; have p3 := apart_next HD.out.2.1 HAP.out hat8; have p4 := own_grown_other HD.out.1 HD.out.2.2.1 hg8 (by decide); rw [hol3] at hown8 p3; have H8 := hide (show _ ∧ _ ∧ _ ∧ _ ∧ _ from ⟨hown8, p2, p3, p4, p1⟩); clear hown8 hg8 hat8 p1 p2 p3 p4 q0 q1)
          go_roundw
          case rel => exact ⟨n + 1, out3, A8, c8, by rw [← hol3], by go_num, by omega, HNX2.out, by omega, by rw [← HC3.out]; exact H8.out.1, H8.out.2.1, H8.out.2.2.1, H8.out.2.2.2.1, H8.out.2.2.2.2⟩
          case measure => simp [intOf]; omega
        · rw [decide_eq_false hgt]
          have hnx := HNX.out
          rw [if_neg hgt, List.append_nil] at hnx
          have HNX2 : Hid (out = feedGot Ls k b x (n + 1)) := hide (by rw [hnx, HOut.out])
          clear hgt hnx
          go_wp2_with fail
          go_roundw
          case rel => exact ⟨n + 1, out, Ao, co, rfl, by go_num, by omega, HNX2.out, by omega, HD.out.1, HD.out.2.1, HAP.out, HD.out.2.2.1, HD.out.2.2.2.1⟩
          case measure => simp [intOf]; omega
    · obtain rfl : n = full.length := by omega
      have hout : out = feedOut Ls p x := by rw [HOut.out, HFE2.out]
      have HO2 := hide hout
      have hsl : s < w.heap.size := HS.out.blk.lt
      have hS0 := HS.out.over HI.out.2.2.2.2
      have d0 := hS0.blk.at_ (i := 0) rfl
      have d2 := hS0.blk.at_ (i := 2) rfl
      have df := hS0.blk.frozen 2
      have e9 : IntKind.i64.wrap ((p.length : Int) + (x.length : Int)) = (p.length : Int) + (x.length : Int) := IntWalk.i64_in _ (by omega)
      have hb9 := hS0.blk.set 2 (.int .i64 ((p.length : Int) + (x.length : Int)))
      have hf9 := Fr.one w0 s 2 (.int .i64 ((p.length : Int) + (x.length : Int)))
      have hF9 := (HF.out.over HI.out.2.2.2.2).fr hf9 hS0.blk HUS.out
      have hm9 := hF9.cell_most
      have d0b := hb9.at_ (i := 0) rfl
      have H9 := hide (show _ ∧ _ ∧ _ from ⟨hb9, hf9, own_fr HI.out.2.2.2.1 hf9 (fun k hk e => by subst e; exact own_ne_blk HI.out.2.2.2.1 hS0.blk (by decide) hk)⟩)
      clear hS0 hb9 hf9 hF9 hout
      obtain ⟨M1, hM1⟩ : ∃ M1, mostOf Ls - 1 = M1 := ⟨_, rfl⟩
      have hmx : ∀ w, (Builtin.max_ #[3, 3] 3 #[.int .i64 0, .int .i64 ((mostOf Ls : Int) - 1)]).run Try.prog w = .ok (.int .i64 (M1 : Int)) w := fun w => by
        rw [run_max0]
        congr 2
        split <;> omega
      have em : IntKind.i64.wrap ((mostOf Ls : Int) - 1) = (mostOf Ls : Int) - 1 := IntWalk.i64_in _ (by omega)
      obtain ⟨kp, hkp⟩ : ∃ kp, min (k.length + x.length) M1 = kp := ⟨_, rfl⟩
      have hmn : ∀ w, (Builtin.min_ #[3, 3] 3 #[.int .i64 ((k.length : Int) + (x.length : Int)), .int .i64 (M1 : Int)]).run Try.prog w = .ok (.int .i64 (kp : Int)) w := fun w => by
        have h := run_min2 Try.prog #[3, 3] 3 (k.length + x.length) M1 w
        rwa [hkp, Int.natCast_add] at h
      obtain ⟨j, hj⟩ : ∃ j, k.length + x.length - kp = j := ⟨_, rfl⟩
      have hkpl : kp ≤ k.length + x.length := by omega
      have ej : IntKind.i64.wrap ((k.length : Int) + (x.length : Int) - (kp : Int)) = (j : Int) := by rw [show (k.length : Int) + (x.length : Int) - (kp : Int) = (j : Int) by omega]; exact IntWalk.i64_in _ (by omega)
      have hjl : (j : Int) ≤ (k.length : Int) + (x.length : Int) := by omega
      have hrd := (Rd.of_own H9.out.2.2)
      have hrc := hrd.cap
      have hrm : c2 ≤ 9223372036854775807 := hrd.max
      have hcj : (k.length : Int) + (x.length : Int) ≤ (c2 : Int) := by omega
      have htl := hrd.tail8 (i := j) (by omega)
      have htail : (k ++ x).drop j = tailOf (mostOf Ls) (p ++ x) := by
        rw [HSN.out, HALL.out, hM1, hkp, hj]
      rw [htail] at htl
      have htn : k.length + x.length - j = (tailOf (mostOf Ls) (p ++ x)).length := by rw [← htail, List.length_drop, HALL.out]
      have HTN := hide htn
      rw [htn] at htl
      have hcle := clone_any htl (by rw [← htn]; omega)
      have HCLE := hide hcle
      have hjn : j ≤ k.length + x.length := by omega
      clear hM1 hkp hj htail htl hrd htn hcle
      have hfin : ∀ (w10 : World) (A10 : Option Addr) (c10 n : Nat), n = (tailOf (mostOf Ls) (p ++ x)).length → w10.ownsRow (w0.setCell ⟨s, 2, none⟩ (.int .i64 ((p.length : Int) + (x.length : Int)))).heap.size 5 1 (.slice A10 n c10) n (u8s (tailOf (mostOf Ls) (p ++ x))) →
          Below (w0.setCell ⟨s, 2, none⟩ (.int .i64 ((p.length : Int) + (x.length : Int)))).heap.size (w0.setCell ⟨s, 2, none⟩ (.int .i64 ((p.length : Int) + (x.length : Int)))) w10 → FeedIs w s g w.heap.size (mostOf Ls) Ls p x (.returned (.slice Ao out.length co)) (w10.setCell ⟨s, 1, none⟩ (.slice A10 n c10)) := fun w10 A10 c10 n hn2 ho hb => by
        subst hn2
        have hs9 : w0.heap.size = (w0.setCell ⟨s, 2, none⟩ (.int .i64 ((p.length : Int) + (x.length : Int)))).heap.size := by simp [World.setCell]
        have hb10 := (H9.out.1.below hb H9.out.1.lt).set 1 (.slice A10 (tailOf (mostOf Ls) (p ++ x)).length c10)
        have hf10 := Fr.one w10 s 1 (.slice A10 (tailOf (mostOf Ls) (p ++ x)).length c10)
        have hbk10 := H9.out.1.below hb H9.out.1.lt
        have hfall : Fr w (w10.setCell ⟨s, 1, none⟩ (.slice A10 (tailOf (mostOf Ls) (p ++ x)).length c10)) (· = s) := (((Fr.new (S := (· = s)) HI.out.2.2.2.2).trans (H9.out.2.1.mono (fun k _ e => e))).trans (Fr.new (S := (· = s)) hb)).trans hf10
        have hout := own_fr (own_fr HI.out.1 H9.out.2.1 (fun k hk e => by subst e; exact own_ne_blk HI.out.1 (HS.out.over HI.out.2.2.2.2).blk (by decide) hk)) (Fr.new (S := fun _ => False) hb) (fun _ _ e => e)
        have hout2 := own_fr hout hf10 (fun k hk e => by subst e; exact own_ne_blk hout hbk10 (by decide) hk)
        rw [HO2.out] at hout2 ⊢
        refine ⟨Ao, co, A10, c10, rfl, hout2, ⟨?_, own_lower (own_fr ho hf10 (fun k hk e => by subst e; exact own_ne_blk ho hbk10 (by decide) hk)) (by have := HI.out.2.2.2.2.size; omega)⟩, hfall⟩
        have e : ((p ++ x).length : Int) = (p.length : Int) + (x.length : Int) := by simp
        rw [e]
        exact hb10
      have HFIN := hide hfin
      have hf1 := fun w10 (hb : Below (w0.setCell ⟨s, 2, none⟩ (.int .i64 ((p.length : Int) + (x.length : Int)))).heap.size (w0.setCell ⟨s, 2, none⟩ (.int .i64 ((p.length : Int) + (x.length : Int)))) w10) => H9.out.1.below hb H9.out.1.lt
      have HF1 := hide hf1
      clear hfin hf1
      by_cases hc2 : c2 = j
      · have hq := HCLE.out
        rw [if_pos hc2, ← HTN.out] at hq
        subst hc2
        have hz : k.length + x.length - c2 = 0 := by omega
        rw [Nat.sub_self, hz] at hq
        have HQ := hide hq
        have HZ := hide hz
        clear hq HCLE hz
        go_wp2_with fail
        refine HQ.out.mono ?_
        rintro e w10 ⟨A10, c10, rfl, ho10, hb10⟩
        have h10 := HF1.out w10 hb10
        have k1 := h10.at_ (i := 1) rfl
        have kf := h10.frozen 1
        have HFI := hide (HFIN.out w10 A10 c10 0 (by rw [← HTN.out, HZ.out]) ho10 hb10)
        clear h10 ho10 hb10 HQ HFIN
        go_wp2_with fail
        go_ret
        exact HFI.out
      · have hq := HCLE.out
        rw [if_neg hc2, ← HTN.out, Nat.mul_one] at hq
        have HQ := hide hq
        have hc2i : ((c2 : Int) == (j : Int)) = false := beq_eq_false_iff_ne.2 (by omega)
        clear hq HCLE
        go_wp2_with fail
        refine HQ.out.mono ?_
        rintro e w10 ⟨A10, c10, rfl, ho10, hb10⟩
        have h10 := HF1.out w10 hb10
        have k1 := h10.at_ (i := 1) rfl
        have kf := h10.frozen 1
        have HFI := hide (HFIN.out w10 A10 c10 (k.length + x.length - j) HTN.out ho10 hb10)
        clear h10 ho10 hb10 HQ HFIN
        go_wp2_with fail
        go_ret
        exact HFI.out
theorem feed_any {u w : World} {s g base cL c cx : Nat} {Ls : List T} {AL A Ax : Option Addr} {vs : List Value} {bs : Bs} {lo hi : Mask} {p x : T} (hF : Filt u g Ls AL cL vs bs lo hi w) (hS : Strm w s g base (mostOf Ls) p A c) (hx : Rd w w.heap.size 1 Ax x.length cx (u8s x))
    (hbase : base ≤ w.heap.size) (hus : u.heap.size ≤ s) (hn : Ls.length ≤ 300) (hlm : ∀ l ∈ Ls, l.length ≤ 200) (hl0 : ∀ l ∈ Ls, l ≠ []) (hp : p.length ≤ 100000000) (hxl : x.length ≤ 4000) :
    Calls Try.prog 12 #[.pointer (some ⟨s, 0, none⟩), .slice Ax x.length cx] w (FeedIs w s g base (mostOf Ls) Ls p x) :=
  (feed_new hF hS hx hbase hus hn hlm hl0 hp hxl).mono fun _ _ ⟨A', c', A2, c2, h1, h2, h3, h4⟩ => ⟨A', c', A2, c2, h1, h2, ⟨h3.blk, own_lower h3.kept hbase⟩, h4⟩
def FeedBoth (u w : World) (s g base cL : Nat) (Ls : List T) (AL : Option Addr) (vs : List Value) (bs : Bs) (lo hi : Mask) (p x : T) (e : Ending) (w' : World) : Prop :=
  ∃ A' c' A2 c2, e = .returned (.slice A' (feedOut Ls p x).length c') ∧ w'.ownsRow w.heap.size 51 2 (.slice A' (feedOut Ls p x).length c') (feedOut Ls p x).length (hitCells (feedOut Ls p x)) ∧ Strm w' s g base (mostOf Ls) (p ++ x) A2 c2 ∧ Filt u g Ls AL cL vs bs lo hi w' ∧ Fr w w' (· = s)
theorem feed_both {u w : World} {s g base cL c cx : Nat} {Ls : List T} {AL A Ax : Option Addr} {vs : List Value} {bs : Bs} {lo hi : Mask} {p x : T} (hF : Filt u g Ls AL cL vs bs lo hi w) (hS : Strm w s g base (mostOf Ls) p A c) (hx : Rd w w.heap.size 1 Ax x.length cx (u8s x))
    (hbase : base ≤ w.heap.size) (hus : u.heap.size ≤ s) (hn : Ls.length ≤ 300) (hlm : ∀ l ∈ Ls, l.length ≤ 200) (hl0 : ∀ l ∈ Ls, l ≠ []) (hp : p.length ≤ 100000000) (hxl : x.length ≤ 4000) :
    Calls Try.prog 12 #[.pointer (some ⟨s, 0, none⟩), .slice Ax x.length cx] w (FeedBoth u w s g base cL Ls AL vs bs lo hi p x) :=
  (feed_any hF hS hx hbase hus hn hlm hl0 hp hxl).mono fun _ _ ⟨A', c', A2, c2, h1, h2, h3, h4⟩ => ⟨A', c', A2, c2, h1, h2, h3, hF.fr h4 hS.blk hus, h4⟩
end Go.Proofs.Ytkjpcincjoaeeaa.TW
