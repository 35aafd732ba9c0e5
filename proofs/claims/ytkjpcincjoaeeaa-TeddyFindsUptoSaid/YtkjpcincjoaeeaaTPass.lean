/- The walk of the filter's pass. -/
import Derived.Test.YtkjpcincjoaeeaaTNote
import Derived.Deep.WholeRow
namespace Go.Proofs.Ytkjpcincjoaeeaa.TW
open Go.ChangeShapes Go.WideShapes Go.ChangeAt Go.RowKit
open Go.Proofs.Ytkjpcincjoaeeaa.LM Go.Proofs.Ytkjpcincjoaeeaa.B Go.Proofs.Ytkjpcincjoaeeaa.AM Go.Proofs.Ytkjpcincjoaeeaa.AW Go.Proofs.Ytkjpcincjoaeeaa.TM
open Go.Proofs.Ytkjpcincjoaeeaa.LW (load_rd pick_any store_any loadW)
set_option linter.unusedVariables false

/-- The masks' cells; one mask's. -/
def mcell (lo hi : Mask) (i : Nat) : Value := if i % 32 < 16 then .int .u8 (lo (i / 32) (i % 32) : Int) else .int .u8 (hi (i / 32) (i % 32 - 16) : Int)
def mcells (lo hi : Mask) : List Value := (List.range 96).map (mcell lo hi)
def onecells (lo hi : Mask) (k : Nat) : List Value := (List.range 32).map fun i => if i < 16 then .int .u8 (lo k i : Int) else .int .u8 (hi k (i - 16) : Int)
theorem index_mask (lo hi : Mask) (k : Nat) (h : k < 3) : ∀ w : World, (Instr.index 55 (.agg (mcells lo hi).toArray) (.int .i64 (k : Int))).run Try.prog w = .ok (.agg (onecells lo hi k).toArray) w :=
  match k, h with
  | 0, _ => fun _ => by kernel_rfl
  | 1, _ => fun _ => by kernel_rfl
  | 2, _ => fun _ => by kernel_rfl
theorem mcells_at {w : World} {g : Nat} {L : Value} {lo hi : Mask} {B : Nat → Value} {m : Int} (h : Blk w g 58 (fcells L lo hi B m)) : w.rangeAt g 1 (mcells lo hi) := fun j v hv => by
  have hj : j < 96 := by
    have := (List.getElem?_eq_some_iff.1 hv).1
    simpa [mcells] using this
  have e : v = mcell lo hi j := by
    simp [mcells, hj] at hv
    exact hv.symm
  rw [e]
  refine h.at_ ?_
  rw [fcells_at _ (by omega), fcell, if_neg (by omega), if_pos (by omega), Nat.add_sub_cancel_left]
  rfl
theorem info_masks : (Try.prog.info? 55).map (·.size) = some 96 := by kernel_rfl
theorem info_mask : (Try.prog.info? 54).map (·.size) = some 32 := by kernel_rfl
theorem info_16 : (Try.prog.info? 52).map (·.size) = some 16 := by kernel_rfl
theorem onecells_len (lo hi : Mask) (k : Nat) : (onecells lo hi k).length = 32 := by simp [onecells]
theorem mcells_len (lo hi : Mask) : (mcells lo hi).length = 96 := by simp [mcells]

theorem fr_setCells {a : World} {S : Nat → Prop} (b : Nat) (hS : b < a.heap.size → S b) : ∀ (vs : List Value) (o : Nat) (w : World), Fr a w S → Fr a (w.setCells b o vs) S
  | [], _, _, h => h
  | v :: vs, o, w, h => fr_setCells b hS vs (o + 1) _ (h.setCell (p := ⟨b, o, none⟩) hS v)
theorem there_new (w : World) (cs : Array Value) (t : TypeId) (n : Nat) (h : n ≤ cs.size) : (w.alloc (.cells cs t)).there w.heap.size 0 n := fun j hj => by
  have hb := Blk.new w t cs
  rw [Nat.zero_add]
  refine ⟨?_, hb.frozen j⟩
  rw [hb.cell, Array.getElem?_eq_getElem (by omega)]
  rfl
theorem after_store (w : World) (Z : Array Value) (t : TypeId) (C : List Value) (h : C.length ≤ Z.size) : Below w.heap.size w ((w.alloc (.cells Z t)).setCells w.heap.size 0 C.toArray.toList) ∧ ((w.alloc (.cells Z t)).setCells w.heap.size 0 C.toArray.toList).rangeAt w.heap.size 0 C := by
  refine ⟨(fr_setCells (S := fun k => k = w.heap.size) w.heap.size (fun e => rfl) _ _ _ ((Fr.refl w _).alloc _)).below (fun k e => by omega) (Nat.le_refl _), fun j v hv => ?_⟩
  have hj := (List.getElem?_eq_some_iff.1 hv).1
  have h1 := World.cell?_setCells_in w.heap.size C 0 (w.alloc (.cells Z t)) (fun j hj => by
    rw [Nat.zero_add, (Blk.new w t Z).cell, Array.getElem?_eq_getElem (by omega)]; rfl) j hj
  rw [h1, ← hv, List.getElem?_eq_getElem hj]
theorem there_blk {w : World} {g : Nat} {t : TypeId} {cs : Array Value} {n : Nat} (h : Blk w g t cs) (hn : n ≤ cs.size) : w.there g 0 n := fun j hj => by
  rw [Nat.zero_add]
  refine ⟨?_, h.frozen j⟩
  rw [h.cell, Array.getElem?_eq_getElem (by omega)]
  rfl
theorem set_eight {w : World} {g : Nat} {t : TypeId} {z0 z1 z2 z3 z4 z5 z6 z7 : Value} (v0 v1 v2 v3 v4 v5 v6 v7 : Value) (h : Blk w g t #[z0, z1, z2, z3, z4, z5, z6, z7]) :
    Blk ((((((((w.setCell ⟨g, 0, none⟩ v0).setCell ⟨g, 1, none⟩ v1).setCell ⟨g, 2, none⟩ v2).setCell ⟨g, 3, none⟩ v3).setCell ⟨g, 4, none⟩ v4).setCell ⟨g, 5, none⟩ v5).setCell ⟨g, 6, none⟩ v6).setCell ⟨g, 7, none⟩ v7) g t #[v0, v1, v2, v3, v4, v5, v6, v7] := by
  have h0 : Blk _ g t #[v0, z1, z2, z3, z4, z5, z6, z7] := h.set 0 v0
  have h1 : Blk _ g t #[v0, v1, z2, z3, z4, z5, z6, z7] := h0.set 1 v1
  have h2 : Blk _ g t #[v0, v1, v2, z3, z4, z5, z6, z7] := h1.set 2 v2
  have h3 : Blk _ g t #[v0, v1, v2, v3, z4, z5, z6, z7] := h2.set 3 v3
  have h4 : Blk _ g t #[v0, v1, v2, v3, v4, z5, z6, z7] := h3.set 4 v4
  have h5 : Blk _ g t #[v0, v1, v2, v3, v4, v5, z6, z7] := h4.set 5 v5
  have h6 : Blk _ g t #[v0, v1, v2, v3, v4, v5, v6, z7] := h5.set 6 v6
  exact h6.set 7 v7
theorem after_eight {a w : World} {g : Nat} {t : TypeId} {z0 z1 z2 z3 z4 z5 z6 z7 v0 v1 v2 v3 v4 v5 v6 v7 : Value} (h : Blk w g t #[z0, z1, z2, z3, z4, z5, z6, z7]) (hb : Below g a w) :
    Blk (w.setCells g 0 #[v0, v1, v2, v3, v4, v5, v6, v7].toList) g t #[v0, v1, v2, v3, v4, v5, v6, v7] ∧ Below g a (w.setCells g 0 #[v0, v1, v2, v3, v4, v5, v6, v7].toList) := by
  refine ⟨?_, hb.trans ((fr_setCells (S := fun k => k = g) g (fun _ => rfl) _ 0 w (Fr.refl w _)).below (fun k e => by omega) (Nat.le_of_lt h.lt))⟩
  simp only [World.setCells]
  exact set_eight v0 v1 v2 v3 v4 v5 v6 v7 h
theorem info_8 : (Try.prog.info? 63).map (·.size) = some 8 := by kernel_rfl
theorem arr8_congr {k : IntKind} {f f' : Nat → Int} (h : ∀ j, j < 8 → f j = f' j) : arr8 k f = arr8 k f' := by
  unfold arr8
  rw [h 0 (by omega), h 1 (by omega), h 2 (by omega), h 3 (by omega), h 4 (by omega), h 5 (by omega), h 6 (by omega), h 7 (by omega)]
def lowL (lo : Mask) (k : Nat) : List Value := (cellsOf .u8 16 (fun i => (lo k i : Int))).toList
theorem lowL_len (lo : Mask) (k : Nat) : (lowL lo k).length = 16 := by simp [lowL, cellsOf_size]
theorem one_low (lo hi : Mask) (k j : Nat) (v : Value) (h : (lowL lo k)[j]? = some v) : (onecells lo hi k)[j]? = some v := by
  have hj : j < 16 := by have := (List.getElem?_eq_some_iff.1 h).1; rwa [lowL_len] at this
  rw [lowL, Array.getElem?_toList, cellsOf_at _ _ _ _ hj] at h
  rw [← h]
  simp [onecells, hj, show j < 32 by omega]
theorem one_high (lo hi : Mask) (k j : Nat) (v : Value) (h : (lowL hi k)[j]? = some v) : (onecells lo hi k)[16 + j]? = some v := by
  have hj : j < 16 := by have := (List.getElem?_eq_some_iff.1 h).1; rwa [lowL_len] at this
  rw [lowL, Array.getElem?_toList, cellsOf_at _ _ _ _ hj] at h
  rw [← h]
  simp [onecells, show 16 + j < 32 by omega]
  intro e
  omega
theorem range_below {w w' : World} {b o : Nat} {cs : List Value} (h : w.rangeAt b o cs) (hb : Below w.heap.size w w') : w'.rangeAt b o cs := fun j v hv => (hb.cell (p := ⟨b, o + j, none⟩) (World.block_lt_of_cell? (h := h j v hv))).trans (h j v hv)
theorem one_one (lo hi : Mask) (k : Nat) : ((onecells lo hi k).toArray.all (·.oneCell')) = true := by
  rw [Array.all_eq_true]
  intro i hi
  simp only [onecells, List.getElem_toArray, List.getElem_map]
  split <;> rfl
set_option maxRecDepth 10000 in
set_option maxHeartbeats 1000000 in
theorem pass_any {w : World} {g c i : Nat} {L : Value} {lo hi : Mask} {B : Nat → Value} {m : Int} {t : T} {A : Option Addr} (hb : Blk w g 58 (fcells L lo hi B m)) (hr : Rd w w.heap.size 1 A t.length c (u8s t)) (hlo : Small lo) (hhi : Small hi) (hi3 : i ≤ 1000000000) :
    Calls Try.prog 27 #[.pointer (some ⟨g, 0, none⟩), .slice A t.length c, .int .i64 (i : Int)] w fun e w' => e = .returned (arr8 .u8 (fun k => (passTo lo hi t (i + k) 3 : Int))) ∧ Below w.heap.size w w' := by
  have HB := hide hb
  have HR := hide hr
  have hix := index_mask lo hi
  have hml := mcells_len lo hi
  obtain ⟨M, hM⟩ : ∃ M, mcells lo hi = M := ⟨_, rfl⟩
  rw [hM] at hix hml
  have HIX := hide hix
  have hrg : ∀ o, (w.alloc o).rangeAt g 1 M := fun o => by rw [← hM]; exact mcells_at (hb.alloc o)
  have HRG := hide hrg
  have him : (Try.prog.info? 55).map (·.size) = some M.length := by rw [hml]; exact info_masks
  have HIM := hide him
  clear hb hr hix hml hrg hM him
  go_enter Try.func27, Try.ntmps27
  go_wp2_with (refine wpList_load_mid rfl 55 (.tmp 13) rfl g 1 rfl M _ (HRG.out _) Try.underlying55 rfl HIM.out ?_)
  go_loopw [7, 15] (fun av kv wr => ∃ k : Nat, kv = .int .i64 k ∧ k ≤ 3 ∧ av = .int .u64 (W (allW lo hi t i k)) ∧ Blk wr w.heap.size 63 #[.int .u8 0, .int .u8 0, .int .u8 0, .int .u8 0, .int .u8 0, .int .u8 0, .int .u8 0, .int .u8 0] ∧ Below w.heap.size w wr) (fun _ kv _ => 3 - (intOf kv).toNat)
  case atStart => exact ⟨0, rfl, by omega, rfl, Blk.new w _ _, (Below.refl _ _).alloc (Nat.le_refl _) _⟩
  case round =>
    obtain ⟨k, rfl, hk, rfl, hblk, hbel⟩ := hrel
    have HBL := hide (show _ ∧ _ from ⟨hblk, hbel⟩)
    clear hblk hbel
    by_cases hlt : k < 3
    · have hix := HIX.out k hlt
      have e1 : IntKind.i64.wrap ((k : Int) + 1) = (k : Int) + 1 := IntWalk.i64_in _ (by omega)
      have e2 : IntKind.i64.wrap ((i : Int) + (k : Int)) = (i : Int) + (k : Int) := IntWalk.i64_in _ (by omega)
      obtain ⟨C, hC⟩ : ∃ C, onecells lo hi k = C := ⟨_, rfl⟩
      rw [hC] at hix
      have HC := hide hC
      clear hC
      have hcl : C.toArray.size = 32 := by rw [← HC.out]; simp [onecells]
      have hcm : (Try.prog.info? 54).map (·.size) = some C.toArray.size := by rw [hcl]; exact info_mask
      have hco : C.toArray.all (·.oneCell') = true := by rw [← HC.out]; exact one_one lo hi k
      have HCL := hide (show _ ∧ _ ∧ _ from ⟨hcl, hcm, hco⟩)
      clear hcl hcm hco
      have hld := fun (w' : World) (h : Below w.heap.size w w') => load_rd (HR.out.below h) ((i : Int) + (k : Int)) (by omega) (by omega)
      have HLD := hide hld
      clear hld
      go_wp2_with (refine wpList_store_mid rfl 54 (.tmp 9) (.tmp 18) rfl wr.heap.size 0 C.toArray rfl rfl (there_new wr _ _ _ (by rw [HCL.out.1]; decide)) HCL.out.2.1 HCL.out.2.2 ?_; have hst := after_store wr #[.int .u8 0, .int .u8 0, .int .u8 0, .int .u8 0, .int .u8 0, .int .u8 0, .int .u8 0, .int .u8 0, .int .u8 0, .int .u8 0, .int .u8 0, .int .u8 0, .int .u8 0, .int .u8 0, .int .u8 0, .int .u8 0, .int .u8 0, .int .u8 0, .int .u8 0, .int .u8 0, .int .u8 0, .int .u8 0, .int .u8 0, .int .u8 0, .int .u8 0, .int .u8 0, .int .u8 0, .int .u8 0, .int .u8 0, .int .u8 0, .int .u8 0, .int .u8 0] 54 C (by have := HCL.out.1; simp at this; simp [this]); generalize World.setCells _ _ _ _ = w2 at hst ⊢; have HST := hide hst; clear hst)
      have hb2 := HBL.out.2.trans (HST.out.1.mono HBL.out.2.size)
      have hlo2 : w2.rangeAt wr.heap.size 0 (lowL lo k) := fun j v hv => HST.out.2 j v (by rw [← HC.out]; exact one_low lo hi k j v hv)
      have hhi2 : w2.rangeAt wr.heap.size 16 (lowL hi k) := fun j v hv => by
        have h := HST.out.2 (16 + j) v (by rw [← HC.out]; exact one_high lo hi k j v hv)
        rwa [Nat.zero_add] at h
      have HL2 := hide (show _ ∧ _ ∧ _ ∧ _ from ⟨hb2, hlo2, hhi2, HBL.out.1.below HST.out.1 HBL.out.1.lt⟩)
      have hld := HLD.out w2 hb2
      have HLD2 := hide hld
      have hszr : wr.heap.size < w2.heap.size := by
        have hh := HST.out.2 0
        have h1 := World.block_lt_of_cell? (h := HST.out.2 0 (C[0]'(by have := HCL.out.1; simp at this; omega)) (List.getElem?_eq_getElem _))
        exact h1
      have HSZ := hide hszr
      clear hb2 hlo2 hhi2 hld HST HLD hix hszr
      refine HLD2.out.mono ?_
      rintro e w3 ⟨rfl, rfl⟩
      obtain ⟨v, hv⟩ : ∃ v, loadW t ((i : Int) + (k : Int)) = v := ⟨_, rfl⟩
      rw [hv]
      have HV := hide hv
      have hsh := W_shr4 v
      obtain ⟨Lo, hLo⟩ : ∃ Lo, lowL lo k = Lo := ⟨_, rfl⟩
      obtain ⟨Hi, hHi⟩ : ∃ Hi, lowL hi k = Hi := ⟨_, rfl⟩
      have kpl : ∀ W', Calls Try.prog 39 #[.agg Lo.toArray, .int .u64 (W v)] W' fun e w' => e = .returned (.int .u64 (W (pickW (lo k) v))) ∧ Below W'.heap.size W' w' := fun W' => by
        have h := pick_any (lo k) (hlo k hlt) v W'
        rw [← hLo, ← pickW_is (hlo k hlt), show (lowL lo k).toArray = cellsOf .u8 16 (fun i => (lo k i : Int)) by simp [lowL]]
        exact h
      have kph : ∀ W', Calls Try.prog 39 #[.agg Hi.toArray, .int .u64 (W (v >>> 4))] W' fun e w' => e = .returned (.int .u64 (W (pickW (hi k) (v >>> 4)))) ∧ Below W'.heap.size W' w' := fun W' => by
        have h := pick_any (hi k) (hhi k hlt) (v >>> 4) W'
        rw [← hHi, ← pickW_is (hhi k hlt), show (lowL hi k).toArray = cellsOf .u8 16 (fun i => (hi k i : Int)) by simp [lowL]]
        exact h
      have hrl : w2.drew.rangeAt wr.heap.size 0 Lo := hLo ▸ HL2.out.2.1
      have hrh : w2.drew.rangeAt wr.heap.size 16 Hi := hHi ▸ HL2.out.2.2.1
      have hll : (Try.prog.info? 52).map (·.size) = some Lo.length := by rw [← hLo, lowL_len]; exact info_16
      have hlh : (Try.prog.info? 52).map (·.size) = some Hi.length := by rw [← hHi, lowL_len]; exact info_16
      have hu16 := Try.underlying52
      have HAW : Hid (allW lo hi t i k &&& (pickW (lo k) v &&& pickW (hi k) (v >>> 4)) = allW lo hi t i (k + 1)) := hide (by rw [← HV.out]; rfl)
      have hb1 := band (pickW (lo k) v) (pickW (hi k) (v >>> 4))
      have hb2 := band (allW lo hi t i k) (pickW (lo k) v &&& pickW (hi k) (v >>> 4))
      have KPL := hide kpl
      have KPH := hide kph
      clear hv HLD2 hLo hHi kpl kph
      go_wp2_with fail
      refine wp_region_noPanic ?_
      refine wp_region_held_drew (S := fun w' => w'.rangeAt wr.heap.size 0 Lo ∧ w'.rangeAt wr.heap.size 16 Hi) (by kernel_rfl) ⟨hrl, hrh⟩ (fun hHeld => ?_)
      refine take_d (i := 0) (v := .int .u64 (W (allW lo hi t i k))) (some 24) rfl rfl (by kernel_rfl) (by kernel_rfl) (by kernel_rfl) (fun _ _ _ h => h) (Or.inl ⟨by rfl, fun w hw => by go_simp⟩) hHeld ?_
      simp only [Act.put, List.setIfInBounds_toArray, List.set_cons_zero, List.set_cons_succ]
      refine take_d (i := 1) (v := .pointer (some ⟨wr.heap.size, 0, none⟩)) (some 25) rfl rfl (by kernel_rfl) (by kernel_rfl) (by kernel_rfl) (fun _ _ _ h => h) (Or.inl ⟨by rfl, fun w hw => by go_simp⟩) hHeld ?_
      simp only [Act.put, List.setIfInBounds_toArray, List.set_cons_zero, List.set_cons_succ]
      refine take_d (i := 2) (v := .agg Lo.toArray) (some 26) rfl rfl (by kernel_rfl) (by kernel_rfl) (by kernel_rfl) (fun _ _ _ h => h) (yieldsIf_load_mid (by rfl) 52 (.tmp 25) (by rfl) wr.heap.size 0 (by rfl) Lo _ (fun w hw => hw.1) hu16 (by rfl) hll) hHeld ?_
      simp only [Act.put, List.setIfInBounds_toArray, List.set_cons_zero, List.set_cons_succ]
      refine take_d (i := 3) (v := .int .u64 (W v)) (some 27) rfl rfl (by kernel_rfl) (by kernel_rfl) (by kernel_rfl) (fun _ _ _ h => h) (Or.inl ⟨by rfl, fun w hw => by go_simp⟩) hHeld ?_
      simp only [Act.put, List.setIfInBounds_toArray, List.set_cons_zero, List.set_cons_succ]
      refine take_d (i := 5) (v := .pointer (some ⟨wr.heap.size, 16, none⟩)) (some 29) rfl rfl (by kernel_rfl) (by kernel_rfl) (by kernel_rfl) (fun _ _ _ h => h) (Or.inl ⟨by rfl, fun w hw => by go_simp⟩) hHeld ?_
      simp only [Act.put, List.setIfInBounds_toArray, List.set_cons_zero, List.set_cons_succ]
      refine take_d (i := 6) (v := .agg Hi.toArray) (some 30) rfl rfl (by kernel_rfl) (by kernel_rfl) (by kernel_rfl) (fun _ _ _ h => h) (yieldsIf_load_mid (by rfl) 52 (.tmp 29) (by rfl) wr.heap.size 16 (by rfl) Hi _ (fun w hw => hw.2) hu16 (by rfl) hlh) hHeld ?_
      simp only [Act.put, List.setIfInBounds_toArray, List.set_cons_zero, List.set_cons_succ]
      refine take_d (i := 7) (v := .int .u64 (W v)) (some 31) rfl rfl (by kernel_rfl) (by kernel_rfl) (by kernel_rfl) (fun _ _ _ h => h) (Or.inl ⟨by rfl, fun w hw => by go_simp⟩) hHeld ?_
      simp only [Act.put, List.setIfInBounds_toArray, List.set_cons_zero, List.set_cons_succ]
      refine take_d (i := 8) (v := .int .u64 (W (v >>> 4))) (some 32) rfl rfl (by kernel_rfl) (by kernel_rfl) (by kernel_rfl) (fun _ _ _ h => h) (Or.inl ⟨by rfl, fun w hw => by go_simp; exact W_shr4 v⟩) hHeld ?_
      simp only [Act.put, List.setIfInBounds_toArray, List.set_cons_zero, List.set_cons_succ]
      refine one_d (i := 4) (some 28) (by kernel_rfl) rfl rfl (by rfl) (fun K hK hd => ?_)
      clear hd
      go_simp
      refine (KPL.out _).mono ?_
      rintro e w6 ⟨rfl, hp⟩
      go_wp2_with fail
      have hHeld6 := And.intro (range_below hrl hp) (range_below hrh hp)
      refine hK _ _ hHeld6 ?_
      clear hK K
      simp only [Act.put, List.setIfInBounds_toArray, List.set_cons_zero, List.set_cons_succ]
      refine one_d (i := 9) (some 33) (by kernel_rfl) rfl rfl (by rfl) (fun K hK hd => ?_)
      clear hd
      go_simp
      refine (KPH.out _).mono ?_
      rintro e w7 ⟨rfl, hq⟩
      go_wp2_with fail
      have hHeld := And.intro (range_below hHeld6.1 hq) (range_below hHeld6.2 hq)
      refine hK _ _ hHeld ?_
      clear hK K
      simp only [Act.put, List.setIfInBounds_toArray, List.set_cons_zero, List.set_cons_succ]
      refine take_d (i := 10) (v := .int .u64 (W (pickW (lo k) v &&& pickW (hi k) (v >>> 4)))) (some 34) rfl rfl (by kernel_rfl) (by kernel_rfl) (by kernel_rfl) (fun _ _ _ h => h) (Or.inl ⟨by rfl, fun w hw => by go_simp⟩) hHeld ?_
      simp only [Act.put, List.setIfInBounds_toArray, List.set_cons_zero, List.set_cons_succ]
      refine take_d (i := 11) (v := .int .u64 (W (allW lo hi t i k &&& (pickW (lo k) v &&& pickW (hi k) (v >>> 4))))) (some 35) rfl rfl (by kernel_rfl) (by kernel_rfl) (by kernel_rfl) (fun _ _ _ h => h) (Or.inl ⟨by rfl, fun w hw => by go_simp⟩) hHeld ?_
      simp only [Act.put, List.setIfInBounds_toArray, List.set_cons_zero, List.set_cons_succ]
      refine take_d (i := 12) (v := .int .u64 (W (allW lo hi t i k &&& (pickW (lo k) v &&& pickW (hi k) (v >>> 4))))) (some 7) rfl rfl (by kernel_rfl) (by kernel_rfl) (by kernel_rfl) (fun _ _ _ h => h) (Or.inl ⟨by rfl, fun w hw => by go_simp⟩) hHeld ?_
      simp only [Act.put, List.setIfInBounds_toArray, List.set_cons_zero, List.set_cons_succ]
      refine wpAnyH_done (by kernel_rfl) ?_ _
      refine NoPanic.normal ?_
      have hbf : Below w2.heap.size w2 w7 := Bl ((Below.refl w2.heap.size w2).drew) (Bl hp hq)
      have HBF := hide hbf
      clear hbf hp hq hHeld hHeld6
      go_wp2_with fail
      go_roundw
      case rel => exact ⟨k + 1, by go_num, by omega, by rw [HAW.out], HL2.out.2.2.2.below HBF.out HL2.out.2.2.2.lt, HL2.out.1.trans (HBF.out.mono HL2.out.1.size)⟩
      case measure => simp [intOf]; omega
    · obtain rfl : k = 3 := by omega
      have hst := store_any (allW lo hi t i 3) wr
      have HST := hide hst
      have HLA := hide (fun k hk => lane_allW hlo hhi t i k hk 3 (Nat.le_refl _))
      clear hst HIX HRG
      generalize allW lo hi t i 3 = x at *
      go_wp2_with fail
      refine HST.out.mono ?_
      rintro e w8 ⟨rfl, hb8⟩
      have h8 := HBL.out.1.below hb8 HBL.out.1.lt
      have HB8 := hide (show _ ∧ _ from ⟨h8, HBL.out.2.trans (hb8.mono HBL.out.2.size)⟩)
      clear hb8 h8 HST
      go_wp2_with (refine wpList_store_mid rfl 63 (.tmp 6) (.tmp 38) rfl w.heap.size 0 #[.int .u8 (lane x 0 : Int), .int .u8 (lane x 1 : Int), .int .u8 (lane x 2 : Int), .int .u8 (lane x 3 : Int), .int .u8 (lane x 4 : Int), .int .u8 (lane x 5 : Int), .int .u8 (lane x 6 : Int), .int .u8 (lane x 7 : Int)] rfl rfl (there_blk HB8.out.1 (by simp)) info_8 (by simp [Value.oneCell']) ?_; have h9 := after_eight (v0 := .int .u8 (lane x 0 : Int)) (v1 := .int .u8 (lane x 1 : Int)) (v2 := .int .u8 (lane x 2 : Int)) (v3 := .int .u8 (lane x 3 : Int)) (v4 := .int .u8 (lane x 4 : Int)) (v5 := .int .u8 (lane x 5 : Int)) (v6 := .int .u8 (lane x 6 : Int)) (v7 := .int .u8 (lane x 7 : Int)) HB8.out.1 HB8.out.2; generalize World.setCells _ _ _ _ = w9 at h9 ⊢; have H9 := hide h9; clear h9)
      have c0 := H9.out.1.at_ (i := 0) rfl
      have c1 := H9.out.1.at_ (i := 1) rfl
      have c2 := H9.out.1.at_ (i := 2) rfl
      have c3 := H9.out.1.at_ (i := 3) rfl
      have c4 := H9.out.1.at_ (i := 4) rfl
      have c5 := H9.out.1.at_ (i := 5) rfl
      have c6 := H9.out.1.at_ (i := 6) rfl
      have c7 := H9.out.1.at_ (i := 7) rfl
      go_wp2_with fail
      exact bodyPost_ret (v := arr8 .u8 (fun j => (lane x j : Int))) (by simp [results, Try.results27, go_sem, arr8, c0, c1, c2, c3, c4, c5, c6, c7]) rfl ⟨congrArg Ending.returned (arr8_congr fun j hj => by rw [HLA.out j hj]), H9.out.2⟩
end Go.Proofs.Ytkjpcincjoaeeaa.TW
