/- The walks of package acho: copies, a state added. -/
import Derived.Test.YtameecogopnkjaaAMem
import Derived.Great.BuildSlice
namespace Go.Proofs.Ytameecogopnkjaa.AW
open Go.ChangeShapes Go.WideShapes Go.ChangeAt Go.RowKit
open Go.Proofs.Ytameecogopnkjaa.B Go.Proofs.Ytameecogopnkjaa.AM
set_option linter.unusedVariables false

theorem info_u8 : (Try.prog.info? 5).map (fun i => (i.zero, i.size, i.bytes)) = some (some (.int .u8 0), 1, 1) := by kernel_rfl

/-- A copy in new memory; nil stays nil. -/
theorem clone_any {w : World} {A : Option Addr} {n c : Nat} {bs : List UInt8} (h : Rd w w.heap.size 1 A n c (u8s bs)) (hn : n ≤ 140737488351232) :
    Calls Try.prog 31 #[.slice A n c] w fun e w' => ∃ A' c', e = .returned (.slice A' n c') ∧ w'.ownsRow w.heap.size 5 1 (.slice A' n c') n (u8s bs) ∧ Below w.heap.size w w' := by
  have hq := fun w : World => Lib.run_eql_slice_nil (P := Try.prog) w 23 5 A n c 0 0 Try.underlying23
  rcases A with _ | ad
  · have hn0 : n = 0 := by
      rcases Nat.eq_zero_or_pos n with h0 | h0
      · exact h0
      · obtain ⟨_, h1, _⟩ := h.lies h0
        cases h1
    subst hn0
    have hb : bs = [] := List.eq_nil_of_length_eq_zero h.length8
    subst hb
    go_enter Try.func31, Try.ntmps31
    go_wp2_with fail
    go_ret
    exact ⟨none, 0, rfl, World.ownsRow_nil _ _ _ _, Below.refl _ _⟩
  · obtain ⟨i0, hi0, hz0, hz1, hz2⟩ := info_parts info_u8
    have hr := h.alloc (Nat.le_refl _) (.cells #[] 5)
    have ho : (w.alloc (.cells #[] 5)).ownsRow w.heap.size 5 1 (.slice (some ⟨w.heap.size, 0, none⟩) 0 0) 0 [] := World.ownsRow_lit w #[] 0 (Nat.le_refl _) (by simp [maxLen]) rfl
    have HR := hide hr
    have HO := hide ho
    clear hr ho h
    go_enter Try.func31, Try.ntmps31
    go_wp2_with (at_builtin; refine wpList_append_rd _ rfl (.tmp 5) (.tmp 6) _ rfl w.heap.size 5 i0 _ 1 1 Try.underlying23 hi0 hz0 hz1 hz2 rfl (by omega) (.slice (some ⟨w.heap.size, 0, none⟩) 0 0) 0 [] rfl HO.out w.heap.size (some ad) n c (u8s bs) rfl HR.out (u8s_one _) (by simp only [maxLen]; omega) (by omega) (by simp) ?_; intro A1 c1 w1 hown1 hg1 hat1)
    simp only [Nat.zero_add, List.nil_append] at hown1
    have hb1 : Below w.heap.size w w1 := ((Below.refl _ _).alloc (Nat.le_refl _) _).trans (below_grown HO.out hg1 (Nat.le_refl _) (by simp))
    go_ret
    exact ⟨A1, c1, rfl, hown1, hb1⟩



def nodeZ : Array Value := (nodeCells (.slice none 0 0) (fun _ => 0) 0 (.slice none 0 0)).toArray
theorem info_node : (Try.prog.info? 60).map (fun i => (i.zero, i.size, i.bytes)) = some (some (.agg nodeZ), 259, 2104) := by kernel_rfl
theorem run_zeroValue {P : Program} {t : TypeId} {i : TypeInfo} {v : Value} (hi : P.info? t = some i) (hz : i.zero = some v) (w : World) : (zeroValue t).run P w = .ok v w := by
  simp [zeroValue, typeInfo, hi, hz]
theorem node_start : ∃ (i : TypeInfo) (Z : Array Value), Try.prog.info? 60 = some i ∧ i.zero = some (.agg Z) ∧ i.size = 259 ∧ i.bytes = 2104 ∧ (∀ w, (zeroValue 60).run Try.prog w = .ok (.agg Z) w) ∧ ¬ Z = #[] ∧ Hid (Z = nodeZ) := by
  obtain ⟨i0, hi0, hz0, hz1, hz2⟩ := info_parts info_node
  refine ⟨i0, nodeZ, hi0, hz0, hz1, hz2, run_zeroValue hi0 hz0, fun h => ?_, hide rfl⟩
  have := congrArg Array.size h
  rw [nodeZ, List.size_toArray, nodeCells] at this
  simp at this
/-! ### A whole block written anew -/
theorem setCells_new (w : World) (t : TypeId) : ∀ (vs : List Value) (o : Nat) (C : Array Value), o + vs.length ≤ C.size →
    (w.alloc (.cells C t)).setCells w.heap.size o vs = w.alloc (.cells (C.toList.take o ++ (vs ++ C.toList.drop (o + vs.length))).toArray t)
  | [], o, C, h => by simp [World.setCells]
  | v :: r, o, C, h => by
    rw [List.length_cons] at h
    rw [World.setCells, World.setCell_alloc_new, setCells_new w t r (o + 1) _ (by simp; omega)]
    congr 2
    have hlt : o < C.toList.length := by simp; omega
    rw [Array.toList_setIfInBounds, List.length_cons]
    have h1 : (C.toList.set o v).take (o + 1) = C.toList.take o ++ [v] := by
      rw [List.take_succ_eq_append_getElem (by simpa using hlt), List.getElem_set_self, List.take_set_of_le (Nat.le_refl _)]
    have h2 : (C.toList.set o v).drop (o + 1 + r.length) = C.toList.drop (o + (r.length + 1)) := by
      rw [List.drop_set_of_lt (by omega), show o + 1 + r.length = o + (r.length + 1) by omega]
    rw [h1, h2]
    simp
theorem run_store_new {P : Program} (w : World) (t : TypeId) (C : Array Value) (vs : List Value) (hl : vs.length = C.size) (h1 : ∀ v ∈ vs, v.oneCell' = true) :
    (storeCells ⟨w.heap.size, 0, none⟩ vs).run P (w.alloc (.cells C t)) = .ok () (w.alloc (.cells vs.toArray t)) := by
  have hb := Blk.new w t C
  have hc : ∀ j, j < vs.length → ((w.alloc (.cells C t)).cell? ⟨w.heap.size, 0 + 0 + j, none⟩).isSome = true := fun j hj => by
    rw [show 0 + 0 + j = j by omega, hb.cell, Array.getElem?_eq_getElem (by omega)]; rfl
  rw [run_storeCells_cells w.heap.size 0 vs 0 _ hc (fun j _ => hb.frozen _) h1, Nat.add_zero, setCells_new w t vs 0 C (by omega)]
  congr 3
  rw [Nat.zero_add, hl]
  simp

theorem run_store_node (Z : Array Value) (hZ : Z = nodeZ) (w : World) (A : Option Addr) (n c : Nat) : (storeCells ⟨w.heap.size, 0, none⟩ (Z.toList.set 0 (.slice A n c))).run Try.prog (w.alloc (.cells Z 60)) = .ok () (w.alloc (.cells (nodeCells (.slice A n c) (fun _ => 0) 0 (.slice none 0 0)).toArray 60)) := by
  subst hZ
  exact run_store_new w _ nodeZ (nodeCells (.slice A n c) (fun _ => 0) 0 (.slice none 0 0)) (by rw [nodeCells_length, nodeZ, List.size_toArray, nodeCells_length]) (nodeCells_one _ _ _ _ _ _ _ _)
theorem step_load_row {P : Program} {ops : Array Oper} {o : Oper} {a : Act} {w : World} {K : Act → World → Prop} {Q : Exit → Act → World → Prop} {E : Prop} (hgd : o.guard = none) (ty : TypeId) (x : Operand) (ho : o.op = .load ty x)
    (b : Nat) (hx : a.eval x = .pointer (some ⟨b, 0, none⟩)) (cs : List Value) (d : TypeDesc) (hb : Blk w b ty cs.toArray)
    (hu : P.underlying ty = some d) (hd : d.isRow = true) (hi : (P.info? ty).map (·.size) = some cs.length)
    (h : K (a.put o.dst (.agg cs.toArray)) w) : if Region.wanted o (yielded ops a.tmps) = true then Oper.wp P o a w K Q else E := by
  have hw : Region.wanted o (yielded ops a.tmps) = true := by simp [Region.wanted, hgd]
  rw [if_pos hw]
  refine wp_load_mid ty x ho b 0 hx cs d (fun j v hj => ?_) hu hd hi h
  rw [Nat.zero_add, hb.cell]
  simpa using hj

theorem fold_sets : ∀ (L : List Value) (k : Nat) (C : Array Value), k + L.length ≤ C.size →
    (L.zipIdx k).foldl (fun cs (x : Value × Nat) => cs.setIfInBounds x.2 x.1) C = (C.toList.take k ++ (L ++ C.toList.drop (k + L.length))).toArray
  | [], k, C, h => by simp
  | v :: r, k, C, h => by
    rw [List.length_cons] at h
    rw [List.zipIdx_cons, List.foldl_cons, fold_sets r (k + 1) _ (by simp; omega)]
    congr 1
    have hlt : k < C.toList.length := by simp; omega
    have h1 : (C.toList.set k v).take (k + 1) = C.toList.take k ++ [v] := by
      rw [List.take_succ_eq_append_getElem (by simpa using hlt), List.getElem_set_self, List.take_set_of_le (Nat.le_refl _)]
    have h2 : (C.toList.set k v).drop (k + 1 + r.length) = C.toList.drop (k + (r.length + 1)) := by
      rw [List.drop_set_of_lt (by omega), show k + 1 + r.length = k + (r.length + 1) by omega]
    rw [Array.toList_setIfInBounds, h1, h2, List.length_cons]
    simp
theorem fill_one (size : Nat) (cells : Array Value) (C : List Value) (hc : cells.size = size) (hl : C.length = size) : Instr.fill (fun i => some (i * size, size)) cells [(0, .agg C.toArray)] = some C.toArray := by
  have h := fold_sets C 0 cells (by omega)
  rw [Nat.zero_add, hl] at h
  have e : C.toArray.zipIdx.foldl (fun cs (x : Value × Nat) => cs.setIfInBounds (0 + x.2) x.1) cells = C.toArray := by
    rw [← Array.foldl_toList, Array.toList_zipIdx]
    simp only [Nat.zero_add]
    rw [h]
    congr 1
    rw [← hc]
    simp
  simp only [Instr.fill, Nat.zero_mul, Value.cells]
  rw [if_neg (by simp; omega)]
  exact congrArg some e
/-! ### A region that draws its order, step by step -/
section
variable {P : Program} {ops : Array Oper} {Q : Exit → Act → World → Prop} {S : World → Prop} {md : Region.Mode}
theorem take_d {i : Nat} {oi : Oper} {v : Value} {fuel : Nat} {listed : Array Bool} {a : Act} {w : World} (d : Option Nat) (hi : ops[i]? = some oi) (hd : oi.dst = d)
    (hs : Region.noSelect ops = true) (hf : Region.free md ops listed i = true) (hr : (Region.ready md ops listed).contains i = true)
    (hQ : ∀ c a w, Q (.panic c) (a.put d v) w → Q (.panic c) a w) (hy : YieldsIf P ops S oi v a) (hS : S w)
    (h : wpAnyH P md ops Q S fuel (listed.setIfInBounds i true) (a.put d v) w) : wpAnyH P md ops Q S (fuel + 1) listed a w := by
  subst hd
  exact wpAnyH_take hi hs hf hr hQ hy hS h
theorem one_d {i : Nat} {o : Oper} {fuel : Nat} {listed : Array Bool} {a : Act} {w : World} (d : Option Nat) (hr : Region.ready md ops listed = [i]) (hi : ops[i]? = some o) (hd : o.dst = d) (hw : Region.wanted o (yielded ops a.tmps) = true)
    (h : ∀ K : Act → World → Prop, (∀ v w', S w' → wpAnyH P md ops Q S fuel (listed.setIfInBounds i true) (a.put d v) w' → K (a.put d v) w') → (o.dst = d → Oper.wp P o a w K Q)) : wpAnyH P md ops Q S (fuel + 1) listed a w := by
  refine wpAnyH_ready hr (by simp) (AllReadyH.cons hi (fun K hK => ?_) AllReadyH.nil)
  rw [if_pos hw]
  exact h K (fun v w' h1 h2 => hK.out _ _ h1 (fun _ => h2)) hd
theorem step_d {i : Nat} {o : Oper} {fuel : Nat} {listed : Array Bool} {a : Act} {w : World} {rs : List Nat} (d : Option Nat) (hi : ops[i]? = some o) (hd : o.dst = d) (hw : Region.wanted o (yielded ops a.tmps) = true)
    (h : ∀ K : Act → World → Prop, (∀ v w', S w' → wpAnyH P md ops Q S fuel (listed.setIfInBounds i true) (a.put d v) w' → K (a.put d v) w') → (o.dst = d → Oper.wp P o a w K Q)) (hs : AllReadyH P md ops Q S fuel listed a w rs) : AllReadyH P md ops Q S fuel listed a w (i :: rs) := by
  refine AllReadyH.cons hi (fun K hK => ?_) hs
  rw [if_pos hw]
  exact h K (fun v w' h1 h2 => hK.out _ _ h1 (fun _ => h2)) hd
end
set_option maxRecDepth 10000 in
set_option maxHeartbeats 1000000 in
theorem add_any {u w : World} {g cn n c : Nat} {ns : List Nd} {An A : Option Addr} {xs : T} (hM : Mach u g ns An cn w) (h : Rd w w.heap.size 1 A n c (u8s xs)) (hn : n ≤ 4000) (hns : ns.length ≤ 5000) :
    Calls Try.prog 27 #[.pointer (some ⟨g, 0, none⟩), .slice A n c] w fun e w' => ∃ A' c' pA pc, e = .returned (.int .i64 (ns.length : Int)) ∧ Mach u g (ns ++ [⟨xs, fun _ => -1, 0, [], pA, pc, none, 0⟩]) A' c' w' := by
  obtain ⟨i0, Z, hi0, hz0, hz1, hz2, kz, hne, HZ⟩ := node_start
  have hzs : Z.size = 259 := by rw [HZ.out, nodeZ]; simp [nodeCells]
  have ks := run_store_node Z HZ.out
  have hl := h.length8
  subst hl
  go_enter Try.func27, Try.ntmps27
  go_wp2_with fail
  refine (clone_any h (by omega)).mono ?_
  rintro e w1 ⟨A1, c1, rfl, ho1, hb1⟩
  have HM := hide (hM.over hb1)
  have HO := hide (own_lower ho1 hM.below.size)
  clear hM ho1 hb1 h
  go_wp2_with fail
  clear kz ks hne hzs
  have hblk0 := Blk.new w1 60 (nodeCells (.slice A1 xs.length c1) (fun _ => 0) 0 (.slice none 0 0)).toArray
  have hbel0 := (Below.refl w1.heap.size w1).alloc (Nat.le_refl _) (.cells (nodeCells (.slice A1 xs.length c1) (fun _ => 0) 0 (.slice none 0 0)).toArray 60)
  generalize w1.alloc _ = w2 at *
  go_loopw [10] (fun iv wr => ∃ i : Nat, i ≤ 256 ∧ iv = .int .i64 i ∧ Blk wr w1.heap.size 60 (nodeCells (.slice A1 xs.length c1) (fun b => if b < i then -1 else 0) 0 (.slice none 0 0)).toArray ∧ Below w1.heap.size w1 wr) (fun iv _ => 256 - (intOf iv).toNat)
  case atStart => exact ⟨0, by omega, rfl, by simpa using hblk0, hbel0⟩
  case round =>
    clear hblk0 hbel0
    obtain ⟨i, hi, rfl, hblk, hbel⟩ := hrel
    by_cases hlt : i < 256
    · have hc := hblk.at_ (i := 1 + i) (v := .int .i64 (if i < i then -1 else 0)) (by rw [List.getElem?_toArray, Nat.add_comm]; exact nodeCells_next _ _ _ _ i hlt)
      have hf := hblk.frozen (1 + i)
      have HX := hide (show _ ∧ _ from ⟨hblk, hbel⟩)
      clear hblk hbel
      go_wp2_with fail
      go_roundw
      case rel =>
        refine ⟨i + 1, by omega, by go_num, ?_, HX.out.2.setCell (Nat.le_refl _) _⟩
        have h1 := HX.out.1.set (1 + i) (.int .i64 (-1))
        rw [List.setIfInBounds_toArray, Nat.add_comm 1 i, nodeCells_set_next _ _ _ _ _ _ hlt] at h1
        rw [nodeCells_congr _ _ (upd (fun b => if b < i then -1 else 0) i (-1)) _ _ (fun b _ => ?_), Nat.add_comm 1 i]
        · exact h1
        · simp only [upd]
          by_cases e : b = i
          · rw [if_pos e, if_pos (by omega)]
          · rw [if_neg e]
            by_cases e2 : b < i
            · rw [if_pos e2, if_pos (by omega)]
            · rw [if_neg e2, if_neg (by omega)]
      case measure => simp [intOf]; omega
    · obtain rfl : i = 256 := by omega
      rw [nodeCells_congr _ _ (fun _ => -1) _ _ (fun b hb => by rw [if_pos hb])] at hblk
      obtain ⟨C, hC⟩ : ∃ C, nodeCells (.slice A1 xs.length c1) (fun _ => -1) 0 (.slice none 0 0) = C := ⟨_, rfl⟩
      rw [hC] at hblk
      have hCl : C.length = 259 := by rw [← hC]; exact nodeCells_length _ _ _ _
      have HC1 := hide (show ∀ u ∈ C, u.oneCell' = true by rw [← hC]; exact nodeCells_one _ _ _ _ _ _ _ _)
      have HC := hide hC
      have HBd := hide hblk.drew
      have HMr := hide (HM.out.over hbel)
      have HOr := hide (own_fr HO.out (Fr.new hbel (S := fun _ => False)) (fun _ _ e => e))
      have hinf : (Try.prog.info? 60).map (·.size) = some C.length := by rw [hi0, hCl]; exact congrArg some hz1
      have hzs : (Value.agg Z).cells.size = 259 := by rw [HZ.out, nodeZ]; simp [Value.cells, nodeCells]
      have kl : (loadCells ⟨w1.heap.size, 0, none⟩ i0.size).run Try.prog wr.drew = .ok C.toArray wr.drew := by
        rw [hz1, ← hCl]
        exact run_loadCells_list (P := Try.prog) wr.drew ⟨w1.heap.size, 0, none⟩ C (fun j v hj => by rw [add_lit, Nat.zero_add, (hblk.drew).cell]; simpa using hj)
      have HZ1 := hide hz1
      have HI := hide hinf
      have HNB : Hid ((Value.slice An ns.length cn).ownBlock ≠ some w1.heap.size) := hide (fun e => by have := (own_block HM.out.row _ e).2; omega)
      clear hz1
      have HZS := hide hzs
      have HCL := hide hCl
      have hc0 := HMr.out.blk.at_ (i := 0) rfl
      have hsu := HMr.out.below.size
      clear hC hblk hbel HM HO HZ hinf hzs hCl
      go_wp2_with fail
      have hc1 : wr.drew.cell? ⟨g, 0, none⟩ = some (.slice An ns.length cn) := hc0
      refine wp_region_held_drew (S := fun w' => Blk w' w1.heap.size 60 C.toArray) (by kernel_rfl) HBd.out (fun hHeld => ?_)
      refine take_d (i := 5) (v := .agg C.toArray) (some 22) rfl rfl (by kernel_rfl) (by kernel_rfl) (by kernel_rfl) (fun _ _ _ h => h) (yieldsIf_load_mid (by rfl) 60 (.tmp 5) (by rfl) w1.heap.size 0 (by rfl) C _ (fun w hw j v hj => by rw [Nat.zero_add, Blk.cell hw]; simpa using hj) Try.underlying60 (by rfl) HI.out) hHeld ?_
      simp only [Act.put, List.setIfInBounds_toArray, List.set_cons_zero, List.set_cons_succ]
      refine take_d (i := 0) (v := .pointer (some ⟨g, 0, none⟩)) (some 17) rfl rfl (by kernel_rfl) (by kernel_rfl) (by kernel_rfl) (fun _ _ _ h => h) (Or.inl ⟨by rfl, fun w hw => by go_simp⟩) hHeld ?_
      simp only [Act.put, List.setIfInBounds_toArray, List.set_cons_zero, List.set_cons_succ]
      refine take_d (i := 1) (v := .pointer (some ⟨g, 0, none⟩)) (some 18) rfl rfl (by kernel_rfl) (by kernel_rfl) (by kernel_rfl) (fun _ _ _ h => h) (Or.inl ⟨by rfl, fun w hw => by go_simp⟩) hHeld ?_
      simp only [Act.put, List.setIfInBounds_toArray, List.set_cons_zero, List.set_cons_succ]
      refine take_d (i := 2) (v := .pointer (some ⟨g, 0, none⟩)) (some 19) rfl rfl (by kernel_rfl) (by kernel_rfl) (by kernel_rfl) (fun _ _ _ h => h) (Or.inl ⟨by rfl, fun w hw => by go_simp⟩) hHeld ?_
      simp only [Act.put, List.setIfInBounds_toArray, List.set_cons_zero, List.set_cons_succ]
      refine take_d (i := 3) (v := .pointer (some ⟨g, 0, none⟩)) (some 20) rfl rfl (by kernel_rfl) (by kernel_rfl) (by kernel_rfl) (fun _ _ _ h => h) (Or.inl ⟨by rfl, fun w hw => by go_simp⟩) hHeld ?_
      simp only [Act.put, List.setIfInBounds_toArray, List.set_cons_zero, List.set_cons_succ]
      have hc3 : (wr.drew.alloc (.cells C.toArray 60)).cell? ⟨g, 0, none⟩ = some (.slice An ns.length cn) := by rw [World.cell?_alloc_lt _ _ _ (by exact HMr.out.blk.lt)]; exact hc1
      have hc4 : (wr.alloc (.cells C.toArray 60)).cell? ⟨g, 0, none⟩ = some (.slice An ns.length cn) := hc3
      have hh2 : Blk (wr.drew.alloc (.cells C.toArray 60)) w1.heap.size 60 C.toArray := HBd.out.alloc _
      refine wpAnyH_ready (rs := [4, 6]) (by kernel_rfl) (by simp) (step_d (i := 4) (some 21) rfl rfl (by rfl) (fun K hK hd => ?_) (step_d (i := 6) (some 23) rfl rfl (by rfl) (fun K hK hd => ?_) AllReadyH.nil))
      · clear hd
        go_simp
        refine hK (.slice An ns.length cn) _ HBd.out ?_
        clear hK K
        simp only [Act.put, List.setIfInBounds_toArray, List.set_cons_zero, List.set_cons_succ]
        refine one_d (i := 6) (some 23) (by kernel_rfl) rfl rfl (by rfl) (fun K hK hd => ?_)
        refine wp_buildSlice 53 60 1 #[(0, .tmp 22)] (by rfl) C.toArray i0 (.agg Z) Try.underlying53 hi0 hz0 (by rw [HZ1.out]; decide) (by rw [HZ1.out]; decide) (by rw [HZ1.out, Array.toList_map]; exact fill_one 259 _ C (by rw [Array.size_map, Array.size_range]) HCL.out) ?_
        rw [hd]
        refine hK _ _ (HBd.out.alloc _) ?_
        clear hd hK K
        simp only [Act.put, List.setIfInBounds_toArray, List.set_cons_zero, List.set_cons_succ]
        refine one_d (i := 7) (some 24) (by kernel_rfl) rfl rfl (by rfl) (fun K hK hd => ?_)
        refine wp_append_rd _ (.tmp 21) (.tmp 23) 53 (by rfl) u.heap.size 60 i0 _ 259 2104 Try.underlying53 hi0 hz0 HZ1.out hz2 HZS.out (by omega) (.slice An ns.length cn) ns.length (cellsAll ns) (by rfl) ((HMr.out.row.alloc _).drew) (wr.heap.size + 1) (some ⟨wr.heap.size, 0, none⟩) 1 1 C (by rfl) ((rd_row wr C _ 259 HCL.out).drew) HC1.out (by simp only [maxLen]; omega) (by omega) (by simp; omega) ?_
        intro A2 c2 w2 hown2 hg2 hat2
        rw [hd]
        have hb2 : Blk w2 w1.heap.size 60 C.toArray := hh2.grown hg2 HNB.out
        have hm2 : Blk w2 g 55 #[.slice An ns.length cn] := ((HMr.out.blk.alloc _).drew).grown hg2 (own_ne_blk HMr.out.row HMr.out.blk (by decide))
        have hc2 := hm2.at_ (i := 0) rfl
        have hf2 := hm2.frozen 0
        refine hK _ _ hb2 ?_
        clear hd hK K hc0 hc1 hc3 hc4
        simp only [Act.put, List.setIfInBounds_toArray, List.set_cons_zero, List.set_cons_succ]
        refine take_d (i := 8) (v := .pointer (some ⟨g, 0, none⟩)) (some 25) rfl rfl (by kernel_rfl) (by kernel_rfl) (by kernel_rfl) (fun _ _ _ h => h) (Or.inl ⟨by rfl, fun w hw => by go_simp⟩) hb2 ?_
        simp only [Act.put, List.setIfInBounds_toArray, List.set_cons_zero, List.set_cons_succ]
        refine take_d (i := 9) (v := .pointer (some ⟨g, 0, none⟩)) (some 26) rfl rfl (by kernel_rfl) (by kernel_rfl) (by kernel_rfl) (fun _ _ _ h => h) (Or.inl ⟨by rfl, fun w hw => by go_simp⟩) hb2 ?_
        simp only [Act.put, List.setIfInBounds_toArray, List.set_cons_zero, List.set_cons_succ]
        refine one_d (i := 10) none (by kernel_rfl) rfl rfl (by rfl) (fun K hK hd => ?_)
        clear hd
        go_simp
        have hb3 : Blk (w2.setCell ⟨g, 0, none⟩ (.slice A2 (ns.length + 1) c2)) w1.heap.size 60 C.toArray := hb2.far (hb2.ne hm2 (by decide)) _
        refine hK undef _ hb3 ?_
        clear hK K
        refine wpAnyH_done (by kernel_rfl) ?_ _
        rw [← HC.out] at hown2
        have hfin := (HMr.out.over (show Below wr.heap.size wr ((wr.alloc (.cells C.toArray 60)).drew) from ((Below.refl _ _).alloc (Nat.le_refl _) _).drew)).push hg2 hown2 (own_fr HOr.out (Fr.new (show Below wr.heap.size wr ((wr.alloc (.cells C.toArray 60)).drew) from ((Below.refl _ _).alloc (Nat.le_refl _) _).drew) (S := fun _ => False)) (fun _ _ e => e))
        have HF := hide hfin
        have hc5 := hfin.blk.at_ (i := 0) rfl
        rw [List.length_append] at hc5
        have e1 : IntKind.i64.wrap ((ns.length : Int) + 1 - 1) = (ns.length : Int) := by
          rw [IntWalk.i64_in _ (by omega)]; omega
        clear hfin hb3 hb2 hm2 hc2 hf2 hown2 hg2 hat2 hHeld hh2
        go_wp2_with fail
        go_ret
        exact ⟨A2, c2, A1, c1, by first | rfl | (congr 2; omega), HF.out⟩
      · skip
        refine wp_buildSlice 53 60 1 #[(0, .tmp 22)] (by rfl) C.toArray i0 (.agg Z) Try.underlying53 hi0 hz0 (by rw [HZ1.out]; decide) (by rw [HZ1.out]; decide) (by rw [HZ1.out, Array.toList_map]; exact fill_one 259 _ C (by rw [Array.size_map, Array.size_range]) HCL.out) ?_
        rw [hd]
        refine hK _ _ (HBd.out.alloc _) ?_
        clear hd hK K
        simp only [Act.put, List.setIfInBounds_toArray, List.set_cons_zero, List.set_cons_succ]
        refine one_d (i := 4) (some 21) (by kernel_rfl) rfl rfl (by rfl) (fun K hK hd => ?_)
        clear hd
        go_simp
        refine hK (.slice An ns.length cn) _ hh2 ?_
        clear hK K
        simp only [Act.put, List.setIfInBounds_toArray, List.set_cons_zero, List.set_cons_succ]
        refine one_d (i := 7) (some 24) (by kernel_rfl) rfl rfl (by rfl) (fun K hK hd => ?_)
        refine wp_append_rd _ (.tmp 21) (.tmp 23) 53 (by rfl) u.heap.size 60 i0 _ 259 2104 Try.underlying53 hi0 hz0 HZ1.out hz2 HZS.out (by omega) (.slice An ns.length cn) ns.length (cellsAll ns) (by rfl) ((HMr.out.row.alloc _).drew) (wr.heap.size + 1) (some ⟨wr.heap.size, 0, none⟩) 1 1 C (by rfl) ((rd_row wr C _ 259 HCL.out).drew) HC1.out (by simp only [maxLen]; omega) (by omega) (by simp; omega) ?_
        intro A2 c2 w2 hown2 hg2 hat2
        rw [hd]
        have hb2 : Blk w2 w1.heap.size 60 C.toArray := hh2.grown hg2 HNB.out
        have hm2 : Blk w2 g 55 #[.slice An ns.length cn] := ((HMr.out.blk.alloc _).drew).grown hg2 (own_ne_blk HMr.out.row HMr.out.blk (by decide))
        have hc2 := hm2.at_ (i := 0) rfl
        have hf2 := hm2.frozen 0
        refine hK _ _ hb2 ?_
        clear hd hK K hc0 hc1 hc3 hc4
        simp only [Act.put, List.setIfInBounds_toArray, List.set_cons_zero, List.set_cons_succ]
        refine take_d (i := 8) (v := .pointer (some ⟨g, 0, none⟩)) (some 25) rfl rfl (by kernel_rfl) (by kernel_rfl) (by kernel_rfl) (fun _ _ _ h => h) (Or.inl ⟨by rfl, fun w hw => by go_simp⟩) hb2 ?_
        simp only [Act.put, List.setIfInBounds_toArray, List.set_cons_zero, List.set_cons_succ]
        refine take_d (i := 9) (v := .pointer (some ⟨g, 0, none⟩)) (some 26) rfl rfl (by kernel_rfl) (by kernel_rfl) (by kernel_rfl) (fun _ _ _ h => h) (Or.inl ⟨by rfl, fun w hw => by go_simp⟩) hb2 ?_
        simp only [Act.put, List.setIfInBounds_toArray, List.set_cons_zero, List.set_cons_succ]
        refine one_d (i := 10) none (by kernel_rfl) rfl rfl (by rfl) (fun K hK hd => ?_)
        clear hd
        go_simp
        have hb3 : Blk (w2.setCell ⟨g, 0, none⟩ (.slice A2 (ns.length + 1) c2)) w1.heap.size 60 C.toArray := hb2.far (hb2.ne hm2 (by decide)) _
        refine hK undef _ hb3 ?_
        clear hK K
        refine wpAnyH_done (by kernel_rfl) ?_ _
        rw [← HC.out] at hown2
        have hfin := (HMr.out.over (show Below wr.heap.size wr ((wr.alloc (.cells C.toArray 60)).drew) from ((Below.refl _ _).alloc (Nat.le_refl _) _).drew)).push hg2 hown2 (own_fr HOr.out (Fr.new (show Below wr.heap.size wr ((wr.alloc (.cells C.toArray 60)).drew) from ((Below.refl _ _).alloc (Nat.le_refl _) _).drew) (S := fun _ => False)) (fun _ _ e => e))
        have HF := hide hfin
        have hc5 := hfin.blk.at_ (i := 0) rfl
        rw [List.length_append] at hc5
        have e1 : IntKind.i64.wrap ((ns.length : Int) + 1 - 1) = (ns.length : Int) := by
          rw [IntWalk.i64_in _ (by omega)]; omega
        clear hfin hb3 hb2 hm2 hc2 hf2 hown2 hg2 hat2 hHeld hh2
        go_wp2_with fail
        go_ret
        exact ⟨A2, c2, A1, c1, by first | rfl | (congr 2; omega), HF.out⟩
end Go.Proofs.Ytameecogopnkjaa.AW
