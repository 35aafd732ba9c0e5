/- The walk of the law's spoil: the copies are written over. -/
import Derived.Test.YtameecogopnkjaaARef7
namespace Go.Proofs.Ytameecogopnkjaa.AW
open Go.ChangeShapes Go.WideShapes Go.ChangeAt Go.RowKit
open Go.Proofs.Ytameecogopnkjaa.B Go.Proofs.Ytameecogopnkjaa.AM
set_option linter.unusedVariables false

/-- Bytes that may be written. -/
structure Wr (w : World) (base N : Nat) (A : Option Addr) (n c : Nat) : Prop where
  room : n ≤ c
  max : c ≤ 9223372036854775807
  lies : 0 < n → ∃ (g : Nat) (cur : Array Value), A = some ⟨g, 0, none⟩ ∧ base ≤ g ∧ g < N ∧ w.heap[g]? = some (.cells cur 5 (0, 0)) ∧ n ≤ cur.size
theorem Wr.of_own {w : World} {base n c : Nat} {A : Option Addr} {xs : List Value} (h : w.ownsRow base 5 1 (.slice A n c) n xs) : Wr w base w.heap.size A n c := by
  have hr := Rd.of_own h
  refine ⟨hr.cap, hr.max, fun hn => ?_⟩
  have hlen := h.1
  rcases h.2 with ⟨_, h1⟩ | ⟨g, cap, cur, h1, hb, hh, h3, h4, h5, h6⟩
  · omega
  · injection h1 with h1 h2 h3'
    exact ⟨g, cur, h1, hb, Blk.lt (t := 5) (cs := cur) hh, hh, by
      have := congrArg List.length h6
      rw [List.length_take, Array.length_toList] at this
      omega⟩
theorem Wr.setCell {w : World} {base N n c : Nat} {A : Option Addr} (h : Wr w base N A n c) (q k : Nat) (v : Value) : Wr (w.setCell ⟨q, k, none⟩ v) base N A n c := by
  refine ⟨h.room, h.max, fun hn => ?_⟩
  obtain ⟨g, cur, e, hb, hN, hh, hs⟩ := h.lies hn
  by_cases hp : q = g
  · subst hp
    refine ⟨q, cur.setIfInBounds k v, e, hb, hN, ?_, by rw [Array.size_setIfInBounds]; exact hs⟩
    simp [World.setCell, Array.getElem?_modify, hh]
  · exact ⟨g, cur, e, hb, hN, (Below.heap_setCell w ⟨q, k, none⟩ v g (Ne.symm hp)).trans hh, hs⟩
theorem Wr.fr {w w' : World} {base N n c : Nat} {A : Option Addr} {S : Nat → Prop} (h : Wr w base N A n c) (hf : Fr w w' S) (hs : ∀ k, base ≤ k → k < N → ¬ S k) : Wr w' base N A n c := by
  refine ⟨h.room, h.max, fun hn => ?_⟩
  obtain ⟨g, cur, e, hb, hN, hh, hsz⟩ := h.lies hn
  exact ⟨g, cur, e, hb, hN, (hf.block g (Blk.lt (t := 5) (cs := cur) hh) (hs g hb hN)).trans hh, hsz⟩
theorem Wr.cell {w : World} {base N n c : Nat} {A : Option Addr} (h : Wr w base N A n c) {k : Nat} (hk : k < n) : ∃ g v, A = some ⟨g, 0, none⟩ ∧ base ≤ g ∧ g < N ∧ (∃ cur, Blk w g 5 cur) ∧ w.cell? ⟨g, k, none⟩ = some v ∧ w.frozen? ⟨g, k, none⟩ = false := by
  obtain ⟨g, cur, e, hb, hN, hh, hs⟩ := h.lies (by omega)
  refine ⟨g, cur[k]'(by omega), e, hb, hN, ⟨cur, hh⟩, ?_, Blk.frozen (t := 5) (cs := cur) hh k⟩
  rw [cell_of_row _ _ _ cur 5 (0, 0) hh]
  exact Array.getElem?_eq_getElem (by omega)
structure WrTexts (w : World) (base N : Nat) (A : Option Addr) (n c : Nat) (vs : List Value) : Prop where
  row : w.ownsRow base 23 1 (.slice A n c) n vs
  each : ∀ i, i < n → ∃ A1 n1 c1, vs[i]? = some (.slice A1 n1 c1) ∧ Wr w base N A1 n1 c1
theorem OwnTexts.wr {w : World} {base n c : Nat} {A : Option Addr} {vs : List Value} {Ls : List T} (h : OwnTexts w base A n c vs Ls) : WrTexts w base w.heap.size A n c vs :=
  ⟨h.row, fun i hi => by
    obtain ⟨A1, c1, h1, h2⟩ := h.each i _ (List.getElem?_eq_getElem (by rw [h.count]; exact hi))
    exact ⟨A1, _, c1, h1, Wr.of_own h2⟩⟩
theorem WrTexts.over {w w' : World} {base N n c : Nat} {A : Option Addr} {vs : List Value} (h : WrTexts w base N A n c vs) (hb : Below w.heap.size w w') : WrTexts w' base N A n c vs :=
  ⟨own_over h.row hb, fun i hi => by
    obtain ⟨A1, n1, c1, h1, h2⟩ := h.each i hi
    exact ⟨A1, n1, c1, h1, h2.fr (Fr.new hb (S := fun _ => False)) (fun _ _ _ e => e)⟩⟩
theorem WrTexts.set {w : World} {base N n c g k : Nat} {A : Option Addr} {vs : List Value} {cur : Array Value} (h : WrTexts w base N A n c vs) (hg : Blk w g 5 cur) (v : Value) : WrTexts (w.setCell ⟨g, k, none⟩ v) base N A n c vs :=
  ⟨own_fr h.row (Fr.one w g k v) (fun j hj e => by subst e; exact own_ne_blk h.row hg (by decide) hj), fun i hi => by
    obtain ⟨A1, n1, c1, h1, h2⟩ := h.each i hi
    exact ⟨A1, n1, c1, h1, h2.setCell _ _ _⟩⟩

set_option maxRecDepth 10000 in
set_option maxHeartbeats 1000000 in
theorem spoil_any {w : World} {base N n c : Nat} {A : Option Addr} {vs : List Value} (h : WrTexts w base N A n c vs) :
    Calls Try.prog 13 #[.slice A n c] w fun e w' => e = .returned (.tuple #[]) ∧ Fr w w' (fun k => base ≤ k ∧ k < N) := by
  have HT := hide h
  have hcp := (Rd.of_own h.row).cap
  have hcm : c ≤ 9223372036854775807 := (Rd.of_own h.row).max
  clear h
  go_enter Try.func13, Try.ntmps13
  go_wp2_with fail
  go_loopw [6] (fun iv wr => ∃ (i : Nat), iv = .int .i64 i ∧ i ≤ n ∧ WrTexts wr base N A n c vs ∧ Fr w wr (fun k => base ≤ k ∧ k < N)) (fun iv _ => n - (intOf iv).toNat)
  case atStart => exact ⟨0, rfl, by omega, HT.out, Fr.refl _ _⟩
  case round =>
    clear HT
    obtain ⟨i, rfl, hi, hT, hF⟩ := hrel
    have HT := hide hT
    have HF := hide hF
    clear hT hF
    by_cases hlt : i < n
    · obtain ⟨A1, n1, c1, hv, hw⟩ := HT.out.each i hlt
      obtain ⟨ad, rfl⟩ := own_some HT.out.row (by omega)
      have hc := (own_cell HT.out.row i _ hv).1
      have e1 : IntKind.i64.wrap ((i : Int) + 1) = (i : Int) + 1 := IntWalk.i64_in _ (by omega)
      have hm1 := hw.max
      have hr1 := hw.room
      have HW := hide hw
      have HV := hide hv
      clear hv hw
      go_wp2_with fail
      go_loopw [14] (fun kv wl => ∃ (k : Nat), kv = .int .i64 k ∧ k ≤ n1 ∧ WrTexts wl base N (some ad) n c vs ∧ Wr wl base N A1 n1 c1 ∧ Fr w wl (fun k => base ≤ k ∧ k < N)) (fun kv _ => n1 - (intOf kv).toNat)
      case atStart => exact ⟨0, rfl, by omega, HT.out, HW.out, HF.out⟩
      case round =>
        clear HT HW HF
        obtain ⟨k, rfl, hk, hT, hW, hF⟩ := hrel
        have HT := hide hT
        have HF := hide hF
        have HW := hide hW
        clear hT hF hW
        by_cases hkl : k < n1
        · obtain ⟨g, v, rfl, hg1, hg2, hblk, k1, k2⟩ := HW.out.cell hkl
          have hc := (own_cell HT.out.row i _ HV.out).1
          have e2 : IntKind.i64.wrap ((k : Int) + 1) = (k : Int) + 1 := IntWalk.i64_in _ (by omega)
          have HBL := hide hblk
          clear hblk
          go_wp2_with fail
          go_roundw
          case rel =>
            obtain ⟨cur, hblk⟩ := HBL.out
            exact ⟨k + 1, by go_num, by omega, HT.out.set hblk _, HW.out.setCell _ _ _, HF.out.setCell (p := ⟨g, k, none⟩) (fun _ => ⟨hg1, hg2⟩) _⟩
          case measure => simp [intOf]; omega
        · go_wp2_with fail
          go_roundw
          case rel => exact ⟨i + 1, by go_num, by omega, HT.out, HF.out⟩
          case measure => simp [intOf]; omega
    · go_wp2_with fail
      go_end0
      exact ⟨rfl, HF.out⟩
end Go.Proofs.Ytameecogopnkjaa.AW
