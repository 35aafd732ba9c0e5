/- The walks of acho's document: Scan, Same. -/
import Derived.Test.YtameecogopnkjaaARef2
namespace Go.Proofs.Ytameecogopnkjaa.AW
open Go.ChangeShapes Go.WideShapes Go.ChangeAt Go.RowKit
open Go.Proofs.Ytameecogopnkjaa.B Go.Proofs.Ytameecogopnkjaa.AM
set_option linter.unusedVariables false

def refTo (Ls : List T) (t : T) (j : Nat) : List (Nat × Nat) := (List.range j).flatMap fun j => (AM.hits Ls (t.take j)).map fun h => (h, j)
theorem refTo_succ (Ls : List T) (t : T) (j : Nat) : refTo Ls t (j + 1) = refTo Ls t j ++ (AM.hits Ls (t.take j)).map fun h => (h, j) := by simp [refTo, List.range_succ]
theorem refTo_scan (Ls : List T) (t : T) (h : ∀ l ∈ Ls, l ≠ []) (i : Nat) : refTo Ls t (i + 1) = scanTo Ls t i := by
  induction i with
  | zero => simp [refTo, scanTo, hits_nil Ls h]
  | succ i ih => rw [refTo_succ, ih, scanTo_succ]; rfl
theorem refTo_len (Ls : List T) (t : T) (i : Nat) (h : Ls.length ≤ 300) : (refTo Ls t i).length ≤ i * 300 := by
  induction i with
  | zero => simp [refTo]
  | succ i ih =>
    rw [refTo_succ, List.length_append, List.length_map]
    have := hits_len Ls (t.take i)
    omega
theorem own_over {w w' : World} {base : Nat} {e : TypeId} {size n : Nat} {v : Value} {xs : List Value} (h : w.ownsRow base e size v n xs) (hb : Below w.heap.size w w') : w'.ownsRow base e size v n xs := own_fr h (Fr.new hb (S := fun _ => False)) (fun _ _ e => e)
/-- A row of another kind stands where one has grown. -/
theorem own_grown_other {w w' : World} {b b' s s' n n' : Nat} {e e' : TypeId} {v v' : Value} {xs xs' : List Value} {o : Obj} (h : w.ownsRow b e s v n xs) (h' : w.ownsRow b' e' s' v' n' xs') (hg : (w.alloc o).grownBy w' v.ownBlock) (hne : e ≠ e') : w'.ownsRow b' e' s' v' n' xs' :=
  own_fr (h'.alloc o) ((Fr.refl (w.alloc o) (fun k => v.ownBlock = some k)).grown hg (fun k e _ => e)) (fun k hk e => own_apart h h' hne k e hk)
def NewHits (w : World) (hs : List (Nat × Nat)) (e : Ending) (w' : World) : Prop := ∃ A' c', e = .returned (.slice A' hs.length c') ∧ w'.ownsRow w.heap.size 41 2 (.slice A' hs.length c') hs.length (hitCells hs) ∧ Below w.heap.size w w'

set_option maxRecDepth 10000 in
set_option maxHeartbeats 1000000 in
theorem refScan_any {w : World} {len cap n c : Nat} {a A : Option Addr} {Ls : List T} {t : T} (h : Texts w w.heap.size a len cap Ls) (ht : Rd w w.heap.size 1 A n c (u8s t)) (hid : len ≤ 300) (hn : n ≤ 1000) :
    Calls Try.prog 16 #[.slice a len cap, .slice A n c] w (NewHits w (refTo Ls t (t.length + 1))) := by
  obtain ⟨i0, hi0, hz0, hz1, hz2⟩ := info_parts info_hit
  have hl := ht.length8
  subst hl
  have hnc := ht.cap
  have hcm : c ≤ 9223372036854775807 := ht.max
  have hcl := h.count
  have HT := hide h
  have HR := hide ht
  clear h ht
  subst hcl
  go_enter Try.func16, Try.ntmps16
  go_wp2_with fail
  go_loopw [5, 6] (fun ov jv wr => ∃ (j : Nat) (Ao : Option Addr) (co : Nat), jv = .int .i64 j ∧ j ≤ t.length + 1 ∧ ov = .slice Ao (refTo Ls t j).length co ∧ wr.ownsRow w.heap.size 41 2 (.slice Ao (refTo Ls t j).length co) (refTo Ls t j).length (hitCells (refTo Ls t j)) ∧ Below w.heap.size w wr) (fun _ jv _ => t.length + 1 - (intOf jv).toNat)
  case atStart => exact ⟨0, _, 0, rfl, by omega, rfl, own_none w _ 2, (Below.refl _ _).alloc (Nat.le_refl _) _⟩
  case round =>
    obtain ⟨j, Ao, co, rfl, hj, rfl, hown, hbel⟩ := hrel
    have HO := hide hown
    have HB := hide hbel
    clear hown hbel
    by_cases hlt : j ≤ t.length
    · have e1 : IntKind.i64.wrap ((j : Int) + 1) = (j : Int) + 1 := IntWalk.i64_in _ (by omega)
      have hjc : (j : Int) ≤ (c : Int) := by omega
      have hh := refHits_any ((HT.out.below HB.out).more HB.out.size) (((HR.out.head8 (j := j) hlt).below HB.out).more HB.out.size) hid
      have hhl := hits_len Ls (t.take j)
      have hsn := refTo_succ Ls t j
      have hsl := refTo_len Ls t j hid
      obtain ⟨hs, hhs⟩ : ∃ hs, AM.hits Ls (t.take j) = hs := ⟨_, rfl⟩
      rw [hhs] at hh hhl hsn
      have HH := hide hh
      have HSN := hide hsn
      clear hh hsn hhs
      go_wp2_with fail
      refine HH.out.mono ?_
      rintro e w2 ⟨A2, c2, rfl, ho2, hb2⟩
      have HO2 := hide (show _ ∧ _ from ⟨ho2, own_over HO.out hb2⟩)
      have HB2 := hide (HB.out.trans (hb2.mono HB.out.size))
      have hB2 := Nat.le_trans HB.out.size hb2.size
      clear ho2 hb2 HH
      go_wp2_with fail
      go_loopw [5, 8] (fun ov kv wl => ∃ (k : Nat) (out : List (Nat × Nat)) (Ao : Option Addr) (co : Nat), k ≤ hs.length ∧ kv = .int .i64 k ∧ out = refTo Ls t j ++ (hs.take k).map (fun h => (h, j)) ∧ ov = .slice Ao out.length co ∧ wl.ownsRow w.heap.size 41 2 (.slice Ao out.length co) out.length (hitCells out) ∧ Below w.heap.size w wl ∧ wl.ownsRow wr.heap.size 3 1 (.slice A2 hs.length c2) hs.length (ints hs)) (fun _ kv _ => hs.length - (intOf kv).toNat)
      case atStart => exact ⟨0, _, Ao, co, by omega, rfl, by simp, rfl, HO2.out.2, HB2.out, HO2.out.1⟩
      case round =>
        clear HO2 HB2 HO HB
        obtain ⟨k, out, Ao', co', hk, rfl, hout, rfl, hown, hbel, hoh⟩ := hrel
        have hol : out.length ≤ j * 300 + k := by
          rw [hout, List.length_append, List.length_map, List.length_take]; omega
        have HO := hide hown
        have HB := hide hbel
        have HOut := hide hout
        clear hown hbel hout
        by_cases hkl : k < hs.length
        · obtain ⟨ah, rfl⟩ := own_some hoh (by omega)
          obtain ⟨x, hx⟩ : ∃ x, hs[k]? = some x := ⟨_, List.getElem?_eq_getElem hkl⟩
          obtain ⟨hck, _⟩ := own_cell hoh k (.int .i64 (x : Int)) (by rw [ints, List.getElem?_map, hx]; rfl)
          have htj : (hs.take (k + 1)).map (fun h => (h, j)) = (hs.take k).map (fun h => (h, j)) ++ [(x, j)] := by
            obtain ⟨hj2, e⟩ := List.getElem?_eq_some_iff.1 hx
            rw [List.take_succ_eq_append_getElem hj2, e, List.map_append]; rfl
          have e2 : IntKind.i64.wrap ((k : Int) + 1) = (k : Int) + 1 := IntWalk.i64_in _ (by omega)
          obtain ⟨out', ho', hol'⟩ : ∃ out', out ++ [(x, j)] = out' ∧ out.length + 1 = out'.length := ⟨_, rfl, by simp⟩
          have HT2 := hide (show _ ∧ _ from ⟨htj, ho'⟩)
          have HOH := hide hoh
          have hsz := HB.out.size
          clear hoh hx htj ho'
          go_wp2_with (at_builtin; refine wpList_append_rd _ rfl (.tmp 27) (.tmp 34) _ rfl w.heap.size 41 i0 _ 2 16 Try.underlying34 hi0 hz0 hz1 hz2 rfl (by omega) (.slice Ao' out.length co') out.length (hitCells out) rfl (HO.out.alloc _) (wr.heap.size + 1) (some ⟨wr.heap.size, 0, none⟩) 1 1 [.int .i64 (x : Int), .int .i64 (j : Int)] rfl (rd_two wr _ _ _) (by simp [Value.oneCell']) (by simp only [maxLen]; omega) (by omega) (by simp; omega) ?_; intro A4 c4 w4 hown4 hg4 hat4; have hb4 := (HB.out.alloc hsz _).trans (below_grown (HO.out.alloc _) hg4 (Nat.le_refl _) (by simp; omega)); have H4 := hide (show _ ∧ _ ∧ _ from ⟨hown4, hb4, own_grown_other HO.out HOH.out hg4 (by decide)⟩); clear hown4 hg4 hat4 hb4)
          go_roundw
          case rel => exact ⟨k + 1, out', A4, c4, by omega, by go_num, by rw [← HT2.out.2, HOut.out, List.append_assoc, HT2.out.1], by rw [← hol'], by rw [← hol', ← HT2.out.2, hitCells_snoc]; exact H4.out.1, H4.out.2.1, H4.out.2.2⟩
          case measure => simp [intOf]; omega
        · have hke : k = hs.length := by omega
          subst hke
          rw [List.take_length] at HOut
          have hsn2 := HOut.out.trans HSN.out.symm
          subst hsn2
          go_wp2_with fail
          go_roundw
          case rel => exact ⟨j + 1, Ao', co', by go_num, by omega, rfl, HO.out, HB.out⟩
          case measure => simp [intOf]; omega
    · have hje : j = t.length + 1 := by omega
      subst hje
      go_wp2_with fail
      go_ret
      exact ⟨Ao, co, rfl, HO.out, HB.out⟩
end Go.Proofs.Ytameecogopnkjaa.AW
