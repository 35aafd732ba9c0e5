/- The walk of acho's Scan. -/
import Derived.Test.YtameecogopnkjaaAUse
namespace Go.Proofs.Ytameecogopnkjaa.AW
open Go.ChangeShapes Go.WideShapes Go.ChangeAt Go.RowKit
open Go.Proofs.Ytameecogopnkjaa.B Go.Proofs.Ytameecogopnkjaa.AM
set_option linter.unusedVariables false

/-- The literals found up to a place. -/
def found (Ls : List T) (t : T) (k : Nat) : List (Nat × Nat) := (AM.hits Ls (t.take (k + 1))).map fun h => (h, k + 1)
def scanTo (Ls : List T) (t : T) (i : Nat) : List (Nat × Nat) := (List.range i).flatMap (found Ls t)
theorem scanTo_succ (Ls : List T) (t : T) (i : Nat) : scanTo Ls t (i + 1) = scanTo Ls t i ++ found Ls t i := by simp [scanTo, List.range_succ]
theorem hits_len (Ls : List T) (x : T) : (AM.hits Ls x).length ≤ Ls.length := Nat.le_trans (List.length_filter_le _ _) (by rw [List.length_range]; exact Nat.le_refl _)
theorem scanTo_len (Ls : List T) (t : T) (i : Nat) (h : Ls.length ≤ 300) : (scanTo Ls t i).length ≤ i * 300 := by
  induction i with
  | zero => simp [scanTo]
  | succ i ih =>
    rw [scanTo_succ, List.length_append, found, List.length_map]
    have := hits_len Ls (t.take (i + 1))
    omega
def hitCells (hs : List (Nat × Nat)) : List Value := hs.flatMap fun x => [.int .i64 (x.1 : Int), .int .i64 (x.2 : Int)]
theorem hitCells_snoc (hs : List (Nat × Nat)) (x : Nat × Nat) : hitCells (hs ++ [x]) = hitCells hs ++ [.int .i64 (x.1 : Int), .int .i64 (x.2 : Int)] := by simp [hitCells]
theorem info_hit : (Try.prog.info? 41).map (fun i => (i.zero, i.size, i.bytes)) = some (some (.agg #[.int .i64 0, .int .i64 0]), 2, 16) := by kernel_rfl
theorem rd_two (w : World) (a b : Value) (t : TypeId) : Rd (w.alloc (.cells #[a, b] t)) (w.heap.size + 1) 2 (some ⟨w.heap.size, 0, none⟩) 1 1 [a, b] := rd_row w [a, b] t 2 rfl

set_option maxRecDepth 10000 in
set_option maxHeartbeats 1000000 in
theorem scan_any {u w : World} {g cn n c : Nat} {ns : List Nd} {ad : Addr} {Ls : List T} {t : T} {A : Option Addr} (hM : Mach u g ns (some ad) cn w) (hG : AM.Good Ls ns) (hr : Rd w w.heap.size 1 A n c (u8s t)) (hn : n ≤ 1000) (hid : Ls.length ≤ 300) :
    Calls Try.prog 14 #[.pointer (some ⟨g, 0, none⟩), .slice A n c] w fun e w' => ∃ A' c', e = .returned (.slice A' (scanTo Ls t n).length c') ∧ w'.ownsRow w.heap.size 41 2 (.slice A' (scanTo Ls t n).length c') (scanTo Ls t n).length (hitCells (scanTo Ls t n)) ∧ Below w.heap.size w w' := by
  obtain ⟨i0, hi0, hz0, hz1, hz2⟩ := info_parts info_hit
  have hl := hr.length8
  subst hl
  have HM := hide hM
  have HR := hide hr
  have HG := hide hG
  clear hM hr hG
  go_enter Try.func14, Try.ntmps14
  go_wp2_with fail
  go_loopw [4, 5, 12] (fun ov sv iv wr => ∃ (i s : Nat) (nd : Nd) (Ao : Option Addr) (co : Nat), i ≤ t.length ∧ iv = .int .i64 i ∧ sv = .int .i64 s ∧ ns[s]? = some nd ∧ nd.pre = AM.step Ls (t.take i) ∧ ov = .slice Ao (scanTo Ls t i).length co ∧ wr.ownsRow w.heap.size 41 2 (.slice Ao (scanTo Ls t i).length co) (scanTo Ls t i).length (hitCells (scanTo Ls t i)) ∧ Below w.heap.size w wr) (fun _ _ iv _ => t.length - (intOf iv).toNat)
  case atStart =>
    obtain ⟨r, hr, hrp⟩ := HG.out.root
    exact ⟨0, 0, r, none, 0, by omega, rfl, rfl, hr, hrp, rfl, World.ownsRow_nil _ _ _ _, Below.refl _ _⟩
  case round =>
    obtain ⟨i, s, nd, Ao, co, hi, rfl, rfl, hs, hpre, rfl, hown, hbel⟩ := hrel
    have HO := hide hown
    have HB := hide hbel
    clear hown hbel
    by_cases hlt : i < t.length
    · have hMr := HM.out.over HB.out
      have hsl := (List.getElem?_eq_some_iff.1 hs).1
      have hsi : (s : Int) < (ns.length : Int) := by omega
      obtain ⟨al, rfl, _, hcl⟩ := (HR.out.below HB.out).byte (i := i) hlt
      have htk : t.take (i + 1) = t.take i ++ [t.getD i 0] := by
        rw [List.take_succ_eq_append_getElem hlt, List.getD_eq_getElem?_getD, List.getElem?_eq_getElem hlt]; rfl
      have hcl' : wr.cell? (al.add i) = some (.int .u8 ((t.getD i 0).toNat : Int)) := hcl
      obtain ⟨b, hbb⟩ : ∃ b, t.getD i 0 = b := ⟨_, rfl⟩
      rw [hbb] at hcl' htk
      have hb := UInt8.toNat_lt b
      have hbi : (b.toNat : Int) < 256 := by omega
      obtain ⟨k1, _⟩ := hMr.next_cell hs hb
      obtain ⟨s2, nd2, h1, h2, h3⟩ := HG.out.next s nd b hs
      rw [h1] at k1
      have hs2l := (List.getElem?_eq_some_iff.1 h2).1
      have hs2i : (s2 : Int) < (ns.length : Int) := by omega
      obtain ⟨k2, _⟩ := hMr.hits_cell h2
      have hc0 := hMr.blk.at_ (i := 0) rfl
      have hp2 : nd2.pre = AM.step Ls (t.take (i + 1)) := by rw [h3, hpre, step_step, htk]
      have hh2 : nd2.hits = AM.hits Ls (t.take (i + 1)) := by rw [HG.out.hits s2 nd2 h2, hp2, hits_step]
      have hhl := hits_len Ls (t.take (i + 1))
      rw [← hh2] at hhl
      have hsn := scanTo_succ Ls t i
      rw [found, ← hh2] at hsn
      have hsl2 := scanTo_len Ls t i hid
      have HX := hide (show _ ∧ _ ∧ _ from ⟨h2, hp2, hsn⟩)
      have HM2 := hide hMr
      have e1 : IntKind.i64.wrap ((i : Int) + 1) = (i : Int) + 1 := IntWalk.i64_in _ (by omega)
      clear hMr hs hcl hbb htk h1 h2 h3 hp2 hh2 hsn
      go_wp2_with fail
      go_loopw [4, 36] (fun ov jv wl => ∃ (j : Nat) (out : List (Nat × Nat)) (Ao : Option Addr) (co : Nat), j ≤ nd2.hits.length ∧ jv = .int .i64 j ∧ out = scanTo Ls t i ++ (nd2.hits.take j).map (fun h => (h, i + 1)) ∧ ov = .slice Ao out.length co ∧ wl.ownsRow w.heap.size 41 2 (.slice Ao out.length co) out.length (hitCells out) ∧ Below w.heap.size w wl) (fun _ jv _ => nd2.hits.length - (intOf jv).toNat)
      case atStart => exact ⟨0, _, Ao, co, by omega, rfl, by simp, rfl, HO.out, HB.out⟩
      case round =>
        clear HO HB hc0 k1 k2 hcl'
        obtain ⟨j, out, Ao', co', hj, rfl, hout, rfl, hown, hbel⟩ := hrel
        have hol : out.length ≤ i * 300 + j := by
          rw [hout, List.length_append, List.length_map, List.length_take]; omega
        have HO := hide hown
        have HB := hide hbel
        have HOut := hide hout
        clear hown hbel hout
        by_cases hjl : j < nd2.hits.length
        · have hMw := HM.out.over HB.out
          obtain ⟨ah, hah⟩ := own_some (hMw.hit s2 nd2 HX.out.1) (by omega)
          have hjn : nd2.hits[j]? = some (nd2.hits[j]'hjl) := List.getElem?_eq_getElem hjl
          obtain ⟨k, hk⟩ : ∃ k, nd2.hits[j]? = some k := ⟨_, hjn⟩
          have ho2 := hMw.hit s2 nd2 HX.out.1
          rw [hah] at ho2
          obtain ⟨hck, _⟩ := own_cell ho2 j (.int .i64 (k : Int)) (by rw [ints, List.getElem?_map, hk]; rfl)
          have htj : (nd2.hits.take (j + 1)).map (fun h => (h, i + 1)) = (nd2.hits.take j).map (fun h => (h, i + 1)) ++ [(k, i + 1)] := by
            obtain ⟨hj2, e⟩ := List.getElem?_eq_some_iff.1 hk
            rw [List.take_succ_eq_append_getElem hj2, e, List.map_append]; rfl
          have e2 : IntKind.i64.wrap ((j : Int) + 1) = (j : Int) + 1 := IntWalk.i64_in _ (by omega)
          obtain ⟨out', ho', hol'⟩ : ∃ out', out ++ [(k, i + 1)] = out' ∧ out.length + 1 = out'.length := ⟨_, rfl, by simp⟩
          have HT2 := hide (show _ ∧ _ from ⟨htj, ho'⟩)
          have hsz := HB.out.size
          clear hMw hjn hk ho2 htj ho'
          go_wp2_with (at_builtin; refine wpList_append_rd _ rfl (.tmp 40) (.tmp 45) _ rfl w.heap.size 41 i0 _ 2 16 Try.underlying34 hi0 hz0 hz1 hz2 rfl (by omega) (.slice Ao' out.length co') out.length (hitCells out) rfl (HO.out.alloc _) (wr.heap.size + 1) (some ⟨wr.heap.size, 0, none⟩) 1 1 [.int .i64 (k : Int), .int .i64 ((i : Int) + 1)] rfl (rd_two wr _ _ _) (by simp [Value.oneCell']) (by simp only [maxLen]; omega) (by omega) (by simp; omega) ?_; intro A4 c4 w4 hown4 hg4 hat4; have hb4 := (HB.out.alloc hsz _).trans (below_grown (HO.out.alloc _) hg4 (Nat.le_refl _) (by simp; omega)); have H4 := hide (show _ ∧ _ from ⟨hown4, hb4⟩); clear hown4 hg4 hat4 hb4)
          rw [← hah]
          go_roundw
          case rel => exact ⟨j + 1, out', A4, c4, by omega, by go_num, by rw [← HT2.out.2, HOut.out, List.append_assoc, HT2.out.1], by rw [← hol'], by rw [← hol', ← HT2.out.2, hitCells_snoc]; exact H4.out.1, H4.out.2⟩
          case measure => simp [intOf]; omega
        · have hje : j = nd2.hits.length := by omega
          subst hje
          rw [List.take_length] at HOut
          have hsn2 := HOut.out.trans HX.out.2.2.symm
          subst hsn2
          go_wp2_with fail
          go_roundw
          case rel => exact ⟨i + 1, s2, nd2, Ao', co', by omega, by go_num, rfl, HX.out.1, HX.out.2.1, rfl, HO.out, HB.out⟩
          case measure => simp [intOf]; omega
    · have hie : i = t.length := by omega
      subst hie
      go_wp2_with fail
      go_ret
      exact ⟨Ao, co, rfl, HO.out, HB.out⟩
end Go.Proofs.Ytameecogopnkjaa.AW
