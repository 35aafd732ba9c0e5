/- What a pen has written an eye reads. Plain law; and the memory of the calls that were taken. -/
import Derived.Test.YthfmfcgjcilagaaPEyes
namespace Go.Proofs.Ythfmfcgjcilagaa.PW
open Go.ChangeShapes Go.WideShapes Go.ChangeAt Go.RowKit
open Go.Proofs.Ythfmfcgjcilagaa.B
open Go.Proofs.Ythfmfcgjcilagaa.LM (wordTo)
set_option linter.unusedVariables false

theorem and1 (a : Int) : bits BinOp.and IntKind.i64 a 1 = 0 ∨ bits BinOp.and IntKind.i64 a 1 = 1 := by
  have h : (BitVec.ofInt 64 a &&& BitVec.ofInt 64 1).toNat ≤ 1 := by
    rw [BitVec.toNat_and]
    exact Nat.le_trans Nat.and_le_right (by decide)
  have e : bits BinOp.and IntKind.i64 a 1 = ((BitVec.ofInt 64 a &&& BitVec.ofInt 64 1).toNat : Int) := by
    show IntKind.i64.wrap ((BitVec.ofInt 64 a &&& BitVec.ofInt 64 1).toNat : Int) = _
    exact IntWalk.i64_in _ (by omega)
  rw [e]
  omega
/-- What a call writes, if it is taken. -/
def encOp (o : OpV) : Option (List UInt8) :=
  if bits BinOp.and IntKind.i64 o.kind 1 = 0 then (if (refU o.n o.size).2 = 0 then some (refU o.n o.size).1 else none) else some (le o.l 4 ++ o.bs)
def encAll (ds : List OpV) : List UInt8 := ds.flatMap fun o => (encOp o).getD []
theorem encAll_snoc (ds : List OpV) (o : OpV) : encAll (ds ++ [o]) = encAll ds ++ (encOp o).getD [] := by simp [encAll]
theorem encAll_split (ds : List OpV) (i : Nat) (o : OpV) (h : ds[i]? = some o) : encAll ds = encAll (ds.take i) ++ ((encOp o).getD [] ++ encAll (ds.drop (i + 1))) ∧ encAll (ds.take (i + 1)) = encAll (ds.take i) ++ (encOp o).getD [] := by
  obtain ⟨hi, e⟩ := List.getElem?_eq_some_iff.1 h
  have h1 : ds.take (i + 1) = ds.take i ++ [o] := by rw [List.take_succ_eq_append_getElem hi, e]
  have h2 : ds.drop i = o :: ds.drop (i + 1) := by rw [List.drop_eq_getElem_cons hi, e]
  refine ⟨?_, by rw [h1, encAll_snoc]⟩
  conv => lhs; rw [← List.take_append_drop i ds, h2]
  simp [encAll]
theorem back_uint (o : OpV) (e pre post : List UInt8) (hk : bits BinOp.and IntKind.i64 o.kind 1 = 0) (he : encOp o = some e) (hn : o.n < 18446744073709551616) : eyeU (pre ++ (e ++ post)) pre.length o.size = (o.n, 0, (pre ++ e).length) := by
  rw [encOp, if_pos hk] at he
  split at he
  · rename_i h0
    injection he with he
    subst he
    have hs : ¬ (o.size < 1 ∨ 8 < o.size) := fun h => by rw [refU, if_pos h] at h0; simp at h0
    have hp : ¬ 0 < o.n / 2 ^ (8 * o.size.toNat) := fun h => by rw [refU, if_neg hs, if_pos h] at h0; simp at h0
    have hr : refU o.n o.size = (le o.n o.size.toNat, 0) := by rw [refU, if_neg hs, if_neg hp]
    have hlt : o.n < 2 ^ (8 * o.size.toNat) := (Nat.div_eq_zero_iff_lt (Nat.two_pow_pos _)).1 (Nat.eq_zero_of_not_pos hp)
    rw [hr, eyeU, if_neg hs, if_neg, List.drop_left' rfl, word_le, Nat.mod_eq_of_lt hlt, List.length_append, le_length]
    simp only [List.length_append, le_length]
    omega
  · cases he
theorem back_bytes (o : OpV) (pre post : List UInt8) (hl : o.bs.length = o.l) (hm : o.l < 4294967296) : eyeB (pre ++ ((le o.l 4 ++ o.bs) ++ post)) pre.length = (o.bs, 0, (pre ++ (le o.l 4 ++ o.bs)).length) := by
  have h4 : (le o.l 4).length = 4 := le_length _ _
  have hw : wordTo (at8 ((pre ++ ((le o.l 4 ++ o.bs) ++ post)).drop pre.length)) 4 = o.l := by
    rw [List.drop_left' rfl, List.append_assoc, word_le, Nat.mod_eq_of_lt (by simpa using hm)]
  rw [eyeB, hw, if_neg, if_neg]
  · have h1 : (pre ++ ((le o.l 4 ++ o.bs) ++ post)).drop (pre.length + 4) = o.bs ++ post := by
      rw [show pre ++ ((le o.l 4 ++ o.bs) ++ post) = (pre ++ le o.l 4) ++ (o.bs ++ post) by simp only [List.append_assoc], List.drop_left' (by rw [List.length_append, h4])]
    rw [h1, List.take_left' hl]
    simp only [List.length_append, h4, hl]
    congr 2
    omega
  · simp only [List.length_append, h4, hl]; omega
  · simp only [List.length_append, h4, hl]; omega
theorem back_end (xs : List UInt8) : eyeU xs xs.length 1 = (0, 40, xs.length) := by
  rw [eyeU, if_neg (by omega), if_pos]
  simp

/-! ### The calls that were taken -/
def OpV.cells (o : OpV) : List Value := [.int .i64 o.kind, .int .i64 o.size, .int .u64 (o.n : Int), .slice o.A o.l o.c]
def opCells (ds : List OpV) : List Value := ds.flatMap OpV.cells
theorem opCells_length (ds : List OpV) : (opCells ds).length = ds.length * 4 := by
  induction ds with
  | nil => rfl
  | cons o ds ih =>
    rw [opCells, List.flatMap_cons, List.length_append, List.length_cons]
    show 4 + (opCells ds).length = _
    rw [ih]; omega
theorem opCells_at (ds : List OpV) (i k : Nat) (o : OpV) (h : ds[i]? = some o) (hk : k < 4) : (opCells ds)[i * 4 + k]? = o.cells[k]? := by
  induction ds generalizing i with
  | nil => simp at h
  | cons d ds ih =>
    have e : opCells (d :: ds) = d.cells ++ opCells ds := rfl
    have hl : d.cells.length = 4 := rfl
    rw [e]
    cases i with
    | zero =>
      simp only [List.getElem?_cons_zero, Option.some.injEq] at h
      subst h
      rw [Nat.zero_mul, Nat.zero_add, List.getElem?_append_left (by omega)]
    | succ i =>
      rw [List.getElem?_cons_succ] at h
      rw [List.getElem?_append_right (by omega), hl, show (i + 1) * 4 + k - 4 = i * 4 + k by omega]
      exact ih i h
theorem opCells_one (ds : List OpV) : ∀ u ∈ opCells ds, u.oneCell' = true := by
  intro u hu
  obtain ⟨o, _, h⟩ := List.mem_flatMap.1 hu
  simp only [OpV.cells, List.mem_cons, List.not_mem_nil, or_false] at h
  rcases h with rfl | rfl | rfl | rfl <;> rfl
theorem opCells_snoc (ds : List OpV) (o : OpV) : opCells (ds ++ [o]) = opCells ds ++ o.cells := by simp [opCells]
/-- What is known of each of them. -/
structure Taken (u : World) (ds : List OpV) : Prop where
  ok : ∀ o ∈ ds, OpOk o ∧ Rd u u.heap.size 1 o.A o.l o.c (u8s o.bs) ∧ ∃ e, encOp o = some e
theorem Taken.snoc {u : World} {ds : List OpV} {o : OpV} (h : Taken u ds) (h1 : OpOk o) (h2 : Rd u u.heap.size 1 o.A o.l o.c (u8s o.bs)) (h3 : ∃ e, encOp o = some e) : Taken u (ds ++ [o]) :=
  ⟨fun p hp => by
    rcases List.mem_append.1 hp with h4 | h4
    · exact h.ok p h4
    · rw [List.mem_singleton] at h4
      subst h4
      exact ⟨h1, h2, h3⟩⟩
/-- The cells of one of them, in a row of calls. -/
theorem done_at {w : World} {base n c : Nat} {t : TypeId} {A : Option Addr} {ds : List OpV} (h : w.ownsRow base t 4 (.slice A n c) n (opCells ds)) {i : Nat} (hi : i < n) : ∃ ad o, A = some ad ∧ ds[i]? = some o ∧ o ∈ ds ∧
    w.cell? (ad.add (i * 4)) = some (.int .i64 o.kind) ∧ w.cell? (ad.add (i * 4 + 1)) = some (.int .i64 o.size) ∧ w.cell? (ad.add (i * 4 + 2)) = some (.int .u64 (o.n : Int)) ∧ w.cell? (ad.add (i * 4 + 3)) = some (.slice o.A o.l o.c) := by
  have hl := h.1
  rw [opCells_length] at hl
  obtain ⟨ad, rfl, _, hc⟩ := (Rd.of_own h).lies (by omega)
  have ho : ds[i]? = some (ds[i]'(by omega)) := List.getElem?_eq_getElem (by omega)
  exact ⟨ad, _, rfl, ho, List.getElem_mem _, hc _ _ (opCells_at ds i 0 _ ho (by omega)), hc _ _ (opCells_at ds i 1 _ ho (by omega)), hc _ _ (opCells_at ds i 2 _ ho (by omega)), hc _ _ (opCells_at ds i 3 _ ho (by omega))⟩

end Go.Proofs.Ythfmfcgjcilagaa.PW
