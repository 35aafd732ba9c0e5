/- A script that came in: a slice of calls (kind, size, number, bytes), as the walks of the laws read it. -/
import Derived.Test.YthfmfcgjcilagaaMem
import Derived.Test.YthfmfcgjcilagaaBulk
import Derived.Deep.Slices
import Derived.Deep.Fields
import Derived.ChangeSame
namespace Go.Proofs.Ythfmfcgjcilagaa.PW
open Go.ChangeShapes Go.WideShapes Go.ChangeAt Go.RowKit Go.Deep
open Go.Proofs.Ythfmfcgjcilagaa.B
set_option linter.unusedVariables false

/-- One call of a script. -/
structure OpV where
  kind : Int
  size : Int
  n : Nat
  A : Option Addr
  l : Nat
  c : Nat
  bs : List UInt8
/-- Its four cells, and its bytes, at a place. -/
structure OpAt (w : World) (B : Nat) (ad : Addr) (i : Nat) (o : OpV) : Prop where
  k0 : w.cell? (ad.add (i * 4)) = some (.int .i64 o.kind)
  k1 : w.cell? (ad.add (i * 4 + 1)) = some (.int .i64 o.size)
  k2 : w.cell? (ad.add (i * 4 + 2)) = some (.int .u64 (o.n : Int))
  k3 : w.cell? (ad.add (i * 4 + 3)) = some (.slice o.A o.l o.c)
  rd : Rd w B 1 o.A o.l o.c (u8s o.bs)
/-- What holds of a call's numbers. -/
structure OpOk (o : OpV) : Prop where
  kind : -9223372036854775808 ≤ o.kind ∧ o.kind ≤ 9223372036854775807
  size : -9223372036854775808 ≤ o.size ∧ o.size ≤ 9223372036854775807
  n : o.n < 18446744073709551616
  l : o.l ≤ 1048576
  len : o.bs.length = o.l
structure Script (w : World) (B : Nat) (a : Option Addr) (len cap : Nat) (os : List OpV) : Prop where
  count : os.length = len
  room : len ≤ cap
  max : cap ≤ maxLen
  small : len ≤ 1048576
  ok : ∀ o ∈ os, OpOk o
  lies : 0 < len → ∃ ad, a = some ad ∧ ad.block < B ∧ ∀ i o, os[i]? = some o → OpAt w B ad i o
theorem OpAt.keep {w w' : World} {B : Nat} {ad : Addr} {i : Nat} {o : OpV} (h : OpAt w B ad i o) (hb : ad.block < B) (hk : ∀ p : Addr, p.block < B → w'.cell? p = w.cell? p) : OpAt w' B ad i o :=
  ⟨(hk _ (by rw [add_block]; exact hb)).trans h.k0, (hk _ (by rw [add_block]; exact hb)).trans h.k1, (hk _ (by rw [add_block]; exact hb)).trans h.k2, (hk _ (by rw [add_block]; exact hb)).trans h.k3, h.rd.keep hk⟩
theorem Script.keep {w w' : World} {B : Nat} {a : Option Addr} {len cap : Nat} {os : List OpV} (h : Script w B a len cap os) (hk : ∀ p : Addr, p.block < B → w'.cell? p = w.cell? p) : Script w' B a len cap os :=
  ⟨h.count, h.room, h.max, h.small, h.ok, fun hn => by
    obtain ⟨ad, e, hb, hc⟩ := h.lies hn
    exact ⟨ad, e, hb, fun i o ho => (hc i o ho).keep hb hk⟩⟩
theorem Script.below {w w' : World} {B : Nat} {a : Option Addr} {len cap : Nat} {os : List OpV} (h : Script w B a len cap os) (hb : Below B w w') : Script w' B a len cap os := h.keep fun _ hp => hb.cell hp
theorem Script.more {w : World} {B B' : Nat} {a : Option Addr} {len cap : Nat} {os : List OpV} (h : Script w B a len cap os) (hB : B ≤ B') : Script w B' a len cap os :=
  ⟨h.count, h.room, h.max, h.small, h.ok, fun hn => by
    obtain ⟨ad, e, hb, hc⟩ := h.lies hn
    exact ⟨ad, e, by omega, fun i o ho => let q := hc i o ho; ⟨q.k0, q.k1, q.k2, q.k3, q.rd.more hB⟩⟩⟩
theorem Script.over {w w' : World} {a : Option Addr} {len cap : Nat} {os : List OpV} (h : Script w w.heap.size a len cap os) (hb : Below w.heap.size w w') : Script w' w'.heap.size a len cap os := (h.below hb).more hb.size
/-- The call at a place. -/
theorem Script.at_ {w : World} {B : Nat} {a : Option Addr} {len cap : Nat} {os : List OpV} (h : Script w B a len cap os) {i : Nat} (hi : i < len) : ∃ ad o, a = some ad ∧ ad.block < B ∧ os[i]? = some o ∧ OpAt w B ad i o ∧ OpOk o := by
  obtain ⟨ad, e, hb, hc⟩ := h.lies (by omega)
  have hl := h.count
  have ho : os[i]? = some (os[i]'(by omega)) := List.getElem?_eq_getElem (by omega)
  exact ⟨ad, _, e, hb, ho, hc i _ ho, h.ok _ (List.getElem_mem _)⟩

section
variable {H : Type} {enc : TypeId × Value → H} {w : World} {base : Nat} {spare : Nat → Bool} {held : Bool}
/-- The elements of a slice of structs, field by field. -/
theorem fields_of {P : Program} {t e : TypeId} {fs : Array Field} {fuel : Nat} {cs : List Value} {x : DataW H × List MemPlace} (ht : P.underlying t = some (.slice e)) (he : P.underlying e = some (.struct fs))
    (hone : oneCellFields P fs = true) (hC : P.cellsOf e = fs.size) (h : DataW.trod enc P w base spare held fuel t cs = some x) :
    (cs = [.slice none 0 0] ∧ x = (.nil, [])) ∨
    ∃ (a : Addr) (len cap m : Nat) (D : Nat → DataW H) (Pl : Nat → List MemPlace), cs = [.slice (some a) len cap] ∧ len ≤ cap ∧ cap ≤ maxLen ∧ len ≤ m ∧ x.1 = .slice ((List.range len).map D) ((List.range (m - len)).map fun j => D (len + j)) ∧
      ∀ i, i < m → ∃ (ys : List (DataW H × List MemPlace)) (n : Nat), D i = .agg (ys.map (·.1)) ∧
        ∀ (j : Nat) (f : Field), fs[j]? = some f → ∃ (v : Value) (y : DataW H × List MemPlace), w.cell? (a.add (i * fs.size + j)) = some v ∧ y ∈ ys ∧ DataW.trod enc P w base spare held n f.type [v] = some y := by
  rcases open_slice ht h with h0 | ⟨a, len, cap, m, n, D, Pl, hcs, hb, hl, hm, hmm, hx, hi⟩
  · exact .inl h0
  · refine .inr ⟨a, len, cap, m, D, Pl, hcs, hl, hm, by rw [hmm]; split <;> omega, by rw [hx], fun i him => ?_⟩
    obtain ⟨cs', hc, ht'⟩ := hi i him
    rw [hC] at hc
    obtain ⟨ys, n', hn', hy, hlen, hyl, hf⟩ := DataW.trod_struct he ht'
    obtain ⟨_, hcl, hat⟩ := World.cells?_some hc
    simp only [Prod.mk.injEq] at hy
    refine ⟨ys, n', hy.1, fun j f hj => ?_⟩
    obtain ⟨ho, hk⟩ := hone_of hone j f hj
    have hjl : j < fs.size := (Array.getElem?_eq_some_iff.1 hj).1
    have hcell := hat j hjl
    have hv : cs'[j]? = some (cs'[j]'(by omega)) := List.getElem?_eq_getElem (by omega)
    have h1 := hf j f hj
    rw [ho, hk] at h1
    have hone' : (cs'.drop j).take 1 = [cs'[j]'(by omega)] := by
      rw [List.drop_eq_getElem_cons (by omega)]
      rfl
    rw [hone'] at h1
    have hys : ys[j]? = some (ys[j]'(by omega)) := List.getElem?_eq_getElem (by omega)
    refine ⟨_, _, ?_, List.getElem_mem (by omega : j < ys.length), h1.trans hys⟩
    rw [← Go.Deep.add_add, hcell, hv]

theorem nat_of_u64 {z : Int} (h : (Lit.int .u64 z).wf = true) : ∃ n : Nat, z = (n : Int) ∧ n < 18446744073709551616 := by
  have i : 0 ≤ z ∧ z ≤ 18446744073709551615 := by simpa [Lit.wf, IntKind.min, IntKind.max, IntKind.signed, IntKind.bits] using h
  exact ⟨z.toNat, by omega, by omega⟩
theorem i64_of {z : Int} (h : (Lit.int .i64 z).wf = true) : -9223372036854775808 ≤ z ∧ z ≤ 9223372036854775807 := by
  simpa [Lit.wf, IntKind.min, IntKind.max, IntKind.signed, IntKind.bits] using h

theorem script_of {fuel : Nat} {a : Option Addr} {len cap : Nat} {x : DataW H × List MemPlace}
    (h : DataW.trod enc Try.prog w 0 (fun _ => true) true fuel 22 [.slice a len cap] = some x) (hk : Rows.uptoBulk x.1 ≤ 1048576) :
    ∃ os, Script w w.heap.size a len cap os := by
  rcases fields_of Try.underlying22 Try.underlying30 (by kernel_rfl) (by kernel_rfl) h with ⟨hcs, _⟩ | ⟨ad, l, c, m, D, Pl, hcs, hl, hm, hlm, hx, hf⟩
  · simp at hcs
    obtain ⟨rfl, rfl, rfl⟩ := hcs
    exact ⟨[], rfl, Nat.le_refl _, by simp [maxLen], by omega, fun o ho => (by cases ho), fun hn => (by omega)⟩
  · simp at hcs
    obtain ⟨rfl, rfl, rfl⟩ := hcs
    have hbul : len ≤ 1048576 := by
      have := bulks.slice_le ((List.range len).map D) ((List.range (m - len)).map fun j => D (len + j))
      rw [← hx] at this
      simp only [List.length_map, List.length_range] at this
      omega
    have hD : ∀ i, i < len → Rows.uptoBulk (D i) ≤ 1048576 := fun i hi => by
      have h1 := bulks.part_le (d := D i) (l := (List.range len).map D) (List.mem_map.2 ⟨i, List.mem_range.2 hi, rfl⟩)
      have h2 := bulks.slice_elems ((List.range len).map D) ((List.range (m - len)).map fun j => D (len + j))
      rw [← hx] at h2
      omega
    have each : ∀ i, i < len → ∃ o : OpV, OpAt w w.heap.size ad i o ∧ OpOk o := fun i hi => by
      obtain ⟨ys, n, hd, hff⟩ := hf i (by omega)
      obtain ⟨v0, y0, c0, m0, t0⟩ := hff 0 _ rfl
      obtain ⟨v1, y1, c1, m1, t1⟩ := hff 1 _ rfl
      obtain ⟨v2, y2, c2, m2, t2⟩ := hff 2 _ rfl
      obtain ⟨v3, y3, c3, m3, t3⟩ := hff 3 _ rfl
      obtain ⟨z0, e0, _, g0⟩ := DataW.trod_int Try.underlying3 t0
      obtain ⟨z1, e1, _, g1⟩ := DataW.trod_int Try.underlying3 t1
      obtain ⟨z2, e2, _, g2⟩ := DataW.trod_int Try.underlying28 t2
      simp only [List.cons.injEq, and_true] at e0 e1 e2
      subst e0 e1 e2
      obtain ⟨n2, rfl, hn2⟩ := nat_of_u64 g2
      have hy3 : Rows.uptoBulk y3.1 ≤ 1048576 := by
        have h1 := bulks.part_le (d := y3.1) (l := ys.map (·.1)) (List.mem_map.2 ⟨y3, m3, rfl⟩)
        have h2 := hD i hi
        rw [hd] at h2
        simp only [Rows.uptoBulk] at h2
        omega
      have hrow : ∃ A l c zs, v3 = .slice A l c ∧ IsRow .u8 w A l c zs ∧ l ≤ 1048576 := by
        rcases open_ints Try.underlying25 Try.underlying5 (by kernel_rfl) t3 with ⟨hcs, hx⟩ | ⟨x, l, c, zs, hcs, _, hl, hm, hz, hx, hcell, hwz⟩
        · simp only [List.cons.injEq, and_true] at hcs
          exact ⟨none, 0, 0, [], hcs, .inl ⟨rfl, rfl, rfl, rfl⟩, by omega⟩
        · simp only [List.cons.injEq, and_true] at hcs
          have hb := bulks.ints_le (congrArg Prod.fst hx) (by simp at hz; omega)
          exact ⟨some x, l, c, zs, hcs, .inr ⟨_, rfl, hl, hm, by simpa using hz, hcell, hwz⟩, by omega⟩
      obtain ⟨A3, l3, c3', zs, rfl, hrow, hl3⟩ := hrow
      obtain ⟨bs, hr⟩ := rd_of_row hrow
      exact ⟨⟨z0, z1, n2, A3, l3, c3', bs⟩, ⟨c0, c1, c2, c3, hr⟩, ⟨i64_of g0, i64_of g1, hn2, hl3, hr.length8⟩⟩
    have hch : ∃ os : List OpV, os.length = len ∧ ∀ i o, os[i]? = some o → OpAt w w.heap.size ad i o ∧ OpOk o := by
      clear hx hf hD hbul hl hlm hk h
      revert each
      induction len with
      | zero => exact fun _ => ⟨[], rfl, fun i o h => by simp at h⟩
      | succ k ih =>
        intro each
        obtain ⟨os, h1, h2⟩ := ih (fun i hi => each i (by omega))
        obtain ⟨o, ho⟩ := each k (by omega)
        refine ⟨os ++ [o], by simp [h1], fun i o' hi => ?_⟩
        rcases Nat.lt_or_ge i os.length with h | h
        · rw [List.getElem?_append_left h] at hi
          exact h2 i o' hi
        · rw [List.getElem?_append_right h] at hi
          have hi0 : i - os.length = 0 := by
            have := (List.getElem?_eq_some_iff.1 hi).1
            simp at this
            omega
          rw [hi0] at hi
          simp at hi
          subst hi
          rw [show i = k by omega]
          exact ho
    obtain ⟨os, h1, h2⟩ := hch
    refine ⟨os, h1, hl, hm, hbul, fun o ho => ?_, fun hn => ⟨ad, rfl, ?_, fun i o hi => (h2 i o hi).1⟩⟩
    · obtain ⟨i, hi, e⟩ := List.mem_iff_getElem.1 ho
      exact (h2 i o (by rw [List.getElem?_eq_getElem hi, e])).2
    · have h3 := (each 0 hn).choose_spec.1.k0
      have h6 := World.block_lt_of_cell? (h := h3)
      rwa [add_block] at h6
end
end Go.Proofs.Ythfmfcgjcilagaa.PW
