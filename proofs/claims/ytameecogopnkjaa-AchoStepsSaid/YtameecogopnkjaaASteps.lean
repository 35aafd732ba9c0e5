/- The rows that live in AchoSteps' region that draws its order. -/
import Derived.Test.YtameecogopnkjaaASpeak
namespace Go.Proofs.Ytameecogopnkjaa.AW
open Go.ChangeShapes Go.WideShapes Go.ChangeAt Go.RowKit
open Go.Proofs.Ytameecogopnkjaa.B Go.Proofs.Ytameecogopnkjaa.AM
set_option linter.unusedVariables false

/-- A row of bytes: its address, its room, its bytes. -/
structure RowT where
  ad : Option Addr
  room : Nat
  bs : T
def RowT.val (r : RowT) : Value := .slice r.ad r.bs.length r.room
def RowT.own (r : RowT) (w0 w : World) : Prop := w.ownsRow w0.heap.size 5 1 (.slice r.ad r.bs.length r.room) r.bs.length (u8s r.bs)
/-- Three rows of one's own, of which the second may grow. -/
structure LV (w0 w : World) (P X Y : Option RowT) : Prop where
  lw : Below w0.heap.size w0 w
  p : ∀ r, P = some r → r.own w0 w
  x : ∀ r, X = some r → r.own w0 w
  y : ∀ r, Y = some r → r.own w0 w
  px : ∀ r s k, P = some r → X = some s → r.val.ownBlock = some k → s.val.ownBlock ≠ some k
  xy : ∀ r s k, Y = some r → X = some s → r.val.ownBlock = some k → s.val.ownBlock ≠ some k
section
variable {w0 w w' : World} {P X Y : Option RowT}
theorem LV.start (h : Below w0.heap.size w0 w) : LV w0 w none none none :=
  ⟨h, fun r e => (nomatch e), fun r e => (nomatch e), fun r e => (nomatch e), fun r s k e => (nomatch e), fun r s k e => (nomatch e)⟩
theorem LV.over (h : LV w0 w P X Y) (hb : Below w.heap.size w w') : LV w0 w' P X Y :=
  ⟨h.lw.trans (hb.mono h.lw.size), fun r e => own_over (h.p r e) hb, fun r e => own_over (h.x r e) hb, fun r e => own_over (h.y r e) hb, h.px, h.xy⟩
theorem LV.alloc (h : LV w0 w P X Y) (o : Obj) : LV w0 (w.alloc o) P X Y := h.over ((Below.refl _ _).alloc (Nat.le_refl _) o)
theorem LV.drew (h : LV w0 w P X Y) : LV w0 w.drew P X Y := h.over (Below.drew (Below.refl _ _))
theorem new_apart {r s : RowT} {k : Nat} (hs : s.own w0 w) (hr : ∀ k, r.val.ownBlock = some k → w.heap.size ≤ k) (h : r.val.ownBlock = some k) : s.val.ownBlock ≠ some k := fun e => by
  have h1 := (own_block hs k e).2
  have h2 := hr k h
  omega
theorem new_apart' {r s : RowT} {k : Nat} (hs : r.own w0 w) (hr : ∀ k, s.val.ownBlock = some k → w.heap.size ≤ k) (h : r.val.ownBlock = some k) : s.val.ownBlock ≠ some k := fun e => by
  have h1 := (own_block hs k h).2
  have h2 := hr k e
  omega
/-- The first row comes. -/
theorem LV.newP (h : LV w0 w none X Y) (hb : Below w.heap.size w w') (r : RowT) (ho : w'.ownsRow w.heap.size 5 1 (.slice r.ad r.bs.length r.room) r.bs.length (u8s r.bs)) : LV w0 w' (some r) X Y :=
  have h2 := h.over hb
  ⟨h2.lw, fun s e => by cases e; exact own_lower ho h.lw.size, h2.x, h2.y, fun s t k e1 e2 h3 => by cases e1; exact new_apart (h.x t e2) (fun k hk => (own_block ho k hk).1) h3, h2.xy⟩
def litR (w : World) (bs : T) : RowT := ⟨some ⟨w.heap.size, 0, none⟩, bs.length, bs⟩
theorem own_lit0 (w : World) : (w.alloc (.cells #[] 5)).ownsRow w.heap.size 5 1 (.slice (some ⟨w.heap.size, 0, none⟩) 0 0) 0 (u8s []) := own_none w 5 1
theorem own_lit1 (w : World) (b : UInt8) : (w.alloc (.cells #[.int .u8 (b.toNat : Int)] 5)).ownsRow w.heap.size 5 1 (.slice (some ⟨w.heap.size, 0, none⟩) 1 1) 1 (u8s [b]) := World.ownsRow_lit w #[.int .u8 (b.toNat : Int)] 1 (Nat.le_refl _) (by simp [maxLen]) rfl
/-- The second row begins. -/
theorem LV.lit0 (h : LV w0 w P none Y) : LV w0 (w.alloc (.cells #[] 5)) P (some (litR w [])) Y :=
  have h2 := h.alloc (.cells #[] 5)
  have hb : ∀ k, (litR w []).val.ownBlock = some k → w.heap.size ≤ k := fun k hk => (own_block (own_lit0 w) k hk).1
  ⟨h2.lw, h2.p, fun r e => by cases e; exact own_lower (own_lit0 w) h.lw.size, h2.y, fun r s k e1 e2 h3 => by cases e2; exact new_apart' (h.p r e1) hb h3, fun r s k e1 e2 h3 => by cases e2; exact new_apart' (h.y r e1) hb h3⟩
/-- The third row comes. -/
theorem LV.lit1 (h : LV w0 w P X none) (b : UInt8) : LV w0 (w.alloc (.cells #[.int .u8 (b.toNat : Int)] 5)) P X (some (litR w [b])) :=
  have h2 := h.alloc (.cells #[.int .u8 (b.toNat : Int)] 5)
  have hb : ∀ k, (litR w [b]).val.ownBlock = some k → w.heap.size ≤ k := fun k hk => (own_block (own_lit1 w b) k hk).1
  ⟨h2.lw, h2.p, h2.x, fun r e => by cases e; exact own_lower (own_lit1 w b) h.lw.size, h2.px, fun r s k e1 e2 h3 => by cases e1; exact new_apart (h.x s e2) hb h3⟩
/-- The second row grows. -/
theorem LV.grow {r r' : RowT} (h : LV w0 w P (some r) Y) (hg : w.grownBy w' r.val.ownBlock) (ho : r'.own w0 w') (hat : r'.val.ownBlock = r.val.ownBlock ∨ r'.val.ownBlock = some w.heap.size) : LV w0 w' P (some r') Y := by
  have hx := h.x r rfl
  have hf : Fr w w' (fun k => r.val.ownBlock = some k) := (Fr.refl w _).grown hg (fun k e _ => e)
  have ap : ∀ q : RowT, q.own w0 w → (∀ k, q.val.ownBlock = some k → r.val.ownBlock ≠ some k) → ∀ k, q.val.ownBlock = some k → r'.val.ownBlock ≠ some k := fun q hq ha k hk e => by
    rcases hat with h1 | h1
    · exact ha k hk (h1 ▸ e)
    · rw [h1] at e
      have h2 := Option.some.inj e
      have h3 := (own_block hq k hk).2
      omega
  exact ⟨h.lw.trans (below_grown hx hg (Nat.le_refl _) h.lw.size), fun q e => own_fr (h.p q e) hf (fun k hk e2 => h.px q r k e rfl hk e2), fun q e => by cases e; exact ho, fun q e => own_fr (h.y q e) hf (fun k hk e2 => h.xy q r k e rfl hk e2),
    fun q s k e1 e2 hk => by cases e2; exact ap q (h.p q e1) (fun k hk => h.px q r k e1 rfl hk) k hk, fun q s k e1 e2 hk => by cases e2; exact ap q (h.y q e1) (fun k hk => h.xy q r k e1 rfl hk) k hk⟩
theorem LV.str {ad : Option Addr} {room : Nat} {bs : T} (h : LV w0 w (some ⟨ad, room, bs⟩) X Y) : (convert 23 9 (.slice ad bs.length room)).run Try.prog w = .ok (.string (B.str bs)) w :=
  run_str (P := Try.prog) 23 9 5 Try.underlying23 Try.underlying5 Try.underlying9 (Rd.of_own (h.p _ rfl))
theorem LV.rdX {ad : Option Addr} {room : Nat} {bs : T} (h : LV w0 w P (some ⟨ad, room, bs⟩) Y) : Rd w w.heap.size 1 ad bs.length room (u8s bs) := Rd.of_own (h.x _ rfl)
theorem LV.rdY {r : RowT} (h : LV w0 w P X (some r)) : Rd w w.heap.size 1 r.ad r.bs.length r.room (u8s r.bs) := Rd.of_own (h.y r rfl)
/-- The second row is appended to, in a region that draws its order. -/
theorem step_app {ops : Array Oper} {o : Oper} {a : Act} {K : Act → World → Prop} {Q : Exit → Act → World → Prop} {E : Prop} (hw : Region.wanted o (yielded ops a.tmps) = true) (s x : Operand)
    (ho : o.op = .call { callee := .builtin .append, args := #[s, x], argTypes := #[23, 23] }) {r : RowT} (hL : LV w0 w P (some r) Y) (B : Nat) (A : Option Addr) (c : Nat) (bs : T)
    (e1 : a.eval s = .slice r.ad r.bs.length r.room) (e2 : a.eval x = .slice A bs.length c) (hx : Rd w B 1 A bs.length c (u8s bs)) (hl : r.bs.length + bs.length ≤ 1000000) (q : T) (hq : q = r.bs ++ bs)
    (h : ∀ A' c' w', LV w0 w' P (some ⟨A', c', q⟩) Y → K (a.put o.dst (.slice A' q.length c')) w') :
    if Region.wanted o (yielded ops a.tmps) = true then Oper.wp Try.prog o a w K Q else E := by
  obtain ⟨i0, hi0, hz0, hz1, hz2⟩ := info_parts info_u8
  rw [if_pos hw]
  refine wp_append_rd w s x 23 ho w0.heap.size 5 i0 _ 1 1 Try.underlying23 hi0 hz0 hz1 hz2 rfl (by omega) (.slice r.ad r.bs.length r.room) r.bs.length (u8s r.bs) e1 (hL.x r rfl) B A bs.length c (u8s bs) e2 hx (u8s_one _) (by simp only [maxLen]; omega) (by omega) hL.lw.size ?_
  intro A' c' w' hown hg hat
  have hl2 : r.bs.length + bs.length = q.length := by rw [hq, List.length_append]
  rw [← u8s_append, ← hq, hl2] at hown
  rw [hl2] at hat ⊢
  exact h A' c' w' (hL.grow hg hown hat)
theorem step_app2 {ops : Array Oper} {o : Oper} {a : Act} {K : Act → World → Prop} {Q : Exit → Act → World → Prop} {E : Prop} (hw : Region.wanted o (yielded ops a.tmps) = true) (s x : Operand)
    (ho : o.op = .call { callee := .builtin .append, args := #[s, x], argTypes := #[23, 23] }) {r y : RowT} (hL : LV w0 w P (some r) (some y))
    (e1 : a.eval s = .slice r.ad r.bs.length r.room) (e2 : a.eval x = .slice y.ad y.bs.length y.room) (hl : r.bs.length + y.bs.length ≤ 1000000) (q : T) (hq : q = r.bs ++ y.bs)
    (h : ∀ A' c' w', LV w0 w' P (some ⟨A', c', q⟩) (some y) → K (a.put o.dst (.slice A' q.length c')) w') :
    if Region.wanted o (yielded ops a.tmps) = true then Oper.wp Try.prog o a w K Q else E :=
  step_app hw s x ho hL w.heap.size y.ad y.room y.bs e1 e2 hL.rdY hl q hq h
end
end Go.Proofs.Ytameecogopnkjaa.AW
