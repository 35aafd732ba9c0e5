/- The walk of Seal: the frame that the program writes. -/
import Derived.Test.YthfmfcgjcilagaaPSum
import Derived.Lib.SlBytesConst
namespace Go.Proofs.Ythfmfcgjcilagaa.PW
open Go.ChangeShapes Go.WideShapes Go.ChangeAt Go.RowKit
open Go.Proofs.Ythfmfcgjcilagaa.B Go.Proofs.Ythfmfcgjcilagaa.PM
set_option linter.unusedVariables false

/-- The frame ahead of its check sum, and whole. -/
def sealHead (v : UInt8) (body : List UInt8) : List UInt8 := [82, 68, 76, v] ++ (le body.length 4 ++ body)
def sealed (v : UInt8) (body : List UInt8) : List UInt8 := sealHead v body ++ le (crc (sealHead v body)).toNat 4
theorem sealHead_length (v : UInt8) (body : List UInt8) : (sealHead v body).length = body.length + 8 := by
  simp [sealHead, le_length]; omega
theorem sealed_length (v : UInt8) (body : List UInt8) : (sealed v body).length = body.length + 12 := by
  rw [sealed, List.length_append, sealHead_length, le_length]

theorem own_lower {w : World} {base base' : Nat} {e : TypeId} {size n : Nat} {v : Value} {xs : List Value} (h : w.ownsRow base e size v n xs) (hb : base' ≤ base) : w.ownsRow base' e size v n xs := by
  refine ⟨h.1, ?_⟩
  rcases h.2 with ⟨rfl, rfl⟩ | ⟨g, cap, cur, rfl, hg, r⟩
  · exact .inl ⟨rfl, rfl⟩
  · exact .inr ⟨g, cap, cur, rfl, Nat.le_trans hb hg, r⟩
theorem own_block {w : World} {base : Nat} {e : TypeId} {size n : Nat} {v : Value} {xs : List Value} (h : w.ownsRow base e size v n xs) : ∀ k, v.ownBlock = some k → base ≤ k ∧ k < w.heap.size := by
  intro k hk
  rcases h.2 with ⟨rfl, rfl⟩ | ⟨g, cap, cur, rfl, hg, r, _⟩
  · simp [Value.ownBlock] at hk
  · simp only [Value.ownBlock, Option.some.injEq] at hk
    subst hk
    exact ⟨hg, (Array.getElem?_eq_some_iff.1 r).1⟩

/-- The cells of a new block, behind one more. -/
theorem lit_cells (w : World) (C : Array Value) (t : TypeId) (f : Nat × Nat) (D : Obj) : ∀ j u, C.toList[j]? = some u → ((w.alloc (.cells C t f)).alloc D).cell? ((⟨w.heap.size, 0, none⟩ : Addr).add j) = some u := by
  intro j u hu
  rw [add_lit, Nat.zero_add, World.cell?_alloc_lt _ _ _ (by show w.heap.size < (w.heap.push _).size; simp), cell_of_row _ _ _ C t f (heap_alloc_new w _)]
  simpa using hu

/-- What stands once the pen has been made: the four first bytes are written, and all else stands as it did. -/
structure Pen4 (w wp : World) (g : Nat) (v : UInt8) (A : Option Addr) (c : Nat) : Prop where
  blk : Blk wp g 27 #[.slice A 4 c]
  ge : w.heap.size ≤ g
  own : wp.ownsRow w.heap.size 5 1 (.slice A 4 c) 4 (u8s [82, 68, 76, v])
  fr : Below w.heap.size w wp
  size : w.heap.size < wp.heap.size
theorem pen4 {w w2 : World} {C : Array Value} {f : Nat × Nat} {t : TypeId} {D : Obj} {v : UInt8} {A : Option Addr} {c : Nat}
    (h : w2.ownsRow (w.heap.size + 1 + 1) 5 1 (.slice A 4 c) 4 [.int .u8 82, .int .u8 68, .int .u8 76, .int .u8 (v.toNat : Int)]) (hg : ((w.alloc (.cells C t f)).alloc D).grownBy w2 none) :
    Pen4 w (w2.alloc (.cells #[.slice A 4 c] 27)) w2.heap.size v A c := by
  have hs : ((w.alloc (.cells C t f)).alloc D).heap.size = w.heap.size + 2 := by show ((w.heap.push _).push _).size = _; simp
  have hb : Below w.heap.size w ((w.alloc (.cells C t f)).alloc D) := ((Below.refl _ _).alloc (Nat.le_refl _) _).alloc (by show _ ≤ (w.heap.push _).size; simp) _
  have hb2 : Below w.heap.size w w2 := (Fr.of_below hb (S := fun _ => False) (fun k h1 h2 => by omega)).grown hg (fun k h => by cases h) |>.below (fun k h => h.elim) (Nat.le_refl _)
  have hz := hb2.size
  exact ⟨Blk.new w2 27 #[.slice A 4 c], hz, own_lower (h.alloc _) (by omega), hb2.alloc hz _, by show _ < (w2.heap.push _).size; simp; omega⟩

set_option maxHeartbeats 2000000 in
theorem seal_any {w : World} {n c : Nat} {A : Option Addr} {body : List UInt8} (v : UInt8) (h : Rd w w.heap.size 1 A n c (u8s body)) (hn : n < 4294967296) :
    Calls Try.prog 23 #[.int .u8 (v.toNat : Int), .slice A n c] w fun e w' => ∃ A' c', e = .returned (.slice A' (n + 12) c') ∧ w'.ownsRow w.heap.size 5 1 (.slice A' (n + 12) c') (n + 12) (u8s (sealed v body)) ∧ Below w.heap.size w w' := by
  obtain ⟨i0, hi0, hz0, hz1, hz2⟩ := info_parts info_u8
  have kc := fun (w : World) (C : Array Value) (n c : Nat) => Lib.run_convert_bytes_const (P := Try.prog) w 25 5 C n c Try.underlying25 Try.underlying5
  have hl := h.length8
  have HR := hide h
  clear h
  go_enter Try.func23, Try.ntmps23
  go_wp2_with (at_builtin; go_loud (refine wpList_append_grows _ rfl (.tmp 7) (.tmp 9) 25 rfl 5 i0 _ 1 1 Try.underlying25 hi0 hz0 hz1 hz2 rfl (by omega) (some ⟨w.heap.size, 0, none⟩) 3 3 [.int .u8 82, .int .u8 68, .int .u8 76] rfl (fun h => by cases h) rfl ?c1 ⟨w.heap.size + 1, 0, none⟩ 1 1 [.int .u8 (v.toNat : Int)] rfl rfl ?c2 ?c3 (by omega) (by simp [maxLen]) (by omega) ?grow))
  case c1 => intro b hb; cases hb; exact lit_cells w _ _ _ _
  case c2 =>
    intro j u hu
    have := (Rd.one (w.alloc (.cells #[.int .u8 82, .int .u8 68, .int .u8 76] 5 (3, 4))) (.int .u8 (v.toNat : Int)) 5).lies (by omega)
    obtain ⟨ad, e, _, hh⟩ := this
    cases e
    have := hh j u hu
    simpa using this
  case c3 => simp [Value.oneCell']
  intro v1 w2 hown2 hg2
  obtain ⟨A1, c1, rfl⟩ := own_form hown2
  have HP := hide (pen4 hown2 hg2)
  clear hown2 hg2 kc
  go_wp2_with fail
  generalize w2.alloc _ = wp at *
  generalize w2.heap.size = g at *
  have hsz := HP.out.size
  refine (penBytes_ok (bb := body) HP.out.blk HP.out.own (by omega) (fun w' hf => ((HR.out.below HP.out.fr).fr hf (by omega) (fun k hk => by rcases hk with rfl | hk; exact HP.out.ge; exact (own_block HP.out.own k hk).1)).more (by have := hf.size; omega)) hn (by omega)).mono ?_
  rintro e w3 ⟨A3, c3, rfl, hb3, ho3, hf3, hi3⟩
  have HX := hide (show _ ∧ _ ∧ _ ∧ _ from ⟨hb3, ho3, hf3, hi3⟩)
  have hcell3 := hb3.at_ (i := 0) rfl
  clear hb3 ho3 hf3 hi3
  go_wp2_with fail
  obtain ⟨hb3, ho3, hf3, hi3⟩ := HX.out
  refine (sum_any (bs := sealHead v body) (by have := Rd.of_own ho3; rw [show 4 + 4 + n = 8 + n by omega] at this; simpa [sealHead, ← hl] using this)).mono ?_
  rintro e w4 ⟨rfl, rfl⟩
  clear hb3 ho3 hf3 hi3
  have hV := V_le (crc (sealHead v body))
  have hV0 := V_nonneg (crc (sealHead v body))
  have hw : IntKind.u64.wrap (V (crc (sealHead v body))) = V (crc (sealHead v body)) := IntWalk.u64_in _ ⟨hV0, by omega⟩
  go_wp2_with fail
  obtain ⟨hb3, ho3, hf3, hi3⟩ := HX.out
  rw [show V (crc (sealHead v body)) = ((crc (sealHead v body)).toNat : Int) from rfl]
  have h32 := (crc (sealHead v body)).isLt
  refine (penUint_ok (size := 4) hb3 ho3 (by have := hf3.size; omega) (by omega) (by omega) (fun _ => by omega) (by omega) (by omega)).mono ?_
  rintro e w4 ⟨A4, c4, rfl, hb4, ho4, hf4, hi4⟩
  have hcell4 := hb4.at_ (i := 0) rfl
  rw [show 4 + 4 + n + 4 = n + 12 by omega] at ho4 hcell4
  have ho5 : w4.ownsRow w.heap.size 5 1 (.slice A4 (n + 12) c4) (n + 12) (u8s (sealed v body)) := by
    have e : sealed v body = [82, 68, 76, v] ++ (le n 4 ++ body) ++ le (crc (sealHead v body)).toNat 4 := by rw [sealed, sealHead, hl]
    rw [e]
    exact ho4
  have hbel : Below w.heap.size w w4 := by
    have p1 : Fr w wp (fun k => w.heap.size ≤ k) := Fr.of_below HP.out.fr (fun k h _ => h)
    refine ((p1.step hf3 ?_).step hf4 ?_).below (fun k h => h) (Nat.le_refl _)
    · intro i hi hp
      rcases hp with rfl | hp
      · exact HP.out.ge
      · exact (own_block HP.out.own i hp).1
    · intro i hi hp
      rcases hp with rfl | hp
      · exact HP.out.ge
      · exact (own_block ho3 i hp).1
  clear hb3 ho3 hf3 hi3 hb4 ho4 hf4 hi4 hcell3 hV hV0 hw h32
  have HE := hide (show _ ∧ _ from ⟨ho5, hbel⟩)
  clear ho5 hbel
  go_wp2_with fail
  go_ret
  exact ⟨_, _, rfl, HE.out⟩
end Go.Proofs.Ythfmfcgjcilagaa.PW
