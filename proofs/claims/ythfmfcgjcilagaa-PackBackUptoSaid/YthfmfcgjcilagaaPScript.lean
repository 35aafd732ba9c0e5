/- The memory of a script's walk: the pen's row, the row that is wanted, and what stands beside them. -/
import Derived.Test.YthfmfcgjcilagaaPSpeak
import Derived.Test.YthfmfcgjcilagaaPBurst
import Derived.Test.YthfmfcgjcilagaaPOps
namespace Go.Proofs.Ythfmfcgjcilagaa.PW
open Go.ChangeShapes Go.WideShapes Go.ChangeAt Go.RowKit
open Go.Proofs.Ythfmfcgjcilagaa.B
set_option linter.unusedVariables false

theorem app_lit {u u' : World} {bs : List UInt8} {A : Option Addr} {n c : Nat} (hown : u'.ownsRow u.heap.size 5 1 (.slice A (0 + n) c) (0 + n) (u8s [] ++ u8s bs)) (hg : (u.alloc (.cells #[] 5)).grownBy u' (Value.slice (some ⟨u.heap.size, 0, none⟩) 0 0).ownBlock) :
    u'.ownsRow u.heap.size 5 1 (.slice A n c) n (u8s bs) ∧ Below u.heap.size u u' :=
  ⟨by simpa [u8s] using hown, ((Below.refl _ _).alloc (Nat.le_refl _) _).trans (below_grown (own_empty u _) hg (Nat.le_refl _) (by simp))⟩

structure St (u : World) (g : Nat) (bs ws : List UInt8) (Ap : Option Addr) (cp : Nat) (Aw : Option Addr) (cw : Nat) (w : World) : Prop where
  blk : Blk w g 27 #[.slice Ap bs.length cp]
  ge : u.heap.size ≤ g
  pen : w.ownsRow u.heap.size 5 1 (.slice Ap bs.length cp) bs.length (u8s bs)
  want : w.ownsRow u.heap.size 5 1 (.slice Aw ws.length cw) ws.length (u8s ws)
  apart : ∀ j, (Value.slice Ap bs.length cp).ownBlock = some j → (Value.slice Aw ws.length cw).ownBlock ≠ some j
  below : Below u.heap.size u w
section
variable {u w w' : World} {g : Nat} {bs ws : List UInt8} {Ap Aw : Option Addr} {cp cw : Nat}
/-- What is written in blocks of no account to it. -/
theorem St.fr {S : Nat → Prop} (h : St u g bs ws Ap cp Aw cw w) (hf : Fr w w' S) (hg : ¬ S g) (hp : ∀ j, (Value.slice Ap bs.length cp).ownBlock = some j → ¬ S j) (hw : ∀ j, (Value.slice Aw ws.length cw).ownBlock = some j → ¬ S j) (hu : ∀ k, S k → u.heap.size ≤ k) : St u g bs ws Ap cp Aw cw w' :=
  ⟨h.blk.fr hf hg, h.ge, own_fr h.pen hf hp, own_fr h.want hf hw, h.apart, h.below.trans (hf.below hu h.below.size)⟩
theorem St.over (h : St u g bs ws Ap cp Aw cw w) (hb : Below w.heap.size w w') : St u g bs ws Ap cp Aw cw w' :=
  h.fr (S := fun _ => False) (Fr.new hb) (fun e => e) (fun _ _ e => e) (fun _ _ e => e) (fun _ e => e.elim)
theorem St.pen_call {bs' : List UInt8} {A' : Option Addr} {c' : Nat} (h : St u g bs ws Ap cp Aw cw w) (hk : Blk w' g 27 #[.slice A' bs'.length c']) (ho : w'.ownsRow u.heap.size 5 1 (.slice A' bs'.length c') bs'.length (u8s bs'))
    (hf : Fr w w' (Pn g Ap bs.length cp)) (hi : ∀ i, (Value.slice A' bs'.length c').ownBlock = some i → i < w.heap.size → Pn g Ap bs.length cp i) : St u g bs' ws A' c' Aw cw w' := by
  have hwn : ∀ k, (Value.slice Aw ws.length cw).ownBlock = some k → ¬ Pn g Ap bs.length cp k := fun k hk e => by
    rcases e with e | e
    · exact own_ne_blk h.want h.blk (by decide) (e ▸ hk)
    · exact h.apart k e hk
  refine ⟨hk, h.ge, ho, own_fr h.want hf hwn, fun j hj hjw => ?_, h.below.trans (hf.below (fun k e => ?_) h.below.size)⟩
  · exact hwn j hjw (hi j hj (own_block h.want j hjw).2)
  · rcases e with e | e
    · rw [e]; exact h.ge
    · exact (own_block h.pen k e).1
theorem St.want_call {ws' : List UInt8} {A' : Option Addr} {c' : Nat} (h : St u g bs ws Ap cp Aw cw w) (hg : w.grownBy w' (Value.slice Aw ws.length cw).ownBlock) (ho : w'.ownsRow u.heap.size 5 1 (.slice A' ws'.length c') ws'.length (u8s ws'))
    (hat : (Value.slice A' ws'.length c').ownBlock = (Value.slice Aw ws.length cw).ownBlock ∨ (Value.slice A' ws'.length c').ownBlock = some w.heap.size) : St u g bs ws' Ap cp A' c' w' := by
  have hf : Fr w w' (fun k => (Value.slice Aw ws.length cw).ownBlock = some k) := (Fr.refl w _).grown hg (fun k e _ => e)
  refine ⟨h.blk.fr hf (own_ne_blk h.want h.blk (by decide)), h.ge, own_fr h.pen hf (fun k hk => h.apart k hk), ho, fun j hj => ?_, h.below.trans (hf.below (fun k e => (own_block h.want k e).1) h.below.size)⟩
  rcases hat with e | e
  · rw [e]; exact h.apart j hj
  · rw [e]
    intro e2
    injection e2 with e2
    have := (own_block h.pen j hj).2
    omega
/-- A row of the walk's own that is none of these. -/
structure Side (u : World) (g : Nat) (vp vw : Value) (v : Value) (n : Nat) (xs : List UInt8) (w : World) : Prop where
  own : w.ownsRow u.heap.size 5 1 v n (u8s xs)
  ne : ∀ j, v.ownBlock = some j → j ≠ g ∧ vp.ownBlock ≠ some j ∧ vw.ownBlock ≠ some j
theorem Side.new {v : Value} {n : Nat} {xs : List UInt8} (h : St u g bs ws Ap cp Aw cw w) (hb : Below w.heap.size w w') (ho : w'.ownsRow w.heap.size 5 1 v n (u8s xs)) : Side u g (.slice Ap bs.length cp) (.slice Aw ws.length cw) v n xs w' :=
  ⟨own_lower ho h.below.size, fun j hj => by
    have h1 := (own_block ho j hj).1
    refine ⟨fun e => ?_, fun e => ?_, fun e => ?_⟩
    · have := h.blk.lt; omega
    · have := (own_block h.pen j e).2; omega
    · have := (own_block h.want j e).2; omega⟩
theorem Side.over {vp vw v : Value} {n : Nat} {xs : List UInt8} (h : Side u g vp vw v n xs w) (hb : Below w.heap.size w w') : Side u g vp vw v n xs w' :=
  ⟨own_fr h.own (Fr.new hb (S := fun _ => False)) (fun _ _ e => e), h.ne⟩
theorem Side.pen_call {v : Value} {n k' : Nat} {xs : List UInt8} {A' : Option Addr} {c' : Nat} {vw : Value} (h : Side u g (.slice Ap bs.length cp) vw v n xs w) (hf : Fr w w' (Pn g Ap bs.length cp)) (hi : ∀ i, (Value.slice A' k' c').ownBlock = some i → i < w.heap.size → Pn g Ap bs.length cp i) : Side u g (.slice A' k' c') vw v n xs w' := by
  have hn : ∀ k, v.ownBlock = some k → ¬ Pn g Ap bs.length cp k := fun k hk e => by
    rcases e with e | e
    · exact (h.ne k hk).1 e
    · exact (h.ne k hk).2.1 e
  exact ⟨own_fr h.own hf hn, fun j hj => ⟨(h.ne j hj).1, fun e => hn j hj (hi j e (own_block h.own j hj).2), (h.ne j hj).2.2⟩⟩
theorem Side.want_call {v : Value} {n m' : Nat} {xs : List UInt8} {A' : Option Addr} {c' : Nat} {vp vw : Value} (h : Side u g vp vw v n xs w) (hg : w.grownBy w' vw.ownBlock) (hat : (Value.slice A' m' c').ownBlock = vw.ownBlock ∨ (Value.slice A' m' c').ownBlock = some w.heap.size) : Side u g vp (.slice A' m' c') v n xs w' := by
  refine ⟨own_fr h.own ((Fr.refl w (fun k => vw.ownBlock = some k)).grown hg (fun k e _ => e)) (fun k hk => (h.ne k hk).2.2), fun j hj => ⟨(h.ne j hj).1, (h.ne j hj).2.1, fun e => ?_⟩⟩
  rcases hat with e1 | e1
  · rw [e1] at e; exact (h.ne j hj).2.2 e
  · rw [e1] at e
    injection e with e
    have := (own_block h.own j hj).2
    omega
/-- What is written in such a row is of no account to the pen and to what is wanted. -/
theorem St.side {v : Value} {n : Nat} {xs : List UInt8} (h : St u g bs ws Ap cp Aw cw w) (hs : Side u g (.slice Ap bs.length cp) (.slice Aw ws.length cw) v n xs w) (hf : Fr w w' (fun k => v.ownBlock = some k)) : St u g bs ws Ap cp Aw cw w' :=
  h.fr hf (fun e => (hs.ne g e).1 rfl) (fun j hj e => (hs.ne j e).2.1 hj) (fun j hj e => (hs.ne j e).2.2 hj) (fun k e => (own_block hs.own k e).1)
end
/-- A byte of such a row is written. -/
theorem fr_set {w0 w : World} {base n c : Nat} {e : TypeId} {ad : Addr} {xs : List Value} {v : Value} (hv : v = .slice (some ad) n c) (h : w.ownsRow base e 1 v n xs) (hf : Fr w0 w (fun k => v.ownBlock = some k)) (j : Nat) (x : Value) : Fr w0 (w.setCell (ad.add j) x) (fun k => v.ownBlock = some k) := by
  subst hv
  exact hf.setCell (fun _ => by rw [add_block]; rfl) x

/-! ### Every call of a script -/
theorem refU_len (N : Nat) (size : Int) : (refU N size).1.length ≤ 8 := by
  rw [refU]
  split
  · simp
  · split
    · simp
    · rw [le_length]; omega
theorem penUint_any {w : World} {B g c N : Nat} {size : Int} {A : Option Addr} {bs : List UInt8} (hP : Blk w g 27 #[.slice A bs.length c]) (hO : w.ownsRow B 5 1 (.slice A bs.length c) bs.length (u8s bs)) (hB : B ≤ w.heap.size)
    (hs : -9223372036854775808 ≤ size ∧ size ≤ 9223372036854775807) (hN : N < 18446744073709551616) (hk : bs.length ≤ 140737488355320) :
    Calls Try.prog 11 #[.pointer (some ⟨g, 0, none⟩), .int .u64 (N : Int), .int .i64 size] w fun e w' => ∃ A' c', e = .returned (.int .i64 (refU N size).2) ∧
      Blk w' g 27 #[.slice A' (bs ++ (refU N size).1).length c'] ∧ w'.ownsRow B 5 1 (.slice A' (bs ++ (refU N size).1).length c') (bs ++ (refU N size).1).length (u8s (bs ++ (refU N size).1)) ∧ Fr w w' (Pn g A bs.length c) ∧ (∀ i, (Value.slice A' (bs ++ (refU N size).1).length c').ownBlock = some i → i < w.heap.size → Pn g A bs.length c i) := by
  by_cases hbad : size < 1 ∨ 8 < size ∨ (size < 8 ∧ 0 < (N : Int) / 2 ^ (8 * size).toNat)
  · have e : refU N size = ([], 2) := by
      rw [refU]
      rcases hbad with h | h | ⟨h1, h2⟩
      · rw [if_pos (.inl h)]
      · rw [if_pos (.inr h)]
      · split
        · rfl
        · rw [if_pos]
          have e1 : (8 * size).toNat = 8 * size.toNat := by omega
          rw [e1] at h2
          have e2 : ((N : Int) / 2 ^ (8 * size.toNat)) = ((N / 2 ^ (8 * size.toNat) : Nat) : Int) := by
            rw [Int.natCast_ediv, Int.natCast_pow]; rfl
          rw [e2] at h2
          omega
    refine (penUint_bad (by omega) hs.1 hs.2 hbad).mono ?_
    rintro e' w' ⟨rfl, rfl⟩
    rw [e]
    refine ⟨A, c, rfl, ?_⟩
    simp only [List.append_nil]
    exact ⟨hP, hO, Fr.refl _ _, fun i hi _ => .inr hi⟩
  · have h1 : 1 ≤ size ∧ size ≤ 8 := by omega
    obtain ⟨n, rfl⟩ : ∃ n : Nat, size = (n : Int) := ⟨size.toNat, by omega⟩
    have hlow : n < 8 → N < 2 ^ (8 * n) := fun h8 => by
      have h2 : ¬ 0 < (N : Int) / 2 ^ (8 * (n : Int)).toNat := fun h => hbad (.inr (.inr ⟨by omega, h⟩))
      have e1 : (8 * (n : Int)).toNat = 8 * n := by omega
      have e2 : ((N : Int) / 2 ^ (8 * n)) = ((N / 2 ^ (8 * n) : Nat) : Int) := by
        rw [Int.natCast_ediv, Int.natCast_pow]; rfl
      rw [e1, e2] at h2
      have h3 : N / 2 ^ (8 * n) = 0 := by
        generalize N / 2 ^ (8 * n) = q at h2 ⊢
        omega
      exact (Nat.div_eq_zero_iff_lt (Nat.two_pow_pos _)).1 h3
    have e : refU N (n : Int) = (le N n, 0) := by
      rw [refU, if_neg (by omega), if_neg]
      · rfl
      · rw [Int.toNat_natCast]
        by_cases h8 : n < 8
        · rw [Nat.div_eq_of_lt (hlow h8)]; omega
        · rw [Nat.div_eq_of_lt]
          · omega
          · rw [show n = 8 by omega]; exact hN
    refine (penUint_ok hP hO hB (by omega) (by omega) hlow hN (by omega)).mono ?_
    rintro e' w' ⟨A', c', rfl, h1, h2, h3, h4⟩
    rw [e]
    refine ⟨A', c', rfl, ?_⟩
    simp only [List.length_append, le_length]
    exact ⟨h1, h2, h3, h4⟩
theorem refUint_any {w : World} {N : Nat} {size : Int} (hs : -9223372036854775808 ≤ size ∧ size ≤ 9223372036854775807) (hN : N < 18446744073709551616) :
    Calls Try.prog 12 #[.int .u64 (N : Int), .int .i64 size] w (NewBytes w (refU N size).1 (refU N size).2) := by
  by_cases hbad : size < 1 ∨ 8 < size
  · rw [show refU N size = ([], 2) by rw [refU, if_pos hbad]]
    exact refUint_bad hs.1 hs.2 hbad
  · obtain ⟨n, rfl⟩ : ∃ n : Nat, size = (n : Int) := ⟨size.toNat, by omega⟩
    exact refUint_ok (by omega) (by omega) hN

end Go.Proofs.Ythfmfcgjcilagaa.PW
