/- Every call of an eye, the program's and the reference's, as one answer. -/
import Derived.Test.YthfmfcgjcilagaaPRef2
import Derived.Test.YthfmfcgjcilagaaPScript
namespace Go.Proofs.Ythfmfcgjcilagaa.PW
open Go.ChangeShapes Go.WideShapes Go.ChangeAt Go.RowKit
open Go.Proofs.Ythfmfcgjcilagaa.B
open Go.Proofs.Ythfmfcgjcilagaa.LM (wordTo wordTo_or' wordTo_congr wordTo_lt)
set_option linter.unusedVariables false

/-- What an eye answers, and where it stands behind it. -/
def eyeU (xs : List UInt8) (I : Nat) (size : Int) : Nat × Int × Nat :=
  if size < 1 ∨ 8 < size then (0, 2, I) else if xs.length - I < size.toNat then (0, 40, I) else (wordTo (at8 (xs.drop I)) size.toNat, 0, I + size.toNat)
def eyeB (xs : List UInt8) (I : Nat) : List UInt8 × Int × Nat :=
  if xs.length - I < 4 then ([], 40, I) else if xs.length - I - 4 < wordTo (at8 (xs.drop I)) 4 then ([], 40, I) else
    ((xs.drop (I + 4)).take (wordTo (at8 (xs.drop I)) 4), 0, I + 4 + wordTo (at8 (xs.drop I)) 4)
/-- The program's eye at a place of a text. -/
structure Ey (B g : Nat) (xs : List UInt8) (A0 : Option Addr) (I : Nat) (Ax : Option Addr) (cx : Nat) (w : World) : Prop where
  hI : I ≤ xs.length
  eye : Blk w g 64 #[.slice Ax (xs.length - I) cx]
  rest : Rd w B 1 Ax (xs.length - I) cx (u8s (xs.drop I))
  sub : SubA Ax A0
theorem rd_fr_ne {w w' : World} {B n c : Nat} {A : Option Addr} {xs : List Value} {S : Nat → Prop} (h : Rd w B 1 A n c xs) (hf : Fr w w' S) (hB : B ≤ w.heap.size) (hs : ∀ ad, A = some ad → ¬ S ad.block) : Rd w' B 1 A n c xs :=
  ⟨h.len, h.cap, h.max, fun hn => by
    obtain ⟨ad, e, hb, hc⟩ := h.lies hn
    refine ⟨ad, e, hb, fun j v hv => ?_⟩
    rw [hf.cell (by rw [add_block]; omega) (by rw [add_block]; exact hs ad e)]
    exact hc j v hv⟩
theorem Ey.fr {B g I cx : Nat} {xs : List UInt8} {A0 Ax : Option Addr} {w w' : World} {S : Nat → Prop} (h : Ey B g xs A0 I Ax cx w) (hf : Fr w w' S) (hB : B ≤ w.heap.size) (hg : ¬ S g) (hs : ∀ ad, A0 = some ad → ¬ S ad.block) : Ey B g xs A0 I Ax cx w' :=
  ⟨h.hI, h.eye.fr hf hg, rd_fr_ne h.rest hf hB (fun ad e => by obtain ⟨b, hb, e2⟩ := h.sub ad e; rw [e2]; exact hs b hb), h.sub⟩
theorem Ey.over {B g I cx : Nat} {xs : List UInt8} {A0 Ax : Option Addr} {w w' : World} (h : Ey B g xs A0 I Ax cx w) (hb : Below w.heap.size w w') (hB : B ≤ w.heap.size) : Ey B g xs A0 I Ax cx w' :=
  h.fr (S := fun _ => False) (Fr.new hb) hB (fun e => e) (fun _ _ e => e)

theorem ey_uint {B g I cx : Nat} {xs : List UInt8} {A0 Ax : Option Addr} {w : World} {size : Int} (h : Ey B g xs A0 I Ax cx w) (hne : ∀ ad, A0 = some ad → ad.block ≠ g) (hs : -9223372036854775808 ≤ size ∧ size ≤ 9223372036854775807) :
    Calls Try.prog 18 #[.pointer (some ⟨g, 0, none⟩), .int .i64 size] w fun e w' => ∃ A' c', e = .returned (.tuple #[.int .u64 ((eyeU xs I size).1 : Int), .int .i64 (eyeU xs I size).2.1]) ∧ Ey B g xs A0 (eyeU xs I size).2.2 A' c' w' ∧ Fr w w' (· = g) := by
  by_cases h1 : size < 1 ∨ 8 < size
  · rw [eyeU, if_pos h1]
    refine (eyeUint_arg hs.1 hs.2 h1).mono ?_
    rintro e w' ⟨rfl, rfl⟩
    exact ⟨Ax, cx, rfl, h, Fr.refl _ _⟩
  · obtain ⟨n, rfl⟩ : ∃ n : Nat, size = (n : Int) := ⟨size.toNat, by omega⟩
    rw [eyeU, if_neg h1, Int.toNat_natCast]
    by_cases h2 : xs.length - I < n
    · rw [if_pos h2]
      refine (eyeUint_short h.eye (by omega) (by omega) h2).mono ?_
      rintro e w' ⟨rfl, rfl⟩
      exact ⟨Ax, cx, rfl, h, Fr.refl _ _⟩
    · rw [if_neg h2]
      refine (eyeUint_ok h.eye h.rest (by omega) (by omega) (by omega)).mono ?_
      rintro e w' ⟨A', c', rfl, rfl, hr, hsub⟩
      have e1 : xs.length - I - n = xs.length - (I + n) := by omega
      rw [e1] at hr ⊢
      refine ⟨A', c', rfl, ⟨by have := h.hI; dsimp only; omega, by simpa using h.eye.set 0 _, ?_, hsub.trans h.sub⟩, Fr.one _ _ _ _⟩
      rw [List.drop_drop] at hr
      exact Rd_setCell_ne hr ((hsub.trans h.sub).ne hne) _
theorem ey_bytes {B g I cx : Nat} {xs : List UInt8} {A0 Ax : Option Addr} {w : World} (h : Ey B g xs A0 I Ax cx w) (hB : B ≤ w.heap.size) (hne : ∀ ad, A0 = some ad → ad.block ≠ g) (hx : xs.length ≤ 140737488351232) :
    Calls Try.prog 20 #[.pointer (some ⟨g, 0, none⟩)] w fun e w' => ∃ A' c' A1 c1, e = .returned (.tuple #[.slice A1 (eyeB xs I).1.length c1, .int .i64 (eyeB xs I).2.1]) ∧ w'.ownsRow w.heap.size 5 1 (.slice A1 (eyeB xs I).1.length c1) (eyeB xs I).1.length (u8s (eyeB xs I).1) ∧
      Ey B g xs A0 (eyeB xs I).2.2 A' c' w' ∧ Fr w w' (· = g) := by
  by_cases h1 : xs.length - I < 4
  · rw [eyeB, if_pos h1]
    refine (eyeBytes_short h.eye h1).mono ?_
    rintro e w' ⟨rfl, rfl⟩
    exact ⟨Ax, cx, none, 0, rfl, World.ownsRow_nil _ _ _ _, h, Fr.refl _ _⟩
  · by_cases h2 : xs.length - I - 4 < wordTo (at8 (xs.drop I)) 4
    · rw [eyeB, if_neg h1, if_pos h2]
      refine (eyeBytes_over h.eye h.rest (by omega) h2).mono ?_
      rintro e w' ⟨rfl, hb, hf⟩
      exact ⟨Ax, cx, none, 0, rfl, World.ownsRow_nil _ _ _ _, ⟨h.hI, hb, rd_fr_ne h.rest hf hB (h.sub.ne hne), h.sub⟩, hf⟩
    · rw [eyeB, if_neg h1, if_neg h2]
      refine (eyeBytes_ok h.eye h.rest hB (h.sub.ne hne) (by omega) (by omega) rfl (by omega)).mono ?_
      rintro e w' ⟨A1, c1, A2, c2, rfl, ho, hb, hr, hsub, hf⟩
      have hI := h.hI
      have hl : ((xs.drop (I + 4)).take (wordTo (at8 (xs.drop I)) 4)).length = wordTo (at8 (xs.drop I)) 4 := by
        rw [List.length_take, List.length_drop]; omega
      rw [List.drop_drop] at ho hr
      have e1 : xs.length - I - 4 - wordTo (at8 (xs.drop I)) 4 = xs.length - (I + 4 + wordTo (at8 (xs.drop I)) 4) := by omega
      have e2 : I + (4 + wordTo (at8 (xs.drop I)) 4) = I + 4 + wordTo (at8 (xs.drop I)) 4 := by omega
      rw [e1] at hb hr
      rw [e2] at hr
      refine ⟨A2, c2, A1, c1, ?_, ?_, ⟨?_, hb, hr, hsub.trans h.sub⟩, hf⟩
      · dsimp only; rw [hl]
      · dsimp only; rw [hl]; exact ho
      · dsimp only; omega
/-- The reference's. -/
theorem rf_uint {B m c I : Nat} {xs : List UInt8} {A : Option Addr} {w : World} {size : Int} (hP : Blk w m 46 #[.slice A xs.length c, .int .i64 (I : Int)]) (hR : Rd w B 1 A xs.length c (u8s xs)) (hI : I ≤ xs.length) (hx : xs.length ≤ 140737488351232) (hs : -9223372036854775808 ≤ size ∧ size ≤ 9223372036854775807) :
    Calls Try.prog 19 #[.pointer (some ⟨m, 0, none⟩), .int .i64 size] w fun e w' => e = .returned (.tuple #[.int .u64 ((eyeU xs I size).1 : Int), .int .i64 (eyeU xs I size).2.1]) ∧ Blk w' m 46 #[.slice A xs.length c, .int .i64 ((eyeU xs I size).2.2 : Int)] ∧ Fr w w' (· = m) := by
  by_cases h1 : size < 1 ∨ 8 < size
  · rw [eyeU, if_pos h1]
    refine (refEyeUint_arg hs.1 hs.2 h1).mono ?_
    rintro e w' ⟨rfl, rfl⟩
    exact ⟨rfl, hP, Fr.refl _ _⟩
  · obtain ⟨n, rfl⟩ : ∃ n : Nat, size = (n : Int) := ⟨size.toNat, by omega⟩
    rw [eyeU, if_neg h1, Int.toNat_natCast]
    by_cases h2 : xs.length - I < n
    · rw [if_pos h2]
      refine (refEyeUint_short hP hI hx (by omega) (by omega) h2).mono ?_
      rintro e w' ⟨rfl, hf⟩
      exact ⟨rfl, hP.fr hf (fun e => e), hf.mono (fun _ _ e => e.elim)⟩
    · rw [if_neg h2]
      exact refEyeUint_ok hP hR hx (by omega) (by omega) (by omega)
theorem rf_bytes {B m c I : Nat} {xs : List UInt8} {A : Option Addr} {w : World} (hP : Blk w m 46 #[.slice A xs.length c, .int .i64 (I : Int)]) (hR : Rd w B 1 A xs.length c (u8s xs)) (hB : B ≤ w.heap.size) (hI : I ≤ xs.length) (hx : xs.length ≤ 140737488351232) :
    Calls Try.prog 21 #[.pointer (some ⟨m, 0, none⟩)] w fun e w' => ∃ A1 c1, e = .returned (.tuple #[.slice A1 (eyeB xs I).1.length c1, .int .i64 (eyeB xs I).2.1]) ∧ w'.ownsRow w.heap.size 5 1 (.slice A1 (eyeB xs I).1.length c1) (eyeB xs I).1.length (u8s (eyeB xs I).1) ∧
      Blk w' m 46 #[.slice A xs.length c, .int .i64 ((eyeB xs I).2.2 : Int)] ∧ Fr w w' (· = m) := by
  by_cases h1 : xs.length - I < 4
  · rw [eyeB, if_pos h1]
    refine (refEyeBytes_short hP hI hx h1).mono ?_
    rintro e w' ⟨A', rfl, ho, hf⟩
    exact ⟨A', 0, rfl, ho, hP.fr hf (fun e => e), hf.mono (fun _ _ e => e.elim)⟩
  · by_cases h2 : xs.length - I - 4 < wordTo (at8 (xs.drop I)) 4
    · rw [eyeB, if_neg h1, if_pos h2]
      refine (refEyeBytes_over hP hR hx (by omega) h2).mono ?_
      rintro e w' ⟨A', rfl, ho, hf⟩
      exact ⟨A', 0, rfl, ho, hP.fr hf (fun e => e), hf.mono (fun _ _ e => e.elim)⟩
    · rw [eyeB, if_neg h1, if_neg h2]
      refine (refEyeBytes_ok hP hR hB hx (by omega) rfl (by omega)).mono ?_
      rintro e w' ⟨A1, c1, rfl, ho, hb, hf⟩
      have hl : ((xs.drop (I + 4)).take (wordTo (at8 (xs.drop I)) 4)).length = wordTo (at8 (xs.drop I)) 4 := by
        rw [List.length_take, List.length_drop]; omega
      refine ⟨A1, c1, ?_, ?_, hb, hf⟩
      · dsimp only; rw [hl]
      · dsimp only; rw [hl]; exact ho
theorem eyeU_le (xs : List UInt8) (I : Nat) (size : Int) (h : I ≤ xs.length) : (eyeU xs I size).2.2 ≤ xs.length := by
  rw [eyeU]
  split
  · exact h
  · split
    · exact h
    · dsimp only; omega
theorem eyeB_le (xs : List UInt8) (I : Nat) (h : I ≤ xs.length) : (eyeB xs I).2.2 ≤ xs.length := by
  rw [eyeB]
  split
  · exact h
  · split
    · exact h
    · dsimp only; omega

end Go.Proofs.Ythfmfcgjcilagaa.PW
