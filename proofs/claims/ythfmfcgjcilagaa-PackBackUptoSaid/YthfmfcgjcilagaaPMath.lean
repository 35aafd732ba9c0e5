/- The plain law of the check sum: what the program reckons, what the reference reckons, and that they are one. No program in sight. -/
import Derived.Laws.BitsAllLaws
namespace Go.Proofs.Ythfmfcgjcilagaa.PM

def poly : BitVec 32 := 3988292384
/-- One bit shifted out. -/
def crcBit (x : BitVec 32) : BitVec 32 := (x >>> 1) ^^^ (poly &&& -(x &&& 1))
def crcN : Nat → BitVec 32 → BitVec 32 | 0, x => x | k + 1, x => crcBit (crcN k x)
def byte32 (b : UInt8) : BitVec 32 := BitVec.ofNat 32 b.toNat
/-- The state behind a text. -/
def crcS (s : BitVec 32) (bs : List UInt8) : BitVec 32 := bs.foldl (fun s b => crcN 8 (s ^^^ byte32 b)) s
def ones32 : BitVec 32 := 4294967295
def crc (bs : List UInt8) : BitVec 32 := crcS ones32 bs ^^^ ones32

/-! As the walk writes them: a word of 32 bits stands as 'V x'. -/
def V (x : BitVec 32) : Int := (x.toNat : Int)
theorem V_nonneg (x : BitVec 32) : 0 ≤ V x := Int.natCast_nonneg _
theorem V_le (x : BitVec 32) : V x ≤ 4294967295 := by
  have := x.isLt
  unfold V
  omega
theorem V_inj {x y : BitVec 32} (h : V x = V y) : x = y := BitVec.eq_of_toNat_eq (Int.ofNat.inj h)
theorem V_beq (x y : BitVec 32) : (V x == V y) = (x == y) := by
  rw [Bool.eq_iff_iff]
  simp only [beq_iff_eq]
  exact ⟨V_inj, congrArg V⟩
theorem wrapV (x : BitVec 32) : IntKind.u32.wrap (x.toNat : Int) = (x.toNat : Int) := by
  have := x.isLt
  rw [IntKind.wrap_u32']
  omega
theorem ofIntV (x : BitVec 32) : BitVec.ofInt 32 (x.toNat : Int) = x := by
  rw [BitVec.ofInt_natCast, BitVec.ofNat_toNat, BitVec.setWidth_eq]
theorem vpoly_is : (3988292384 : Int) = V poly := rfl
theorem vxor (x y : BitVec 32) : bits BinOp.xor IntKind.u32 (V x) (V y) = V (x ^^^ y) := by
  show IntKind.u32.wrap ((BitVec.ofInt 32 (x.toNat : Int) ^^^ BitVec.ofInt 32 (y.toNat : Int)).toNat : Int) = _
  rw [ofIntV, ofIntV, wrapV, V]
theorem vand (x y : BitVec 32) : bits BinOp.and IntKind.u32 (V x) (V y) = V (x &&& y) := by
  show IntKind.u32.wrap ((BitVec.ofInt 32 (x.toNat : Int) &&& BitVec.ofInt 32 (y.toNat : Int)).toNat : Int) = _
  rw [ofIntV, ofIntV, wrapV, V]
theorem vnot (x : BitVec 32) : bits BinOp.xor IntKind.u32 IntKind.u32.max (V x) = V (x ^^^ ones32) := by
  rw [show IntKind.u32.max = V ones32 from rfl, vxor, BitVec.xor_comm]
theorem vshr (x : BitVec 32) : V x / (2 : Int) = V (x >>> 1) := by
  rw [V, V, BitVec.toNat_ushiftRight, Nat.shiftRight_eq_div_pow]
  omega
theorem vand1 (x : BitVec 32) : bits BinOp.and IntKind.u32 (V x) 1 = V (x &&& 1) := by
  rw [show (1 : Int) = V 1 from rfl, vand]
theorem vneg (x : BitVec 32) : IntKind.u32.wrap (-(V x)) = V (-x) := by
  rw [IntKind.wrap_u32', V, V, BitVec.toNat_neg]
  have := x.isLt
  omega
theorem vpoly (x : BitVec 32) : bits BinOp.and IntKind.u32 3988292384 (V x) = V (poly &&& x) := by
  rw [show (3988292384 : Int) = V poly from rfl, vand]
theorem vbyte (b : UInt8) : ((b.toNat : Nat) : Int) = V (byte32 b) := by
  have := UInt8.toNat_lt b
  rw [V, byte32, BitVec.toNat_ofNat]
  omega
theorem crcBit_def (x : BitVec 32) : (x >>> 1) ^^^ (poly &&& -(x &&& 1)) = crcBit x := rfl

theorem xor_0 (x : BitVec 32) : x ^^^ 0 = x := BitVec.xor_zero
theorem zero_xor0 (x : BitVec 32) : 0 ^^^ x = x := BitVec.zero_xor
/-- A word out of its bits. -/
theorem word_of (f : Nat → Bool) : ∀ n, n ≤ 32 → ∃ y : BitVec 32, ∀ i, i < 32 → y.getLsbD i = (decide (i < n) && f i) := by
  intro n
  induction n with
  | zero => exact fun _ => ⟨0, fun i _ => by simp⟩
  | succ n ih =>
    intro hn
    obtain ⟨y, hy⟩ := ih (by omega)
    refine ⟨y ||| (if f n then BitVec.twoPow 32 n else 0), fun i hi => ?_⟩
    rw [BitVec.getLsbD_or, hy i hi]
    by_cases h : i = n
    · subst h
      cases hf : f i
      · simp
      · simp [hi]
    · have e1 : decide (i < n + 1) = decide (i < n) := by
        rw [decide_eq_decide]; omega
      rw [e1]
      cases hf : f n <;> simp [BitVec.getLsbD_twoPow, Ne.symm h]

/-! The reference feeds a bit at a time. -/
theorem and_one (x : BitVec 32) : x &&& 1 = if x.getLsbD 0 then 1 else 0 := by
  have e : (x &&& 1).toNat = x.toNat % 2 := by rw [BitVec.toNat_and]; exact Nat.and_one_is_mod _
  have e0 : x.getLsbD 0 = decide (x.toNat % 2 = 1) := Nat.testBit_zero x.toNat
  apply BitVec.eq_of_toNat_eq
  rw [e, e0]
  rcases Nat.mod_two_eq_zero_or_one x.toNat with h | h <;> rw [h] <;> rfl
theorem low_neg (x : BitVec 32) : poly &&& -(x &&& 1) = if x.getLsbD 0 then poly else 0 := by
  rw [and_one]
  cases x.getLsbD 0 <;> decide
def refBit (r : BitVec 32) (d : Bool) : BitVec 32 := (r >>> 1) ^^^ (if (r.getLsbD 0 != d) = true then poly else 0)
theorem crcBit_eq (x : BitVec 32) : crcBit x = (x >>> 1) ^^^ (if x.getLsbD 0 = true then poly else 0) := by rw [crcBit, low_neg]
theorem xor_swap (a b p q : BitVec 32) : (a ^^^ b) ^^^ (p ^^^ q) = (a ^^^ p) ^^^ (b ^^^ q) := by
  apply BitVec.eq_of_getLsbD_eq
  intro i _
  simp only [BitVec.getLsbD_xor]
  cases a.getLsbD i <;> cases b.getLsbD i <;> cases p.getLsbD i <;> cases q.getLsbD i <;> rfl
theorem xor_right (a b c : BitVec 32) : (a ^^^ b) ^^^ c = (a ^^^ c) ^^^ b := by
  rw [BitVec.xor_assoc, BitVec.xor_comm b c, ← BitVec.xor_assoc]
theorem crcBit_xor (r y : BitVec 32) : crcBit (r ^^^ y) = refBit r (y.getLsbD 0) ^^^ (y >>> 1) := by
  have hx : ∀ p q : Bool, (p ^^ q) = (p != q) := by decide
  rw [crcBit_eq, refBit, BitVec.ushiftRight_xor_distrib, BitVec.getLsbD_xor, xor_right, hx]

/-- The state behind n bits of a stream. -/
def F (s : BitVec 32) (d : Nat → Bool) : Nat → BitVec 32 | 0 => s | n + 1 => refBit (F s d n) (d n)
theorem crcN_F (s y : BitVec 32) (d : Nat → Bool) (n : Nat) (h : ∀ i, i < n → d i = y.getLsbD i) : crcN n (s ^^^ y) = F s d n ^^^ (y >>> n) := by
  induction n with
  | zero => simp [crcN, F]
  | succ n ih =>
    rw [crcN, ih (fun i hi => h i (by omega)), crcBit_xor, F, h n (by omega), ← BitVec.shiftRight_add]
    rw [BitVec.getLsbD_ushiftRight, Nat.add_zero]
theorem F_congr (s : BitVec 32) (d e : Nat → Bool) (n : Nat) (h : ∀ i, i < n → d i = e i) : F s d n = F s e n := by
  induction n with
  | zero => rfl
  | succ n ih => rw [F, F, ih (fun i hi => h i (by omega)), h n (by omega)]
theorem F_add (s : BitVec 32) (d : Nat → Bool) (m n : Nat) : F s d (m + n) = F (F s d m) (fun i => d (m + i)) n := by
  induction n with
  | zero => rfl
  | succ n ih => rw [← Nat.add_assoc, F, ih, F]
theorem refBit_xor (r t : BitVec 32) (d e : Bool) : refBit (r ^^^ t) (d ^^ e) = refBit r d ^^^ refBit t e := by
  rw [refBit, refBit, refBit, BitVec.ushiftRight_xor_distrib, BitVec.getLsbD_xor, xor_swap]
  congr 1
  cases r.getLsbD 0 <;> cases t.getLsbD 0 <;> cases d <;> cases e <;> decide
theorem F_xor (s t : BitVec 32) (d e : Nat → Bool) (n : Nat) : F (s ^^^ t) (fun i => d i ^^ e i) n = F s d n ^^^ F t e n := by
  induction n with
  | zero => rfl
  | succ n ih => rw [F, ih, refBit_xor, F, F]
theorem F_zero (d : Nat → Bool) (n : Nat) (h : ∀ i, i < n → d i = false) : F 0 d n = 0 := by
  induction n with
  | zero => rfl
  | succ n ih => rw [F, ih (fun i hi => h i (by omega)), h n (by omega)]; decide

/-- No state but 0 is led to 0. -/
theorem crcBit_ne (x : BitVec 32) (h : x ≠ 0) : crcBit x ≠ 0 := by
  rw [crcBit_eq]
  intro e
  by_cases h0 : x.getLsbD 0 = true
  · rw [if_pos h0] at e
    have h1 := congrArg (fun z : BitVec 32 => z.getLsbD 31) e
    simp only [BitVec.getLsbD_xor, BitVec.getLsbD_ushiftRight] at h1
    rw [BitVec.getLsbD_of_ge x (1 + 31) (by omega)] at h1
    exact absurd h1 (by decide)
  · rw [if_neg h0, xor_0] at e
    apply h
    apply BitVec.eq_of_getLsbD_eq
    intro i hi
    rcases i with _ | i
    · simpa using h0
    · have h1 := congrArg (fun z : BitVec 32 => z.getLsbD i) e
      simp only [BitVec.getLsbD_ushiftRight] at h1
      rw [Nat.add_comm] at h1
      simpa using h1
theorem crcN_ne (n : Nat) (x : BitVec 32) (h : x ≠ 0) : crcN n x ≠ 0 := by
  induction n with
  | zero => exact h
  | succ n ih => exact crcBit_ne _ ih

/-- A burst within 32 bits is told. -/
theorem burst (e : Nat → Bool) (N a : Nat) (hout : ∀ i, a + 32 ≤ i → e i = false) (hlow : ∀ i, i < a → e i = false) (j : Nat) (hj : j < N) (hje : e j = true) : F 0 e N ≠ 0 := by
  have haN : a < N := by
    rcases Nat.lt_or_ge j a with h | h
    · rw [hlow j h] at hje; cases hje
    · omega
  obtain ⟨m, rfl⟩ : ∃ m, N = a + m := ⟨N - a, by omega⟩
  rw [F_add, F_zero e a hlow]
  obtain ⟨y, hy0⟩ := word_of (fun i => e (a + i) && decide (i < m)) 32 (Nat.le_refl _)
  have hy : ∀ i, i < 32 → y.getLsbD i = (e (a + i) && decide (i < m)) := fun i hi => by
    rw [hy0 i hi]; simp [hi]
  have hagree : ∀ i, i < m → (fun i => e (a + i)) i = y.getLsbD i := by
    intro i hi
    by_cases h32 : i < 32
    · rw [hy i h32]; simp [hi]
    · rw [BitVec.getLsbD_of_ge y i (by omega)]
      exact hout _ (by omega)
  have hz : y >>> m = 0 := by
    apply BitVec.eq_of_getLsbD_eq
    intro i hi
    rw [BitVec.getLsbD_ushiftRight]
    by_cases h32 : m + i < 32
    · rw [hy _ h32]; simp
    · rw [BitVec.getLsbD_of_ge y _ (by omega)]; simp
  have hne : y ≠ 0 := by
    intro h0
    have h1 : y.getLsbD (j - a) = true := by
      have hja : a ≤ j := by
        rcases Nat.lt_or_ge j a with h | h
        · rw [hlow j h] at hje; cases hje
        · exact h
      have h2 := hagree (j - a) (by omega)
      rw [← h2]
      show e (a + (j - a)) = true
      rw [show a + (j - a) = j by omega]
      exact hje
    rw [h0] at h1
    simp at h1
  have h := crcN_F 0 y (fun i => e (a + i)) m hagree
  rw [hz, xor_0, zero_xor0] at h
  rw [← h]
  exact crcN_ne m y hne
theorem crcS_snoc (s : BitVec 32) (bs : List UInt8) (b : UInt8) : crcS s (bs ++ [b]) = crcN 8 (crcS s bs ^^^ byte32 b) := by
  rw [crcS, List.foldl_append]
  rfl
theorem crcN_succ (k : Nat) (x : BitVec 32) : crcN (k + 1) x = crcBit (crcN k x) := rfl

/-- The bits of a text. -/
def bitOf (b : UInt8) (i : Nat) : Bool := (byte32 b).getLsbD i
def stream (bs : List UInt8) (i : Nat) : Bool := bitOf (bs.getD (i / 8) 0) (i % 8)
theorem byte32_shift (b : UInt8) : byte32 b >>> 8 = 0 := by
  have := UInt8.toNat_lt b
  apply BitVec.eq_of_toNat_eq
  rw [BitVec.toNat_ushiftRight, byte32, BitVec.toNat_ofNat, Nat.shiftRight_eq_div_pow]
  show b.toNat % 4294967296 / 256 = 0
  omega
/-- A byte taken in at once is its eight bits, one behind the other. -/
theorem crc_byte (s : BitVec 32) (b : UInt8) : crcN 8 (s ^^^ byte32 b) = F s (bitOf b) 8 := by
  rw [crcN_F s (byte32 b) (bitOf b) 8 (fun _ _ => rfl), byte32_shift, xor_0]
theorem take_snoc8 (bs : List UInt8) (i : Nat) (h : i < bs.length) : bs.take (i + 1) = bs.take i ++ [bs.getD i 0] := by
  rw [List.take_succ_eq_append_getElem h, List.getD_eq_getElem?_getD, List.getElem?_eq_getElem h]
  rfl
theorem crcS_take (s : BitVec 32) (bs : List UInt8) (n : Nat) (hn : n ≤ bs.length) : crcS s (bs.take n) = F s (stream bs) (8 * n) := by
  induction n with
  | zero => rfl
  | succ n ih =>
    rw [take_snoc8 bs n (by omega), crcS_snoc, ih (by omega), crc_byte, Nat.mul_succ, F_add]
    refine F_congr _ _ _ _ fun i hi => ?_
    simp only [stream]
    have e1 : (8 * n + i) / 8 = n := by omega
    have e2 : (8 * n + i) % 8 = i := by omega
    rw [e1, e2]
theorem crcS_F (s : BitVec 32) (bs : List UInt8) : crcS s bs = F s (stream bs) (8 * bs.length) := by
  rw [← crcS_take s bs _ (Nat.le_refl _), List.take_length]

end Go.Proofs.Ythfmfcgjcilagaa.PM
