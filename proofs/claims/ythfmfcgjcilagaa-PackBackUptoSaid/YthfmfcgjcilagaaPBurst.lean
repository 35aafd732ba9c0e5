/- A frame with some bits turned, cut off, or longer: what Unseal answers. Plain law. And a byte of a row of the call's own that is written anew. -/
import Derived.Test.YthfmfcgjcilagaaPFrame
namespace Go.Proofs.Ythfmfcgjcilagaa.PW
open Go.RowKit
open Go.Proofs.Ythfmfcgjcilagaa.B Go.Proofs.Ythfmfcgjcilagaa.PM Go.Proofs.Ythfmfcgjcilagaa.LM

/-! ### Memory -/
theorem own_set {w : World} {base : Nat} {e : TypeId} {n c : Nat} {ad : Addr} {bs : List UInt8} (h : w.ownsRow base e 1 (.slice (some ad) n c) n (u8s bs)) (j : Nat) (x : UInt8) :
    (w.setCell (ad.add j) (.int .u8 (x.toNat : Int))).ownsRow base e 1 (.slice (some ad) n c) n (u8s (bs.set j x)) := by
  refine ⟨by rw [u8s_length, List.length_set, ← u8s_length]; exact h.1, ?_⟩
  rcases h.2 with ⟨h1, _⟩ | ⟨g, cap, cur, h1, hb, hh, h3, h4, h5, h6⟩
  · cases h1
  · injection h1 with h1 h2 h3'
    injection h1 with h1
    subst h1; subst h3'
    refine .inr ⟨g, c, cur.setIfInBounds j (.int .u8 (x.toNat : Int)), rfl, hb, ?_, h3, h4, by rw [Array.size_setIfInBounds]; exact h5, ?_⟩
    · rw [add_lit, Nat.zero_add]
      simp [World.setCell, Array.getElem?_modify, hh]
    · rw [Array.toList_setIfInBounds, List.take_set, h6, u8s, u8s, List.map_set]
theorem own_cell {w : World} {base : Nat} {e : TypeId} {n c : Nat} {ad : Addr} {bs : List UInt8} (h : w.ownsRow base e 1 (.slice (some ad) n c) n (u8s bs)) (j : Nat) (hj : j < n) :
    w.cell? (ad.add j) = some (.int .u8 (at8 bs j : Int)) ∧ w.frozen? (ad.add j) = false ∧ base ≤ ad.block ∧ (ad.add j).block = ad.block := by
  have hl := h.1
  rw [u8s_length, Nat.mul_one] at hl
  rcases h.2 with ⟨h1, _⟩ | ⟨g, cap, cur, h1, hb, hh, h3, h4, h5, h6⟩
  · cases h1
  · injection h1 with h1 h2 h3'
    injection h1 with h1
    subst h1
    refine ⟨?_, ?_, hb, add_block _ _⟩
    · have e1 := u8s_at bs j (by omega)
      rw [← h6, List.getElem?_take, if_pos (by omega)] at e1
      rw [add_lit, Nat.zero_add, cell_of_row _ _ _ cur e (0, 0) hh, ← e1, Array.getElem?_toList]
    · rw [add_lit, Nat.zero_add]
      simp [World.frozen?, hh]
theorem own_some {w : World} {base : Nat} {e : TypeId} {n c : Nat} {A : Option Addr} {xs : List Value} (h : w.ownsRow base e 1 (.slice A n c) n xs) (hn : 0 < n) : ∃ ad, A = some ad := by
  rcases h.2 with ⟨_, h1⟩ | ⟨g, cap, cur, h1, _⟩
  · omega
  · injection h1 with h1
    exact ⟨_, h1⟩

/-! ### Bits -/
def bit8 (r : Nat) : UInt8 := UInt8.ofNat (2 ^ r)
theorem bit8_nat (r : Nat) (h : r < 8) : (bit8 r).toNat = 2 ^ r := by
  have h2 : 2 ^ r < 2 ^ 8 := Nat.pow_lt_pow_right (by decide) h
  rw [bit8, UInt8.toNat_ofNat', Nat.mod_eq_of_lt h2]
theorem bitOf_nat (b : UInt8) (i : Nat) (h : i < 32) : bitOf b i = b.toNat.testBit i := by
  rw [bitOf, byte32, BitVec.getLsbD_ofNat, decide_eq_true h, Bool.true_and]
theorem bitOf_bit8 (r i : Nat) (hr : r < 8) (hi : i < 8) : bitOf (bit8 r) i = decide (i = r) := by
  rw [bitOf_nat _ _ (by omega), bit8_nat r hr, Nat.testBit_two_pow]
  simp [eq_comm]
theorem byte_ext {b c : UInt8} (h : ∀ i, i < 8 → bitOf b i = bitOf c i) : b = c := by
  apply UInt8.toNat_inj.1
  apply Nat.eq_of_testBit_eq
  intro i
  by_cases hi : i < 8
  · rw [← bitOf_nat b i (by omega), ← bitOf_nat c i (by omega)]
    exact h i hi
  · have hp : 2 ^ 8 ≤ 2 ^ i := Nat.pow_le_pow_right (by decide) (by omega)
    rw [Nat.testBit_lt_two_pow (Nat.lt_of_lt_of_le (UInt8.toNat_lt b) hp), Nat.testBit_lt_two_pow (Nat.lt_of_lt_of_le (UInt8.toNat_lt c) hp)]
theorem getD_set (bs : List UInt8) (q j : Nat) (x : UInt8) (hq : q < bs.length) : (bs.set q x).getD j 0 = if j = q then x else bs.getD j 0 := by
  rw [List.getD_eq_getElem?_getD, List.getD_eq_getElem?_getD, List.getElem?_set]
  by_cases h : q = j
  · subst h; simp [hq]
  · simp [h, Ne.symm h]
theorem stream_flip (bs : List UInt8) (q r i : Nat) (hq : q < bs.length) (hr : r < 8) : stream (bs.set q (bs.getD q 0 ^^^ bit8 r)) i = (stream bs i ^^ decide (i = 8 * q + r)) := by
  rw [stream, stream, getD_set _ _ _ _ hq]
  by_cases h : i / 8 = q
  · rw [if_pos h, bitOf_xor, bitOf_bit8 r (i % 8) hr (by omega), h]
    congr 1
    rw [Bool.eq_iff_iff, decide_eq_true_iff, decide_eq_true_iff]
    omega
  · rw [if_neg h, decide_eq_false (by omega), Bool.xor_false]
theorem stream_take (bs : List UInt8) (n i : Nat) (h : i < 8 * n) : stream (bs.take n) i = stream bs i := by
  rw [stream, stream, getD_take _ _ _ (by omega)]
theorem stream_drop (bs : List UInt8) (n i : Nat) : stream (bs.drop n) i = stream bs (8 * n + i) := by
  rw [stream, stream, show (8 * n + i) / 8 = n + i / 8 by omega, show (8 * n + i) % 8 = i % 8 by omega]
  congr 1
  simp
theorem byte_of_stream {bs cs : List UInt8} (j : Nat) (h : ∀ i, i < 8 → stream bs (8 * j + i) = stream cs (8 * j + i)) : bs.getD j 0 = cs.getD j 0 := by
  apply byte_ext
  intro i hi
  have := h i hi
  rwa [stream, stream, show (8 * j + i) / 8 = j by omega, show (8 * j + i) % 8 = i by omega] at this
theorem text_of_stream {bs cs : List UInt8} (hl : bs.length = cs.length) (h : ∀ i, stream bs i = stream cs i) : bs = cs := by
  apply List.ext_getElem hl
  intro j h1 h2
  have := byte_of_stream (bs := bs) (cs := cs) j (fun i _ => h _)
  rwa [List.getD_eq_getElem?_getD, List.getD_eq_getElem?_getD, List.getElem?_eq_getElem h1, List.getElem?_eq_getElem h2] at this

/-- The bits of four bytes' number. -/
theorem word_testBit (f : Nat → Nat) (hf : ∀ j, f j < 256) (k i : Nat) (hi : i < 8 * k) : (wordTo f k).testBit i = (f (i / 8)).testBit (i % 8) := by
  induction k with
  | zero => omega
  | succ k ih =>
    have hlt := wordTo_lt f k (fun j _ => hf j)
    rw [wordTo, Nat.add_comm, Nat.mul_comm, Nat.testBit_two_pow_mul_add _ hlt]
    by_cases h : i < 8 * k
    · rw [if_pos h, ih h]
    · rw [if_neg h, show i / 8 = k by omega, show i - 8 * k = i % 8 by omega]
theorem at8_bit (bs : List UInt8) (j r : Nat) (h : r < 8) : (at8 bs j).testBit r = stream bs (8 * j + r) := by
  rw [stream, show (8 * j + r) / 8 = j by omega, show (8 * j + r) % 8 = r by omega, bitOf_nat _ _ (by omega)]
  rfl
theorem sum_bit (bs : List UInt8) (k : Nat) (hk : k < 32) : (BitVec.ofNat 32 (sumOf bs)).getLsbD k = stream bs (8 * (bs.length - 4) + k) := by
  rw [BitVec.getLsbD_ofNat, decide_eq_true hk, Bool.true_and, sumOf, word_testBit _ (at8_lt _) 4 k (by omega), at8_drop, at8_bit _ _ _ (by omega)]
  congr 1
  omega

/-! ### What the change e has done to a frame -/
structure Turned (f gs : List UInt8) (e : Nat → Bool) : Prop where
  len : gs.length = f.length
  bits : ∀ i, stream gs i = (stream f i ^^ e i)
theorem Turned.none {f gs : List UInt8} {e : Nat → Bool} (h : Turned f gs e) (he : ∀ i, e i = false) : gs = f :=
  text_of_stream h.len fun i => by rw [h.bits, he, Bool.xor_false]
theorem Turned.byte {f gs : List UInt8} {e : Nat → Bool} (h : Turned f gs e) (hlow : ∀ i, i < 64 → e i = false) (j : Nat) (hj : j < 8) : gs.getD j 0 = f.getD j 0 :=
  byte_of_stream j fun i hi => by rw [h.bits, hlow _ (by omega), Bool.xor_false]
theorem take3_of {f gs : List UInt8} (hl : gs.length = f.length) (h : ∀ j, j < 8 → gs.getD j 0 = f.getD j 0) : gs.take 3 = f.take 3 := by
  apply List.ext_getElem (by rw [List.length_take, List.length_take, hl])
  intro j h1 h2
  rw [List.getElem_take, List.getElem_take]
  rw [List.length_take] at h1 h2
  have := h j (by omega)
  rwa [List.getD_eq_getElem?_getD, List.getD_eq_getElem?_getD, List.getElem?_eq_getElem (by omega), List.getElem?_eq_getElem (by omega)] at this
theorem lenOf_of {f gs : List UInt8} (h : ∀ j, j < 8 → gs.getD j 0 = f.getD j 0) : lenOf gs = lenOf f := by
  rw [lenOf, lenOf]
  apply wordTo_congr
  intro j hj
  rw [at8_drop, at8_drop, at8, at8, h _ (by omega)]

theorem burst_told (v : UInt8) (body gs : List UInt8) (e : Nat → Bool) (a : Nat) (hb : body.length < 4294967296) (h : Turned (sealed v body) gs e) (ha : 64 ≤ a)
    (hout : ∀ i, a + 32 ≤ i → e i = false) (hlow : ∀ i, i < a → e i = false) (j : Nat) (hj : j < 8 * (body.length + 12)) (hje : e j = true) : unsealed v gs = ([], 44) := by
  have h1 := sealed_length v body
  have hbyte := h.byte (fun i hi => hlow i (by omega))
  have hl := h.len
  have hN : 8 * (gs.length - 4) = 8 * (body.length + 8) := by omega
  have hT : F ones32 (stream (sealed v body)) (8 * (body.length + 8)) ^^^ ones32 = BitVec.ofNat 32 (sumOf (sealed v body)) := by
    rw [sealed_sum, BitVec.ofNat_toNat, BitVec.setWidth_eq, crc, ← sealed_head, crcS_F, List.length_take, h1]
    rw [show min (body.length + 12 - 4) (body.length + 12) = body.length + 8 by omega, show body.length + 12 - 4 = body.length + 8 by omega]
    congr 1
    apply F_congr
    intro i hi
    exact (stream_take _ _ _ hi).symm
  have ht := told (stream (sealed v body)) e (8 * (body.length + 8)) a _ (BitVec.ofNat 32 (sumOf gs)) hT (fun k hk => by
    rw [sum_bit _ _ hk, sum_bit _ _ hk, h.bits, h1, hl, h1]
    rw [show 8 * (body.length + 12 - 4) = 8 * (body.length + 8) by omega]) hout hlow j (by omega) hje
  have hc : crc (gs.take (gs.length - 4)) = F ones32 (fun i => stream (sealed v body) i ^^ e i) (8 * (body.length + 8)) ^^^ ones32 := by
    rw [crc, crcS_F, List.length_take, show 8 * min (gs.length - 4) gs.length = 8 * (body.length + 8) by omega]
    congr 1
    apply F_congr
    intro i hi
    rw [stream_take _ _ _ (by omega), h.bits]
  rw [unsealed, if_neg (by omega), if_neg (by rw [take3_of hl hbyte, sealed_take3]; simp), if_neg (by rw [hbyte 3 (by omega), sealed_3]; simp), lenOf_of hbyte, sealed_len v body hb, if_neg (by omega), if_neg (by omega), if_pos]
  intro hs
  apply ht
  rw [← hc, hs, BitVec.ofNat_toNat, BitVec.setWidth_eq]

theorem cut_short (v : UInt8) (body : List UInt8) (hb : body.length < 4294967296) (j : Nat) (hj : j < body.length + 12) : unsealed v ((sealed v body).take j) = ([], 40) := by
  have h1 := sealed_length v body
  have hl : ((sealed v body).take j).length = j := by rw [List.length_take]; omega
  by_cases h12 : j < 12
  · rw [unsealed, if_pos (by omega)]
  · have hbyte : ∀ k, k < 8 → ((sealed v body).take j).getD k 0 = (sealed v body).getD k 0 := fun k hk => getD_take _ _ _ (by omega)
    rw [unsealed, if_neg (by omega), if_neg (by rw [List.take_take, show min 3 j = 3 by omega, sealed_take3]; simp), if_neg (by rw [hbyte 3 (by omega), sealed_3]; simp), lenOf_of hbyte, sealed_len v body hb, if_pos (by omega)]
theorem with_tail (v b : UInt8) (body : List UInt8) (hb : body.length < 4294967296) : unsealed v (sealed v body ++ [b]) = ([], 43) := by
  have h1 := sealed_length v body
  have hl : (sealed v body ++ [b]).length = body.length + 13 := by rw [List.length_append, h1]; rfl
  have hbyte : ∀ k, k < 8 → (sealed v body ++ [b]).getD k 0 = (sealed v body).getD k 0 := fun k hk => by
    rw [List.getD_eq_getElem?_getD, List.getD_eq_getElem?_getD, List.getElem?_append_left (by omega)]
  rw [unsealed, if_neg (by omega), if_neg (by rw [List.take_append_of_le_length (by omega), sealed_take3]; simp), if_neg (by rw [hbyte 3 (by omega), sealed_3]; simp), lenOf_of hbyte, sealed_len v body hb, if_neg (by omega), if_pos (by omega)]

/-! ### Bit by bit -/
/-- The bits turned behind k rounds: those of y from place 'a' on, below the end 'z'. -/
def flips (y : BitVec 32) (a z k : Nat) (i : Nat) : Bool := decide (a ≤ i ∧ i < a + k ∧ i < z) && y.getLsbD (i - a)
theorem flips_0 (y : BitVec 32) (a z i : Nat) : flips y a z 0 i = false := by
  rw [flips, decide_eq_false (by omega), Bool.false_and]
theorem flips_turn (y : BitVec 32) (a z k i : Nat) (h : y.getLsbD k = true) (hz : a + k < z) : flips y a z (k + 1) i = (flips y a z k i ^^ decide (i = a + k)) := by
  by_cases e : i = a + k
  · subst e
    rw [flips, flips, decide_eq_true (by omega), decide_eq_false (by omega), decide_eq_true rfl, Nat.add_sub_cancel_left, h]
    rfl
  · rw [decide_eq_false e, Bool.xor_false, flips, flips]
    congr 1
    rw [Bool.eq_iff_iff, decide_eq_true_iff, decide_eq_true_iff]
    omega
theorem flips_keep (y : BitVec 32) (a z k i : Nat) (h : y.getLsbD k = false ∨ ¬ a + k < z) : flips y a z (k + 1) i = flips y a z k i := by
  by_cases e : i = a + k
  · subst e
    rcases h with h | h
    · rw [flips, flips, Nat.add_sub_cancel_left, h, Bool.and_false, Bool.and_false]
    · rw [flips, flips, decide_eq_false (by omega), decide_eq_false (by omega)]
  · rw [flips, flips]
    congr 1
    rw [Bool.eq_iff_iff, decide_eq_true_iff, decide_eq_true_iff]
    omega
/-- What the loop keeps. -/
structure Burst (f : List UInt8) (y : BitVec 32) (a z k : Nat) (ch : Bool) (gs : List UInt8) : Prop where
  turned : Turned f gs (flips y a z k)
  ch : (ch = true ∧ ∃ i, i < z ∧ flips y a z k i = true) ∨ (ch = false ∧ ∀ i, flips y a z k i = false)
theorem Burst.start (f : List UInt8) (y : BitVec 32) (a z : Nat) : Burst f y a z 0 false f :=
  ⟨⟨rfl, fun i => by rw [flips_0, Bool.xor_false]⟩, .inr ⟨rfl, flips_0 y a z⟩⟩
theorem Burst.keep {f : List UInt8} {y : BitVec 32} {a z k : Nat} {ch : Bool} {gs : List UInt8} (h : Burst f y a z k ch gs) (hk : y.getLsbD k = false ∨ ¬ a + k < z) : Burst f y a z (k + 1) ch gs := by
  have e : flips y a z (k + 1) = flips y a z k := funext fun i => flips_keep y a z k i hk
  exact ⟨by rw [e]; exact h.turned, by rw [e]; exact h.ch⟩
theorem Burst.turn {f : List UInt8} {y : BitVec 32} {a z k : Nat} {ch : Bool} {gs : List UInt8} (h : Burst f y a z k ch gs) (hk : y.getLsbD k = true) (hz : a + k < z) (q r : Nat) (hr : r < 8) (hq : 8 * q + r = a + k) (hql : q < f.length) :
    Burst f y a z (k + 1) true (gs.set q (gs.getD q 0 ^^^ bit8 r)) := by
  refine ⟨⟨by rw [List.length_set]; exact h.turned.len, fun i => ?_⟩, .inl ⟨rfl, a + k, hz, ?_⟩⟩
  · rw [stream_flip _ _ _ _ (by rw [h.turned.len]; exact hql) hr, h.turned.bits, flips_turn y a z k i hk hz, hq, Bool.xor_assoc]
  · rw [flips, decide_eq_true (by omega), Nat.add_sub_cancel_left, hk]; rfl
/-- What Unseal answers to it. -/
theorem Burst.answer {v : UInt8} {body : List UInt8} {y : BitVec 32} {a : Nat} {ch : Bool} {gs : List UInt8} (h : Burst (sealed v body) y a (8 * (body.length + 12)) 32 ch gs) (hb : body.length < 4294967296) (ha : 64 ≤ a) :
    (ch = true ∧ unsealed v gs = ([], 44)) ∨ (ch = false ∧ unsealed v gs = (body, 0)) := by
  rcases h.ch with ⟨hc, i, hi, he⟩ | ⟨hc, he⟩
  · refine .inl ⟨hc, burst_told v body gs _ a hb h.turned ha (fun i hi => ?_) (fun i hi => ?_) i hi he⟩
    · rw [flips, decide_eq_false (by omega), Bool.false_and]
    · rw [flips, decide_eq_false (by omega), Bool.false_and]
  · refine .inr ⟨hc, ?_⟩
    rw [h.turned.none he, unsealed_ok v body hb]

end Go.Proofs.Ythfmfcgjcilagaa.PW
