/- Lanes of a text that is read: the contracts of Load, the program's and the reference's, over slices that are read. -/
import Derived.Test.YtbacbjnbfbdjdaaLSpeak
import Derived.Test.YtbacbjnbfbdjdaaMem
namespace Go.Proofs.Ytbacbjnbfbdjdaa.LW
open Go.ChangeShapes Go.WideShapes Go.ChangeAt Go.RowKit
open Go.Proofs.Ytbacbjnbfbdjdaa.LM Go.Proofs.Ytbacbjnbfbdjdaa.B
set_option linter.unusedVariables false

def nats (bs : List UInt8) : List Nat := bs.map UInt8.toNat
theorem nats_lt (bs : List UInt8) : ∀ b ∈ nats bs, b < 256 := by
  intro b hb
  obtain ⟨u, _, rfl⟩ := List.mem_map.1 hb
  exact UInt8.toNat_lt u
theorem nats_at (bs : List UInt8) (j : Nat) (h : j < bs.length) : byteAt (nats bs) j = at8 bs j := by
  unfold byteAt
  rw [if_pos (by simp [nats]; omega)]
  simp [nats, at8, h]
/-- The word of eight bytes of a text. -/
def loadF (bs : List UInt8) (i : Int) (k : Nat) : Nat := byteAt (nats bs) (i + k)
def loadW (bs : List UInt8) (i : Int) : BitVec 64 := BitVec.ofNat 64 (wordTo (loadF bs i) 8)
theorem loadF_lt (bs : List UInt8) (i : Int) (k : Nat) : loadF bs i k < 256 := byteAt_lt _ (nats_lt bs) _
theorem loadW_is (bs : List UInt8) (i : Int) : (wordTo (loadF bs i) 8 : Int) = W (loadW bs i) := by
  have h := wordTo_lt (loadF bs i) 8 (fun k _ => loadF_lt bs i k)
  rw [W, loadW, BitVec.toNat_ofNat, Nat.mod_eq_of_lt h]
theorem lane_loadW (bs : List UInt8) (i : Int) (k : Nat) (hk : k < 8) : lane (loadW bs i) k = loadF bs i k := by
  refine lane_of_word _ _ (fun j _ => loadF_lt bs i j) ?_ k hk
  have h := wordTo_lt (loadF bs i) 8 (fun k _ => loadF_lt bs i k)
  rw [← wordTo_8, loadW, BitVec.toNat_ofNat, Nat.mod_eq_of_lt h]

theorem load_rd {w : World} {B n c : Nat} {A : Option Addr} {bs : List UInt8} (h : Rd w B 1 A n c (u8s bs)) (i : Int) (hi : -9223372036854775808 ≤ i) (hi' : i ≤ 9223372036854775807) :
    Calls Try.prog 16 #[.slice A n c, .int .i64 i] w fun e w' => e = .returned (.int .u64 (W (loadW bs i))) ∧ w = w' := by
  have hl := h.length8
  have hm := h.max
  have hcap := h.cap
  unfold maxLen at hm
  have hc := load_any A n c (nats bs) (by simp [nats, hl]) (nats_lt bs) (by omega) i hi hi' w (fun j hj => by
    obtain ⟨ad, e, _, hc⟩ := h.byte hj
    exact ⟨ad, e, by rw [nats_at bs j (by omega)]; exact hc⟩)
  rw [← loadW_is]
  exact hc

theorem refLoad_rd {w : World} {n c : Nat} {A : Option Addr} {bs : List UInt8} (h : Rd w w.heap.size 1 A n c (u8s bs)) (hn : n ≤ 200) (i : Int) (hi : -9223372036854775808 ≤ i) (hi' : i ≤ 9223372036854775807) :
    Calls Try.prog 19 #[.slice A n c, .int .i64 i] w fun e w' => e = .returned (.int .u64 (W (loadW bs i))) ∧ Below w.heap.size w w' := by
  have hl := h.length8
  have hc := refLoad_any A n c (nats bs) (by simp [nats, hl]) (nats_lt bs) hn i hi hi' w (fun j hj => by
    obtain ⟨ad, e, hb, hc⟩ := h.byte hj
    exact ⟨ad, e, hb, by rw [nats_at bs j (by omega)]; exact hc⟩)
  rw [← loadW_is]
  exact hc

end Go.Proofs.Ytbacbjnbfbdjdaa.LW
