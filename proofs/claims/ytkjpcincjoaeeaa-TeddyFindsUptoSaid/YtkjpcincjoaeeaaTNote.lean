/- The walk of the filter's note. -/
import Derived.Test.YtkjpcincjoaeeaaTMem
import Derived.Outline
namespace Go.Proofs.Ytkjpcincjoaeeaa.TW
open Go.ChangeShapes Go.WideShapes Go.ChangeAt Go.RowKit
open Go.Proofs.Ytkjpcincjoaeeaa.B Go.Proofs.Ytkjpcincjoaeeaa.AM Go.Proofs.Ytkjpcincjoaeeaa.AW Go.Proofs.Ytkjpcincjoaeeaa.TM
set_option linter.unusedVariables false

structure Noted (w : World) (g : Nat) (L : Value) (lo hi : Mask) (B : Nat → Value) (m : Int) (l : T) (b n : Nat) (lo' hi' : Mask) (w' : World) : Prop where
  blk : Blk w' g 58 (fcells L lo' hi' B m)
  small : Small lo' ∧ Small hi'
  grow : Grow lo lo' ∧ Grow hi hi'
  has : HasTo lo' hi' l b n
  fr : Fr w w' (· = g)
def NotedIs (w : World) (g : Nat) (L : Value) (lo hi : Mask) (B : Nat → Value) (m : Int) (l : T) (b : Nat) (w' : World) : Prop := ∃ lo' hi', Noted w g L lo hi B m l b 3 lo' hi' w'
theorem mod_of (x : Nat) : ∃ y : Nat, (x : Int).tmod 16 = (y : Int) ∧ y < 16 ∧ y = x % 16 := ⟨x % 16, by rw [Int.tmod_eq_emod_of_nonneg (by omega)]; omega, Nat.mod_lt _ (by decide), rfl⟩
theorem div_of (x : Nat) (hx : x < 256) : ∃ z : Nat, (x : Int).tdiv 16 = (z : Int) ∧ z < 16 ∧ z = x / 16 := ⟨x / 16, by rw [Int.tdiv_eq_ediv_of_nonneg (by omega)]; omega, by omega, rfl⟩
theorem or_u8 (a q : Nat) (ha : a < 256) (hq : q < 256) : bits BinOp.or IntKind.u8 (a : Int) (q : Int) = ((a ||| q : Nat) : Int) := by
  have h := or_256 ha hq
  show IntKind.u8.wrap ((BitVec.ofInt 8 (a : Int) ||| BitVec.ofInt 8 (q : Int)).toNat : Int) = _
  rw [BitVec.ofInt_natCast, BitVec.ofInt_natCast, BitVec.toNat_or, BitVec.toNat_ofNat, BitVec.toNat_ofNat, Nat.mod_eq_of_lt ha, Nat.mod_eq_of_lt hq]
  simp [IntKind.wrap, IntKind.bits, IntKind.signed]
  omega

theorem Noted.drew {w w' : World} {g b n : Nat} {L : Value} {lo hi lo' hi' : Mask} {B : Nat → Value} {m : Int} {l : T} (h : Noted w g L lo hi B m l b n lo' hi' w') : Noted w g L lo hi B m l b n lo' hi' w'.drew := ⟨h.blk.drew, h.small, h.grow, h.has, h.fr.drew⟩
theorem Noted.low {w w' : World} {g b n j y q : Nat} {L : Value} {lo hi lo' hi' : Mask} {B : Nat → Value} {m : Int} {l : T} (h : Noted w g L lo hi B m l b n lo' hi' w') (hj : j < 3) (hy : y < 16) (hq : q < 256) : Noted w g L lo hi B m l b n (ored lo' j y q) hi' (w'.setCell ⟨g, 1 + j * 32 + y, none⟩ (.int .u8 ((lo' j y ||| q : Nat) : Int))) := by
  have h1 := h.blk.set (1 + j * 32 + y) (.int .u8 ((lo' j y ||| q : Nat) : Int))
  rw [show 1 + j * 32 + y = 1 + (j * 32 + y) by omega, fcells_set_low j y q hj hy] at h1
  rw [show 1 + j * 32 + y = 1 + (j * 32 + y) by omega]
  exact ⟨h1, ⟨ored_small h.small.1 _ _ _ hq, h.small.2⟩, ⟨h.grow.1.trans (ored_grow _ _ _ _), h.grow.2⟩, h.has.grow (ored_grow _ _ _ _) (Grow.refl _), h.fr.setCell (p := ⟨g, _, none⟩) (fun _ => rfl) _⟩
theorem Noted.high {w w' : World} {g b n j y q : Nat} {L : Value} {lo hi lo' hi' : Mask} {B : Nat → Value} {m : Int} {l : T} (h : Noted w g L lo hi B m l b n lo' hi' w') (hj : j < 3) (hy : y < 16) (hq : q < 256) : Noted w g L lo hi B m l b n lo' (ored hi' j y q) (w'.setCell ⟨g, 1 + j * 32 + 16 + y, none⟩ (.int .u8 ((hi' j y ||| q : Nat) : Int))) := by
  have h1 := h.blk.set (1 + j * 32 + 16 + y) (.int .u8 ((hi' j y ||| q : Nat) : Int))
  rw [show 1 + j * 32 + 16 + y = 1 + (j * 32 + (16 + y)) by omega, fcells_set_high j y q hj hy] at h1
  rw [show 1 + j * 32 + 16 + y = 1 + (j * 32 + (16 + y)) by omega]
  exact ⟨h1, ⟨h.small.1, ored_small h.small.2 _ _ _ hq⟩, ⟨h.grow.1, h.grow.2.trans (ored_grow _ _ _ _)⟩, h.has.grow (Grow.refl _) (ored_grow _ _ _ _), h.fr.setCell (p := ⟨g, _, none⟩) (fun _ => rfl) _⟩
theorem Noted.cell_low {w w' : World} {g b n j y : Nat} {L : Value} {lo hi lo' hi' : Mask} {B : Nat → Value} {m : Int} {l : T} (h : Noted w g L lo hi B m l b n lo' hi' w') (hj : j < 3) (hy : y < 16) : w'.cell? ⟨g, 1 + j * 32 + y, none⟩ = some (.int .u8 (lo' j y : Int)) := h.blk.at_ (by rw [Nat.add_assoc, fcells_at _ (by omega), fcell_low _ _ hj hy])
theorem Noted.cell_high {w w' : World} {g b n j y : Nat} {L : Value} {lo hi lo' hi' : Mask} {B : Nat → Value} {m : Int} {l : T} (h : Noted w g L lo hi B m l b n lo' hi' w') (hj : j < 3) (hy : y < 16) : w'.cell? ⟨g, 1 + j * 32 + 16 + y, none⟩ = some (.int .u8 (hi' j y : Int)) := h.blk.at_ (by rw [Nat.add_assoc, Nat.add_assoc, fcells_at _ (by omega), fcell_high _ _ hj hy])

set_option maxRecDepth 10000 in
set_option maxHeartbeats 1000000 in
theorem note_any {w : World} {g BB cl q b : Nat} {L : Value} {lo hi : Mask} {B : Nat → Value} {m : Int} {l : T} {Al : Option Addr} (hb : Blk w g 58 (fcells L lo hi B m)) (hl : Rd w BB 1 Al l.length cl (u8s l)) (hg : BB ≤ g) (hlo : Small lo) (hhi : Small hi) (hq : q < 256) (hqb : q.testBit b = true) :
    Calls Try.prog 26 #[.pointer (some ⟨g, 0, none⟩), .slice Al l.length cl, .int .u8 (q : Int)] w fun e w' => e = .returned (.tuple #[]) ∧ NotedIs w g L lo hi B m l b w' := by
  have hN : Noted w g L lo hi B m l b 0 lo hi w := ⟨hb, ⟨hlo, hhi⟩, ⟨Grow.refl _, Grow.refl _⟩, fun k hk => by omega, Fr.refl _ _⟩
  have HG := hide hb.lt
  have HN := hide hN
  have HR := hide hl
  clear hb hl hlo hhi hN
  go_enter Try.func26, Try.ntmps26
  go_wp2_with fail
  go_loopw [9] (fun kv wr => ∃ (k : Nat) (lo' hi' : Mask), kv = .int .i64 k ∧ k ≤ 3 ∧ Noted w g L lo hi B m l b k lo' hi' wr) (fun kv _ => 3 - (intOf kv).toNat)
  case atStart => exact ⟨0, lo, hi, rfl, by omega, HN.out⟩
  case round =>
    clear HN
    obtain ⟨k, lo', hi', rfl, hk, hn⟩ := hrel
    have HN := hide hn
    clear hn
    by_cases hlt : k < 3
    · have e1 : IntKind.i64.wrap ((k : Int) + 1) = (k : Int) + 1 := IntWalk.i64_in _ (by omega)
      by_cases hkl : k < l.length
      · have hgl : g < w.heap.size := HG.out
        obtain ⟨al, rfl, _, hcl⟩ := (HR.out.below (HN.out.fr.below (B := BB) (fun _ e => by omega) (by omega))).byte (i := k) hkl
        obtain ⟨x, hx⟩ : ∃ x, at8 l k = x := ⟨_, rfl⟩
        have hx2 := at8_lt l k
        rw [hx] at hcl hx2
        obtain ⟨y, hy1, hy2, hy3⟩ := mod_of x
        obtain ⟨z, hz1, hz2, hz3⟩ := div_of x hx2
        have hc1 := HN.out.cell_low hlt hy2
        have hf1 : wr.frozen? ⟨g, 1 + k * 32 + y, none⟩ = false := HN.out.blk.frozen _
        have ho1 := or_u8 (lo' k y) q (HN.out.small.1 k hlt y hy2) hq
        have HX := hide (show _ ∧ _ ∧ _ from ⟨hx, hy3, hz3⟩)
        have hy4 : (0 : Int) ≤ (y : Int) := by omega
        have hy5 : (y : Int) < 16 := by omega
        have hz4 : (0 : Int) ≤ (z : Int) := by omega
        have hz5 : (z : Int) < 16 := by omega
        have hzw : IntKind.u8.wrap (z : Int) = (z : Int) := by simp [IntKind.wrap, IntKind.bits, IntKind.signed]; omega
        clear hx hy3 hz3
        have HS1 := hide (HN.out.low hlt hy2 hq).drew
        go_wp2_with fail
        go_upto_region 5 with fail
        go_cut [] (fun wx => Noted w g L lo hi B m l b k (ored lo' k y q) hi' wx)
        case first =>
          go_region_law (fail)
          go_wp2_with fail
          go_meet
          exact HS1.out
        case rest =>
          obtain ⟨w5, rfl⟩ : ∃ w5, w5 = wc := ⟨_, rfl⟩
          have HN2 := hide hcut
          clear hcut hc1 hf1 ho1 HS1 hcl HN
          obtain ⟨al', hal, _, hcl⟩ := (HR.out.below (HN2.out.fr.below (B := BB) (fun _ e => by omega) (by omega))).byte (i := k) hkl
          obtain rfl := Option.some.inj hal
          rw [HX.out.1] at hcl
          have hc2 := HN2.out.cell_high hlt hz2
          have hf2 : w5.frozen? ⟨g, 1 + k * 32 + 16 + z, none⟩ = false := HN2.out.blk.frozen _
          have ho2 := or_u8 (hi' k z) q (HN2.out.small.2 k hlt z hz2) hq
          have HS2 := hide (HN2.out.high hlt hz2 hq).drew
          go_wp2_with fail
          go_upto_region 6 with fail
          go_cut [] (fun wx => Noted w g L lo hi B m l b k (ored lo' k y q) (ored hi' k z q) wx)
          case first =>
            go_region_law (fail)
            go_wp2_with fail
            go_meet
            exact HS2.out
          case rest =>
            have HN3 : Hid (Noted w g L lo hi B m l b (k + 1) (ored lo' k y q) (ored hi' k z q) wc) := hide ⟨hcut.blk, hcut.small, hcut.grow, hcut.has.short (Grow.refl _) (Grow.refl _) hkl (by rw [HX.out.1, ← HX.out.2.1]; exact ored_at _ _ _ _ _ hqb) (by rw [HX.out.1, ← HX.out.2.2]; exact ored_at _ _ _ _ _ hqb), hcut.fr⟩
            clear hcut HN2 HS2 hcl hc2 hf2 ho2
            go_wp2_with fail
            go_roundw
            case rel => exact ⟨k + 1, _, _, by go_num, by omega, HN3.out⟩
            case measure => simp [intOf]; omega
      · have hkd : decide ((k : Int) < (l.length : Int)) = false := decide_eq_false (by omega)
        have hki : decide ((k : Int) < 3) = true := decide_eq_true (by omega)
        go_wp2_with fail
        go_loopw [51] (fun hv wl => ∃ (h : Nat) (lo2 hi2 : Mask), hv = .int .i64 h ∧ h ≤ 16 ∧ Noted w g L lo hi B m l b k lo2 hi2 wl ∧ ∀ h', h' < h → (lo2 k h').testBit b = true ∧ (hi2 k h').testBit b = true) (fun hv _ => 16 - (intOf hv).toNat)
        case atStart => exact ⟨0, lo', hi', rfl, by omega, HN.out, fun h' hh => by omega⟩
        case round =>
          clear HN
          obtain ⟨w0, rfl⟩ : ∃ w0, w0 = wr := ⟨_, rfl⟩
          obtain ⟨h, lo2, hi2, rfl, hh, hn, hall⟩ := hrel
          have HN := hide hn
          have HA := hide hall
          clear hn hall
          by_cases hhl : h < 16
          · have e2 : IntKind.i64.wrap ((h : Int) + 1) = (h : Int) + 1 := IntWalk.i64_in _ (by omega)
            have hc1 := HN.out.cell_low hlt hhl
            have hf1 : w0.frozen? ⟨g, 1 + k * 32 + h, none⟩ = false := HN.out.blk.frozen _
            have ho1 := or_u8 (lo2 k h) q (HN.out.small.1 k hlt h hhl) hq
            have HS1 := hide (HN.out.low hlt hhl hq).drew
            go_wp2_with fail
            go_upto_region 10 with fail
            go_cut [] (fun wx => Noted w g L lo hi B m l b k (ored lo2 k h q) hi2 wx)
            case first =>
              go_region_law (fail)
              go_wp2_with fail
              go_meet
              exact HS1.out
            case rest =>
              obtain ⟨w5, rfl⟩ : ∃ w5, w5 = wc := ⟨_, rfl⟩
              have HN2 := hide hcut
              clear hcut hc1 hf1 ho1 HS1 HN
              have hc2 := HN2.out.cell_high hlt hhl
              have hf2 : w5.frozen? ⟨g, 1 + k * 32 + 16 + h, none⟩ = false := HN2.out.blk.frozen _
              have ho2 := or_u8 (hi2 k h) q (HN2.out.small.2 k hlt h hhl) hq
              have HS2 := hide (HN2.out.high hlt hhl hq).drew
              go_wp2_with fail
              have HA3 : Hid (∀ h', h' < h + 1 → ((ored lo2 k h q) k h').testBit b = true ∧ ((ored hi2 k h q) k h').testBit b = true) := hide (fun h' hh' => by
                rcases Nat.lt_or_ge h' h with e | e
                · exact ⟨ored_grow _ _ _ _ _ _ _ (HA.out h' e).1, ored_grow _ _ _ _ _ _ _ (HA.out h' e).2⟩
                · obtain rfl : h' = h := by omega
                  exact ⟨ored_at _ _ _ _ _ hqb, ored_at _ _ _ _ _ hqb⟩)
              go_region_law (fail)
              clear hc2 hf2 ho2 HN2
              go_wp2_with fail
              go_roundw
              case rel => exact ⟨h + 1, _, _, by go_num, by omega, HS2.out, HA3.out⟩
              case measure => simp [intOf]; omega
          · obtain rfl : h = 16 := by omega
            have HN3 : Hid (Noted w g L lo hi B m l b (k + 1) lo2 hi2 w0) := hide ⟨HN.out.blk, HN.out.small, HN.out.grow, HN.out.has.long (Grow.refl _) (Grow.refl _) (by omega) HA.out, HN.out.fr⟩
            go_wp2_with fail
            go_roundw
            case rel => exact ⟨k + 1, _, _, by go_num, by omega, HN3.out⟩
            case measure => simp [intOf]; omega
    · obtain rfl : k = 3 := by omega
      go_wp2_with fail
      go_end0
      exact ⟨rfl, lo', hi', HN.out⟩
end Go.Proofs.Ytkjpcincjoaeeaa.TW
