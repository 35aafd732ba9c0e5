/- PackTurns: the check sum of three texts of one length, taken bit by bit one against the other, is theirs, taken so. Condition: what comes in has a bulk of at most 1,048,576 (the second form). -/
import Derived.Test.YthfmfcgjcilagaaRows
import Derived.WalkKit
import Derived.ProofKit
import Derived.OpenShut
import Derived.ShutString
import Derived.ChangeOld
import Derived.Below
import Derived.Test.YthfmfcgjcilagaaMem
import Derived.JoinedCond
import Derived.Test.YthfmfcgjcilagaaBulk
import Derived.Test.YthfmfcgjcilagaaPSpeak
import Derived.Test.YthfmfcgjcilagaaPMath2
import Derived.BigQuiet
import Derived.Deep.QuietTactic
namespace Go.Proofs.Ythfmfcgjcilagaa.packTurns
open Go.ChangeShapes Go.WideShapes Go.ChangeAt Go.RowKit
open Go.ChangeMaps (open_string shut_string)
open Go.Proofs.Ythfmfcgjcilagaa.B
open Go.Proofs.Ythfmfcgjcilagaa.LM Go.Proofs.Ythfmfcgjcilagaa.PM Go.Proofs.Ythfmfcgjcilagaa.PW
set_option linter.unusedVariables false

theorem own : ownKnob Try.prog.godebug = none := by kernel_rfl
theorem laidOut : laidOutB Try.prog = true := by kernel_rfl
theorem run_min3 (P : Program) (ats : Array TypeId) (t : TypeId) (a b c : Nat) (w : World) : (Builtin.min_ ats t #[.int .i64 (a : Int), .int .i64 (b : Int), .int .i64 (c : Int)]).run P w = .ok (.int .i64 ((min (min a b) c : Nat) : Int)) w := by
  by_cases h1 : (b : Int) < a
  · by_cases h2 : (c : Int) < b
    · simp [Builtin.min_, Builtin.min2, h1, h2]; omega
    · simp [Builtin.min_, Builtin.min2, h1, h2]; omega
  · by_cases h2 : (c : Int) < a
    · simp [Builtin.min_, Builtin.min2, h1, h2]; omega
    · simp [Builtin.min_, Builtin.min2, h1, h2]; omega
theorem Bl_drewN {B : Nat} {a w : World} (h : Below B a w) (n : Nat) : Below B a (w.drewN n) := ⟨h.os, h.tape, h.output, h.size, h.block⟩

set_option maxHeartbeats 1000000 in
theorem walk (w : World) (a0 : Option Addr) (len0 cap0 : Nat) (z0 : List Int) (w0 : IsRow .u8 w a0 len0 cap0 z0) (s0 : len0 ≤ 1048576) (a1 : Option Addr) (len1 cap1 : Nat) (z1 : List Int) (w1 : IsRow .u8 w a1 len1 cap1 z1) (s1 : len1 ≤ 1048576) (a2 : Option Addr) (len2 cap2 : Nat) (z2 : List Int) (w2 : IsRow .u8 w a2 len2 cap2 z2) (s2 : len2 ≤ 1048576) :
    Calls Try.prog 4 #[.slice a0 len0 cap0, .slice a1 len1 cap1, .slice a2 len2 cap2] w fun e w' => e = .returned (.bool true) ∧ Below w.heap.size w w' := by
  obtain ⟨xs, hx⟩ := rd_of_row w0
  obtain ⟨ys, hy⟩ := rd_of_row w1
  obtain ⟨zs, hz⟩ := rd_of_row w2
  clear w0 w1 w2
  obtain ⟨i0, hi0, hz0, hz1, hz2⟩ := info_parts info_u8
  go_enter Try.func4, Try.ntmps4
  go_wp2_with fail
  refine (speaks_any _).mono ?_
  rintro e u1 ⟨rfl, b1⟩
  have HX := hide (hx.over b1)
  have HY := hide (hy.over b1)
  have HZ := hide (hz.over b1)
  have HB := hide b1
  clear hx hy hz b1
  have km := fun w => run_min3 Try.prog #[3, 3, 3] 3 len0 len1 len2 w
  obtain ⟨n, hn0, hn1, hn2, hn⟩ : ∃ n : Nat, n ≤ len0 ∧ n ≤ len1 ∧ n ≤ len2 ∧ min (min len0 len1) len2 = n := ⟨_, by omega, by omega, by omega, rfl⟩
  rw [hn] at km
  clear hn
  go_wp2_with fail
  go_loopw [8, 9] (fun al i wr => ∃ k : Nat, k ≤ n ∧ i = .int .i64 k ∧ ∃ A' c', al = .slice A' k c' ∧ wr.ownsRow u1.heap.size 5 1 (.slice A' k c') k (u8s (xor3 xs ys zs k)) ∧ Below u1.heap.size u1 wr) (fun _ i _ => n - (intOf i).toNat)
  case atStart => exact ⟨0, by omega, rfl, _, 0, rfl, own_empty u1 _, (Below.refl _ _).alloc (Nat.le_refl _) _⟩
  case round =>
    obtain ⟨k, hk, rfl, A1, c1, rfl, hown, hbel⟩ := hrel
    by_cases hlt : k < n
    · obtain ⟨ad0, rfl, _, hc0⟩ := (HX.out.below hbel).byte (i := k) (by omega)
      obtain ⟨ad1, rfl, _, hc1⟩ := (HY.out.below hbel).byte (i := k) (by omega)
      obtain ⟨ad2, rfl, _, hc2⟩ := (HZ.out.below hbel).byte (i := k) (by omega)
      have hv1 : bits BinOp.xor IntKind.u8 (at8 xs k : Int) (at8 ys k : Int) = ((xs.getD k 0 ^^^ ys.getD k 0).toNat : Int) := vxor8 _ _
      have hv2 : bits BinOp.xor IntKind.u8 ((xs.getD k 0 ^^^ ys.getD k 0).toNat : Int) (at8 zs k : Int) = ((xs.getD k 0 ^^^ ys.getD k 0 ^^^ zs.getD k 0).toNat : Int) := vxor8 _ _
      have hs := xor3_succ xs ys zs k
      have g0 : (0 : Int) ≤ k := by omega
      have g1 : (k : Int) < len0 := by omega
      have g2 : (k : Int) < len1 := by omega
      have g3 : (k : Int) < len2 := by omega
      have HS := hide hs
      have HO := hide hown
      have HL := hide hbel
      clear hown hbel hs
      generalize xs.getD k 0 ^^^ ys.getD k 0 ^^^ zs.getD k 0 = q at *
      generalize xs.getD k 0 ^^^ ys.getD k 0 = q1 at *
      go_wp2_with fail
      go_region_law ((refine step_append_rd _ (by rfl) (.tmp 25) (.tmp 40) 25 (by rfl) u1.heap.size 5 i0 _ 1 1 Try.underlying25 hi0 hz0 hz1 hz2 rfl (by omega) (.slice A1 k c1) k _ (by rfl) ((HO.out.alloc _).drew) (wr.heap.size + 1) (some ⟨wr.heap.size, 0, none⟩) 1 1 [.int .u8 (q.toNat : Int)] (by rfl) ((Rd.one wr _ _).drew) (by simp [Value.oneCell']) (by simp only [maxLen]; omega) (by omega) (by have := HL.out.size; simp; omega) ?_; intro A2 c2 w2 hown2 hg2 hat2))
      all_goals
        have hb2 : Below u1.heap.size u1 w2 := ((HL.out.alloc HL.out.size _).drew).trans (below_grown ((HO.out.alloc _).drew) hg2 (Nat.le_refl _) (by have := HL.out.size; simp; omega))
        have HW := hide (show _ ∧ _ from ⟨hown2, hb2⟩)
        clear hown2 hb2 hg2 hat2 hc0 hc1 hc2 hv1 hv2
        go_wp2_with fail
        go_roundw
        case rel => exact ⟨k + 1, by omega, by go_num, A2, c2, rfl, by rw [HS.out, u8s_append]; exact HW.out⟩
        case measure => simp [intOf]; omega
    · obtain rfl : k = n := by omega
      have hRa := hide (Rd.of_own hown)
      have hRx := hide ((HX.out.head8 hn0).below hbel |>.more hbel.size)
      have hRy := hide ((HY.out.head8 hn1).below hbel |>.more hbel.size)
      have hRz := hide ((HZ.out.head8 hn2).below hbel |>.more hbel.size)
      have HBW := hide (HB.out.trans (hbel.mono HB.out.size))
      have hcx := HX.out.cap
      have hcy := HY.out.cap
      have hcz := HZ.out.cap
      have KA := hide fun m => sum_any (hRa.out.drewN m)
      have KX := hide fun m => sum_any (hRx.out.drewN m)
      have KY := hide fun m => sum_any (hRy.out.drewN m)
      have KZ := hide fun m => sum_any (hRz.out.drewN m)
      have hq1 := vxor (crc (xs.take k)) (crc (ys.take k))
      have hq2 := vxor (crc (xs.take k) ^^^ crc (ys.take k)) (crc (zs.take k))
      have hq3 := crc_xor3 xs ys zs k (by have := HX.out.length8; omega) (by have := HY.out.length8; omega) (by have := HZ.out.length8; omega)
      rw [← hq3] at hq2
      clear hq3 hown hbel hRx hRy hRz hRa HX HY HZ HB
      generalize V (crc (xor3 xs ys zs k)) = va at *
      go_wp2_with fail
      go_quiet ((go_at_call 16; first | with_reducible exact quiet_left (KA.out _) | with_reducible exact quiet_left (KX.out _) | with_reducible exact quiet_left (KY.out _) | with_reducible exact quiet_left (KZ.out _)))
      go_wp2_with fail
      go_ret
      refine ⟨?_, Bl_drewN HBW.out _⟩
      first | rfl | simp

set_option maxRecDepth 100000 in
theorem lifted (os : Os) (started : os.Started) (H : Type) (enc : TypeId × Value → H) (F : Stop.Interp) :
    ReturnsInHanded {} Try.checked os 4 .any ((Rows.OpenSpec.upto Rows.packTurnsSpec).pre6 enc Try.prog Try.f4 Rows.packTurnsUptoRow.domain false) (((Rows.OpenSpec.upto Rows.packTurnsSpec).at F).post enc Try.prog Try.f4 false true false false) := by
  refine returnsInHanded_of_cond (C := Try.checked) (s := Rows.OpenSpec.upto Rows.packTurnsSpec) (k := Rows.uptoSmall) rfl own started (by kernel_rfl) Try.func4
    (OpenSpec.witness (enc := enc) (C := Try.checked) (s := Rows.OpenSpec.upto Rows.packTurnsSpec) (k := Rows.uptoSmall) rfl false ⟨#[], #[.slice none 0 0, .slice none 0 0, .slice none 0 0], []⟩ 8 (by kernel_rfl) (by kernel_rfl) (by kernel_rfl)
      (x := ([.nil, .nil, .nil], [], [])) (by kernel_rfl) rfl (by kernel_rfl)) ?_
  intro W base args ds gs before hval0 hW _ hk _
  have hval : ∀ (j : Nat) t v, Try.f4.params[j]? = some t → args[j]? = some v → Value.okWide Try.prog W .any base t v := hval0
  have hW' := hW
  obtain ⟨p, q, hA0, hV, rfl, hfz, hnd⟩ := hW
  have hA : DataW.TrodAll enc Try.prog W 0 (fun _ => true) true Try.f4.params.toList args.toList ds p := hA0
  rw [Try.params4] at hA hval
  obtain ⟨v0, vs0, d0, ds0, p0, q0, hargs, rfl, rfl, h0, r0⟩ := trodAll_cons hA
  obtain ⟨v1, vs1, d1, ds1, p1, q1, rfl, rfl, rfl, h1, r1⟩ := trodAll_cons r0
  obtain ⟨v2, vs2, d2, ds2, p2, q2, rfl, rfl, rfl, h2, r2⟩ := trodAll_cons r1
  obtain ⟨rfl, rfl, rfl⟩ := trodAll_nil r2
  obtain rfl : args = #[v0, v1, v2] := by cases args; simp_all
  obtain ⟨rfl, rfl⟩ := trodVars_none hV
  obtain ⟨a0, len0, cap0, rfl⟩ := okWide_slice Try.underlying25 (hval 0 25 v0 rfl rfl)
  have k0 := h0
  have lt0 : ∀ x ∈ p0, x.block < W.heap.size := by obtain ⟨m, hm⟩ := k0; exact DataW.trod_lt m _ _ _ hm
  obtain ⟨z0, w0, b0⟩ : ∃ zs, IsRow .u8 W a0 len0 cap0 zs ∧ len0 ≤ Rows.uptoBulk d0 := by
    obtain ⟨fuel, hf⟩ := h0
    rcases open_ints Try.underlying25 Try.underlying5 (by kernel_rfl) hf with ⟨hcs, hx⟩ | ⟨x, l, c, zs, hcs, _, hl, hm, hz, hx, hcell, hwz⟩
    · simp [Value.cells] at hcs
      obtain ⟨rfl, rfl, rfl⟩ := hcs
      exact ⟨[], .inl ⟨rfl, rfl, rfl, rfl⟩, Nat.zero_le _⟩
    · simp [Value.cells] at hcs
      obtain ⟨rfl, rfl, rfl⟩ := hcs
      exact ⟨zs, .inr ⟨_, rfl, hl, hm, by simpa using hz, hcell, hwz⟩, bulks.ints_le (congrArg Prod.fst hx) (by simp at hz; omega)⟩
  obtain ⟨a1, len1, cap1, rfl⟩ := okWide_slice Try.underlying25 (hval 1 25 v1 rfl rfl)
  have k1 := h1
  have lt1 : ∀ x ∈ p1, x.block < W.heap.size := by obtain ⟨m, hm⟩ := k1; exact DataW.trod_lt m _ _ _ hm
  obtain ⟨z1, w1, b1⟩ : ∃ zs, IsRow .u8 W a1 len1 cap1 zs ∧ len1 ≤ Rows.uptoBulk d1 := by
    obtain ⟨fuel, hf⟩ := h1
    rcases open_ints Try.underlying25 Try.underlying5 (by kernel_rfl) hf with ⟨hcs, hx⟩ | ⟨x, l, c, zs, hcs, _, hl, hm, hz, hx, hcell, hwz⟩
    · simp [Value.cells] at hcs
      obtain ⟨rfl, rfl, rfl⟩ := hcs
      exact ⟨[], .inl ⟨rfl, rfl, rfl, rfl⟩, Nat.zero_le _⟩
    · simp [Value.cells] at hcs
      obtain ⟨rfl, rfl, rfl⟩ := hcs
      exact ⟨zs, .inr ⟨_, rfl, hl, hm, by simpa using hz, hcell, hwz⟩, bulks.ints_le (congrArg Prod.fst hx) (by simp at hz; omega)⟩
  obtain ⟨a2, len2, cap2, rfl⟩ := okWide_slice Try.underlying25 (hval 2 25 v2 rfl rfl)
  have k2 := h2
  have lt2 : ∀ x ∈ p2, x.block < W.heap.size := by obtain ⟨m, hm⟩ := k2; exact DataW.trod_lt m _ _ _ hm
  obtain ⟨z2, w2, b2⟩ : ∃ zs, IsRow .u8 W a2 len2 cap2 zs ∧ len2 ≤ Rows.uptoBulk d2 := by
    obtain ⟨fuel, hf⟩ := h2
    rcases open_ints Try.underlying25 Try.underlying5 (by kernel_rfl) hf with ⟨hcs, hx⟩ | ⟨x, l, c, zs, hcs, _, hl, hm, hz, hx, hcell, hwz⟩
    · simp [Value.cells] at hcs
      obtain ⟨rfl, rfl, rfl⟩ := hcs
      exact ⟨[], .inl ⟨rfl, rfl, rfl, rfl⟩, Nat.zero_le _⟩
    · simp [Value.cells] at hcs
      obtain ⟨rfl, rfl, rfl⟩ := hcs
      exact ⟨zs, .inr ⟨_, rfl, hl, hm, by simpa using hz, hcell, hwz⟩, bulks.ints_le (congrArg Prod.fst hx) (by simp at hz; omega)⟩
  clear hA0 hval0
  simp only [List.append_nil] at hW' hk
  refine (walk W a0 len0 cap0 z0 w0 (Nat.le_trans b0 (Nat.le_trans (bulks.part_le (l := [d0, d1, d2]) (by simp)) (bulks.bound hk))) a1 len1 cap1 z1 w1 (Nat.le_trans b1 (Nat.le_trans (bulks.part_le (l := [d0, d1, d2]) (by simp)) (bulks.bound hk))) a2 len2 cap2 z2 w2 (Nat.le_trans b2 (Nat.le_trans (bulks.part_le (l := [d0, d1, d2]) (by simp)) (bulks.bound hk)))).mono fun e W' ⟨he, bel⟩ => ?_
  subst he
  exact ⟨_, rfl, _, _, _, [], _, [], hW', trodAll_mk1 (shut_bool Try.underlying4 _), (trodAll_cons_mk (Below.trod laidOut (by kernel_rfl) (of_decide_eq_true (by kernel_rfl)) k0 bel lt0) (trodAll_cons_mk (Below.trod laidOut (by kernel_rfl) (of_decide_eq_true (by kernel_rfl)) k1 bel lt1) (trodAll_cons_mk (Below.trod laidOut (by kernel_rfl) (of_decide_eq_true (by kernel_rfl)) k2 bel lt2) trodAll_mk0))), rfl, bel.frame _, fun h => by cases h⟩

theorem over : Rows.packTurnsUptoRow.holds Try.pinned (Rows.OpenSpec.upto Rows.packTurnsSpec) :=
  OpenClaim.holds_of_cond 4 Try.f4 rfl rfl rfl rfl rfl rfl rfl ⟨rfl, rfl, rfl, rfl, rfl⟩ rfl rfl rfl rfl rfl (by kernel_rfl) Try.func4 (by kernel_rfl)
    (of_decide_eq_true (by kernel_rfl)) (by unfold Func.isWrapper; first | (rw [if_pos (by decide +kernel)]; kernel_rfl) | (rw [if_neg (by decide +kernel)]; exact ⟨rfl, rfl⟩))
    (fun os started H enc _ F => lifted os started H enc F)

/-- The statement. -/
theorem proved : Rows.PackTurnsUptoSaid := over
#print axioms proved
end Go.Proofs.Ythfmfcgjcilagaa.packTurns
