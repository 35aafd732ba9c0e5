/- PackReads: every call of any script on an eye over any bytes answers exactly as the document says; the bytes stay. Condition: what comes in has a bulk of at most 1,048,576 (the second form). -/
import Derived.Test.YthfmfcgjcilagaaRows
import Derived.WalkKit
import Derived.ProofKit
import Derived.OpenShut
import Derived.ShutString
import Derived.ChangeOld
import Derived.Below
import Derived.Test.YthfmfcgjcilagaaMem
import Derived.JoinedCond
import Derived.Test.YthfmfcgjcilagaaBulk
import Derived.Test.YthfmfcgjcilagaaPEyes
import Derived.BigQuiet
import Derived.Deep.QuietTactic
import Derived.Deep.DeepCutAuto
namespace Go.Proofs.Ythfmfcgjcilagaa.packReads
open Go.ChangeShapes Go.WideShapes Go.ChangeAt Go.RowKit
open Go.ChangeMaps (open_string shut_string)
open Go.Proofs.Ythfmfcgjcilagaa.B
open Go.Proofs.Ythfmfcgjcilagaa.LM Go.Proofs.Ythfmfcgjcilagaa.PM Go.Proofs.Ythfmfcgjcilagaa.PW
set_option linter.unusedVariables false

theorem own : ownKnob Try.prog.godebug = none := by kernel_rfl
theorem laidOut : laidOutB Try.prog = true := by kernel_rfl
theorem add_1 (ad : Addr) (i k : Nat) : ad.add (i * 4 + (k + 1)) = ⟨(ad.add (i * 4)).block, (ad.add (i * 4)).off + (k + 1), none⟩ := by
  rw [← B.add_add]
  rfl
/-- What stands ahead of the loops. -/
structure Start (u1 : World) (g m : Nat) (xs : List UInt8) (a0 : Option Addr) (c0 : Nat) (A2 : Option Addr) (c2 : Nat) (A3 : Option Addr) (c3 : Nat) (w : World) : Prop where
  ey : Ey w.heap.size g xs A3 0 A3 c3 w
  own : w.ownsRow u1.heap.size 5 1 (.slice A2 xs.length c2) xs.length (u8s xs)
  ref : Blk w m 46 #[.slice a0 xs.length c0, .int .i64 0]
  ne : ∀ ad, A3 = some ad → ad.block ≠ g ∧ ad.block ≠ m ∧ (Value.slice A2 xs.length c2).ownBlock ≠ some ad.block
  ng : (Value.slice A2 xs.length c2).ownBlock ≠ some g
  nm : (Value.slice A2 xs.length c2).ownBlock ≠ some m
  gu : u1.heap.size ≤ g
  mu : u1.heap.size ≤ m
  below : Below u1.heap.size u1 w
  lt : ∀ ad, A3 = some ad → ad.block < w.heap.size
theorem start {u1 u2 u3 : World} {g c2 c3 c0 : Nat} {xs : List UInt8} {A2 A3 a0 : Option Addr} (h2 : u2.ownsRow u1.heap.size 5 1 (.slice A2 xs.length c2) xs.length (u8s xs) ∧ Below u1.heap.size u1 u2)
    (h3 : Blk u3 g 64 #[.slice A3 xs.length c3] ∧ u2.heap.size ≤ g ∧ u3.ownsRow u2.heap.size 5 1 (.slice A3 xs.length c3) xs.length (u8s xs) ∧ Below u2.heap.size u2 u3) :
    Start u1 g u3.heap.size xs a0 c0 A2 c2 A3 c3 (u3.alloc (.cells #[.slice a0 xs.length c0, .int .i64 0] 46)) := by
  obtain ⟨ho2, hb2⟩ := h2
  obtain ⟨hk3, hg3, ho3, hb3⟩ := h3
  have hs2 := hb2.size
  have hs3 := hb3.size
  refine ⟨⟨Nat.zero_le _, hk3.alloc _, Rd.of_own (ho3.alloc _), SubA.refl _⟩, (own_fr ho2 (Fr.new hb3 (S := fun _ => False)) (fun _ _ e => e)).alloc _, Blk.new _ _ _, fun ad e => ?_, fun e => ?_, fun e => ?_, by omega, by omega, (hb2.trans (hb3.mono hs2)).alloc (by omega) _, fun ad e => ?_⟩
  · subst e
    have h1 := own_block ho3 ad.block rfl
    refine ⟨fun e => own_ne_blk ho3 hk3 (by decide) (by rw [← e]; rfl), by omega, fun e => ?_⟩
    have := (own_block ho2 _ e).2
    omega
  · have := (own_block ho2 _ e).2; omega
  · have := (own_block ho2 _ e).2; omega
  · subst e
    have h1 := (own_block ho3 ad.block rfl).2
    show _ < (u3.heap.push _).size
    simp; omega
theorem bdrewN (w : World) (n : Nat) : Below w.heap.size w (w.drewN n) := ⟨rfl, rfl, rfl, Nat.le_refl _, fun _ _ => rfl⟩
/-- What stands behind each round. -/
structure Rds (w1 : World) (B g m : Nat) (xs : List UInt8) (a0 : Option Addr) (c0 : Nat) (A0 : Option Addr) (I : Nat) (Ax : Option Addr) (cx : Nat) (w : World) : Prop where
  eye : Ey B g xs A0 I Ax cx w
  ref : Blk w m 46 #[.slice a0 xs.length c0, .int .i64 (I : Int)]
  fr : Fr w1 w (fun k => k = g ∨ k = m)
theorem Rds.over {w1 w w' : World} {B g m c0 I cx : Nat} {xs : List UInt8} {a0 A0 Ax : Option Addr} (h : Rds w1 B g m xs a0 c0 A0 I Ax cx w) (hB : B ≤ w.heap.size) (hb : Below w.heap.size w w') : Rds w1 B g m xs a0 c0 A0 I Ax cx w' :=
  ⟨h.eye.over hb hB, h.ref.below hb h.ref.lt, h.fr.step (Fr.new hb) (fun _ _ e => e)⟩
/-- A read of both eyes. -/
theorem Rds.step {w1 w w5 w6 : World} {B g m c0 I J cx cx' : Nat} {xs : List UInt8} {a0 A0 Ax Ax' : Option Addr} (h : Rds w1 B g m xs a0 c0 A0 I Ax cx w) (hB : B ≤ w.heap.size) (hgm : g ≠ m) (hne : ∀ ad, A0 = some ad → ad.block ≠ m) (he : Ey B g xs A0 J Ax' cx' w5) (hf : Fr w w5 (· = g)) (hr : Blk w6 m 46 #[.slice a0 xs.length c0, .int .i64 (J : Int)]) (hf6 : Fr w5 w6 (· = m)) :
    Rds w1 B g m xs a0 c0 A0 J Ax' cx' w6 :=
  ⟨he.fr hf6 (Nat.le_trans hB hf.size) hgm hne, hr, (h.fr.step hf (fun _ _ e => .inl e)).step hf6 (fun _ _ e => .inr e)⟩
theorem Rds.row {w1 w w' : World} {B g m c0 I cx : Nat} {xs : List UInt8} {a0 A0 Ax : Option Addr} {S : Nat → Prop} (h : Rds w1 B g m xs a0 c0 A0 I Ax cx w) (hB : B ≤ w.heap.size) (hf : Fr w w' S) (hg : ¬ S g) (hm : ¬ S m) (hA : ∀ ad, A0 = some ad → ¬ S ad.block) (hn : ∀ k, k < w1.heap.size → ¬ S k) : Rds w1 B g m xs a0 c0 A0 I Ax cx w' :=
  ⟨h.eye.fr hf hB hg hA, h.ref.fr hf hm, h.fr.step hf (fun k hk e => absurd e (hn k hk))⟩
theorem Rds.below {u w1 w : World} {B g m c0 I cx : Nat} {xs : List UInt8} {a0 A0 Ax : Option Addr} (h : Rds w1 B g m xs a0 c0 A0 I Ax cx w) (hu : Below u.heap.size u w1) (hg : u.heap.size ≤ g) (hm : u.heap.size ≤ m) : Below u.heap.size u w :=
  hu.trans (h.fr.below (fun k e => by rcases e with e | e <;> omega) hu.size)
def Cut (w1 : World) (B g m : Nat) (xs : List UInt8) (a0 : Option Addr) (c0 : Nat) (A0 : Option Addr) (w : World) : Prop := ∃ I Ax cx, Rds w1 B g m xs a0 c0 A0 I Ax cx w

set_option maxRecDepth 10000 in
set_option maxHeartbeats 1000000 in
theorem walk (w : World) (a0 : Option Addr) (len0 cap0 : Nat) (z0 : List Int) (w0 : IsRow .u8 w a0 len0 cap0 z0) (s0 : len0 ≤ 1048576) (a1 : Option Addr) (len1 cap1 : Nat) (os1 : List PW.OpV) (w1 : PW.Script w w.heap.size a1 len1 cap1 os1) :
    Calls Try.prog 5 #[.slice a0 len0 cap0, .slice a1 len1 cap1] w fun e w' => e = .returned (.bool true) ∧ Below w.heap.size w w' := by
  obtain ⟨xs, hx⟩ := rd_of_row w0
  have hl := hx.length8
  subst hl
  clear w0
  obtain ⟨i0, hi0, hz0, hz1, hz2⟩ := info_parts info_u8
  go_enter Try.func5, Try.ntmps5
  go_wp2_with fail
  refine (speaks_any _).mono ?_
  rintro e u1 ⟨rfl, b1⟩
  have HS := hide (w1.over b1)
  have HX := hide ((hx.over b1).alloc (Nat.le_refl _) (.cells #[] 5))
  have HX1 := hide (hx.over b1)
  have HB := hide b1
  clear w1 hx b1
  go_wp2_with (at_builtin; refine wpList_append_rd _ rfl (.tmp 22) (.tmp 23) _ rfl u1.heap.size 5 i0 _ 1 1 Try.underlying25 hi0 hz0 hz1 hz2 rfl (by omega) (.slice (some ⟨u1.heap.size, 0, none⟩) 0 0) 0 _ rfl (own_empty u1 _) u1.heap.size a0 xs.length cap0 (u8s xs) rfl HX.out (u8s_one _) (by simp only [maxLen]; omega) (by omega) (by simp) ?_; intro A2 c2 u2 hown2 hg2 hat2)
  have HA2 := hide (app_lit hown2 hg2)
  clear hown2 hg2 hat2 HX
  refine (newEye_any (Rd.of_own HA2.out.1) (by omega)).mono ?_
  rintro e u3 ⟨g, A3, c3, rfl, hk3, hg3, ho3, b3⟩
  have H3 := hide (show _ ∧ _ ∧ _ ∧ _ from ⟨hk3, hg3, ho3, b3⟩)
  clear hk3 hg3 ho3 b3
  go_wp2_with fail
  have hst := start (a0 := a0) (c0 := cap0) HA2.out H3.out
  have hgm : g ≠ u3.heap.size := by have := H3.out.1.lt; omega
  clear HA2 H3
  generalize hm : u3.heap.size = m at *
  clear hm
  generalize hw4 : u3.alloc _ = w4 at *
  clear hw4
  have HST := hide hst
  clear hst
  go_loopw [34] (fun jv wl => ∃ (j : Nat) (ys : List UInt8), j ≤ xs.length ∧ jv = .int .i64 j ∧ wl.ownsRow u1.heap.size 5 1 (.slice A2 xs.length c2) xs.length (u8s ys) ∧ Fr w4 wl (fun k => (Value.slice A2 xs.length c2).ownBlock = some k)) (fun jv _ => xs.length - (intOf jv).toNat)
  case atStart => exact ⟨0, xs, by omega, rfl, HST.out.own, Fr.refl _ _⟩
  case round =>
    obtain ⟨j, ys, hj, rfl, hoy, hfy⟩ := hrel
    by_cases hjl : j < xs.length
    · obtain ⟨ad9, rfl⟩ := own_some hoy (by omega)
      obtain ⟨hc, hf, hadb, hbe⟩ := own_cell hoy j hjl
      have HY := hide (show _ ∧ _ from ⟨hoy, hfy⟩)
      clear hoy hfy
      have e1 : IntKind.i64.wrap ((j : Int) + 1) = (j : Int) + 1 := IntWalk.i64_in _ (by omega)
      go_wp2_with fail
      go_roundw
      case rel => exact ⟨j + 1, _, by omega, by go_num, own_set HY.out.1 j 238, fr_set rfl HY.out.1 HY.out.2 j _⟩
      case measure => simp [intOf]; omega
    · obtain rfl : j = xs.length := by omega
      have hr0 : Rds wr w4.heap.size g m xs a0 cap0 A3 0 A3 c3 wr := ⟨HST.out.ey.fr hfy (Nat.le_refl _) HST.out.ng (fun ad e => (HST.out.ne ad e).2.2), HST.out.ref.fr hfy HST.out.nm, Fr.refl _ _⟩
      have hbw : Below u1.heap.size u1 wr := HST.out.below.trans (hfy.below (fun k e => (own_block HST.out.own k e).1) HST.out.below.size)
      have HBW := hide hbw
      have HSZ := hide hfy.size
      have HNE := hide HST.out.ne
      have HGU := hide HST.out.gu
      have HLT := hide HST.out.lt
      have HMU := hide HST.out.mu
      clear hoy hfy HST hbw
      obtain ⟨w5, hw5⟩ : ∃ w5, wr = w5 := ⟨_, rfl⟩
      rw [hw5] at hr0 HBW HSZ
      go_wp2_with fail
      go_loopw [43] (fun iv wl => ∃ (i I : Nat) (Ax : Option Addr) (cx : Nat), i ≤ len1 ∧ iv = .int .i64 i ∧ Rds w5 w4.heap.size g m xs a0 cap0 A3 I Ax cx wl) (fun iv _ => len1 - (intOf iv).toNat)
      case atStart => exact ⟨0, 0, A3, c3, by omega, rfl, hr0⟩
      case round =>
        clear hr0 hw5
        obtain ⟨i, I, Ax, cx, hi, rfl, hrd⟩ := hrel
        have hsm := HS.out.small
        have HRD := hide hrd
        have HBL := hide (hrd.below HBW.out HGU.out HMU.out)
        have HBS := hide (Nat.le_trans HSZ.out hrd.fr.size)
        clear hrd
        by_cases hlt : i < len1
        · obtain ⟨ad, o, rfl, hadB, ho, hoa, hok⟩ := HS.out.at_ hlt
          have HK := hide hok
          obtain ⟨k0, k1, k2, k3, _⟩ := hoa.keep hadB (fun p hp => HBL.out.cell hp)
          rw [add_1 ad i 0] at k1
          rw [add_1 ad i 1] at k2
          rw [add_1 ad i 2] at k3
          clear hok hoa ho
          have hb6 : Below wr.heap.size wr (wr.alloc (Obj.cells #[.int .i64 o.kind, .int .i64 o.size, .int .u64 (o.n : Int), .slice o.A o.l o.c] 30)) := (Below.refl _ _).alloc (Nat.le_refl _) _
          have hop := Blk.new wr 30 #[.int .i64 o.kind, .int .i64 o.size, .int .u64 (o.n : Int), .slice o.A o.l o.c]
          have q0 := hop.at_ (i := 0) rfl
          have q1 := hop.at_ (i := 1) rfl
          have HR6 := hide (HRD.out.over HBS.out hb6)
          have HB6 := hide (HBL.out.trans (hb6.mono HBL.out.size))
          have HS6 := hide (Nat.le_trans HBS.out hb6.size)
          have HO6 := hide hop
          clear hb6 hop HRD HBL HBS
          go_upto_if 50 with fail
          clear k0 k1 k2 k3
          generalize wr.alloc _ = w6 at *
          go_cut [] (fun wx => Cut w5 w4.heap.size g m xs a0 cap0 A3 wx)
          case first =>
            by_cases hk0 : bits BinOp.and IntKind.i64 o.kind 1 = 0
            · go_wp2_with fail
              refine (ey_uint HR6.out.eye (fun ad e => (HNE.out ad e).1) HK.out.size).mono ?_
              rintro e w7 ⟨A7, c7, rfl, he7, hf7⟩
              have H7 := hide (show _ ∧ _ from ⟨he7, hf7⟩)
              have HO7 := hide (HO6.out.fr hf7 (fun e => HO6.out.ne HR6.out.eye.eye (by decide) e))
              clear he7 hf7 q0 q1
              have q1 := HO7.out.at_ (i := 1) rfl
              go_wp2_with fail
              refine (rf_uint (HR6.out.ref.fr H7.out.2 (Ne.symm hgm)) (HX1.out.below (HB6.out.trans (H7.out.2.below (fun k e => by have := HGU.out; omega) HB6.out.size))) HR6.out.eye.hI (by omega) HK.out.size).mono ?_
              rintro e w8 ⟨rfl, hr8, hf8⟩
              have H8 := hide (show _ ∧ _ from ⟨hr8, hf8⟩)
              clear hr8 hf8 q1
              generalize eyeU xs I o.size = r at *
              go_wp2_with fail
              go_meet
              exact ⟨_, A7, c7, HR6.out.step HS6.out hgm (fun ad e => (HNE.out ad e).2.1) H7.out.1 H7.out.2 H8.out.1 H8.out.2⟩
            · go_wp2_with fail
              refine (ey_bytes HR6.out.eye HS6.out (fun ad e => (HNE.out ad e).1) (by omega)).mono ?_
              rintro e w7 ⟨A7, c7, A8, c8, rfl, ho8, he7, hf7⟩
              have H7 := hide (show _ ∧ _ ∧ _ from ⟨he7, hf7, ho8⟩)
              clear he7 hf7 ho8 q0 q1
              go_wp2_with fail
              refine (rf_bytes (HR6.out.ref.fr H7.out.2.1 (Ne.symm hgm)) (HX1.out.below (HB6.out.trans (H7.out.2.1.below (fun k e => by have := HGU.out; omega) HB6.out.size))) (Nat.le_trans HB6.out.size H7.out.2.1.size) HR6.out.eye.hI (by omega)).mono ?_
              rintro e w9 ⟨A9, c9, rfl, ho9, hr9, hf9⟩
              have ho8' := own_fr H7.out.2.2 hf9 (fun k hk e => by have h1 := (own_block H7.out.2.2 k hk).1; have h2 := HR6.out.ref.lt; omega)
              have s1 := run_str (P := Try.prog) 25 9 5 Try.underlying25 Try.underlying5 Try.underlying9 (Rd.of_own ho8')
              have s2 := run_str (P := Try.prog) 25 9 5 Try.underlying25 Try.underlying5 Try.underlying9 (Rd.of_own ho9)
              have H9 := hide (show _ ∧ _ from ⟨ho8', HR6.out.step HS6.out hgm (fun ad e => (HNE.out ad e).2.1) H7.out.1 H7.out.2.1 hr9 hf9⟩)
              have HS9 := hide (Nat.le_trans HS6.out (Nat.le_trans H7.out.2.1.size hf9.size))
              have HX9 : Hid (∀ k, (Value.slice A8 (eyeB xs I).1.length c8).ownBlock = some k → k ≠ g ∧ k ≠ m ∧ (∀ ad, A3 = some ad → k ≠ ad.block) ∧ w5.heap.size ≤ k) := hide (fun k hk => by
                have h1 := (own_block H7.out.2.2 k hk).1
                have h2 := HR6.out.ref.lt
                have h3 := HR6.out.eye.eye.lt
                have h4 := HR6.out.fr.size
                exact ⟨by omega, by omega, fun ad e => by have h5 := HLT.out ad e; have h6 := HS6.out; omega, by omega⟩)
              clear ho8' ho9 hr9 hf9 H7 HR6 HB6 HO6
              generalize eyeB xs I = r at *
              go_wp2_with fail
              clear s1 s2
              go_loopw [95] (fun jv wl => ∃ (j : Nat) (ys : List UInt8), j ≤ r.1.length ∧ jv = .int .i64 j ∧ wl.ownsRow w6.heap.size 5 1 (.slice A8 r.1.length c8) r.1.length (u8s ys) ∧ Fr w9 wl (fun k => (Value.slice A8 r.1.length c8).ownBlock = some k)) (fun jv _ => r.1.length - (intOf jv).toNat)
              case atStart => exact ⟨0, r.1, by omega, rfl, H9.out.1, Fr.refl _ _⟩
              case round =>
                obtain ⟨j, ys, hj, rfl, hoy, hfy⟩ := hrel
                by_cases hjl : j < r.1.length
                · obtain ⟨ad9, rfl⟩ := own_some hoy (by omega)
                  obtain ⟨hc, hf, hadb, hbe⟩ := own_cell hoy j hjl
                  have hmx := (Rd.of_own hoy).max
                  have hcp := (Rd.of_own hoy).cap
                  unfold maxLen at hmx
                  have HY := hide (show _ ∧ _ from ⟨hoy, hfy⟩)
                  clear hoy hfy
                  have e1 : IntKind.i64.wrap ((j : Int) + 1) = (j : Int) + 1 := IntWalk.i64_in _ (by omega)
                  go_wp2_with fail
                  go_roundw
                  case rel => exact ⟨j + 1, _, by omega, by go_num, own_set HY.out.1 j 238, fr_set rfl HY.out.1 HY.out.2 j _⟩
                  case measure => simp [intOf]; omega
                · have HY := hide hfy
                  clear hoy hfy
                  go_wp2_with fail
                  go_meet
                  exact ⟨_, A7, c7, H9.out.2.row HS9.out HY.out (fun e => (HX9.out _ e).1 rfl) (fun e => (HX9.out _ e).2.1 rfl) (fun ad e e2 => (HX9.out _ e2).2.2.1 ad e rfl) (fun k hk e => by have := (HX9.out _ e).2.2.2; omega)⟩
          case rest =>
            clear q0 q1 HO6 HR6 HB6 HS6
            obtain ⟨I', Ax', cx', hr'⟩ := hcut
            have hI' := hr'.eye.hI
            obtain ⟨d, hd, hdi⟩ : ∃ d, xs.length - I' = d ∧ (d : Int) = (xs.length : Int) - (I' : Int) := ⟨_, rfl, by omega⟩
            have c1 := hr'.ref.at_ (i := 1) rfl
            have kl := fun m' => left_any (hr'.eye.eye.drewN m')
            rw [hd] at kl
            have KL := hide kl
            have HR' := hide hr'
            clear kl hr' hd
            have hsm := HS.out.small
            have e2 : IntKind.i64.wrap ((xs.length : Int) - (I' : Int)) = (xs.length : Int) - (I' : Int) := IntWalk.i64_in _ (by omega)
            have e1 : IntKind.i64.wrap ((i : Int) + 1) = (i : Int) + 1 := IntWalk.i64_in _ (by omega)
            go_wp2_with fail
            go_quiet ((go_at_call 22; with_reducible exact quiet_left (KL.out _)))
            go_wp2_with fail
            go_roundw
            case rel => exact ⟨i + 1, I', Ax', cx', by omega, by go_num, HR'.out.over (Nat.le_trans HSZ.out HR'.out.fr.size) (bdrewN _ _)⟩
            case measure => simp [intOf]; omega
        · go_wp2_with fail
          go_ret
          exact ⟨rfl, Bl HB.out HBL.out⟩

set_option maxRecDepth 100000 in
theorem lifted (os : Os) (started : os.Started) (H : Type) (enc : TypeId × Value → H) (F : Stop.Interp) :
    ReturnsInHanded {} Try.checked os 5 .any ((Rows.OpenSpec.upto Rows.packReadsSpec).pre6 enc Try.prog Try.f5 Rows.packReadsUptoRow.domain false) (((Rows.OpenSpec.upto Rows.packReadsSpec).at F).post enc Try.prog Try.f5 false true false false) := by
  refine returnsInHanded_of_cond (C := Try.checked) (s := Rows.OpenSpec.upto Rows.packReadsSpec) (k := Rows.uptoSmall) rfl own started (by kernel_rfl) Try.func5
    (OpenSpec.witness (enc := enc) (C := Try.checked) (s := Rows.OpenSpec.upto Rows.packReadsSpec) (k := Rows.uptoSmall) rfl false ⟨#[], #[.slice none 0 0, .slice none 0 0], []⟩ 8 (by kernel_rfl) (by kernel_rfl) (by kernel_rfl)
      (x := ([.nil, .nil], [], [])) (by kernel_rfl) rfl (by kernel_rfl)) ?_
  intro W base args ds gs before hval0 hW _ hk _
  have hval : ∀ (j : Nat) t v, Try.f5.params[j]? = some t → args[j]? = some v → Value.okWide Try.prog W .any base t v := hval0
  have hW' := hW
  obtain ⟨p, q, hA0, hV, rfl, hfz, hnd⟩ := hW
  have hA : DataW.TrodAll enc Try.prog W 0 (fun _ => true) true Try.f5.params.toList args.toList ds p := hA0
  rw [Try.params5] at hA hval
  obtain ⟨v0, vs0, d0, ds0, p0, q0, hargs, rfl, rfl, h0, r0⟩ := trodAll_cons hA
  obtain ⟨v1, vs1, d1, ds1, p1, q1, rfl, rfl, rfl, h1, r1⟩ := trodAll_cons r0
  obtain ⟨rfl, rfl, rfl⟩ := trodAll_nil r1
  obtain rfl : args = #[v0, v1] := by cases args; simp_all
  obtain ⟨rfl, rfl⟩ := trodVars_none hV
  obtain ⟨a0, len0, cap0, rfl⟩ := okWide_slice Try.underlying25 (hval 0 25 v0 rfl rfl)
  have k0 := h0
  have lt0 : ∀ x ∈ p0, x.block < W.heap.size := by obtain ⟨m, hm⟩ := k0; exact DataW.trod_lt m _ _ _ hm
  obtain ⟨z0, w0, b0⟩ : ∃ zs, IsRow .u8 W a0 len0 cap0 zs ∧ len0 ≤ Rows.uptoBulk d0 := by
    obtain ⟨fuel, hf⟩ := h0
    rcases open_ints Try.underlying25 Try.underlying5 (by kernel_rfl) hf with ⟨hcs, hx⟩ | ⟨x, l, c, zs, hcs, _, hl, hm, hz, hx, hcell, hwz⟩
    · simp [Value.cells] at hcs
      obtain ⟨rfl, rfl, rfl⟩ := hcs
      exact ⟨[], .inl ⟨rfl, rfl, rfl, rfl⟩, Nat.zero_le _⟩
    · simp [Value.cells] at hcs
      obtain ⟨rfl, rfl, rfl⟩ := hcs
      exact ⟨zs, .inr ⟨_, rfl, hl, hm, by simpa using hz, hcell, hwz⟩, bulks.ints_le (congrArg Prod.fst hx) (by simp at hz; omega)⟩
  obtain ⟨a1, len1, cap1, rfl⟩ := okWide_slice Try.underlying22 (hval 1 22 v1 rfl rfl)
  have k1 := h1
  have lt1 : ∀ x ∈ p1, x.block < W.heap.size := by obtain ⟨m, hm⟩ := k1; exact DataW.trod_lt m _ _ _ hm
  clear hA0 hval0
  simp only [List.append_nil] at hW' hk
  obtain ⟨os1, w1⟩ : ∃ os, PW.Script W W.heap.size a1 len1 cap1 os := by
    obtain ⟨fuel, hf⟩ := k1
    exact PW.script_of (by simpa [Value.cells] using hf) (Nat.le_trans (bulks.part_le (l := [d0, d1]) (by simp)) (bulks.bound hk))
  refine (walk W a0 len0 cap0 z0 w0 (Nat.le_trans b0 (Nat.le_trans (bulks.part_le (l := [d0, d1]) (by simp)) (bulks.bound hk))) a1 len1 cap1 os1 w1).mono fun e W' ⟨he, bel⟩ => ?_
  subst he
  exact ⟨_, rfl, _, _, _, [], _, [], hW', trodAll_mk1 (shut_bool Try.underlying4 _), (trodAll_cons_mk (Below.trod laidOut (by kernel_rfl) (of_decide_eq_true (by kernel_rfl)) k0 bel lt0) (trodAll_cons_mk (Below.trod laidOut (by kernel_rfl) (of_decide_eq_true (by kernel_rfl)) k1 bel lt1) trodAll_mk0)), rfl, bel.frame _, fun h => by cases h⟩

theorem over : Rows.packReadsUptoRow.holds Try.pinned (Rows.OpenSpec.upto Rows.packReadsSpec) :=
  OpenClaim.holds_of_cond 5 Try.f5 rfl rfl rfl rfl rfl rfl rfl ⟨rfl, rfl, rfl, rfl, rfl⟩ rfl rfl rfl rfl rfl (by kernel_rfl) Try.func5 (by kernel_rfl)
    (of_decide_eq_true (by kernel_rfl)) (by unfold Func.isWrapper; first | (rw [if_pos (by decide +kernel)]; kernel_rfl) | (rw [if_neg (by decide +kernel)]; exact ⟨rfl, rfl⟩))
    (fun os started H enc _ F => lifted os started H enc F)

/-- The statement. -/
theorem proved : Rows.PackReadsUptoSaid := over
#print axioms proved
end Go.Proofs.Ythfmfcgjcilagaa.packReads
