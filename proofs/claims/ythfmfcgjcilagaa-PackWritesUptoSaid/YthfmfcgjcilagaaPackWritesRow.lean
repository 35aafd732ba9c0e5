/- PackWrites: every call of any script on a pen writes exactly what the document says; what is handed in stays. Condition: what comes in has a bulk of at most 1,048,576 (the second form). -/
import Derived.Test.YthfmfcgjcilagaaRows
import Derived.WalkKit
import Derived.ProofKit
import Derived.OpenShut
import Derived.ShutString
import Derived.ChangeOld
import Derived.Below
import Derived.Test.YthfmfcgjcilagaaMem
import Derived.JoinedCond
import Derived.Test.YthfmfcgjcilagaaBulk
import Derived.Test.YthfmfcgjcilagaaPScript
import Derived.BigQuiet
import Derived.Deep.QuietTactic
import Derived.Deep.DeepCutAuto
import Derived.Deep.RegionHeld
namespace Go.Proofs.Ythfmfcgjcilagaa.packWrites
open Go.ChangeShapes Go.WideShapes Go.ChangeAt Go.RowKit
open Go.ChangeMaps (open_string shut_string)
open Go.Proofs.Ythfmfcgjcilagaa.B
open Go.Proofs.Ythfmfcgjcilagaa.LM Go.Proofs.Ythfmfcgjcilagaa.PM Go.Proofs.Ythfmfcgjcilagaa.PW
set_option linter.unusedVariables false

theorem own : ownKnob Try.prog.godebug = none := by kernel_rfl
theorem laidOut : laidOutB Try.prog = true := by kernel_rfl
theorem add_1 (ad : Addr) (i k : Nat) : ad.add (i * 4 + (k + 1)) = ⟨(ad.add (i * 4)).block, (ad.add (i * 4)).off + (k + 1), none⟩ := by
  rw [← B.add_add]
  rfl
theorem own_empty2 (w : World) (o : Obj) : ((w.alloc o).alloc (.cells #[] 5)).ownsRow (w.heap.size + 1) 5 1 (.slice (some ⟨w.heap.size + 1, 0, none⟩) 0 0) 0 (u8s []) := by
  have h := own_empty (w.alloc o) 5
  rw [show (w.alloc o).heap.size = w.heap.size + 1 from Array.size_push _] at h
  exact h
theorem round3 {u wr W2 w3 : World} {g : Nat} {bs ws : List UInt8} {Ap Aw : Option Addr} {cp cw : Nat} {t : TypeId} {cs : Array Value} {l c7 : Nat} {A7 : Option Addr} {xs : List UInt8} (h : St u g bs ws Ap cp Aw cw wr) (hb0 : Below wr.heap.size wr W2) (hop : Blk W2 wr.heap.size t cs)
    (hoe : W2.ownsRow (wr.heap.size + 1) 5 1 (.slice (some ⟨wr.heap.size + 1, 0, none⟩) 0 0) 0 (u8s [])) (hown : w3.ownsRow (wr.heap.size + 1) 5 1 (.slice A7 (0 + l) c7) (0 + l) (u8s [] ++ u8s xs)) (hg : W2.grownBy w3 (Value.slice (some ⟨wr.heap.size + 1, 0, none⟩) 0 0).ownBlock) :
    St u g bs ws Ap cp Aw cw (w3.alloc (.cells #[] 5)) ∧ Side u g (.slice Ap bs.length cp) (.slice Aw ws.length cw) (.slice A7 l c7) l xs (w3.alloc (.cells #[] 5)) ∧ Blk (w3.alloc (.cells #[] 5)) wr.heap.size t cs ∧ Below wr.heap.size wr (w3.alloc (.cells #[] 5)) := by
  have hb3 : Below wr.heap.size wr w3 := hb0.trans (below_grown hoe hg (by omega) hb0.size)
  have hb4 := hb3.alloc hb3.size (.cells #[] 5)
  have ho : w3.ownsRow (wr.heap.size + 1) 5 1 (.slice A7 l c7) l (u8s xs) := by simpa [u8s] using hown
  exact ⟨h.over hb4, Side.new h hb4 (own_lower (ho.alloc _) (by omega)), (hop.grown hg (by simp [Value.ownBlock])).alloc _, hb4⟩
theorem side_keep {u w w' : World} {g : Nat} {bs xs : List UInt8} {Ap : Option Addr} {cp n : Nat} {vw v : Value} (h : Side u g (.slice Ap bs.length cp) vw v n xs w) (hf : Fr w w' (Pn g Ap bs.length cp)) : w'.ownsRow u.heap.size 5 1 v n (u8s xs) :=
  own_fr h.own hf (fun k hk e => by
    rcases e with e | e
    · exact (h.ne k hk).1 e
    · exact (h.ne k hk).2.1 e)
theorem mid_call {u w w' : World} {g op l : Nat} {bs bs' ws xs : List UInt8} {Ap Aw A' : Option Addr} {cp cw c' : Nat} {v : Value} {cs : Array Value} (h : St u g bs ws Ap cp Aw cw w) (hs : Side u g (.slice Ap bs.length cp) (.slice Aw ws.length cw) v l xs w) (ho : Blk w op 30 cs)
    (hk : Blk w' g 27 #[.slice A' bs'.length c']) (hw : w'.ownsRow u.heap.size 5 1 (.slice A' bs'.length c') bs'.length (u8s bs'))
    (hf : Fr w w' (Pn g Ap bs.length cp)) (hi : ∀ i, (Value.slice A' bs'.length c').ownBlock = some i → i < w.heap.size → Pn g Ap bs.length cp i) :
    St u g bs' ws A' c' Aw cw w' ∧ Side u g (.slice A' bs'.length c') (.slice Aw ws.length cw) v l xs w' ∧ Blk w' op 30 cs :=
  ⟨h.pen_call hk hw hf hi, hs.pen_call hf hi, ho.fr hf (fun e => by
    rcases e with e | e
    · exact ho.ne h.blk (by decide) e
    · exact own_ne_blk h.pen ho (by decide) e)⟩
/-- What the two calls of a round leave. -/
def Mid (u : World) (g : Nat) (bs : List UInt8) (Aw : Option Addr) (cw : Nat) (o : OpV) (op : Nat) (b : Value) (s8 s9 s10 : Value) (wx : World) : Prop :=
  ∃ (c : Int) (more : List UInt8) (A9 : Option Addr) (c9 : Nat) (A' : Option Addr) (c' : Nat), s8 = .int .i64 c ∧ s10 = .int .i64 c ∧ s9 = .slice A9 more.length c9 ∧ more.length ≤ 1048580 ∧ Rd wx wx.heap.size 1 A9 more.length c9 (u8s more) ∧
    St u g (bs ++ more) bs A' c' Aw cw wx ∧ Side u g (.slice A' (bs ++ more).length c') (.slice Aw bs.length cw) b o.l o.bs wx ∧ Blk wx op 30 #[.int .i64 o.kind, .int .i64 o.size, .int .u64 (o.n : Int), .slice o.A o.l o.c]

set_option maxRecDepth 10000 in
set_option maxHeartbeats 1000000 in
theorem walk (w : World) (a0 : Option Addr) (len0 cap0 : Nat) (os0 : List PW.OpV) (w0 : PW.Script w w.heap.size a0 len0 cap0 os0) :
    Calls Try.prog 3 #[.slice a0 len0 cap0] w fun e w' => e = .returned (.bool true) ∧ Below w.heap.size w w' := by
  obtain ⟨i0, hi0, hz0, hz1, hz2⟩ := info_parts info_u8
  go_enter Try.func3, Try.ntmps3
  go_wp2_with fail
  refine (speaks_any _).mono ?_
  rintro e u1 ⟨rfl, b1⟩
  have HS := hide (w0.over b1)
  have HB := hide b1
  clear w0 b1
  go_wp2_with fail
  have hst0 : St u1 u1.heap.size [] [] none 0 (some ⟨u1.heap.size + 1, 0, none⟩) 0 ((u1.alloc (Obj.cells #[.slice none 0 0] 27)).alloc (Obj.cells #[] 5)) := by
    have hz : (u1.alloc (Obj.cells #[.slice none 0 0] 27)).heap.size = u1.heap.size + 1 := by show (u1.heap.push _).size = _; simp
    refine ⟨(Blk.new u1 _ _).alloc _, Nat.le_refl _, World.ownsRow_nil _ _ _ _, ?_, fun j hj => by simp [Value.ownBlock] at hj, ((Below.refl _ _).alloc (Nat.le_refl _) _).alloc (by rw [hz]; omega) _⟩
    have := own_lower (base' := u1.heap.size) (own_empty (u1.alloc (Obj.cells #[.slice none 0 0] 27)) 5) (by rw [hz]; omega)
    rw [hz] at this
    exact this
  go_loopw [4, 21] (fun wv iv wr => ∃ (i : Nat) (bs : List UInt8) (Ap : Option Addr) (cp : Nat) (Aw : Option Addr) (cw : Nat), i ≤ len0 ∧ iv = .int .i64 i ∧ bs.length ≤ i * 1048584 ∧ wv = .slice Aw bs.length cw ∧ St u1 u1.heap.size bs bs Ap cp Aw cw wr) (fun _ iv _ => len0 - (intOf iv).toNat)
  case atStart => exact ⟨0, [], none, 0, _, 0, by omega, rfl, by simp, rfl, hst0⟩
  case round =>
    clear hst0
    obtain ⟨i, bs, Ap, cp, Aw, cw, hi, rfl, hbl, rfl, hst⟩ := hrel
    have hsm := HS.out.small
    by_cases hlt : i < len0
    · obtain ⟨ad, o, rfl, hadB, ho, hoa, hok⟩ := HS.out.at_ hlt
      have HA : ∀ wx, Below u1.heap.size u1 wx → OpAt wx u1.heap.size ad i o := fun wx hb => hoa.keep hadB (fun p hp => hb.cell hp)
      have HA := hide HA
      obtain ⟨k0, k1, k2, k3, hrd⟩ := HA.out wr hst.below
      rw [add_1 ad i 0] at k1
      rw [add_1 ad i 1] at k2
      rw [add_1 ad i 2] at k3
      have HT := hide hst
      have HR := hide hrd
      have HK := hide hok
      clear hst hrd hok hoa ho
      have hoe := own_empty2 wr (Obj.cells #[.int .i64 o.kind, .int .i64 o.size, .int .u64 (o.n : Int), .slice o.A o.l o.c] 30)
      have hb0 : Below wr.heap.size wr ((wr.alloc (Obj.cells #[.int .i64 o.kind, .int .i64 o.size, .int .u64 (o.n : Int), .slice o.A o.l o.c] 30)).alloc (.cells #[] 5)) := ((Below.refl _ _).alloc (Nat.le_refl _) _).alloc (by show _ ≤ (wr.heap.push _).size; simp) _
      have hop := (Blk.new wr 30 #[.int .i64 o.kind, .int .i64 o.size, .int .u64 (o.n : Int), .slice o.A o.l o.c]).alloc (.cells #[] 5)
      have hr0 := (HR.out.more HT.out.below.size).below hb0
      have hl := HK.out.l
      have HOE := hide hoe
      have HB0 := hide hb0
      have HOP := hide hop
      have HR0 := hide hr0
      have hz0' : wr.heap.size + 1 ≤ ((wr.alloc (Obj.cells #[.int .i64 o.kind, .int .i64 o.size, .int .u64 (o.n : Int), .slice o.A o.l o.c] 30)).alloc (.cells #[] 5)).heap.size := by show _ ≤ ((wr.heap.push _).push _).size; simp
      clear hoe hb0 hop hr0
      go_upto_if 33 with (at_builtin; refine wpList_append_rd _ rfl (.tmp 25) (.tmp 27) _ rfl (wr.heap.size + 1) 5 i0 _ 1 1 Try.underlying25 hi0 hz0 hz1 hz2 rfl (by omega) (.slice (some ⟨wr.heap.size + 1, 0, none⟩) 0 0) 0 _ rfl HOE.out wr.heap.size o.A o.l o.c (u8s o.bs) rfl HR0.out (u8s_one _) (by simp only [maxLen]; omega) (by omega) hz0' ?_; intro A7 c7 w3 hown3 hg3 hat3; have H4 := hide (round3 HT.out HB0.out HOP.out HOE.out hown3 hg3); have q0 := H4.out.2.2.1.at_ (i := 0) rfl; have q1 := H4.out.2.2.1.at_ (i := 1) rfl; have q2 := H4.out.2.2.1.at_ (i := 2) rfl; have q3 := H4.out.2.2.1.at_ (i := 3) rfl; clear hown3 hg3 hat3)
      clear HOE HB0 HOP HR0 k0 k1 k2 k3
      generalize w3.alloc _ = w4 at *
      clear hz0'
      go_cut [8, 9, 10] (fun s8 s9 s10 wx => Mid u1 u1.heap.size bs Aw cw o wr.heap.size (.slice A7 o.l c7) s8 s9 s10 wx)
      case first =>
        by_cases hk0 : bits BinOp.and IntKind.i64 o.kind 1 = 0
        · go_wp2_with fail
          refine (penUint_any H4.out.1.blk H4.out.1.pen H4.out.1.below.size HK.out.size HK.out.n (by omega)).mono ?_
          rintro e w5 ⟨A5, c5, rfl, hk5, ho5, hf5, hi5⟩
          have H5 := hide (mid_call H4.out.1 H4.out.2.1 H4.out.2.2.1 hk5 ho5 hf5 hi5)
          clear hk5 ho5 hf5 hi5 q0 q1 q2 q3
          have q1 := H5.out.2.2.at_ (i := 1) rfl
          have q2 := H5.out.2.2.at_ (i := 2) rfl
          go_wp2_with fail
          refine (refUint_any HK.out.size HK.out.n).mono ?_
          rintro e w6 ⟨A6, c6, rfl, ho6, b6⟩
          have H6 := hide (show _ ∧ _ from ⟨ho6, b6⟩)
          clear ho6 b6 q1 q2
          go_wp2_with fail
          go_meet
          exact ⟨_, _, A6, c6, A5, c5, rfl, rfl, rfl, Nat.le_trans (refU_len _ _) (by omega), Rd.of_own H6.out.1, H5.out.1.over H6.out.2, H5.out.2.1.over H6.out.2, H5.out.2.2.below H6.out.2 H5.out.2.2.lt⟩
        · obtain ⟨mo, hmo, hml⟩ : ∃ mo, le o.l 4 ++ o.bs = mo ∧ 4 + o.l = mo.length := ⟨_, rfl, by rw [List.length_append, le_length, HK.out.len]⟩
          have hlen : (bs ++ mo).length = bs.length + 4 + o.l := by
            rw [List.length_append, ← hml]; omega
          have HLEN := hide hlen
          have HMO := hide (show _ ∧ _ from ⟨hmo, hml⟩)
          clear hlen hmo hml
          go_wp2_with fail
          refine (penBytes_ok (bb := o.bs) H4.out.1.blk H4.out.1.pen H4.out.1.below.size (fun w' hf => Rd.of_own (side_keep H4.out.2.1 hf)) (by omega) (by omega)).mono ?_
          rintro e w5 ⟨A5, c5, rfl, hk5, ho5, hf5, hi5⟩
          rw [← HLEN.out] at hk5 ho5 hi5
          rw [HMO.out.1] at ho5
          have H5 := hide (mid_call H4.out.1 H4.out.2.1 H4.out.2.2.1 hk5 ho5 hf5 hi5)
          clear hk5 ho5 hf5 hi5 q0 q1 q2 q3
          have q3 := H5.out.2.2.at_ (i := 3) rfl
          go_wp2_with fail
          refine (refBytes_any ((HA.out _ H5.out.1.below).rd.more H5.out.1.below.size) (by omega)).mono ?_
          rintro e w6 ⟨A6, c6, rfl, ho6, b6⟩
          rw [HMO.out.1, HMO.out.2] at ho6
          rw [HMO.out.2]
          have H6 := hide (show _ ∧ _ from ⟨ho6, b6⟩)
          clear ho6 b6 q3
          go_wp2_with fail
          go_meet
          exact ⟨_, _, A6, c6, A5, c5, rfl, rfl, rfl, by have := HMO.out.2; omega, Rd.of_own H6.out.1, H5.out.1.over H6.out.2, H5.out.2.1.over H6.out.2, H5.out.2.2.below H6.out.2 H5.out.2.2.lt⟩
      case rest =>
        clear q0 q1 q2 q3 H4
        obtain ⟨c, more, A9, c9, A', c', rfl, rfl, rfl, hm9, hr9, hst5, hsd5, hop5⟩ := hcut
        have HST := hide hst5
        have HSD := hide hsd5
        have HO5 := hide hop5
        have HR9 := hide hr9
        clear hst5 hsd5 hop5 hr9
        obtain ⟨bs', hbs', hn'⟩ : ∃ bs', bs ++ more = bs' ∧ bs.length + more.length = bs'.length := ⟨_, rfl, List.length_append.symm⟩
        have HSU := hide HST.out.below.size
        go_wp2_with (at_builtin; refine wpList_append_rd _ rfl (.tmp 54) (.tmp 55) _ rfl u1.heap.size 5 i0 _ 1 1 Try.underlying25 hi0 hz0 hz1 hz2 rfl (by omega) (.slice Aw bs.length cw) bs.length _ rfl HST.out.want wc.heap.size A9 more.length c9 (u8s more) rfl HR9.out (u8s_one _) (by simp only [maxLen]; omega) (by omega) HSU.out ?_; intro A8 c8 w8 hown8 hg8 hat8)
        rw [← u8s_append] at hown8
        rw [hbs'] at hown8
        rw [hn'] at hown8 hat8
        have hst8 := HST.out.want_call hg8 hown8 hat8
        have hsd8 := HSD.out.want_call hg8 hat8
        have hop8 := HO5.out.grown hg8 (own_ne_blk HST.out.want HO5.out (by decide))
        rw [hbs'] at hst8 hsd8
        have HST8 := hide hst8
        have HSD8 := hide hsd8
        have HO8 := hide hop8
        clear hown8 hg8 hat8 hst8 hsd8 hop8 HST HSD HO5 HR9 HSU
        have hl8 : bs'.length ≤ (i + 1) * 1048584 := by omega
        refine (penData_any HST8.out.blk HST8.out.pen (by omega)).mono ?_
        rintro e w9 ⟨A10, c10, rfl, ho10, b10⟩
        have HST9 := hide (HST8.out.over b10)
        have HSD9 := hide (HSD8.out.over b10)
        have HD9 := hide (Side.new HST8.out b10 ho10)
        have HDN : Hid (∀ j, (Value.slice A10 bs'.length c10).ownBlock = some j → (Value.slice A7 o.l c7).ownBlock ≠ some j) := hide (fun j hj e => by
          have h1 := (own_block ho10 j hj).1
          have h2 := (own_block HSD8.out.own j e).2
          omega)
        have q3 := (HO8.out.below b10 HO8.out.lt).at_ (i := 3) rfl
        have s1 := run_str (P := Try.prog) 25 9 5 Try.underlying25 Try.underlying5 Try.underlying9 (Rd.of_own ho10)
        have s2 := run_str (P := Try.prog) 25 9 5 Try.underlying25 Try.underlying5 Try.underlying9 (Rd.of_own HST9.out.want)
        have s3 := run_str (P := Try.prog) 25 9 5 Try.underlying25 Try.underlying5 Try.underlying9 (Rd.of_own HSD9.out.own)
        have s4 := run_str (P := Try.prog) 25 9 5 Try.underlying25 Try.underlying5 Try.underlying9 (HA.out _ HST9.out.below).rd
        clear HST8 HSD8 HO8 ho10 b10
        go_wp2_with fail
        clear q3 s1 s2 s3 s4
        go_loopw [79] (fun jv wl => ∃ (j : Nat) (ys : List UInt8), j ≤ bs'.length ∧ jv = .int .i64 j ∧ wl.ownsRow u1.heap.size 5 1 (.slice A10 bs'.length c10) bs'.length (u8s ys) ∧ Fr w9 wl (fun k => (Value.slice A10 bs'.length c10).ownBlock = some k)) (fun jv _ => bs'.length - (intOf jv).toNat)
        case atStart => exact ⟨0, bs', by omega, rfl, HD9.out.own, Fr.refl _ _⟩
        case round =>
          obtain ⟨j, ys, hj, rfl, hoy, hfy⟩ := hrel
          by_cases hjl : j < bs'.length
          · obtain ⟨ad9, rfl⟩ := own_some hoy (by omega)
            obtain ⟨hc, hf, hadb, hbe⟩ := own_cell hoy j hjl
            have HY := hide (show _ ∧ _ from ⟨hoy, hfy⟩)
            clear hoy hfy
            have e1 : IntKind.i64.wrap ((j : Int) + 1) = (j : Int) + 1 := IntWalk.i64_in _ (by omega)
            go_wp2_with fail
            go_roundw
            case rel => exact ⟨j + 1, _, by omega, by go_num, own_set HY.out.1 j 238, fr_set rfl HY.out.1 HY.out.2 j _⟩
            case measure => simp [intOf]; omega
          · obtain rfl : j = bs'.length := by omega
            have HST10 := hide (HST9.out.side HD9.out hfy)
            have HSD10 := hide (Side.mk (own_fr HSD9.out.own hfy (fun k hk e => HDN.out k e hk)) HSD9.out.ne)
            clear HST9 HSD9 HD9 HDN hoy hfy
            go_wp2_with fail
            go_loopw [88] (fun jv wl => ∃ (j : Nat) (ys : List UInt8), j ≤ o.l ∧ jv = .int .i64 j ∧ wl.ownsRow u1.heap.size 5 1 (.slice A7 o.l c7) o.l (u8s ys) ∧ Fr wr wl (fun k => (Value.slice A7 o.l c7).ownBlock = some k)) (fun jv _ => o.l - (intOf jv).toNat)
            case atStart => exact ⟨0, o.bs, by omega, rfl, HSD10.out.own, Fr.refl _ _⟩
            case round =>
              obtain ⟨j, ys, hj, rfl, hoy, hfy⟩ := hrel
              by_cases hjl : j < o.l
              · obtain ⟨ad9, rfl⟩ := own_some hoy (by omega)
                obtain ⟨hc, hf, hadb, hbe⟩ := own_cell hoy j hjl
                have HY := hide (show _ ∧ _ from ⟨hoy, hfy⟩)
                clear hoy hfy
                have e1 : IntKind.i64.wrap ((j : Int) + 1) = (j : Int) + 1 := IntWalk.i64_in _ (by omega)
                go_wp2_with fail
                go_roundw
                case rel => exact ⟨j + 1, _, by omega, by go_num, own_set HY.out.1 j 238, fr_set rfl HY.out.1 HY.out.2 j _⟩
                case measure => simp [intOf]; omega
              · have HSTX := hide (HST10.out.side HSD10.out hfy)
                clear hoy hfy HST10 HSD10
                have e1 : IntKind.i64.wrap ((i : Int) + 1) = (i : Int) + 1 := IntWalk.i64_in _ (by omega)
                go_wp2_with fail
                go_roundw
                case rel => exact ⟨i + 1, bs', A', c', A8, c8, by omega, by go_num, hl8, rfl, HSTX.out⟩
                case measure => simp [intOf]; omega
    · have hst' := hst.over ((Below.refl wr.heap.size wr).drew)
      have s1 := run_str (P := Try.prog) 25 9 5 Try.underlying25 Try.underlying5 Try.underlying9 (Rd.of_own hst'.want)
      have HST := hide hst'
      clear hst hst'
      go_wp2_with fail
      go_region_held (fun w' => (convert 25 9 (.slice Aw bs.length cw)).run Try.prog w' = .ok (.string (str bs)) w') (first | exact s1 | exact s2)
        (first | (go_at_call 15; refine (penData_any HST.out.blk HST.out.pen (by omega)).mono ?_; rintro e w9 ⟨A10, c10, rfl, ho10, b10⟩; have HX := hide (show _ ∧ _ from ⟨HST.out.over b10, HST.out.below.trans (b10.mono HST.out.below.size)⟩); have s2 := run_str (P := Try.prog) 25 9 5 Try.underlying25 Try.underlying5 Try.underlying9 (Rd.of_own HX.out.1.want); have s3 := run_str (P := Try.prog) 25 9 5 Try.underlying25 Try.underlying5 Try.underlying9 (Rd.of_own ho10); clear ho10 b10))
      all_goals
        go_wp2_with fail
        go_ret
        exact ⟨rfl, HB.out.trans (HX.out.2.mono HB.out.size)⟩

set_option maxRecDepth 100000 in
theorem lifted (os : Os) (started : os.Started) (H : Type) (enc : TypeId × Value → H) (F : Stop.Interp) :
    ReturnsInHanded {} Try.checked os 3 .any ((Rows.OpenSpec.upto Rows.packWritesSpec).pre6 enc Try.prog Try.f3 Rows.packWritesUptoRow.domain false) (((Rows.OpenSpec.upto Rows.packWritesSpec).at F).post enc Try.prog Try.f3 false true false false) := by
  refine returnsInHanded_of_cond (C := Try.checked) (s := Rows.OpenSpec.upto Rows.packWritesSpec) (k := Rows.uptoSmall) rfl own started (by kernel_rfl) Try.func3
    (OpenSpec.witness (enc := enc) (C := Try.checked) (s := Rows.OpenSpec.upto Rows.packWritesSpec) (k := Rows.uptoSmall) rfl false ⟨#[], #[.slice none 0 0], []⟩ 8 (by kernel_rfl) (by kernel_rfl) (by kernel_rfl)
      (x := ([.nil], [], [])) (by kernel_rfl) rfl (by kernel_rfl)) ?_
  intro W base args ds gs before hval0 hW _ hk _
  have hval : ∀ (j : Nat) t v, Try.f3.params[j]? = some t → args[j]? = some v → Value.okWide Try.prog W .any base t v := hval0
  have hW' := hW
  obtain ⟨p, q, hA0, hV, rfl, hfz, hnd⟩ := hW
  have hA : DataW.TrodAll enc Try.prog W 0 (fun _ => true) true Try.f3.params.toList args.toList ds p := hA0
  rw [Try.params3] at hA hval
  obtain ⟨v0, vs0, d0, ds0, p0, q0, hargs, rfl, rfl, h0, r0⟩ := trodAll_cons hA
  obtain ⟨rfl, rfl, rfl⟩ := trodAll_nil r0
  obtain rfl : args = #[v0] := by cases args; simp_all
  obtain ⟨rfl, rfl⟩ := trodVars_none hV
  obtain ⟨a0, len0, cap0, rfl⟩ := okWide_slice Try.underlying22 (hval 0 22 v0 rfl rfl)
  have k0 := h0
  have lt0 : ∀ x ∈ p0, x.block < W.heap.size := by obtain ⟨m, hm⟩ := k0; exact DataW.trod_lt m _ _ _ hm
  clear hA0 hval0
  simp only [List.append_nil] at hW' hk
  obtain ⟨os0, w0⟩ : ∃ os, PW.Script W W.heap.size a0 len0 cap0 os := by
    obtain ⟨fuel, hf⟩ := k0
    exact PW.script_of (by simpa [Value.cells] using hf) (Nat.le_trans (bulks.part_le (l := [d0]) (by simp)) (bulks.bound hk))
  refine (walk W a0 len0 cap0 os0 w0).mono fun e W' ⟨he, bel⟩ => ?_
  subst he
  exact ⟨_, rfl, _, _, _, [], _, [], hW', trodAll_mk1 (shut_bool Try.underlying4 _), (trodAll_cons_mk (Below.trod laidOut (by kernel_rfl) (of_decide_eq_true (by kernel_rfl)) k0 bel lt0) trodAll_mk0), rfl, bel.frame _, fun h => by cases h⟩

theorem over : Rows.packWritesUptoRow.holds Try.pinned (Rows.OpenSpec.upto Rows.packWritesSpec) :=
  OpenClaim.holds_of_cond 3 Try.f3 rfl rfl rfl rfl rfl rfl rfl ⟨rfl, rfl, rfl, rfl, rfl⟩ rfl rfl rfl rfl rfl (by kernel_rfl) Try.func3 (by kernel_rfl)
    (of_decide_eq_true (by kernel_rfl)) (by unfold Func.isWrapper; first | (rw [if_pos (by decide +kernel)]; kernel_rfl) | (rw [if_neg (by decide +kernel)]; exact ⟨rfl, rfl⟩))
    (fun os started H enc _ F => lifted os started H enc F)

/-- The statement. -/
theorem proved : Rows.PackWritesUptoSaid := over
#print axioms proved
end Go.Proofs.Ythfmfcgjcilagaa.packWrites
