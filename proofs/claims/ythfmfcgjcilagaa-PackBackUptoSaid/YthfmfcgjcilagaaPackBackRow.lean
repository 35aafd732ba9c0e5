/- PackBack: what a pen wrote an eye reads, one behind the other, and nothing is left. Condition: what comes in has a bulk of at most 1,048,576 (the second form). -/
import Derived.Test.YthfmfcgjcilagaaRows
import Derived.WalkKit
import Derived.ProofKit
import Derived.OpenShut
import Derived.ShutString
import Derived.ChangeOld
import Derived.Below
import Derived.Test.YthfmfcgjcilagaaMem
import Derived.JoinedCond
import Derived.Test.YthfmfcgjcilagaaBulk
import Derived.Test.YthfmfcgjcilagaaPBack
import Derived.BigQuiet
import Derived.Deep.QuietTactic
import Derived.Deep.DeepCutAuto
namespace Go.Proofs.Ythfmfcgjcilagaa.packBack
open Go.ChangeShapes Go.WideShapes Go.ChangeAt Go.RowKit
open Go.ChangeMaps (open_string shut_string)
open Go.Proofs.Ythfmfcgjcilagaa.B
open Go.Proofs.Ythfmfcgjcilagaa.LM Go.Proofs.Ythfmfcgjcilagaa.PM Go.Proofs.Ythfmfcgjcilagaa.PW
set_option linter.unusedVariables false

theorem own : ownKnob Try.prog.godebug = none := by kernel_rfl
theorem laidOut : laidOutB Try.prog = true := by kernel_rfl
theorem info_op : (Try.prog.info? 30).map (fun i => (i.zero, i.size, i.bytes)) = some (some (.agg #[.int .i64 0, .int .i64 0, .int .u64 0, .slice none 0 0]), 4, 48) := by kernel_rfl
theorem add_1 (ad : Addr) (i k : Nat) : ad.add (i * 4 + (k + 1)) = ⟨(ad.add (i * 4)).block, (ad.add (i * 4)).off + (k + 1), none⟩ := by
  rw [← B.add_add]
  rfl
theorem bdrewN (w : World) (n : Nat) : Below w.heap.size w (w.drewN n) := ⟨rfl, rfl, rfl, Nat.le_refl _, fun _ _ => rfl⟩
theorem own_apart {w : World} {b b' s s' n n' : Nat} {e e' : TypeId} {v v' : Value} {xs xs' : List Value} (h : w.ownsRow b e s v n xs) (h' : w.ownsRow b' e' s' v' n' xs') (hne : e ≠ e') : ∀ k, v.ownBlock = some k → v'.ownBlock ≠ some k := by
  intro k hk hk'
  rcases h.2 with ⟨rfl, _⟩ | ⟨g, cap, cur, rfl, _, hh, _⟩
  · simp [Value.ownBlock] at hk
  · have hg : g = k := by simpa [Value.ownBlock] using hk
    subst hg
    exact own_ne_blk h' (show Blk w g e cur from hh) (Ne.symm hne) hk'
theorem own_blk {w : World} {base : Nat} {e : TypeId} {size n : Nat} {v : Value} {xs : List Value} (h : w.ownsRow base e size v n xs) : ∀ k, v.ownBlock = some k → base ≤ k ∧ k < w.heap.size := by
  intro k hk
  rcases h.2 with ⟨rfl, rfl⟩ | ⟨g, cap, cur, rfl, hg, hh, _⟩
  · simp [Value.ownBlock] at hk
  · have e1 : g = k := by simpa [Value.ownBlock] using hk
    subst e1
    exact ⟨hg, Blk.lt (t := e) (cs := cur) hh⟩
theorem rd_four (w : World) (a b c d : Value) (t : TypeId) : Rd (w.alloc (.cells #[a, b, c, d] t)) (w.heap.size + 1) 4 (some ⟨w.heap.size, 0, none⟩) 1 1 [a, b, c, d] :=
  ⟨rfl, Nat.le_refl _, by simp [maxLen], fun _ => ⟨_, rfl, by simp, fun j u hu => by
    rw [add_lit, Nat.zero_add, cell_of_row _ _ _ #[a, b, c, d] t (0, 0) (heap_alloc_new w _)]
    simpa using hu⟩⟩
structure PB (u : World) (g : Nat) (ps : List UInt8) (ds : List OpV) (Ap : Option Addr) (cp : Nat) (Ad : Option Addr) (cd : Nat) (w : World) : Prop where
  blk : Blk w g 27 #[.slice Ap ps.length cp]
  ge : u.heap.size ≤ g
  pen : w.ownsRow u.heap.size 5 1 (.slice Ap ps.length cp) ps.length (u8s ps)
  dn : w.ownsRow u.heap.size 30 4 (.slice Ad ds.length cd) ds.length (opCells ds)
  taken : Taken u ds
  below : Below u.heap.size u w
theorem PB.over {u w w' : World} {g cp cd : Nat} {ps : List UInt8} {ds : List OpV} {Ap Ad : Option Addr} (h : PB u g ps ds Ap cp Ad cd w) (hb : Below w.heap.size w w') : PB u g ps ds Ap cp Ad cd w' :=
  ⟨h.blk.below hb h.blk.lt, h.ge, own_fr h.pen (Fr.new hb (S := fun _ => False)) (fun _ _ e => e), own_fr h.dn (Fr.new hb (S := fun _ => False)) (fun _ _ e => e), h.taken, h.below.trans (hb.mono h.below.size)⟩
theorem PB.pen_call {u w w' : World} {g cp cd c' : Nat} {ps ps' : List UInt8} {ds : List OpV} {Ap Ad A' : Option Addr} (h : PB u g ps ds Ap cp Ad cd w) (hk : Blk w' g 27 #[.slice A' ps'.length c']) (ho : w'.ownsRow u.heap.size 5 1 (.slice A' ps'.length c') ps'.length (u8s ps')) (hf : Fr w w' (Pn g Ap ps.length cp)) : PB u g ps' ds A' c' Ad cd w' :=
  ⟨hk, h.ge, ho, own_fr h.dn hf (fun k hk e => by
    rcases e with e | e
    · exact own_ne_blk h.dn h.blk (by decide) (e ▸ hk)
    · exact own_apart h.pen h.dn (by decide) k e hk), h.taken, h.below.trans (hf.below (fun k e => by
    rcases e with e | e
    · rw [e]; exact h.ge
    · exact (own_block h.pen k e).1) h.below.size)⟩
theorem PB.dn_call {u w w' : World} {g cp cd c' : Nat} {ps : List UInt8} {ds ds' : List OpV} {Ap Ad A' : Option Addr} (h : PB u g ps ds Ap cp Ad cd w) (hg : w.grownBy w' (Value.slice Ad ds.length cd).ownBlock) (ho : w'.ownsRow u.heap.size 30 4 (.slice A' ds'.length c') ds'.length (opCells ds')) (ht : Taken u ds') : PB u g ps ds' Ap cp A' c' w' := by
  have hf : Fr w w' (fun k => (Value.slice Ad ds.length cd).ownBlock = some k) := (Fr.refl w _).grown hg (fun k e _ => e)
  exact ⟨h.blk.fr hf (own_ne_blk h.dn h.blk (by decide)), h.ge, own_fr h.pen hf (fun k hk e => own_apart h.pen h.dn (by decide) k hk e), ho, ht, h.below.trans (hf.below (fun k e => (own_blk h.dn k e).1) h.below.size)⟩
theorem enc_len (o : OpV) (e : List UInt8) (h : encOp o = some e) (hk : OpOk o) : e.length ≤ 1048584 := by
  rw [encOp] at h
  split at h
  · split at h
    · injection h with h
      subst h
      exact Nat.le_trans (refU_len _ _) (by omega)
    · cases h
  · injection h with h
    subst h
    rw [List.length_append, le_length, hk.len]
    have := hk.l
    omega
theorem refU_none {N : Nat} {size : Int} (h : ¬ (refU N size).2 = 0) : (refU N size).1 = [] := by
  rw [refU] at h ⊢
  split at h <;> rename_i h1
  · rw [if_pos h1]
  · split at h <;> rename_i h2
    · rw [if_neg h1, if_pos h2]
    · exact absurd rfl h
def MidB (u : World) (g : Nat) (ds : List OpV) (Ad : Option Addr) (cd : Nat) (o : OpV) (op : Nat) (s : Value) (wx : World) : Prop :=
  ∃ A' c', Blk wx op 30 #[.int .i64 o.kind, .int .i64 o.size, .int .u64 (o.n : Int), .slice o.A o.l o.c] ∧
    ((s = .bool true ∧ ∃ e, encOp o = some e ∧ PB u g (encAll ds ++ e) ds A' c' Ad cd wx) ∨ (s = .bool false ∧ PB u g (encAll ds) ds A' c' Ad cd wx))
theorem mid_op {w w' : World} {g op : Nat} {b n c : Nat} {A : Option Addr} {xs : List Value} {cs cp : Array Value} (h : Blk w op 30 cs) (hb : Blk w g 27 cp) (ho : w.ownsRow b 5 1 (.slice A n c) n xs) (hf : Fr w w' (Pn g A n c)) : Blk w' op 30 cs :=
  h.fr hf (fun e => by
    rcases e with e | e
    · exact h.ne hb (by decide) e
    · exact own_ne_blk ho h (by decide) e)

set_option maxRecDepth 10000 in
set_option maxHeartbeats 1000000 in
theorem walk (w : World) (a0 : Option Addr) (len0 cap0 : Nat) (os0 : List PW.OpV) (w0 : PW.Script w w.heap.size a0 len0 cap0 os0) :
    Calls Try.prog 6 #[.slice a0 len0 cap0] w fun e w' => e = .returned (.bool true) ∧ Below w.heap.size w w' := by
  obtain ⟨i0, hi0, hz0, hz1, hz2⟩ := info_parts info_op
  go_enter Try.func6, Try.ntmps6
  go_wp2_with fail
  refine (speaks_any _).mono ?_
  rintro e u1 ⟨rfl, b1⟩
  have HS := hide (w0.over b1)
  have HB := hide b1
  clear w0 b1
  go_wp2_with fail
  have hst0 : PB u1 u1.heap.size [] [] none 0 (some ⟨u1.heap.size + 1, 0, none⟩) 0 ((u1.alloc (Obj.cells #[.slice none 0 0] 27)).alloc (Obj.cells #[] 30)) := by
    have hz : (u1.alloc (Obj.cells #[.slice none 0 0] 27)).heap.size = u1.heap.size + 1 := by show (u1.heap.push _).size = _; simp
    refine ⟨(Blk.new u1 _ _).alloc _, Nat.le_refl _, World.ownsRow_nil _ _ _ _, ?_, ⟨fun o ho => by cases ho⟩, ((Below.refl _ _).alloc (Nat.le_refl _) _).alloc (by rw [hz]; omega) _⟩
    refine ⟨rfl, .inr ⟨u1.heap.size + 1, 0, #[], rfl, by omega, ?_, Nat.le_refl _, by simp [maxLen], rfl, rfl⟩⟩
    have := heap_alloc_new (u1.alloc (Obj.cells #[.slice none 0 0] 27)) (Obj.cells #[] 30)
    rw [hz] at this
    exact this
  go_loopw [4, 23] (fun dv iv wr => ∃ (i : Nat) (ds : List OpV) (Ap : Option Addr) (cp : Nat) (Ad : Option Addr) (cd : Nat), i ≤ len0 ∧ iv = .int .i64 i ∧ ds.length ≤ i ∧ (encAll ds).length ≤ i * 1048584 ∧ dv = .slice Ad ds.length cd ∧ PB u1 u1.heap.size (encAll ds) ds Ap cp Ad cd wr) (fun _ iv _ => len0 - (intOf iv).toNat)
  case atStart => exact ⟨0, [], none, 0, _, 0, by omega, rfl, by simp, by simp [encAll], rfl, hst0⟩
  case round =>
    clear hst0
    obtain ⟨i, ds, Ap, cp, Ad, cd, hi, rfl, hdl, hbl, rfl, hst⟩ := hrel
    have hsm := HS.out.small
    have hlen : (encAll ds).length ≤ 140737488351232 := Nat.le_trans hbl (Nat.le_trans (Nat.mul_le_mul_right _ (Nat.le_trans hi hsm)) (by decide))
    by_cases hlt : i < len0
    · obtain ⟨ad, o, rfl, hadB, ho, hoa, hok⟩ := HS.out.at_ hlt
      have HRD := hide hoa.rd
      have HK := hide hok
      obtain ⟨k0, k1, k2, k3, _⟩ := hoa.keep hadB (fun p hp => hst.below.cell hp)
      rw [add_1 ad i 0] at k1
      rw [add_1 ad i 1] at k2
      rw [add_1 ad i 2] at k3
      have hb6 : Below wr.heap.size wr (wr.alloc (Obj.cells #[.int .i64 o.kind, .int .i64 o.size, .int .u64 (o.n : Int), .slice o.A o.l o.c] 30)) := (Below.refl _ _).alloc (Nat.le_refl _) _
      have hop := Blk.new wr 30 #[.int .i64 o.kind, .int .i64 o.size, .int .u64 (o.n : Int), .slice o.A o.l o.c]
      have q0 := hop.at_ (i := 0) rfl
      have q1 := hop.at_ (i := 1) rfl
      have q2 := hop.at_ (i := 2) rfl
      have q3 := hop.at_ (i := 3) rfl
      have HST := hide (hst.over hb6)
      have HOP := hide hop
      clear hok hoa ho hb6 hop hst
      go_upto_region 8 with fail
      clear k0 k1 k2 k3
      generalize wr.alloc _ = w6 at *
      go_cut [52] (fun s wx => MidB u1 u1.heap.size ds Ad cd o wr.heap.size s wx)
      case first =>
        rcases and1 o.kind with hk0 | hk1
        · go_wp2_with fail
          refine (penUint_any HST.out.blk HST.out.pen HST.out.below.size HK.out.size HK.out.n (by omega)).mono ?_
          rintro e w7 ⟨A7, c7, rfl, hk7, ho7, hf7, _⟩
          have H7 := hide (HST.out.pen_call hk7 ho7 hf7)
          have HO7 := hide (mid_op HOP.out HST.out.blk HST.out.pen hf7)
          clear hk7 ho7 hf7 q0 q1 q2 q3
          by_cases hacc : (refU o.n o.size).2 = 0
          · have henc : encOp o = some (refU o.n o.size).1 := by rw [encOp, if_pos hk0, if_pos hacc]
            have HE := hide henc
            rw [hacc]
            clear henc hacc hk0
            go_wp2_with fail
            go_meet
            exact ⟨A7, c7, HO7.out, .inl ⟨rfl, _, HE.out, H7.out⟩⟩
          · have q0 := HO7.out.at_ (i := 0) rfl
            have hnb : ((refU o.n o.size).2 == 0) = false := by simpa using hacc
            have HX := hide (show PB u1 u1.heap.size (encAll ds) ds A7 c7 Ad cd w7 by have h := H7.out; rw [refU_none hacc, List.append_nil] at h; exact h)
            clear H7 hacc
            generalize (refU o.n o.size).2 = rc at *
            go_wp2_with fail
            go_meet
            exact ⟨A7, c7, HO7.out, .inr ⟨rfl, HX.out⟩⟩
        · have hk0 : ¬ bits BinOp.and IntKind.i64 o.kind 1 = 0 := by omega
          have henc : encOp o = some (le o.l 4 ++ o.bs) := by rw [encOp, if_neg hk0]
          have hlen : (encAll ds ++ (le o.l 4 ++ o.bs)).length = (encAll ds).length + 4 + o.l := by
            rw [List.length_append, List.length_append, le_length, HK.out.len]; omega
          have HE := hide henc
          have HLEN := hide hlen
          have hll := HK.out.l
          clear henc hlen hk0
          go_wp2_with fail
          refine (penBytes_ok (bb := o.bs) HST.out.blk HST.out.pen HST.out.below.size (fun w' hf => (HRD.out.below (HST.out.below.trans (hf.below (fun k e => by
            rcases e with e | e
            · rw [e]; exact HST.out.ge
            · exact (own_block HST.out.pen k e).1) HST.out.below.size))).more (Nat.le_trans HST.out.below.size hf.size)) (by omega) (by omega)).mono ?_
          rintro e w7 ⟨A7, c7, rfl, hk7, ho7, hf7, _⟩
          rw [← HLEN.out] at hk7 ho7
          have H7 := hide (HST.out.pen_call hk7 ho7 hf7)
          have HO7 := hide (mid_op HOP.out HST.out.blk HST.out.pen hf7)
          clear hk7 ho7 hf7 q0 q1 q2 q3
          go_wp2_with fail
          go_meet
          exact ⟨A7, c7, HO7.out, .inl ⟨rfl, _, HE.out, H7.out⟩⟩
      case rest =>
        clear q0 q1 q2 q3 HST HOP
        have e1 : IntKind.i64.wrap ((i : Int) + 1) = (i : Int) + 1 := IntWalk.i64_in _ (by omega)
        obtain ⟨A', c', hop, (⟨rfl, e, henc, hpb⟩ | ⟨rfl, hpb⟩)⟩ := hcut
        · have q0 := hop.at_ (i := 0) rfl
          have q1 := hop.at_ (i := 1) rfl
          have q2 := hop.at_ (i := 2) rfl
          have q3 := hop.at_ (i := 3) rfl
          obtain ⟨ds', hds', hn'⟩ : ∃ ds', ds ++ [o] = ds' ∧ ds.length + 1 = ds'.length := ⟨_, rfl, by simp⟩
          have htk : Taken u1 ds' := by rw [← hds']; exact hpb.taken.snoc HK.out HRD.out ⟨e, henc⟩
          have hea : encAll ds ++ e = encAll ds' := by rw [← hds', encAll_snoc, henc]; rfl
          have hel := enc_len o e henc HK.out
          have hln : (encAll ds').length ≤ (i + 1) * 1048584 := by rw [← hea, List.length_append]; omega
          rw [hea] at hpb
          have HDS := hide (show _ ∧ _ ∧ _ from ⟨hds', htk, hln⟩)
          have hbs := hpb.below.size
          have HPB := hide hpb
          clear hpb htk hds' hop henc hea hln hel
          go_wp2_with (at_builtin; refine wpList_append_rd _ rfl (.tmp 53) (.tmp 55) _ rfl u1.heap.size 30 i0 _ 4 48 Try.underlying22 hi0 hz0 hz1 hz2 rfl (by omega) (.slice Ad ds.length cd) ds.length _ rfl (HPB.out.dn.alloc _) (wc.heap.size + 1) (some ⟨wc.heap.size, 0, none⟩) 1 1 _ rfl (rd_four wc _ _ _ _ _) (by simp [Value.oneCell']) (by simp only [maxLen]; omega) (by omega) (by simp; omega) ?_; intro A8 c8 w8 hown8 hg8 hat8)
          have hown : w8.ownsRow u1.heap.size 30 4 (.slice A8 ds'.length c8) ds'.length (opCells ds') := by
            rw [← HDS.out.1, opCells_snoc, HDS.out.1, ← hn']
            exact hown8
          have H8 := hide ((HPB.out.over ((Below.refl _ _).alloc (Nat.le_refl _) _)).dn_call hg8 hown HDS.out.2.1)
          clear hown8 hown hg8 hat8 q0 q1 q2 q3 HPB
          go_wp2_with fail
          go_roundw
          case rel => exact ⟨i + 1, ds', A', c', A8, c8, by omega, by go_num, by omega, HDS.out.2.2, rfl, H8.out⟩
          case measure => simp [intOf]; omega
        · have HPB := hide hpb
          clear hpb hop
          go_wp2_with fail
          go_roundw
          case rel => exact ⟨i + 1, ds, A', c', Ad, cd, by omega, by go_num, by omega, Nat.le_trans hbl (Nat.mul_le_mul_right _ (Nat.le_succ i)), rfl, HPB.out⟩
          case measure => simp [intOf]; omega
    · have HST := hide hst
      clear hst
      go_wp2_with fail
      refine (penData_any HST.out.blk HST.out.pen hlen).mono ?_
      rintro e w9 ⟨A9, c9, rfl, ho9, b9⟩
      have H9 := hide (show _ ∧ _ from ⟨HST.out.over b9, ho9⟩)
      clear ho9 b9 HST
      go_wp2_with fail
      refine (newEye_any (Rd.of_own H9.out.2) hlen).mono ?_
      rintro e w4 ⟨g, A3, c3, rfl, hk3, hg3, ho3, b3⟩
      have HPB := hide (H9.out.1.over b3)
      have HEY : Hid (Ey w4.heap.size g (encAll ds) A3 0 A3 c3 w4) := hide ⟨Nat.zero_le _, hk3, Rd.of_own ho3, SubA.refl _⟩
      have HNE : Hid (∀ ad, A3 = some ad → ad.block ≠ g) := hide (fun ad e e2 => by
        subst e
        exact own_ne_blk ho3 hk3 (by decide) (by rw [← e2]; rfl))
      have HND : Hid (∀ k, (Value.slice Ad ds.length cd).ownBlock = some k → k ≠ g) := hide (fun k hk e => by have := (own_blk H9.out.1.dn k hk).2; omega)
      have HGU := hide (Nat.le_trans H9.out.1.below.size hg3)
      clear hk3 hg3 ho3 b3 H9
      go_wp2_with fail
      go_loopw [65] (fun iv wl => ∃ (i : Nat) (Ax : Option Addr) (cx : Nat), i ≤ ds.length ∧ iv = .int .i64 i ∧ Ey w4.heap.size g (encAll ds) A3 (encAll (ds.take i)).length Ax cx wl ∧ Fr w4 wl (· = g)) (fun iv _ => ds.length - (intOf iv).toNat)
      case atStart => exact ⟨0, A3, c3, by omega, rfl, HEY.out, Fr.refl _ _⟩
      case round =>
        obtain ⟨k, Ax, cx, hk, rfl, hey, hfr⟩ := hrel
        have HE := hide (show _ ∧ _ from ⟨hey, hfr⟩)
        have HBL := hide (HPB.out.below.trans (hfr.below (fun k e => by rw [e]; exact HGU.out) HPB.out.below.size))
        have HDN := hide (own_fr HPB.out.dn hfr HND.out)
        clear hey hfr
        by_cases hlt2 : k < ds.length
        · obtain ⟨ad, o, rfl, ho, hom, k0, k1, k2, k3⟩ := done_at HDN.out hlt2
          obtain ⟨hok, hrd, e, henc⟩ := HPB.out.taken.ok o hom
          have hsp := encAll_split ds k o ho
          rw [henc] at hsp
          have HK := hide hok
          have HRD := hide hrd
          have HSP := hide hsp
          have HEN := hide henc
          rw [add_1 ad k 0] at k1
          rw [add_1 ad k 1] at k2
          rw [add_1 ad k 2] at k3
          have e1 : IntKind.i64.wrap ((k : Int) + 1) = (k : Int) + 1 := IntWalk.i64_in _ (by have := HS.out.small; omega)
          have hb6 : Below wr.heap.size wr (wr.alloc (Obj.cells #[.int .i64 o.kind, .int .i64 o.size, .int .u64 (o.n : Int), .slice o.A o.l o.c] 30)) := (Below.refl _ _).alloc (Nat.le_refl _) _
          have hop := Blk.new wr 30 #[.int .i64 o.kind, .int .i64 o.size, .int .u64 (o.n : Int), .slice o.A o.l o.c]
          have q0 := hop.at_ (i := 0) rfl
          have q1 := hop.at_ (i := 1) rfl
          have hB0 := HE.out.2.size
          have HE6 := hide (show _ ∧ _ from ⟨HE.out.1.over hb6 hB0, HE.out.2.step (Fr.new hb6) (fun _ _ e => e)⟩)
          have HB6 := hide (HBL.out.trans (hb6.mono HBL.out.size))
          have HS6 := hide (Nat.le_trans hB0 hb6.size)
          have HOP := hide hop
          clear hok hrd hsp henc ho hb6 hop HE HBL HDN hB0
          rcases and1 o.kind with hk0 | hk1
          · have hbk := back_uint o e (encAll (ds.take k)) (encAll (ds.drop (k + 1))) hk0 HEN.out HK.out.n
            have hs1 : encAll ds = encAll (ds.take k) ++ (e ++ encAll (ds.drop (k + 1))) := HSP.out.1
            have hs2 : encAll (ds.take (k + 1)) = encAll (ds.take k) ++ e := HSP.out.2
            rw [← hs1, ← hs2] at hbk
            have HBK := hide hbk
            clear hbk hs1 hs2
            go_wp2_with fail
            clear k0 k1 k2 k3
            generalize wr.alloc _ = w6 at *
            have hu := ey_uint HE6.out.1 HNE.out HK.out.size
            rw [HBK.out] at hu
            refine hu.mono ?_
            rintro e w7 ⟨A7, c7, rfl, he7, hf7⟩
            have H7 := hide (show _ ∧ _ from ⟨he7, HE6.out.2.trans hf7⟩)
            have q2 := (HOP.out.fr hf7 (fun e => HOP.out.ne HE6.out.1.eye (by decide) e)).at_ (i := 2) rfl
            clear he7 hf7 q0 q1 hu
            go_wp2_with fail
            go_roundw
            case rel => exact ⟨k + 1, A7, c7, by omega, by go_num, H7.out.1, H7.out.2⟩
            case measure => simp [intOf]; omega
          · have hk0 : ¬ bits BinOp.and IntKind.i64 o.kind 1 = 0 := by omega
            have he : e = le o.l 4 ++ o.bs := by
              have h := HEN.out
              rw [encOp, if_neg hk0] at h
              injection h with h
              exact h.symm
            have hbk := back_bytes o (encAll (ds.take k)) (encAll (ds.drop (k + 1))) HK.out.len (by have := HK.out.l; omega)
            rw [← he] at hbk
            have hs1 : encAll ds = encAll (ds.take k) ++ (e ++ encAll (ds.drop (k + 1))) := HSP.out.1
            have hs2 : encAll (ds.take (k + 1)) = encAll (ds.take k) ++ e := HSP.out.2
            rw [← hs1, ← hs2] at hbk
            have HBK := hide hbk
            clear hbk hs1 hs2 he hk0
            go_wp2_with fail
            clear k0 k1 k2 k3
            generalize wr.alloc _ = w6 at *
            have hu := ey_bytes HE6.out.1 HS6.out HNE.out hlen
            rw [HBK.out] at hu
            refine hu.mono ?_
            rintro e w7 ⟨A7, c7, A8, c8, rfl, ho8, he7, hf7⟩
            have H7 := hide (show _ ∧ _ from ⟨he7, HE6.out.2.trans hf7⟩)
            have q3 := (HOP.out.fr hf7 (fun e => HOP.out.ne HE6.out.1.eye (by decide) e)).at_ (i := 3) rfl
            have s1 := run_str (P := Try.prog) 25 9 5 Try.underlying25 Try.underlying5 Try.underlying9 (Rd.of_own ho8)
            have s2 := run_str (P := Try.prog) 25 9 5 Try.underlying25 Try.underlying5 Try.underlying9 (HRD.out.below (HB6.out.trans (hf7.below (fun k e => by rw [e]; exact HGU.out) HB6.out.size)))
            clear he7 hf7 q0 q1 hu ho8
            go_wp2_with fail
            go_roundw
            case rel => exact ⟨k + 1, A7, c7, by omega, by go_num, H7.out.1, H7.out.2⟩
            case measure => simp [intOf]; omega
        · obtain rfl : k = ds.length := by omega
          have hey := HE.out.1
          rw [List.take_length] at hey
          have hu := ey_uint (size := 1) hey HNE.out (by omega)
          rw [back_end] at hu
          have HU := hide hu
          clear hu hey HE HDN
          go_wp2_with fail
          refine HU.out.mono ?_
          rintro e w7 ⟨A7, c7, rfl, he7, hf7⟩
          have kl := left_any he7.eye
          rw [Nat.sub_self] at kl
          have KL := hide kl
          have HB7 := hide (Bl HB.out (HBL.out.trans (hf7.below (fun k e => by rw [e]; exact HGU.out) HBL.out.size)))
          clear kl he7 hf7 HU HBL
          go_wp2_with fail
          refine KL.out.mono ?_
          rintro e w8 ⟨rfl, rfl⟩
          go_wp2_with fail
          go_ret
          exact ⟨rfl, HB7.out⟩

set_option maxRecDepth 100000 in
theorem lifted (os : Os) (started : os.Started) (H : Type) (enc : TypeId × Value → H) (F : Stop.Interp) :
    ReturnsInHanded {} Try.checked os 6 .any ((Rows.OpenSpec.upto Rows.packBackSpec).pre6 enc Try.prog Try.f6 Rows.packBackUptoRow.domain false) (((Rows.OpenSpec.upto Rows.packBackSpec).at F).post enc Try.prog Try.f6 false true false false) := by
  refine returnsInHanded_of_cond (C := Try.checked) (s := Rows.OpenSpec.upto Rows.packBackSpec) (k := Rows.uptoSmall) rfl own started (by kernel_rfl) Try.func6
    (OpenSpec.witness (enc := enc) (C := Try.checked) (s := Rows.OpenSpec.upto Rows.packBackSpec) (k := Rows.uptoSmall) rfl false ⟨#[], #[.slice none 0 0], []⟩ 8 (by kernel_rfl) (by kernel_rfl) (by kernel_rfl)
      (x := ([.nil], [], [])) (by kernel_rfl) rfl (by kernel_rfl)) ?_
  intro W base args ds gs before hval0 hW _ hk _
  have hval : ∀ (j : Nat) t v, Try.f6.params[j]? = some t → args[j]? = some v → Value.okWide Try.prog W .any base t v := hval0
  have hW' := hW
  obtain ⟨p, q, hA0, hV, rfl, hfz, hnd⟩ := hW
  have hA : DataW.TrodAll enc Try.prog W 0 (fun _ => true) true Try.f6.params.toList args.toList ds p := hA0
  rw [Try.params6] at hA hval
  obtain ⟨v0, vs0, d0, ds0, p0, q0, hargs, rfl, rfl, h0, r0⟩ := trodAll_cons hA
  obtain ⟨rfl, rfl, rfl⟩ := trodAll_nil r0
  obtain rfl : args = #[v0] := by cases args; simp_all
  obtain ⟨rfl, rfl⟩ := trodVars_none hV
  obtain ⟨a0, len0, cap0, rfl⟩ := okWide_slice Try.underlying22 (hval 0 22 v0 rfl rfl)
  have k0 := h0
  have lt0 : ∀ x ∈ p0, x.block < W.heap.size := by obtain ⟨m, hm⟩ := k0; exact DataW.trod_lt m _ _ _ hm
  clear hA0 hval0
  simp only [List.append_nil] at hW' hk
  obtain ⟨os0, w0⟩ : ∃ os, PW.Script W W.heap.size a0 len0 cap0 os := by
    obtain ⟨fuel, hf⟩ := k0
    exact PW.script_of (by simpa [Value.cells] using hf) (Nat.le_trans (bulks.part_le (l := [d0]) (by simp)) (bulks.bound hk))
  refine (walk W a0 len0 cap0 os0 w0).mono fun e W' ⟨he, bel⟩ => ?_
  subst he
  exact ⟨_, rfl, _, _, _, [], _, [], hW', trodAll_mk1 (shut_bool Try.underlying4 _), (trodAll_cons_mk (Below.trod laidOut (by kernel_rfl) (of_decide_eq_true (by kernel_rfl)) k0 bel lt0) trodAll_mk0), rfl, bel.frame _, fun h => by cases h⟩

theorem over : Rows.packBackUptoRow.holds Try.pinned (Rows.OpenSpec.upto Rows.packBackSpec) :=
  OpenClaim.holds_of_cond 6 Try.f6 rfl rfl rfl rfl rfl rfl rfl ⟨rfl, rfl, rfl, rfl, rfl⟩ rfl rfl rfl rfl rfl (by kernel_rfl) Try.func6 (by kernel_rfl)
    (of_decide_eq_true (by kernel_rfl)) (by unfold Func.isWrapper; first | (rw [if_pos (by decide +kernel)]; kernel_rfl) | (rw [if_neg (by decide +kernel)]; exact ⟨rfl, rfl⟩))
    (fun os started H enc _ F => lifted os started H enc F)

/-- The statement. -/
theorem proved : Rows.PackBackUptoSaid := over
#print axioms proved
end Go.Proofs.Ythfmfcgjcilagaa.packBack
