/- AchoFinds: all literals that end anywhere in any text are found, by number, or the literals are refused; they stay. Condition: the arguments hold together at most 1048576 values and letters. -/
import Derived.Test.YtameecogopnkjaaRows
import Derived.WalkKit
import Derived.ProofKit
import Derived.OpenShut
import Derived.ShutString
import Derived.ChangeOld
import Derived.Below
import Derived.Test.YtameecogopnkjaaMem
import Derived.JoinedCond
import Derived.Test.YtameecogopnkjaaBulk
import Derived.Test.YtameecogopnkjaaASpeak
import Derived.Test.YtameecogopnkjaaAOpen
import Derived.BigQuiet
import Derived.Deep.QuietTactic
namespace Go.Proofs.Ytameecogopnkjaa.achoFinds
open Go.ChangeShapes Go.WideShapes Go.ChangeAt Go.RowKit
open Go.ChangeMaps (open_string shut_string)
open Go.Proofs.Ytameecogopnkjaa.B
open Go.Proofs.Ytameecogopnkjaa.AW
open Go.Proofs.Ytameecogopnkjaa.AM (Nd)
set_option linter.unusedVariables false

theorem own : ownKnob Try.prog.godebug = none := by kernel_rfl
theorem laidOut : laidOutB Try.prog = true := by kernel_rfl
/-- The machine stays where other blocks, below its own, are written over. -/
theorem mach_stays {u0 u w w' : World} {g cn base N : Nat} {ns : List Nd} {An : Option Addr} (h : Mach u g ns An cn w) (hf : Fr w w' (fun k => base ≤ k ∧ k < N)) (hN : N ≤ u.heap.size) (h0 : u0.heap.size ≤ base) (hu : u0.heap.size ≤ u.heap.size) (hb : Below u0.heap.size u0 w) : Mach u0 g ns An cn w' := by
  refine Mach.fr (S := fun k => base ≤ k ∧ k < N) (w := w) ⟨h.blk, Nat.le_trans hu h.ge, own_lower h.row hu, fun i nd hi => own_lower (h.pre i nd hi) hu, fun i nd hi => own_lower (h.hit i nd hi) hu, h.apart, hb⟩ hf ?_ ?_ ?_ ?_ (fun k hk => Nat.le_trans h0 hk.1)
  · exact fun e => by have := h.ge; omega
  · exact fun k hk e => by have := (own_block h.row k hk).1; omega
  · exact fun i nd k hi hk e => by have := (own_block (h.pre i nd hi) k hk).1; omega
  · exact fun i nd k hi hk e => by have := (own_block (h.hit i nd hi) k hk).1; omega
def Gate (len0 len1 : Nat) (Ls : List AM.T) (u : World) (s : Value) (wx : World) : Prop := ∃ b : Bool, s = .bool b ∧ u = wx ∧ (b = false → len1 ≤ 100 ∧ len0 ≤ 1000 ∧ (checkNo Ls = 0 → gsum Ls ≤ 300))
theorem gate_true {len0 len1 : Nat} {Ls : List AM.T} {u : World} : Gate len0 len1 Ls u (.bool true) u := ⟨true, rfl, rfl, fun h => by cases h⟩
theorem check_ge (Ls : List AM.T) : (checkNo Ls = 0) ∨ (0 : Int) < (checkNo Ls : Int) := by omega

set_option maxRecDepth 10000 in
set_option maxHeartbeats 1000000 in
theorem walk (w : World) (a0 : Option Addr) (len0 cap0 : Nat) (Ls0 : List AM.T) (w0 : AW.Texts w w.heap.size a0 len0 cap0 Ls0) (s0 : len0 ≤ 1048576 ∧ ∀ l ∈ Ls0, l.length ≤ 1048576) (a1 : Option Addr) (len1 cap1 : Nat) (z1 : List Int) (w1 : IsRow .u8 w a1 len1 cap1 z1) (s1 : len1 ≤ 1048576) :
    Calls Try.prog 3 #[.slice a0 len0 cap0, .slice a1 len1 cap1] w fun e w' => e = .returned (.bool true) ∧ Below w.heap.size w w' := by
  obtain ⟨i0, hi0, hz0, hz1, hz2⟩ := info_parts info_u8
  obtain ⟨t, ht⟩ := rd_of_row w1
  have HT := hide w0
  have HR := hide ht
  have HS := hide s0
  clear w0 w1 ht s0
  go_enter Try.func3, Try.ntmps3
  go_wp2_with fail
  refine (speaks_any _).mono ?_
  rintro e u1 ⟨rfl, b1⟩
  have HT1 := hide (HT.out.over b1)
  have HR1 := hide (HR.out.over b1)
  have HB := hide b1
  clear b1 HT HR
  go_upto_region 3 with fail
  go_cut [28] (fun s wx => Gate len0 len1 Ls0 u1 s wx)
  case first =>
    go_wp2_with fail
    refine (great_any HT1.out).mono ?_
    rintro e u2 ⟨g, rfl, rfl, hgr⟩
    have HGR := hide hgr
    clear hgr
    have fin : ∀ (h : checkNo Ls0 = 0 → gsum Ls0 ≤ 300), len1 ≤ 100 → len0 ≤ 1000 → Gate len0 len1 Ls0 u1 (.bool false) u1 := fun h h1 h2 => ⟨false, rfl, rfl, fun _ => ⟨h1, h2, h⟩⟩
    have FIN := hide fin
    clear fin
    cases g
    · have HG : Hid (checkNo Ls0 = 0 → gsum Ls0 ≤ 300) := hide (fun h => (HGR.out rfl).elim id (fun ⟨l, h1, h2⟩ => absurd ((checkNo_0 h).2.2.1 l h1) (by omega)))
      by_cases c1 : 100 < len1
      · have c1i : (100 : Int) < (len1 : Int) := by omega
        go_wp2_with fail
        go_meet
        exact gate_true
      · have c1i : decide ((100 : Int) < (len1 : Int)) = false := decide_eq_false (by omega)
        by_cases c2 : 1000 < len0
        · have c2i : (1000 : Int) < (len0 : Int) := by omega
          go_wp2_with fail
          go_meet
          exact gate_true
        · have c2i : decide ((1000 : Int) < (len0 : Int)) = false := decide_eq_false (by omega)
          go_wp2_with fail
          go_meet
          exact FIN.out HG.out (by omega) (by omega)
    · have hck := check_any HT1.out
      have HCK := hide hck
      clear hck
      go_wp2_with fail
      refine HCK.out.mono ?_
      rintro e u2 ⟨rfl, rfl⟩
      by_cases hc : checkNo Ls0 = 0
      · rw [hc]
        go_wp2_with fail
        go_meet
        exact gate_true
      · have HG : Hid (checkNo Ls0 = 0 → gsum Ls0 ≤ 300) := hide (fun h => absurd h hc)
        obtain ⟨N, hcn⟩ : ∃ N, checkNo Ls0 = N := ⟨_, rfl⟩
        rw [hcn] at hc ⊢
        have hci : ((N : Int) == 0) = false := beq_eq_false_iff_ne.2 (by omega)
        clear hcn hc HCK
        by_cases c1 : 100 < len1
        · have c1i : (100 : Int) < (len1 : Int) := by omega
          go_wp2_with fail
          go_meet
          exact gate_true
        · have c1i : decide ((100 : Int) < (len1 : Int)) = false := decide_eq_false (by omega)
          by_cases c2 : 1000 < len0
          · have c2i : (1000 : Int) < (len0 : Int) := by omega
            go_wp2_with fail
            go_meet
            exact gate_true
          · have c2i : decide ((1000 : Int) < (len0 : Int)) = false := decide_eq_false (by omega)
            go_wp2_with fail
            go_meet
            exact FIN.out HG.out (by omega) (by omega)
  case rest =>
    obtain ⟨b, rfl, rfl, hb⟩ := hcut
    cases b
    · obtain ⟨hl1, hl0, hg⟩ := hb rfl
      have HG := hide hg
      have HCP := hide (copy_any HT1.out HS.out.2 HS.out.1)
      clear hg hb
      go_wp2_with fail
      refine HCP.out.mono ?_
      rintro e u2 ⟨A2, c2, vs, rfl, ho2, hb2⟩
      have hr2 := (HR1.out.below hb2).alloc (w := u2) hb2.size (.cells #[] 5)
      have H2 := hide (show _ ∧ _ ∧ _ from ⟨ho2, hb2, hr2⟩)
      have HR8 := hide HR1.out
      clear ho2 hb2 hr2 HCP HR1
      go_wp2_with (at_builtin; refine wpList_append_rd _ rfl (.tmp 31) (.tmp 32) _ rfl u2.heap.size 5 i0 _ 1 1 Try.underlying23 hi0 hz0 hz1 hz2 rfl (by omega) (.slice (some ⟨u2.heap.size, 0, none⟩) 0 0) 0 (u8s []) rfl (own_empty u2 _) u1.heap.size a1 len1 cap1 (u8s t) rfl H2.out.2.2 (u8s_one _) (by simp only [maxLen]; omega) (by omega) (by simp) ?_; intro A3 c3 w3 hown3 hg3 hat3; have H3 := hide (app_lit hown3 hg3); clear hown3 hg3 hat3)
      have ho3 := H2.out.1.over H3.out.2
      have hN := new_any ho3.texts
      have HN := hide hN
      have HO3 := hide ho3
      clear hN ho3
      have hT3 := HT1.out.over (Bl H2.out.2.1 H3.out.2)
      have HT3 := hide hT3
      have HB3 := hide (Bl HB.out (Bl H2.out.2.1 H3.out.2))
      have HB1 := hide HB.out
      clear hT3 HB
      refine HN.out.mono ?_
      rintro e u5 (⟨hc, rfl, rfl⟩ | ⟨hc, g, ns, ad, cn, rfl, hM, hG, hnl⟩)
      · have hck := check_any HT3.out
        have hst := sameTexts_any HO3.out.texts HT3.out
        rw [decide_eq_true rfl] at hst
        obtain ⟨N, hcn⟩ : ∃ N, checkNo Ls0 = N := ⟨_, rfl⟩
        rw [hcn] at hc hck ⊢
        have hci : ((N : Int) == 0) = false := beq_eq_false_iff_ne.2 (by omega)
        have hcj : ((N : Int) != 0) = true := by rw [bne, hci]; rfl
        have HCK := hide hck
        have HST := hide hst
        clear hck hst HN hcn
        go_wp2_with fail
        refine HCK.out.mono ?_
        rintro e u6 ⟨rfl, rfl⟩
        go_wp2_with fail
        refine HST.out.mono ?_
        rintro e u7 ⟨rfl, hd⟩
        have HB7 := hide (Bl HB3.out hd.below)
        clear hd
        go_wp2_with fail
        go_ret
        exact ⟨rfl, HB7.out⟩
      · have hm5 := hM.below
        have hT5 := HT3.out.over hm5
        have hO5 := HO3.out.over hm5
        have hck := check_any hT5
        rw [hc] at hck
        have hst := sameTexts_any hO5.texts hT5
        rw [decide_eq_true rfl] at hst
        have HCK := hide hck
        have HST := hide hst
        have HX := hide (show _ ∧ _ ∧ _ ∧ _ ∧ _ from ⟨hM, hG, hT5, hO5, hc⟩)
        clear hm5 hT5 hO5 hck hst hM hG hc HN
        go_wp2_with fail
        refine HCK.out.mono ?_
        rintro e u6 ⟨rfl, rfl⟩
        go_wp2_with fail
        refine HST.out.mono ?_
        rintro e u7 ⟨rfl, hd⟩
        have h57 := hd.below
        have h37 : Below w3.heap.size w3 u7 := Bl HX.out.1.below h57
        have h27 : Below u2.heap.size u2 u7 := Bl H3.out.2 h37
        have h17 : Below u1.heap.size u1 u7 := Bl H2.out.2.1 h27
        have hsp := spoil_any (H2.out.1.wr.over h27)
        have HSP := hide hsp
        have HBS := hide (show _ ∧ _ ∧ _ ∧ _ from ⟨h57, h37, h27, h17⟩)
        clear hsp h57 h37 h27 h17 hd HCK HST
        go_wp2_with fail
        refine HSP.out.mono ?_
        rintro e w8 ⟨rfl, hf⟩
        have HF := hide hf
        have hgs := HG.out HX.out.2.2.2.2
        have hcs := checkNo_0 HX.out.2.2.2.2
        have hll : Ls0.length ≤ 300 := by omega
        have hz23 : u2.heap.size ≤ w3.heap.size := H3.out.2.size
        have hz12 : u1.heap.size ≤ u2.heap.size := H2.out.2.1.size
        have hz17 : u1.heap.size ≤ u7.heap.size := HBS.out.2.2.2.size
        have hz27 : u2.heap.size ≤ u7.heap.size := HBS.out.2.2.1.size
        have hb8 : Below u1.heap.size u7 w8 := hf.below (fun k hk => hk.1) hz17
        have hm8 := mach_stays (u0 := u1) (HX.out.1.over HBS.out.1) hf hz23 (Nat.le_refl _) (by omega) HBS.out.2.2.2
        have ht8 := own_fr (own_over (own_over H3.out.1 HX.out.1.below) HBS.out.1) hf (fun k hk e => by have := (own_block H3.out.1 k hk).1; omega)
        have hT8 := (HT1.out.below (HBS.out.2.2.2.trans hb8)).more (Nat.le_trans hz17 hf.size)
        have hR8 := HR8.out.below (HBS.out.2.2.2.trans hb8)
        have hsc := scan_any hm8 HX.out.2.1 (Rd.of_own ht8) (by omega) hll
        have HSC := hide hsc
        have HY := hide (show _ ∧ _ ∧ _ ∧ _ ∧ _ from ⟨hm8, ht8, hT8, hR8.more (Nat.le_trans hz17 hf.size), Bl HB1.out (HBS.out.2.2.2.trans hb8)⟩)
        have HL := hide hcs
        clear hf hgs hz23 hz12 hz17 hz27 hb8 hm8 ht8 hT8 hR8 hsc hcs HSP
        go_wp2_with fail
        refine HSC.out.mono ?_
        rintro e w9 ⟨A9, c9, rfl, ho9, hb9⟩
        have HO9 := hide ho9
        have HB9 := hide hb9
        clear ho9 hb9
        have hT9 := HY.out.2.2.1.over HB9.out
        have hR9 := HY.out.2.2.2.1.over HB9.out
        have htl := hR9.length8
        have hrs := refScan_any hT9 hR9 (by have := hT9.count; omega) (by omega)
        rw [refTo_scan _ _ HL.out.2.1, htl] at hrs
        have HRS := hide hrs
        clear hrs hT9 hR9 htl
        go_wp2_with fail
        refine HRS.out.mono ?_
        rintro e w10 ⟨A10, c10, rfl, ho10, hb10⟩
        have hsm := same_any (Rd.of_own (own_over HO9.out hb10)) (Rd.of_own ho10)
        rw [decide_eq_true rfl] at hsm
        have HSM := hide hsm
        have HB10 := hide (Bl HB9.out hb10)
        clear hsm ho10 hb10 HRS
        go_wp2_with fail
        refine HSM.out.mono ?_
        rintro e w11 ⟨rfl, hd⟩
        have hb11 := Bl HB10.out hd.below
        have hss := states_any (HY.out.1.over hb11)
        have hrs := refStates_any (HY.out.2.2.1.over hb11) HL.out.2.2.2 HX.out.2.1.pres
        rw [List.length_map] at hrs
        have HSS := hide hss
        have HRS := hide hrs
        have HB11 := hide hb11
        clear hss hrs hb11 hd HSM
        go_wp2_with fail
        refine HSS.out.mono ?_
        rintro e w12 ⟨rfl, rfl⟩
        go_wp2_with fail
        refine HRS.out.mono ?_
        rintro e w13 ⟨rfl, hd⟩
        have hb13 := Bl HB11.out hd.below
        have s1 := run_str (P := Try.prog) 23 9 5 Try.underlying23 Try.underlying5 Try.underlying9 (Rd.of_own (own_over HY.out.2.1 hb13))
        have s2 := run_str (P := Try.prog) 23 9 5 Try.underlying23 Try.underlying5 Try.underlying9 (HY.out.2.2.2.1.over hb13)
        have HE := hide (Bl HY.out.2.2.2.2 hb13)
        clear hb13 hd HRS HSS
        go_wp2_with fail
        go_ret
        exact ⟨by first | rfl | simp, HE.out⟩
    · go_wp2_with fail
      go_ret
      exact ⟨rfl, HB.out⟩

set_option maxRecDepth 100000 in
theorem lifted (os : Os) (started : os.Started) (H : Type) (enc : TypeId × Value → H) (F : Stop.Interp) :
    ReturnsInHanded {} Try.checked os 3 .any ((Rows.OpenSpec.upto Rows.achoFindsSpec).pre6 enc Try.prog Try.f3 Rows.achoFindsUptoRow.domain false) (((Rows.OpenSpec.upto Rows.achoFindsSpec).at F).post enc Try.prog Try.f3 false true false false) := by
  refine returnsInHanded_of_cond (C := Try.checked) (s := Rows.OpenSpec.upto Rows.achoFindsSpec) (k := Rows.uptoSmall) rfl own started (by kernel_rfl) Try.func3
    (OpenSpec.witness (enc := enc) (C := Try.checked) (s := Rows.OpenSpec.upto Rows.achoFindsSpec) (k := Rows.uptoSmall) rfl false ⟨#[], #[.slice none 0 0, .slice none 0 0], []⟩ 8 (by kernel_rfl) (by kernel_rfl) (by kernel_rfl)
      (x := ([.nil, .nil], [], [])) (by kernel_rfl) rfl (by kernel_rfl)) ?_
  intro W base args ds gs before hval0 hW _ hk _
  have hval : ∀ (j : Nat) t v, Try.f3.params[j]? = some t → args[j]? = some v → Value.okWide Try.prog W .any base t v := hval0
  have hW' := hW
  obtain ⟨p, q, hA0, hV, rfl, hfz, hnd⟩ := hW
  have hA : DataW.TrodAll enc Try.prog W 0 (fun _ => true) true Try.f3.params.toList args.toList ds p := hA0
  rw [Try.params3] at hA hval
  obtain ⟨v0, vs0, d0, ds0, p0, q0, hargs, rfl, rfl, h0, r0⟩ := trodAll_cons hA
  obtain ⟨v1, vs1, d1, ds1, p1, q1, rfl, rfl, rfl, h1, r1⟩ := trodAll_cons r0
  obtain ⟨rfl, rfl, rfl⟩ := trodAll_nil r1
  obtain rfl : args = #[v0, v1] := by cases args; simp_all
  obtain ⟨rfl, rfl⟩ := trodVars_none hV
  obtain ⟨a0, len0, cap0, rfl⟩ := okWide_slice Try.underlying22 (hval 0 22 v0 rfl rfl)
  have k0 := h0
  have lt0 : ∀ x ∈ p0, x.block < W.heap.size := by obtain ⟨m, hm⟩ := k0; exact DataW.trod_lt m _ _ _ hm
  obtain ⟨a1, len1, cap1, rfl⟩ := okWide_slice Try.underlying23 (hval 1 23 v1 rfl rfl)
  have k1 := h1
  have lt1 : ∀ x ∈ p1, x.block < W.heap.size := by obtain ⟨m, hm⟩ := k1; exact DataW.trod_lt m _ _ _ hm
  obtain ⟨z1, w1, b1⟩ : ∃ zs, IsRow .u8 W a1 len1 cap1 zs ∧ len1 ≤ Rows.uptoBulk d1 := by
    obtain ⟨fuel, hf⟩ := h1
    rcases open_ints Try.underlying23 Try.underlying5 (by kernel_rfl) hf with ⟨hcs, hx⟩ | ⟨x, l, c, zs, hcs, _, hl, hm, hz, hx, hcell, hwz⟩
    · simp [Value.cells] at hcs
      obtain ⟨rfl, rfl, rfl⟩ := hcs
      exact ⟨[], .inl ⟨rfl, rfl, rfl, rfl⟩, Nat.zero_le _⟩
    · simp [Value.cells] at hcs
      obtain ⟨rfl, rfl, rfl⟩ := hcs
      exact ⟨zs, .inr ⟨_, rfl, hl, hm, by simpa using hz, hcell, hwz⟩, bulks.ints_le (congrArg Prod.fst hx) (by simp at hz; omega)⟩
  clear hA0 hval0
  simp only [List.append_nil] at hW' hk
  obtain ⟨Ls0, w0, s0⟩ : ∃ Ls, AW.Texts W W.heap.size a0 len0 cap0 Ls ∧ (Rows.uptoBulk d0 ≤ 1048576 → len0 ≤ 1048576 ∧ ∀ l ∈ Ls, l.length ≤ 1048576) := by
    obtain ⟨fuel, hf⟩ := k0
    exact AW.texts_of (by simpa [Value.cells] using hf)
  refine (walk W a0 len0 cap0 Ls0 w0 (s0 (Nat.le_trans (bulks.part_le (l := [d0, d1]) (by simp)) (bulks.bound hk))) a1 len1 cap1 z1 w1 (Nat.le_trans b1 (Nat.le_trans (bulks.part_le (l := [d0, d1]) (by simp)) (bulks.bound hk)))).mono fun e W' ⟨he, bel⟩ => ?_
  subst he
  exact ⟨_, rfl, _, _, _, [], _, [], hW', trodAll_mk1 (shut_bool Try.underlying4 _), (trodAll_cons_mk (Below.trod laidOut (by kernel_rfl) (of_decide_eq_true (by kernel_rfl)) k0 bel lt0) (trodAll_cons_mk (Below.trod laidOut (by kernel_rfl) (of_decide_eq_true (by kernel_rfl)) k1 bel lt1) trodAll_mk0)), rfl, bel.frame _, fun h => by cases h⟩

theorem over : Rows.achoFindsUptoRow.holds Try.pinned (Rows.OpenSpec.upto Rows.achoFindsSpec) :=
  OpenClaim.holds_of_cond 3 Try.f3 rfl rfl rfl rfl rfl rfl rfl ⟨rfl, rfl, rfl, rfl, rfl⟩ rfl rfl rfl rfl rfl (by kernel_rfl) Try.func3 (by kernel_rfl)
    (of_decide_eq_true (by kernel_rfl)) (by unfold Func.isWrapper; first | (rw [if_pos (by decide +kernel)]; kernel_rfl) | (rw [if_neg (by decide +kernel)]; exact ⟨rfl, rfl⟩))
    (fun os started H enc _ F => lifted os started H enc F)

/-- The statement. -/
theorem proved : Rows.AchoFindsUptoSaid := over
#print axioms proved
end Go.Proofs.Ytameecogopnkjaa.achoFinds
