/- LanesLoads: eight bytes of any text, at any place, are loaded exactly, and stored again; the text stays. No condition: for every text and every number the law answers true, and nothing that was there is changed. -/
import Derived.Test.YtbacbjnbfbdjdaaRows
import Derived.WalkKit
import Derived.ProofKit
import Derived.OpenShut
import Derived.ShutString
import Derived.ChangeOld
import Derived.Below
import Derived.Test.YtbacbjnbfbdjdaaMem
import Derived.Test.YtbacbjnbfbdjdaaLLoad
import Derived.BigQuiet
import Derived.Deep.QuietTactic
namespace Go.Proofs.Ytbacbjnbfbdjdaa.lanesLoads
open Go.ChangeShapes Go.WideShapes Go.ChangeAt Go.RowKit
open Go.ChangeMaps (open_string shut_string)
open Go.Proofs.Ytbacbjnbfbdjdaa.B
open Go.Proofs.Ytbacbjnbfbdjdaa.LM Go.Proofs.Ytbacbjnbfbdjdaa.LW
set_option linter.unusedVariables false

theorem own : ownKnob Try.prog.godebug = none := by kernel_rfl
theorem laidOut : laidOutB Try.prog = true := by kernel_rfl
theorem info_u8 : (Try.prog.info? 5).map (fun i => (i.zero, i.size, i.bytes)) = some (some (.int .u8 0), 1, 1) := by kernel_rfl
attribute [local go_sem] arr8 setCell_drewN

theorem walk (w : World) (a0 : Option Addr) (len0 cap0 : Nat) (z0 : List Int) (w0 : IsRow .u8 w a0 len0 cap0 z0) (a1 : Int) (w1 : (Lit.int .i64 a1).wf = true) :
    Calls Try.prog 5 #[.slice a0 len0 cap0, .int .i64 a1] w fun e w' => e = .returned (.bool true) ∧ Below w.heap.size w w' := by
  have i1 : -9223372036854775808 ≤ a1 ∧ a1 ≤ 9223372036854775807 := by simpa [Lit.wf, IntKind.min, IntKind.max, IntKind.signed, IntKind.bits] using w1
  obtain ⟨i1a, i1b⟩ := i1
  obtain ⟨bs, hrd⟩ := rd_of_row w0
  clear w0 w1
  by_cases c : 200 < (len0 : Int)
  · go_enter Try.func5, Try.ntmps5
    go_wp2_with fail
    refine (speaks_any _).mono ?_
    rintro e u1 ⟨rfl, b1⟩
    go_wp2_with fail
    go_ret
    exact ⟨rfl, b1⟩
  · obtain ⟨i0, hi0, hz0, hz1, hz2⟩ := info_parts info_u8
    go_enter Try.func5, Try.ntmps5
    go_wp2_with fail
    refine (speaks_any _).mono ?_
    rintro e u1 ⟨rfl, b1⟩
    have hr1 := (hrd.over b1).alloc (Nat.le_refl _) (.cells #[] 5)
    have ho1 : (u1.alloc (.cells #[] 5)).ownsRow u1.heap.size 5 1 (.slice (some ⟨u1.heap.size, 0, none⟩) 0 0) 0 [] := World.ownsRow_lit u1 #[] 0 (Nat.le_refl _) (by simp [maxLen]) rfl
    have HR1 := hide hr1
    have HO1 := hide ho1
    clear hr1 ho1
    go_wp2_with (at_builtin; refine wpList_append_rd _ rfl (.tmp 15) (.tmp 16) _ rfl u1.heap.size 5 i0 _ 1 1 Try.underlying29 hi0 hz0 hz1 hz2 rfl (by omega) (.slice (some ⟨u1.heap.size, 0, none⟩) 0 0) 0 [] rfl HO1.out u1.heap.size a0 len0 cap0 (u8s bs) rfl HR1.out (u8s_one _) (by simp only [maxLen]; omega) (by omega) (by simp) ?_; intro A1 c1 w1 hown1 hg1 hat1)
    have hb1 : Below w.heap.size w w1 := (b1.alloc b1.size _).trans (below_grown HO1.out hg1 b1.size (by have := b1.size; simp; omega))
    simp only [Nat.zero_add, List.nil_append] at hown1
    have hr1 := Rd.of_own hown1
    clear hown1 hg1 hat1 HO1 HR1 hi0 hz0 hz1 hz2 b1
    refine (load_rd hr1 a1 i1a i1b).mono ?_
    rintro e u ⟨rfl, rfl⟩
    go_wp2_with fail
    refine (store_any _ _).mono ?_
    rintro e w2 ⟨rfl, b2⟩
    have hr2 := hr1.over b2
    have hb2 := Bl hb1 b2
    clear hr1 hb1 b2
    go_wp2_with fail
    refine (refLanes_any _ _).mono ?_
    rintro e w3 ⟨rfl, b3⟩
    have hc7 : ∀ j, j < 8 → w3.cell? ⟨w2.heap.size, j, none⟩ = some (.int .u8 (lane (loadW bs a1) j : Int)) := fun j hj => by
      rw [b3.cell (by simp), World.cell?_alloc_new]
      exact cellsOf_at .u8 8 (fun j => (lane (loadW bs a1) j : Int)) j hj
    have hlt7 : w2.heap.size < w3.heap.size := by have := b3.size; simp at this; omega
    have hr3 := (hr2.alloc (Nat.le_refl _) _).below (b3.mono (by simp))
    have hb3 : Below w.heap.size w w3 := (hb2.alloc hb2.size _).trans (b3.mono (by have := hb2.size; simp; omega))
    have H7 := hide hc7
    clear hc7 hr2 hb2 b3
    go_wp2_with fail
    go_loopw [25] (fun i wr => ∃ k n : Nat, k ≤ 8 ∧ i = .int .i64 k ∧ wr = (w3.alloc (.cells (cellsOf .i64 8 (fun j => (lane (loadW bs a1) j : Int))) 33)).drewN n) (fun i _ => 8 - (intOf i).toNat)
    case atStart => exact ⟨0, 0, by omega, rfl, rfl⟩
    case round =>
      obtain ⟨k, n, hk, rfl, rfl⟩ := hrel
      by_cases hlt : k < 8
      · have hc8 := cellsOf_at .i64 8 (fun j => (lane (loadW bs a1) j : Int)) k hlt
        have hc7 := H7.out k hlt
        have hl := lane_lt (loadW bs a1) k
        go_wp2_with fail
        go_quiet (fail)
        go_wp2_with fail
        go_roundw
        case rel => exact ⟨k + 1, _, by omega, by go_num, rfl⟩
        case measure => simp [intOf]; omega
      · obtain rfl : k = 8 := by omega
        have hr4 := ((hr3.more (Nat.le_of_lt hlt7)).alloc (Nat.le_refl _) (.cells (cellsOf .i64 8 (fun j => (lane (loadW bs a1) j : Int))) 33)).drewN n
        have hb4 : Below w.heap.size w ((w3.alloc (.cells (cellsOf .i64 8 (fun j => (lane (loadW bs a1) j : Int))) 33)).drewN n) := Bl_drewN (hb3.alloc hb3.size _) n
        have ht4 := hrd.over hb4
        have HR4 := hide hr4
        have HB4 := hide hb4
        have HT4 := hide ht4
        clear hr3 hrd hr4 ht4 hb4 hb3 H7
        go_wp2_with fail
        refine (refLoad_rd HT4.out (by omega) a1 i1a i1b).mono ?_
        rintro e w5 ⟨rfl, b5⟩
        have hb5 := hide (Bl HB4.out b5)
        have hs1 := run_str (P := Try.prog) 29 9 5 Try.underlying29 Try.underlying5 Try.underlying9 (HR4.out.below (b5.mono (by simp)))
        have hs2 := run_str (P := Try.prog) 29 9 5 Try.underlying29 Try.underlying5 Try.underlying9 (HT4.out.below b5)
        clear b5 HR4 HB4 HT4
        go_wp2_with fail
        go_ret
        exact ⟨rfl, hb5.out⟩

set_option maxRecDepth 100000 in
theorem lifted (os : Os) (started : os.Started) (H : Type) (enc : TypeId × Value → H) :
    ReturnsInHanded {} Try.checked os 5 .any (Rows.lanesLoadsSpec.pre6 enc Try.prog Try.f5 Rows.lanesLoadsRow.domain false) (Rows.lanesLoadsSpec.post enc Try.prog Try.f5 false true false false) := by
  refine returnsInHanded_of_change (C := Try.checked) own started (by kernel_rfl) Try.func5
    (ChangeSpec.witness6 (enc := enc) (C := Try.checked) false ⟨#[], #[.slice none 0 0, .int .i64 0], []⟩ 8 (by kernel_rfl) (by kernel_rfl) (by kernel_rfl) (by kernel_rfl)) ?_
  intro W base args ds gs before hval0 hW hcnd _
  have hval : ∀ (j : Nat) t v, Try.f5.params[j]? = some t → args[j]? = some v → Value.okWide Try.prog W .any base t v := hval0
  have hW' := hW
  obtain ⟨p, q, hA0, hV, rfl, hfz, hnd⟩ := hW
  have hA : DataW.TrodAll enc Try.prog W 0 (fun _ => true) true Try.f5.params.toList args.toList ds p := hA0
  rw [Try.params5] at hA hval
  obtain ⟨v0, vs0, d0, ds0, p0, q0, hargs, rfl, rfl, h0, r0⟩ := trodAll_cons hA
  obtain ⟨v1, vs1, d1, ds1, p1, q1, rfl, rfl, rfl, h1, r1⟩ := trodAll_cons r0
  obtain ⟨rfl, rfl, rfl⟩ := trodAll_nil r1
  obtain rfl : args = #[v0, v1] := by cases args; simp_all
  obtain ⟨rfl, rfl⟩ := trodVars_none hV
  obtain ⟨a0, len0, cap0, rfl⟩ := okWide_slice Try.underlying29 (hval 0 29 v0 rfl rfl)
  have k0 := h0
  have lt0 : ∀ x ∈ p0, x.block < W.heap.size := by obtain ⟨m, hm⟩ := k0; exact DataW.trod_lt m _ _ _ hm
  obtain ⟨z0, w0⟩ : ∃ zs, IsRow .u8 W a0 len0 cap0 zs := by
    obtain ⟨fuel, hf⟩ := h0
    rcases open_ints Try.underlying29 Try.underlying5 (by kernel_rfl) hf with ⟨hcs, _⟩ | ⟨x, l, c, zs, hcs, _, hl, hm, hz, _, hcell, hwz⟩
    · simp [Value.cells] at hcs
      obtain ⟨rfl, rfl, rfl⟩ := hcs
      exact ⟨[], .inl ⟨rfl, rfl, rfl, rfl⟩⟩
    · simp [Value.cells] at hcs
      obtain ⟨rfl, rfl, rfl⟩ := hcs
      exact ⟨zs, .inr ⟨_, rfl, hl, hm, by simpa using hz, hcell, hwz⟩⟩
  obtain ⟨a1, rfl, rfl, rfl, w1⟩ := open_int Try.underlying3 (hval 1 3 v1 rfl rfl) h1
  clear hA0 hval0
  refine (walk W a0 len0 cap0 z0 w0 a1 w1).mono fun e W' ⟨he, bel⟩ => ?_
  subst he
  exact ⟨_, rfl, _, _, _, [], _, [], hW', trodAll_mk1 (shut_bool Try.underlying4 _), (trodAll_cons_mk (Below.trod laidOut (by kernel_rfl) (of_decide_eq_true (by kernel_rfl)) k0 bel lt0) (trodAll_cons_mk (shut_int Try.underlying3 w1) trodAll_mk0)), rfl, bel.frame _, fun h => by cases h⟩

theorem over : Rows.lanesLoadsRow.holds Try.pinned (OpenSpec.ofChange Rows.lanesLoadsSpec) :=
  OpenClaim.holds_of_wide 5 Try.f5 rfl rfl rfl rfl rfl rfl rfl ⟨rfl, rfl, rfl, rfl, rfl⟩ rfl rfl rfl rfl rfl (by kernel_rfl) Try.func5 (by kernel_rfl)
    (of_decide_eq_true (by kernel_rfl)) (by unfold Func.isWrapper; first | (rw [if_pos (by decide +kernel)]; kernel_rfl) | (rw [if_neg (by decide +kernel)]; exact ⟨rfl, rfl⟩))
    (fun os started H enc _ => lifted os started H enc)

/-- The statement. -/
theorem proved : Rows.LanesLoadsSaid := over
#print axioms proved
end Go.Proofs.Ytbacbjnbfbdjdaa.lanesLoads
