/- The walks of acho's machine in use: its states, their texts, numbers and ways. -/
import Derived.Test.YtameecogopnkjaaANew
namespace Go.Proofs.Ytameecogopnkjaa.AW
open Go.ChangeShapes Go.WideShapes Go.ChangeAt Go.RowKit
open Go.Proofs.Ytameecogopnkjaa.B Go.Proofs.Ytameecogopnkjaa.AM
set_option linter.unusedVariables false

theorem cloneInts_own {w : World} {base c : Nat} {A : Option Addr} {ks : List Nat} (h : w.ownsRow base 3 1 (.slice A ks.length c) ks.length (ints ks)) (hl : ks.length ≤ 100000) :
    Calls Try.prog 32 #[.slice A ks.length c] w fun e w' => ∃ A' c', e = .returned (.slice A' ks.length c') ∧ w'.ownsRow w.heap.size 3 1 (.slice A' ks.length c') ks.length (ints ks) ∧ Below w.heap.size w w' := by
  rcases h.2 with ⟨h1, h2⟩ | ⟨g, cap, cur, h1, hb, hh, h3, h4, h5, h6⟩
  · have hk : ks = [] := List.eq_nil_of_length_eq_zero h2
    subst hk
    injection h1 with h1 _ h1'
    subst h1; subst h1'
    refine (Try.slices_Clone_int_nil 0 0 w).mono ?_
    rintro e w' ⟨rfl, rfl⟩
    exact ⟨none, 0, rfl, World.ownsRow_nil _ _ _ _, Below.refl _ _⟩
  · injection h1 with h1 _ h1'
    subst h1; subst h1'
    have hzl : (ks.map fun (k : Nat) => (k : Int)).length = ks.length := List.length_map ..
    have hc := Try.slices_Clone_int g 0 ks.length c (ks.map fun (k : Nat) => (k : Int)) w (by omega) (by omega) (fun j hj => by
      have hj' : j < ks.length := by omega
      have h7 := (own_cell h j (.int .i64 ((ks.map fun (k : Nat) => (k : Int)).getD j 0)) (by rw [ints, List.getElem?_map]; simp [hj'])).1
      rw [add_lit] at h7
      exact h7)
    refine hc.mono ?_
    rintro e w' ⟨v', rfl, ho, _, hbel⟩
    obtain ⟨A', c', rfl⟩ := own_form ho
    have he : ((ks.map fun (k : Nat) => (k : Int)).take ks.length).map (Value.int .i64) = ints ks := by
      rw [List.take_of_length_le (by omega), List.map_map]; rfl
    rw [he] at ho
    exact ⟨A', c', rfl, ho, hbel⟩

section
variable {u w : World} {g cn : Nat} {ns : List Nd} {ad : Addr}
theorem states_any (h : Mach u g ns (some ad) cn w) : Calls Try.prog 17 #[.pointer (some ⟨g, 0, none⟩)] w fun e w' => e = .returned (.int .i64 (ns.length : Int)) ∧ w = w' := by
  have hc0 := h.blk.at_ (i := 0) rfl
  clear h
  go_enter Try.func17, Try.ntmps17
  go_wp2_with fail
  go_ret
  exact ⟨rfl, rfl⟩
theorem has_in (h : Mach u g ns (some ad) cn w) {s : Nat} (hs : s < ns.length) : Calls Try.prog 30 #[.pointer (some ⟨g, 0, none⟩), .int .i64 (s : Int)] w fun e w' => e = .returned (.bool true) ∧ w = w' := by
  have hc0 := h.blk.at_ (i := 0) rfl
  clear h
  go_enter Try.func30, Try.ntmps30
  go_wp2_with fail
  go_ret
  exact ⟨rfl, rfl⟩
theorem has_out (h : Mach u g ns (some ad) cn w) {s : Int} (hs : s < 0 ∨ (ns.length : Int) ≤ s) : Calls Try.prog 30 #[.pointer (some ⟨g, 0, none⟩), .int .i64 s] w fun e w' => e = .returned (.bool false) ∧ w = w' := by
  have hc0 := h.blk.at_ (i := 0) rfl
  clear h
  rcases hs with hs | hs
  · go_enter Try.func30, Try.ntmps30
    go_wp2_with fail
    go_ret
    exact ⟨rfl, rfl⟩
  · have h0 : (0 : Int) ≤ s := by omega
    have hd : decide (s < (ns.length : Int)) = false := decide_eq_false (by omega)
    have hd2 : ¬ s < (ns.length : Int) := by omega
    go_enter Try.func30, Try.ntmps30
    go_wp2_with fail
    go_ret
    exact ⟨by first | rfl | (simp [hd2]), rfl⟩
theorem step_in (h : Mach u g ns (some ad) cn w) {s : Nat} {nd : Nd} (hs : ns[s]? = some nd) (b : UInt8) : Calls Try.prog 24 #[.pointer (some ⟨g, 0, none⟩), .int .i64 (s : Int), .int .u8 (b.toNat : Int)] w fun e w' => e = .returned (.int .i64 (nd.next b.toNat)) ∧ w = w' := by
  have hc0 := h.blk.at_ (i := 0) rfl
  have hsl := (List.getElem?_eq_some_iff.1 hs).1
  have hb := UInt8.toNat_lt b
  obtain ⟨k1, _⟩ := h.next_cell hs hb
  have hsi : (s : Int) < (ns.length : Int) := by omega
  have hbi : (b.toNat : Int) < 256 := by omega
  have HM := hide h
  clear h hs
  go_enter Try.func24, Try.ntmps24
  go_wp2_with fail
  refine (has_in HM.out hsl).mono ?_
  rintro e w1 ⟨rfl, rfl⟩
  go_wp2_with fail
  go_ret
  exact ⟨rfl, rfl⟩
theorem step_out (h : Mach u g ns (some ad) cn w) {s : Int} (hs : s < 0 ∨ (ns.length : Int) ≤ s) (b : UInt8) : Calls Try.prog 24 #[.pointer (some ⟨g, 0, none⟩), .int .i64 s, .int .u8 (b.toNat : Int)] w fun e w' => e = .returned (.int .i64 0) ∧ w = w' := by
  have HM := hide h
  have HS := hide hs
  clear h hs
  go_enter Try.func24, Try.ntmps24
  go_wp2_with fail
  refine (has_out HM.out HS.out).mono ?_
  rintro e w1 ⟨rfl, rfl⟩
  go_wp2_with fail
  go_ret
  exact ⟨rfl, rfl⟩
theorem pre_at_cell (h : Mach u g ns (some ad) cn w) {s : Nat} {nd : Nd} (hs : ns[s]? = some nd) : w.cell? (ad.add (s * 259)) = some (.slice nd.pA nd.pre.length nd.pc) :=
  (own_cell h.row (s * 259) (.slice nd.pA nd.pre.length nd.pc) (by have := cellsAll_at ns s 0 nd hs (by omega); rw [Nat.add_zero] at this; rw [this]; rfl)).1
theorem prefix_in (h : Mach u g ns (some ad) cn w) {s : Nat} {nd : Nd} (hs : ns[s]? = some nd) (hl : nd.pre.length ≤ 100000) : Calls Try.prog 19 #[.pointer (some ⟨g, 0, none⟩), .int .i64 (s : Int)] w fun e w' => ∃ A' c', e = .returned (.slice A' nd.pre.length c') ∧ w'.ownsRow w.heap.size 5 1 (.slice A' nd.pre.length c') nd.pre.length (u8s nd.pre) ∧ Below w.heap.size w w' := by
  have hc0 := h.blk.at_ (i := 0) rfl
  have hsl := (List.getElem?_eq_some_iff.1 hs).1
  have k1 := pre_at_cell h hs
  have hsi : (s : Int) < (ns.length : Int) := by omega
  have HP := hide (Rd.of_own (h.pre s nd hs))
  have HM := hide h
  clear h hs
  go_enter Try.func19, Try.ntmps19
  go_wp2_with fail
  refine (has_in HM.out hsl).mono ?_
  rintro e w1 ⟨rfl, rfl⟩
  go_wp2_with fail
  refine (clone_any HP.out (by omega)).mono ?_
  rintro e w1 ⟨A1, c1, rfl, ho, hb⟩
  have HX := hide (show _ ∧ _ from ⟨ho, hb⟩)
  clear ho hb
  go_wp2_with fail
  go_ret
  exact ⟨A1, c1, rfl, HX.out⟩
theorem prefix_out (h : Mach u g ns (some ad) cn w) {s : Int} (hs : s < 0 ∨ (ns.length : Int) ≤ s) : Calls Try.prog 19 #[.pointer (some ⟨g, 0, none⟩), .int .i64 s] w fun e w' => e = .returned (.slice none 0 0) ∧ w = w' := by
  have HM := hide h
  have HS := hide hs
  clear h hs
  go_enter Try.func19, Try.ntmps19
  go_wp2_with fail
  refine (has_out HM.out HS.out).mono ?_
  rintro e w1 ⟨rfl, rfl⟩
  go_wp2_with fail
  go_ret
  exact ⟨rfl, rfl⟩
theorem hits_in (h : Mach u g ns (some ad) cn w) {s : Nat} {nd : Nd} (hs : ns[s]? = some nd) (hl : nd.hits.length ≤ 100000) : Calls Try.prog 22 #[.pointer (some ⟨g, 0, none⟩), .int .i64 (s : Int)] w fun e w' => ∃ A' c', e = .returned (.slice A' nd.hits.length c') ∧ w'.ownsRow w.heap.size 3 1 (.slice A' nd.hits.length c') nd.hits.length (ints nd.hits) ∧ Below w.heap.size w w' := by
  have hc0 := h.blk.at_ (i := 0) rfl
  have hsl := (List.getElem?_eq_some_iff.1 hs).1
  obtain ⟨k1, _⟩ := h.hits_cell hs
  have hsi : (s : Int) < (ns.length : Int) := by omega
  have HP := hide (h.hit s nd hs)
  have HM := hide h
  clear h hs
  go_enter Try.func22, Try.ntmps22
  go_wp2_with fail
  refine (has_in HM.out hsl).mono ?_
  rintro e w1 ⟨rfl, rfl⟩
  go_wp2_with fail
  refine (cloneInts_own HP.out (by omega)).mono ?_
  rintro e w1 ⟨A1, c1, rfl, ho, hb⟩
  have HX := hide (show _ ∧ _ from ⟨ho, hb⟩)
  clear ho hb
  go_wp2_with fail
  go_ret
  exact ⟨A1, c1, rfl, HX.out⟩
theorem hits_out (h : Mach u g ns (some ad) cn w) {s : Int} (hs : s < 0 ∨ (ns.length : Int) ≤ s) : Calls Try.prog 22 #[.pointer (some ⟨g, 0, none⟩), .int .i64 s] w fun e w' => e = .returned (.slice none 0 0) ∧ w = w' := by
  have HM := hide h
  have HS := hide hs
  clear h hs
  go_enter Try.func22, Try.ntmps22
  go_wp2_with fail
  refine (has_out HM.out HS.out).mono ?_
  rintro e w1 ⟨rfl, rfl⟩
  go_wp2_with fail
  go_ret
  exact ⟨rfl, rfl⟩
end
end Go.Proofs.Ytameecogopnkjaa.AW
