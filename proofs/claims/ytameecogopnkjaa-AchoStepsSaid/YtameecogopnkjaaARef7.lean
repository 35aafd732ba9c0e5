/- The walk of acho's document's States. -/
import Derived.Test.YtameecogopnkjaaARef6
namespace Go.Proofs.Ytameecogopnkjaa.AW
open Go.ChangeShapes Go.WideShapes Go.ChangeAt Go.RowKit
open Go.Proofs.Ytameecogopnkjaa.B Go.Proofs.Ytameecogopnkjaa.AM
set_option linter.unusedVariables false

theorem Texts.take {w : World} {B len cap : Nat} {a : Option Addr} {Ls : List T} (h : Texts w B a len cap Ls) {i : Nat} (hi : i ≤ len) : Texts w B a i cap (Ls.take i) := by
  refine ⟨by rw [List.length_take, h.count]; omega, Nat.le_trans hi h.room, h.max, fun hn => ?_⟩
  obtain ⟨ad, e, hb, hc⟩ := h.lies (by omega)
  refine ⟨ad, e, hb, fun j l hl => hc j l ?_⟩
  have hj := (List.getElem?_eq_some_iff.1 hl).1
  rw [List.length_take] at hj
  rw [List.getElem?_take, if_pos (by omega)] at hl
  exact hl
/-- The texts that were met: those of the literals ahead, and the first ones of this one. -/
def Met (Ls : List T) (l : T) (k : Nat) (U : List T) : Prop := U.Nodup ∧ ∀ x, x ∈ U ↔ (isPre Ls x = true ∨ ∃ j, j < k ∧ x = l.take j)
theorem Met.start (Ls : List T) (l : T) (U : List T) (h : U.Nodup ∧ ∀ x, x ∈ U ↔ isPre Ls x = true) : Met Ls l 1 U :=
  ⟨h.1, fun x => by
    rw [h.2]
    refine ⟨fun h => .inl h, fun h => h.elim id ?_⟩
    rintro ⟨j, hj, rfl⟩
    obtain rfl : j = 0 := by omega
    exact isPre_nil Ls⟩
theorem Met.old {Ls : List T} {l : T} {k : Nat} {U : List T} (h : Met Ls l k U) (hp : isPre Ls (l.take k) = true) : Met Ls l (k + 1) U :=
  ⟨h.1, fun x => by
    rw [h.2]
    constructor
    · rintro (h1 | ⟨j, hj, rfl⟩)
      · exact .inl h1
      · exact .inr ⟨j, by omega, rfl⟩
    · rintro (h1 | ⟨j, hj, rfl⟩)
      · exact .inl h1
      · rcases Nat.lt_or_ge j k with h2 | h2
        · exact .inr ⟨j, h2, rfl⟩
        · obtain rfl : j = k := by omega
          exact .inl hp⟩
theorem Met.new {Ls : List T} {l : T} {k : Nat} {U : List T} (h : Met Ls l k U) (hk : k ≤ l.length) (hp : isPre Ls (l.take k) = false) : Met Ls l (k + 1) (U ++ [l.take k]) := by
  refine ⟨?_, fun x => ?_⟩
  · rw [List.nodup_append]
    refine ⟨h.1, by simp, fun x hx y hy e => ?_⟩
    rw [List.mem_singleton] at hy
    subst hy; subst e
    rcases (h.2 _).1 hx with h1 | ⟨j, hj, h1⟩
    · rw [hp] at h1; cases h1
    · have h2 := congrArg List.length h1
      rw [List.length_take, List.length_take] at h2
      omega
  · rw [List.mem_append, h.2, List.mem_singleton]
    constructor
    · rintro ((h1 | ⟨j, hj, rfl⟩) | rfl)
      · exact .inl h1
      · exact .inr ⟨j, by omega, rfl⟩
      · exact .inr ⟨k, by omega, rfl⟩
    · rintro (h1 | ⟨j, hj, rfl⟩)
      · exact .inl (.inl h1)
      · rcases Nat.lt_or_ge j k with h2 | h2
        · exact .inl (.inr ⟨j, h2, rfl⟩)
        · obtain rfl : j = k := by omega
          exact .inr rfl
theorem Met.done {Ls : List T} {i : Nat} {l : T} {U : List T} (hl : Ls[i]? = some l) (h : Met (Ls.take i) l (l.length + 1) U) : U.Nodup ∧ ∀ x, x ∈ U ↔ isPre (Ls.take (i + 1)) x = true :=
  ⟨h.1, fun x => by
    rw [h.2, take_next hl, isPre_snoc, Bool.or_eq_true, List.isPrefixOf_iff_prefix]
    constructor
    · rintro (h1 | ⟨j, hj, rfl⟩)
      · exact .inl h1
      · exact .inr (List.take_prefix _ _)
    · rintro (h1 | h1)
      · exact .inl h1
      · exact .inr ⟨x.length, by have := h1.length_le; omega, (List.prefix_iff_eq_take.1 h1)⟩⟩
theorem met_len {Ls P U : List T} (hP : Pres Ls P) (h : U.Nodup ∧ ∀ x, x ∈ U ↔ isPre Ls x = true) : U.length = P.length := by
  have hn : P.Nodup := by
    rw [List.nodup_iff_pairwise_ne, List.pairwise_iff_getElem]
    intro i j hi hj hij e
    have := hP.dist i j P[i] (List.getElem?_eq_getElem hi) (by rw [e]; exact List.getElem?_eq_getElem hj)
    omega
  refine List.Perm.length_eq ((List.perm_ext_iff_of_nodup h.1 hn).2 fun x => ?_)
  rw [h.2, hP.mem, List.mem_iff_getElem?]

set_option maxRecDepth 10000 in
set_option maxHeartbeats 1000000 in
theorem refStates_any {w : World} {B len cap : Nat} {a : Option Addr} {Ls P : List T} (h : Texts w B a len cap Ls) (hs : tsum Ls ≤ 4000) (hP : Pres Ls P) :
    Calls Try.prog 18 #[.slice a len cap] w fun e w' => e = .returned (.int .i64 (P.length : Int)) ∧ Drew w w' := by
  have hct := h.count
  have HT := hide h
  have HP := hide hP
  have hcp := h.room
  have hmp : cap ≤ 9223372036854775807 := h.max
  clear h hP
  subst hct
  go_enter Try.func18, Try.ntmps18
  go_wp2_with fail
  go_loopw [3, 4] (fun nv iv wr => ∃ (i : Nat) (U : List T), nv = .int .i64 (U.length : Int) ∧ iv = .int .i64 i ∧ i ≤ Ls.length ∧ Drew w wr ∧ (U.Nodup ∧ ∀ x, x ∈ U ↔ isPre (Ls.take i) x = true) ∧ U.length ≤ 1 + tsum (Ls.take i)) (fun _ iv _ => Ls.length - (intOf iv).toNat)
  case atStart => exact ⟨0, [[]], rfl, rfl, by omega, Drew.refl _, ⟨by simp, fun x => by rw [isPre_iff]; simp⟩, by simp⟩
  case round =>
    obtain ⟨i, U, rfl, rfl, hi, hdr, hU, hul⟩ := hrel
    have HW := hide hdr
    have HU := hide hU
    clear hdr hU
    by_cases hlt : i < Ls.length
    · obtain ⟨ad, l, A1, c1, rfl, _, hl, hc, hrd⟩ := (HT.out.drew HW.out).at_ hlt
      have e1 : IntKind.i64.wrap ((i : Int) + 1) = (i : Int) + 1 := IntWalk.i64_in _ (by omega)
      have hts := tsum_take hl
      have htl := tsum_le Ls (i + 1)
      have HL := hide hl
      have HR := hide (show Rd w B 1 A1 l.length c1 (u8s l) from by
        obtain ⟨m, e⟩ := HW.out
        rw [e] at hrd; exact hrd.keep fun _ _ => rfl)
      have HC := hide (show w.cell? (ad.add i) = some (.slice A1 l.length c1) from by
        obtain ⟨m, e⟩ := HW.out
        rw [e] at hc; exact hc)
      clear hl hrd
      go_wp2_with fail
      go_loopw [3, 5] (fun nv kv wl => ∃ (k : Nat) (U : List T), nv = .int .i64 (U.length : Int) ∧ kv = .int .i64 k ∧ 1 ≤ k ∧ k ≤ l.length + 1 ∧ Drew w wl ∧ Met (Ls.take i) l k U ∧ U.length + 1 ≤ 1 + tsum (Ls.take i) + k) (fun _ kv _ => l.length + 1 - (intOf kv).toNat)
      case atStart => exact ⟨1, U, rfl, rfl, by omega, by omega, HW.out, Met.start _ _ _ HU.out, by omega⟩
      case round =>
        clear HU hul
        obtain ⟨k, U, rfl, rfl, hk1, hk, hdr, hU, hul⟩ := hrel
        have HW' := hide hdr
        have HU := hide hU
        clear hdr hU
        have hc' : wr.cell? (ad.add i) = some (.slice A1 l.length c1) := by
          obtain ⟨m, e⟩ := HW'.out
          rw [e]; exact HC.out
        by_cases hkl : k ≤ l.length
        · have e2 : IntKind.i64.wrap ((k : Int) + 1) = (k : Int) + 1 := IntWalk.i64_in _ (by omega)
          have e3 : IntKind.i64.wrap ((U.length : Int) + 1) = (U.length : Int) + 1 := IntWalk.i64_in _ (by omega)
          have hrk := HR.out.drew_ HW'.out
          have kp : ∀ m, Calls Try.prog 20 #[.slice (some ad) i cap, .slice A1 k c1] (wr.drewN m) fun e w'' => e = .returned (.bool (isPre (Ls.take i) (l.take k))) ∧ ∃ j, w'' = wr.drewN j := fun m => Calls.quiet_of (refPrefix_any (((HT.out.drew HW'.out).drewN m).take hi) ((hrk.head8 (j := k) hkl).drewN m))
          have KP := hide kp
          have hkc : (k : Int) ≤ (c1 : Int) := by have := hrk.cap; omega
          have hcm : c1 ≤ 9223372036854775807 := hrk.max
          have hic : (i : Int) ≤ (cap : Int) := by omega
          clear kp hrk
          go_wp2_with fail
          go_quiet ((go_at_call 20; exact KP.out _))
          by_cases hp : isPre (Ls.take i) (l.take k) = true
          · rw [hp]
            have HPP := hide hp
            clear hp
            go_wp2_with fail
            go_roundw
            case rel => exact ⟨k + 1, U, rfl, by go_num, by omega, by omega, HW'.out.drewN _, HU.out.old HPP.out, by omega⟩
            case measure => simp [intOf]; omega
          · have hp' : isPre (Ls.take i) (l.take k) = false := Bool.eq_false_iff.2 hp
            rw [hp']
            have HPP := hide hp'
            clear hp hp'
            go_wp2_with fail
            go_roundw
            case rel => exact ⟨k + 1, U ++ [l.take k], by rw [List.length_append]; go_num, by go_num, by omega, by omega, HW'.out.drewN _, HU.out.new hkl HPP.out, by rw [List.length_append, List.length_singleton]; omega⟩
            case measure => simp [intOf]; omega
        · have hke : k = l.length + 1 := by omega
          subst hke
          go_wp2_with fail
          go_roundw
          case rel => exact ⟨i + 1, U, rfl, by go_num, by omega, HW'.out, Met.done HL.out HU.out, by omega⟩
          case measure => simp [intOf]; omega
    · obtain rfl : i = Ls.length := by omega
      have hul := met_len HP.out (by have := HU.out; rwa [List.take_length] at this)
      go_wp2_with fail
      go_ret
      exact ⟨by rw [hul]; rfl, HW.out⟩
end Go.Proofs.Ytameecogopnkjaa.AW
