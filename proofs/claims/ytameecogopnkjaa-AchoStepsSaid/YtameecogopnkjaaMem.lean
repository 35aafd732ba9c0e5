/- Words for slices that are read, and for slices of the call's own that are appended to. -/
import Derived.Test.YtameecogopnkjaaBase
import Derived.Maps.AppendAt
import Derived.Deep.AppendLies
import Derived.RegionTactic
import Derived.OwnWalk
import Derived.Laws.BytesString
import Derived.Laws.Cells
import Derived.Deep.Draws
import Derived.Deep.QuietTactic
import Derived.BigQuiet
namespace Go.Proofs.Ytameecogopnkjaa.B
open Go.RowKit

theorem add_block (a : Addr) (n : Nat) : (a.add n).block = a.block := by unfold Addr.add; split <;> rfl
theorem add_add (a : Addr) (i j : Nat) : (a.add i).add j = a.add (i + j) := by
  unfold Addr.add
  by_cases hi : i = 0 <;> by_cases hj : j = 0 <;> simp [hi, hj, Nat.add_assoc]
theorem add_lit (b o n : Nat) : (⟨b, o, none⟩ : Addr).add n = ⟨b, o + n, none⟩ := by
  unfold Addr.add
  by_cases h : n = 0 <;> simp [h]

/-- Bytes as cells, and as a string. -/
def u8s (bs : List UInt8) : List Value := bs.map fun b => .int .u8 (b.toNat : Int)
def str (bs : List UInt8) : ByteArray := ⟨bs.toArray⟩
/-- The byte at a place (0 where there is none). -/
def at8 (bs : List UInt8) (i : Nat) : Nat := (bs.getD i 0).toNat
theorem at8_lt (bs : List UInt8) (i : Nat) : at8 bs i < 256 := UInt8.toNat_lt _
theorem u8s_length (bs : List UInt8) : (u8s bs).length = bs.length := by simp [u8s]
theorem u8s_at (bs : List UInt8) (i : Nat) (h : i < bs.length) : (u8s bs)[i]? = some (.int .u8 (at8 bs i : Int)) := by
  simp [u8s, at8, h]
theorem u8s_one (bs : List UInt8) : ∀ u ∈ u8s bs, u.oneCell' = true := by
  intro u hu
  obtain ⟨_, _, rfl⟩ := List.mem_map.1 hu
  rfl
theorem u8s_append (a b : List UInt8) : u8s (a ++ b) = u8s a ++ u8s b := by simp [u8s]
theorem str_inj {a b : List UInt8} (h : str a = str b) : a = b := by
  have h1 : (str a).data = (str b).data := by rw [h]
  have h2 : a.toArray = b.toArray := h1
  simpa using h2
theorem str_size (a : List UInt8) : (str a).size = a.length := by simp [str, ByteArray.size]

/-- The slice value '.slice A n c' holds the cells xs ('size' cells an element), in blocks below B. -/
structure Rd (w : World) (B size : Nat) (A : Option Addr) (n c : Nat) (xs : List Value) : Prop where
  len : xs.length = n * size
  cap : n ≤ c
  max : c ≤ maxLen
  lies : 0 < n → ∃ ad, A = some ad ∧ ad.block < B ∧ ∀ j u, xs[j]? = some u → w.cell? (ad.add j) = some u

section
variable {w w' : World} {B B' size n c : Nat} {A : Option Addr} {xs : List Value}
theorem Rd.none_ : Rd w B size none 0 0 [] := ⟨by simp, Nat.le_refl _, by simp [maxLen], fun h => absurd h (by omega)⟩
theorem Rd.keep (h : Rd w B size A n c xs) (hk : ∀ p : Addr, p.block < B → w'.cell? p = w.cell? p) : Rd w' B size A n c xs :=
  ⟨h.len, h.cap, h.max, fun hn => by
    obtain ⟨ad, e, hb, hc⟩ := h.lies hn
    exact ⟨ad, e, hb, fun j u hu => (hk _ (by rw [add_block]; exact hb)).trans (hc j u hu)⟩⟩
theorem Rd.more (h : Rd w B size A n c xs) (hB : B ≤ B') : Rd w B' size A n c xs :=
  ⟨h.len, h.cap, h.max, fun hn => by
    obtain ⟨ad, e, hb, hc⟩ := h.lies hn
    exact ⟨ad, e, by omega, hc⟩⟩
theorem Rd.below (h : Rd w B size A n c xs) (hb : Below B w w') : Rd w' B size A n c xs := h.keep fun _ hp => hb.cell hp
/-- Over a call that only makes memory. -/
theorem Rd.over (h : Rd w w.heap.size size A n c xs) (hb : Below w.heap.size w w') : Rd w' w'.heap.size size A n c xs := (h.below hb).more hb.size
theorem Rd.drewN (h : Rd w B size A n c xs) (k : Nat) : Rd (w.drewN k) B size A n c xs := h.keep fun _ _ => rfl
theorem Rd.drew (h : Rd w B size A n c xs) : Rd w.drew B size A n c xs := h.keep fun _ _ => rfl
theorem Rd.alloc (h : Rd w B size A n c xs) (hB : B ≤ w.heap.size) (o : Obj) : Rd (w.alloc o) B size A n c xs := h.keep fun p hp => World.cell?_alloc_lt w o p (by omega)
theorem Rd.setCell (h : Rd w B size A n c xs) {p : Addr} (hB : B ≤ p.block) (u : Value) : Rd (w.setCell p u) B size A n c xs :=
  h.keep fun q hq => World.cell?_setCell_other w p q u (fun e => by subst e; omega)
theorem Rd.grown (h : Rd w B size A n c xs) {row : Option Nat} (hg : w.grownBy w' row) (hB : B ≤ w.heap.size) (hr : ∀ g, row = some g → B ≤ g) : Rd w' B size A n c xs :=
  h.keep fun p hp => World.cell?_of_block (hg.block p.block (by omega) (fun e => by have := hr _ e.symm; omega))
theorem Rd.of_own {base : Nat} {e : TypeId} (h : w.ownsRow base e size (.slice A n c) n xs) : Rd w w.heap.size size A n c xs := by
  have hc : n ≤ c ∧ c ≤ maxLen := by
    rcases h.2 with ⟨h1, rfl⟩ | ⟨g, cap, cur, h1, _, _, h3, h4, _⟩
    · injection h1 with h1 h2 h3
      subst h3
      exact ⟨Nat.le_refl _, by simp [maxLen]⟩
    · injection h1 with h1 h2 h3'
      subst h3'
      exact ⟨h3, h4⟩
  refine ⟨h.1, hc.1, hc.2, fun hn => ?_⟩
  obtain ⟨g, cap, hv, _, hlt⟩ := h.form hn
  have hA : A = some ⟨g, 0, none⟩ := by injection hv
  subst hA
  exact ⟨_, rfl, hlt, h.cells (g := g) rfl⟩
end

/-- A byte of a text that is read. -/
theorem Rd.byte {w : World} {B n c : Nat} {A : Option Addr} {bs : List UInt8} (h : Rd w B 1 A n c (u8s bs)) {i : Nat} (hi : i < n) :
    ∃ ad, A = some ad ∧ ad.block < B ∧ w.cell? (ad.add i) = some (.int .u8 (at8 bs i : Int)) := by
  obtain ⟨ad, e, hb, hc⟩ := h.lies (by omega)
  have hl := h.len
  rw [u8s_length] at hl
  exact ⟨ad, e, hb, hc i _ (u8s_at bs i (by omega))⟩
theorem Rd.length8 {w : World} {B n c : Nat} {A : Option Addr} {bs : List UInt8} (h : Rd w B 1 A n c (u8s bs)) : bs.length = n := by
  have hl := h.len
  rw [u8s_length] at hl
  omega

/-- A part of a slice lies in the slice's block. -/
def SubA (A' A : Option Addr) : Prop := ∀ a', A' = some a' → ∃ a, A = some a ∧ a'.block = a.block
theorem SubA.refl (A : Option Addr) : SubA A A := fun a h => ⟨a, h, rfl⟩
theorem SubA.map (A : Option Addr) (k : Nat) : SubA (A.map (·.add k)) A := fun a h => by
  obtain ⟨b, hb, rfl⟩ := Option.map_eq_some_iff.1 h
  exact ⟨b, hb, add_block b k⟩
theorem SubA.trans {A B C : Option Addr} (h : SubA A B) (k : SubA B C) : SubA A C := fun a ha => by
  obtain ⟨b, hb, e⟩ := h a ha
  obtain ⟨c, hc, e'⟩ := k b hb
  exact ⟨c, hc, e.trans e'⟩
theorem SubA.ne {A' A : Option Addr} {g : Nat} (h : SubA A' A) (hne : ∀ ad, A = some ad → ad.block ≠ g) : ∀ ad, A' = some ad → ad.block ≠ g := fun a ha => by
  obtain ⟨b, hb, e⟩ := h a ha
  rw [e]
  exact hne b hb
theorem own_ne_addr {w : World} {base g : Nat} {e t : TypeId} {size n c : Nat} {A : Option Addr} {xs : List Value} {cs : Array Value} (h : w.ownsRow base e size (.slice A n c) n xs) (hg : w.heap[g]? = some (.cells cs t (0, 0))) (hne : e ≠ t) : ∀ ad, A = some ad → ad.block ≠ g := by
  intro ad ha e1
  rcases h.2 with ⟨h1, _⟩ | ⟨g', cap, cur, h1, _, hh, _⟩
  · subst ha; cases h1
  · subst ha
    injection h1 with h1
    injection h1 with h1
    subst h1
    subst e1
    rw [hh] at hg
    injection hg with hg
    injection hg with _ ht
    exact hne ht

/-- A part of a slice that is read. -/
theorem Rd.cut {w : World} {B n c : Nat} {A : Option Addr} {xs : List Value} (h : Rd w B 1 A n c xs) {i j : Nat} (hij : i ≤ j) (hjn : j ≤ n) :
    Rd w B 1 (if c = i then A else A.map (·.add (i * 1))) (j - i) (c - i) ((xs.drop i).take (j - i)) := by
  have hl := h.len
  have hc := h.cap
  have hm := h.max
  refine ⟨by simp; omega, by omega, by omega, fun hn => ?_⟩
  obtain ⟨ad, rfl, hb, hcell⟩ := h.lies (by omega)
  rw [if_neg (by omega)]
  refine ⟨ad.add (i * 1), rfl, by rw [add_block]; exact hb, fun k u hu => ?_⟩
  rw [add_add, Nat.mul_one]
  refine hcell (i + k) u ?_
  have hk : k < j - i := by
    have := (List.getElem?_eq_some_iff.1 hu).1
    simp at this
    omega
  rw [← hu, List.getElem?_take, if_pos hk, List.getElem?_drop]
theorem u8s_cut (bs : List UInt8) (i k : Nat) : ((u8s bs).drop i).take k = u8s ((bs.drop i).take k) := by simp [u8s]
theorem Rd.cut8 {w : World} {B n c : Nat} {A : Option Addr} {bs : List UInt8} (h : Rd w B 1 A n c (u8s bs)) {i j : Nat} (hij : i ≤ j) (hjn : j ≤ n) :
    Rd w B 1 (if c = i then A else A.map (·.add (i * 1))) (j - i) (c - i) (u8s ((bs.drop i).take (j - i))) := by
  rw [← u8s_cut]
  exact h.cut hij hjn
theorem Rd.tail8 {w : World} {B n c : Nat} {A : Option Addr} {bs : List UInt8} (h : Rd w B 1 A n c (u8s bs)) {i : Nat} (hi : i ≤ n) :
    Rd w B 1 (if c = i then A else A.map (·.add (i * 1))) (n - i) (c - i) (u8s (bs.drop i)) := by
  have h1 := h.cut8 hi (Nat.le_refl n)
  rwa [List.take_of_length_le (by rw [List.length_drop, h.length8]; exact Nat.le_refl _)] at h1
theorem Rd.head8 {w : World} {B n c : Nat} {A : Option Addr} {bs : List UInt8} (h : Rd w B 1 A n c (u8s bs)) {j : Nat} (hj : j ≤ n) : Rd w B 1 A j c (u8s (bs.take j)) := by
  have hl := h.length8
  have hc := h.cap
  refine ⟨by rw [u8s_length, List.length_take]; omega, by omega, h.max, fun hj0 => ?_⟩
  obtain ⟨ad, e, hb, hcell⟩ := h.lies (by omega)
  refine ⟨ad, e, hb, fun k u hu => hcell k u ?_⟩
  have hk : k < j := by
    have := (List.getElem?_eq_some_iff.1 hu).1
    simp [u8s] at this
    omega
  rw [← hu]
  simp [u8s, hk]
theorem at8_drop (bs : List UInt8) (i j : Nat) : at8 (bs.drop i) j = at8 bs (i + j) := by simp [at8]
theorem at8_take (bs : List UInt8) (k j : Nat) (h : j < k) : at8 (bs.take k) j = at8 bs j := by simp [at8, h]

/-- A text that is read, made a string. -/
theorem foldl_push (l : List Int) (s : ByteArray) : l.foldl (fun r n => r.push (UInt8.ofNat n.toNat)) s = ⟨s.data ++ (l.map fun n => UInt8.ofNat n.toNat).toArray⟩ := by
  induction l generalizing s with
  | nil => simp
  | cons x l ih =>
    rw [List.foldl_cons, ih]
    simp [ByteArray.push]
theorem run_str {P : Program} {w : World} {B n c : Nat} {A : Option Addr} {bs : List UInt8} (src dst e : TypeId) (hs : P.underlying src = some (.slice e)) (he : P.underlying e = some (.int .u8)) (hd : P.underlying dst = some .string)
    (h : Rd w B 1 A n c (u8s bs)) : (convert src dst (.slice A n c)).run P w = .ok (.string (str bs)) w := by
  rw [run_convert_bytes_string w src dst e A n c hs he hd]
  have hl := h.length8
  rcases A with _ | ad
  · have hn : n = 0 := by
      rcases Nat.eq_zero_or_pos n with h0 | h0
      · exact h0
      · obtain ⟨_, h1, _⟩ := h.lies h0
        cases h1
    subst hn
    have hb : bs = [] := List.eq_nil_of_length_eq_zero hl
    subst hb
    rfl
  · have hc : (loadCells ad n).run P w = .ok ((bs.map fun b => (b.toNat : Int)).map (Value.int .u8)).toArray w := by
      rcases Nat.eq_zero_or_pos n with h0 | h0
      · subst h0
        have hb : bs = [] := List.eq_nil_of_length_eq_zero hl
        subst hb
        rfl
      · obtain ⟨ad', h1, _, h2⟩ := h.lies h0
        injection h1 with h1
        subst h1
        have hlen : (u8s bs).length = n := by rw [u8s_length, hl]
        have h3 := run_loadCells_list (P := P) w ad (u8s bs) (fun j v hv => h2 j v hv)
        rw [hlen] at h3
        rw [h3]
        simp [u8s, Function.comp_def]
    rw [run_bytesToString w ad n c _ hc, foldl_push]
    simp [str, Function.comp_def]

theorem own_form {w : World} {base : Nat} {e : TypeId} {size n : Nat} {v : Value} {xs : List Value} (h : w.ownsRow base e size v n xs) : ∃ A c, v = .slice A n c := by
  rcases h.2 with ⟨rfl, rfl⟩ | ⟨g, cap, cur, rfl, _⟩
  · exact ⟨none, 0, rfl⟩
  · exact ⟨_, _, rfl⟩

/-! Appending what is read, nil or not, to a slice of the call's own. -/
section
variable {P : Program} (w : World)
theorem run_append_nil (base : Nat) (t ty e : TypeId) (i : TypeInfo) (size : Nat) (ht : P.underlying t = some (.slice e)) (hi : P.info? e = some i)
    (v : Value) (n : Nat) (xs : List Value) (hown : w.ownsRow base e size v n xs) (c : Nat) : (Builtin.append_ #[t, t] ty #[v, .slice none 0 c]).run P w = .ok v w := by
  rcases hown.2 with ⟨rfl, rfl⟩ | ⟨g, cap, cur, rfl, _, _, hnc, _⟩
  · simp [Builtin.append_, run_underlying ht, sizeOf, typeInfo, hi, Builtin.lenOf, Builtin.firstCells]
  · simp [Builtin.append_, run_underlying ht, sizeOf, typeInfo, hi, Builtin.lenOf, Builtin.firstCells, hnc, storeCells]

theorem run_append_rd (base : Nat) (t ty e : TypeId) (i : TypeInfo) (z : Value) (size bytes : Nat) (ht : P.underlying t = some (.slice e)) (hi : P.info? e = some i) (hz : i.zero = some z)
    (hsize : i.size = size) (hby : i.bytes = bytes) (hzs : z.cells.size = size) (hsz : 0 < size)
    (v : Value) (n : Nat) (xs : List Value) (hown : w.ownsRow base e size v n xs)
    (B : Nat) (A : Option Addr) (m c : Nat) (news : List Value) (hr : Rd w B size A m c news) (h1 : ∀ u ∈ news, u.oneCell' = true)
    (h63 : n + m ≤ maxLen) (hbytes : (n + m) * bytes ≤ 140737488355328) (hbase : base ≤ w.heap.size) :
    ∃ v' w', (Builtin.append_ #[t, t] ty #[v, .slice A m c]).run P w = .ok v' w' ∧ w'.ownsRow base e size v' (n + m) (xs ++ news) ∧ w.grownBy w' v.ownBlock ∧
      (v' = .slice none 0 0 ↔ v = .slice none 0 0 ∧ m = 0) ∧ (v'.ownBlock = v.ownBlock ∨ v'.ownBlock = some w.heap.size) := by
  rcases A with _ | ad
  · have hm : m = 0 := by
      rcases Nat.eq_zero_or_pos m with h0 | h0
      · exact h0
      · obtain ⟨ad, h, _⟩ := hr.lies h0
        cases h
    subst hm
    have hn : news = [] := List.eq_nil_of_length_eq_zero (by simpa using hr.len)
    subst hn
    exact ⟨v, w, run_append_nil w base t ty e i size ht hi v n xs hown c, by simpa using hown, World.grownBy.refl w _, by simp, .inl rfl⟩
  · have hcells : ∀ j u, news[j]? = some u → w.cell? (ad.add j) = some u := by
      intro j u hu
      rcases Nat.eq_zero_or_pos m with h0 | h0
      · subst h0
        have hn : news = [] := List.eq_nil_of_length_eq_zero (by simpa using hr.len)
        subst hn
        simp at hu
      · obtain ⟨ad', h, _, hc⟩ := hr.lies h0
        injection h with h
        subst h
        exact hc j u hu
    exact run_append_own_at (P := P) w base t ty e i z size bytes ht hi hz hsize hby hzs hsz v n xs hown ad m c news hr.len hcells h1 h63 hbytes hbase

theorem wp_append_rd {o : Oper} {a : Act} {K : Act → World → Prop} {Q : Exit → Act → World → Prop} (s x : Operand) (t : TypeId)
    (ho : o.op = .call { callee := .builtin .append, args := #[s, x], argTypes := #[t, t] })
    (base : Nat) (e : TypeId) (i : TypeInfo) (z : Value) (size bytes : Nat) (ht : P.underlying t = some (.slice e)) (hi : P.info? e = some i) (hz : i.zero = some z)
    (hsize : i.size = size) (hby : i.bytes = bytes) (hzs : z.cells.size = size) (hsz : 0 < size)
    (v : Value) (n : Nat) (xs : List Value) (hs : a.eval s = v) (hown : w.ownsRow base e size v n xs)
    (B : Nat) (A : Option Addr) (m c : Nat) (news : List Value) (hx : a.eval x = .slice A m c) (hr : Rd w B size A m c news) (h1 : ∀ u ∈ news, u.oneCell' = true)
    (h63 : n + m ≤ maxLen) (hbytes : (n + m) * bytes ≤ 140737488355328) (hbase : base ≤ w.heap.size)
    (h : ∀ A' c' w', w'.ownsRow base e size (.slice A' (n + m) c') (n + m) (xs ++ news) → w.grownBy w' v.ownBlock → ((Value.slice A' (n + m) c').ownBlock = v.ownBlock ∨ (Value.slice A' (n + m) c').ownBlock = some w.heap.size) → K (a.put o.dst (.slice A' (n + m) c')) w') : o.wp P a w K Q := by
  obtain ⟨v', w', hrun, h2, h3, h4, h5⟩ := run_append_rd (P := P) w base t o.type e i z size bytes ht hi hz hsize hby hzs hsz v n xs hown B A m c news hr h1 h63 hbytes hbase
  unfold Oper.wp execOp
  simp only [ho, resolve, invoke, builtin, Sem.run_bind, Sem.run_pure, Result.andThen_ok, List.map_toArray, List.map_cons, List.map_nil, hs, hx, hrun]
  obtain ⟨A', c', rfl⟩ := own_form h2
  exact h A' c' w' h2 h3 h5

theorem wpList_append_rd {ops : Array Oper} {rest : List Oper} {o : Oper} {a : Act} {Q : Exit → Act → World → Prop} (hgd : o.guard = none) (s x : Operand) (t : TypeId)
    (ho : o.op = .call { callee := .builtin .append, args := #[s, x], argTypes := #[t, t] })
    (base : Nat) (e : TypeId) (i : TypeInfo) (z : Value) (size bytes : Nat) (ht : P.underlying t = some (.slice e)) (hi : P.info? e = some i) (hz : i.zero = some z)
    (hsize : i.size = size) (hby : i.bytes = bytes) (hzs : z.cells.size = size) (hsz : 0 < size)
    (v : Value) (n : Nat) (xs : List Value) (hs : a.eval s = v) (hown : w.ownsRow base e size v n xs)
    (B : Nat) (A : Option Addr) (m c : Nat) (news : List Value) (hx : a.eval x = .slice A m c) (hr : Rd w B size A m c news) (h1 : ∀ u ∈ news, u.oneCell' = true)
    (h63 : n + m ≤ maxLen) (hbytes : (n + m) * bytes ≤ 140737488355328) (hbase : base ≤ w.heap.size)
    (h : ∀ A' c' w', w'.ownsRow base e size (.slice A' (n + m) c') (n + m) (xs ++ news) → w.grownBy w' v.ownBlock → ((Value.slice A' (n + m) c').ownBlock = v.ownBlock ∨ (Value.slice A' (n + m) c').ownBlock = some w.heap.size) → wpList P ops Q rest (a.put o.dst (.slice A' (n + m) c')) w') : wpList P ops Q (o :: rest) a w :=
  wpList_plain hgd fun _ hK => wp_append_rd w s x t ho base e i z size bytes ht hi hz hsize hby hzs hsz v n xs hs hown B A m c news hx hr h1 h63 hbytes hbase fun A' c' w' h2 h3 h5 => hK _ _ (h A' c' w' h2 h3 h5)

theorem step_append_rd {ops : Array Oper} {o : Oper} {a : Act} {K : Act → World → Prop} {Q : Exit → Act → World → Prop} {E : Prop} (hgd : o.guard = none) (s x : Operand) (t : TypeId)
    (ho : o.op = .call { callee := .builtin .append, args := #[s, x], argTypes := #[t, t] })
    (base : Nat) (e : TypeId) (i : TypeInfo) (z : Value) (size bytes : Nat) (ht : P.underlying t = some (.slice e)) (hi : P.info? e = some i) (hz : i.zero = some z)
    (hsize : i.size = size) (hby : i.bytes = bytes) (hzs : z.cells.size = size) (hsz : 0 < size)
    (v : Value) (n : Nat) (xs : List Value) (hs : a.eval s = v) (hown : w.ownsRow base e size v n xs)
    (B : Nat) (A : Option Addr) (m c : Nat) (news : List Value) (hx : a.eval x = .slice A m c) (hr : Rd w B size A m c news) (h1 : ∀ u ∈ news, u.oneCell' = true)
    (h63 : n + m ≤ maxLen) (hbytes : (n + m) * bytes ≤ 140737488355328) (hbase : base ≤ w.heap.size)
    (h : ∀ A' c' w', w'.ownsRow base e size (.slice A' (n + m) c') (n + m) (xs ++ news) → w.grownBy w' v.ownBlock → ((Value.slice A' (n + m) c').ownBlock = v.ownBlock ∨ (Value.slice A' (n + m) c').ownBlock = some w.heap.size) → K (a.put o.dst (.slice A' (n + m) c')) w') :
    if Region.wanted o (yielded ops a.tmps) = true then Oper.wp P o a w K Q else E := by
  have hw : Region.wanted o (yielded ops a.tmps) = true := by simp [Region.wanted, hgd]
  rw [if_pos hw]
  exact wp_append_rd w s x t ho base e i z size bytes ht hi hz hsize hby hzs hsz v n xs hs hown B A m c news hx hr h1 h63 hbytes hbase h
end

/-- Behind an append onto a row of the call's own nothing below 'base' has turned. -/
theorem below_grown {w w' : World} {base B : Nat} {e : TypeId} {size n : Nat} {v : Value} {xs : List Value} (hown : w.ownsRow base e size v n xs) (hg : w.grownBy w' v.ownBlock) (hB : B ≤ base) (hBw : B ≤ w.heap.size) : Below B w w' :=
  ⟨hg.os, hg.tape, hg.output, hg.size, fun k hk => hg.block k (by omega) (fun e => by have := (hown.lt k e.symm).1; omega)⟩

/-! What may have turned: blocks that are in a set S, and new ones. -/
structure Fr (w w' : World) (S : Nat → Prop) : Prop where
  os : w'.os = w.os
  tape : w'.tape = w.tape
  output : w'.output = w.output
  size : w.heap.size ≤ w'.heap.size
  block : ∀ k, k < w.heap.size → ¬ S k → w'.heap[k]? = w.heap[k]?
theorem Fr.refl (w : World) (S : Nat → Prop) : Fr w w S := ⟨rfl, rfl, rfl, Nat.le_refl _, fun _ _ _ => rfl⟩
theorem Fr.trans {a b c : World} {S : Nat → Prop} (h : Fr a b S) (k : Fr b c S) : Fr a c S :=
  ⟨k.os.trans h.os, k.tape.trans h.tape, k.output.trans h.output, Nat.le_trans h.size k.size, fun i hi hs => (k.block i (Nat.lt_of_lt_of_le hi h.size) hs).trans (h.block i hi hs)⟩
theorem Fr.mono {a b : World} {S T : Nat → Prop} (h : Fr a b S) (hs : ∀ k, k < a.heap.size → S k → T k) : Fr a b T :=
  ⟨h.os, h.tape, h.output, h.size, fun i hi ht => h.block i hi (fun e => ht (hs i hi e))⟩
/-- Two steps: the second may turn, too, what is new since the first began. -/
theorem Fr.step {a b c : World} {S T : Nat → Prop} (h : Fr a b S) (k : Fr b c T) (hs : ∀ i, i < a.heap.size → T i → S i) : Fr a c S :=
  ⟨k.os.trans h.os, k.tape.trans h.tape, k.output.trans h.output, Nat.le_trans h.size k.size, fun i hi ht => (k.block i (Nat.lt_of_lt_of_le hi h.size) (fun e => ht (hs i hi e))).trans (h.block i hi ht)⟩
theorem Fr.drewN {a b : World} {S : Nat → Prop} (h : Fr a b S) (n : Nat) : Fr a (b.drewN n) S := ⟨h.os, h.tape, h.output, h.size, h.block⟩
theorem Fr.drew {a b : World} {S : Nat → Prop} (h : Fr a b S) : Fr a b.drew S := ⟨h.os, h.tape, h.output, h.size, h.block⟩
theorem Fr.alloc {a b : World} {S : Nat → Prop} (h : Fr a b S) (o : Obj) : Fr a (b.alloc o) S :=
  ⟨h.os, h.tape, h.output, Nat.le_trans h.size (by simp), fun i hi hs => (Below.heap_alloc b o i (Nat.lt_of_lt_of_le hi h.size)).trans (h.block i hi hs)⟩
theorem Fr.setCell {a b : World} {S : Nat → Prop} (h : Fr a b S) {p : Addr} (hp : p.block < a.heap.size → S p.block) (u : Value) : Fr a (b.setCell p u) S :=
  ⟨h.os, h.tape, h.output, by simpa [World.setCell] using h.size, fun i hi hs => (Below.heap_setCell b p u i (by rintro rfl; exact hs (hp hi))).trans (h.block i hi hs)⟩
theorem Fr.one (a : World) (g o : Nat) (u : Value) : Fr a (a.setCell ⟨g, o, none⟩ u) (· = g) := (Fr.refl a (· = g)).setCell (p := ⟨g, o, none⟩) (fun _ => rfl) u
theorem Fr.grown {a b c : World} {S : Nat → Prop} (h : Fr a b S) {row : Option Nat} (hg : b.grownBy c row) (hr : ∀ k, row = some k → k < a.heap.size → S k) : Fr a c S :=
  h.step ⟨hg.os, hg.tape, hg.output, hg.size, fun k hk ht => hg.block k hk (fun e => ht e.symm)⟩ (fun i hi e => hr i e hi)
theorem Fr.of_below {B : Nat} {a b : World} {S : Nat → Prop} (h : Below B a b) (hs : ∀ k, B ≤ k → k < a.heap.size → S k) : Fr a b S :=
  ⟨h.os, h.tape, h.output, h.size, fun k hk ht => h.block k (by rcases Nat.lt_or_ge k B with h1 | h1; exact h1; exact absurd (hs k h1 hk) ht)⟩
theorem Fr.new {a b : World} {S : Nat → Prop} (h : Below a.heap.size a b) : Fr a b S := Fr.of_below h (fun k h1 h2 => absurd h1 (by omega))
theorem Fr.below {B : Nat} {a b : World} {S : Nat → Prop} (h : Fr a b S) (hs : ∀ k, S k → B ≤ k) (hB : B ≤ a.heap.size) : Below B a b :=
  ⟨h.os, h.tape, h.output, h.size, fun k hk => h.block k (by omega) (fun e => by have := hs k e; omega)⟩
theorem Fr.cell {a b : World} {S : Nat → Prop} (h : Fr a b S) {p : Addr} (hl : p.block < a.heap.size) (hp : ¬ S p.block) : b.cell? p = a.cell? p := World.cell?_of_block (w := a) (h.block p.block hl hp)
theorem Fr.frozen {a b : World} {S : Nat → Prop} (h : Fr a b S) {p : Addr} (hl : p.block < a.heap.size) (hp : ¬ S p.block) : b.frozen? p = a.frozen? p := World.frozen?_of_block (w := a) (h.block p.block hl hp)
theorem Rd.fr {w w' : World} {B size n c : Nat} {A : Option Addr} {xs : List Value} {S : Nat → Prop} (h : Rd w B size A n c xs) (hf : Fr w w' S) (hB : B ≤ w.heap.size) (hs : ∀ k, S k → B ≤ k) : Rd w' B size A n c xs :=
  h.below (hf.below hs hB)

/-- A block that is known whole. -/
def Blk (w : World) (g : Nat) (t : TypeId) (cs : Array Value) : Prop := w.heap[g]? = some (.cells cs t (0, 0))
section
variable {w w' : World} {g : Nat} {t : TypeId} {cs : Array Value}
theorem Blk.lt (h : Blk w g t cs) : g < w.heap.size := by
  rcases Nat.lt_or_ge g w.heap.size with h1 | h1
  · exact h1
  · unfold Blk at h; rw [Array.getElem?_eq_none h1] at h; cases h
theorem Blk.cell (h : Blk w g t cs) (i : Nat) : w.cell? ⟨g, i, none⟩ = cs[i]? := cell_of_row w g i cs t (0, 0) h
theorem Blk.at_ (h : Blk w g t cs) {i : Nat} {v : Value} (hv : cs[i]? = some v) : w.cell? ⟨g, i, none⟩ = some v := (h.cell i).trans hv
theorem Blk.frozen (h : Blk w g t cs) (i : Nat) : w.frozen? ⟨g, i, none⟩ = false := by
  unfold Blk at h
  simp [World.frozen?, h]
theorem Blk.new (w : World) (t : TypeId) (cs : Array Value) : Blk (w.alloc (.cells cs t)) w.heap.size t cs := heap_alloc_new w _
theorem Blk.drewN (h : Blk w g t cs) (n : Nat) : Blk (w.drewN n) g t cs := h
theorem Blk.drew (h : Blk w g t cs) : Blk w.drew g t cs := h
theorem Blk.alloc (h : Blk w g t cs) (o : Obj) : Blk (w.alloc o) g t cs := (Below.heap_alloc w o g h.lt).trans h
theorem Blk.set (h : Blk w g t cs) (i : Nat) (u : Value) : Blk (w.setCell ⟨g, i, none⟩ u) g t (cs.setIfInBounds i u) := by
  unfold Blk at h ⊢
  simp [World.setCell, Array.getElem?_modify, h]
theorem Blk.far (h : Blk w g t cs) {p : Addr} (hp : g ≠ p.block) (u : Value) : Blk (w.setCell p u) g t cs := (Below.heap_setCell w p u g hp).trans h
theorem Blk.fr {S : Nat → Prop} (h : Blk w g t cs) (hf : Fr w w' S) (hs : ¬ S g) : Blk w' g t cs := (hf.block g h.lt hs).trans h
theorem Blk.below {B : Nat} (h : Blk w g t cs) (hb : Below B w w') (hg : g < B) : Blk w' g t cs := (hb.block g hg).trans h
theorem Blk.grown {row : Option Nat} (h : Blk w g t cs) (hb : w.grownBy w' row) (hg : row ≠ some g) : Blk w' g t cs := (hb.block g h.lt (fun e => hg e.symm)).trans h
/-- Blocks of different element types are different ones. -/
theorem Blk.ne {g' : Nat} {t' : TypeId} {cs' : Array Value} (h : Blk w g t cs) (h' : Blk w g' t' cs') (hne : t ≠ t') : g ≠ g' := by
  rintro rfl
  unfold Blk at h h'
  rw [h] at h'
  injection h' with h'
  injection h' with _ ht
  exact hne ht
theorem own_ne_blk {base : Nat} {e : TypeId} {size n : Nat} {v : Value} {xs : List Value} (h : w.ownsRow base e size v n xs) (hg : Blk w g t cs) (hne : e ≠ t) : v.ownBlock ≠ some g := by
  rcases h.2 with ⟨rfl, _⟩ | ⟨g', cap, cur, rfl, _, hh, _⟩
  · simp [Value.ownBlock]
  · intro he
    have : g' = g := by simpa [Value.ownBlock] using he
    subst this
    exact Blk.ne (t := e) hh hg hne rfl
end
/-- An owned row that a step did not touch. -/
theorem own_fr {w w' : World} {base : Nat} {e : TypeId} {size n : Nat} {v : Value} {xs : List Value} {S : Nat → Prop} (h : w.ownsRow base e size v n xs) (hf : Fr w w' S) (hs : ∀ k, v.ownBlock = some k → ¬ S k) : w'.ownsRow base e size v n xs := by
  refine ⟨h.1, ?_⟩
  rcases h.2 with ⟨rfl, rfl⟩ | ⟨g, cap, cur, rfl, hb, hh, r⟩
  · exact .inl ⟨rfl, rfl⟩
  · have hlt : g < w.heap.size := Blk.lt (t := e) (cs := cur) hh
    exact .inr ⟨g, cap, cur, rfl, hb, (hf.block g hlt (hs g rfl)).trans hh, r⟩
theorem own_base {w : World} {base base' : Nat} {e : TypeId} {size n : Nat} {v : Value} {xs : List Value} (h : w.ownsRow base e size v n xs) (hs : ∀ k, v.ownBlock = some k → base' ≤ k) : w.ownsRow base' e size v n xs := by
  refine ⟨h.1, ?_⟩
  rcases h.2 with ⟨rfl, rfl⟩ | ⟨g, cap, cur, rfl, hb, r⟩
  · exact .inl ⟨rfl, rfl⟩
  · exact .inr ⟨g, cap, cur, rfl, hs g rfl, r⟩

/-- One new cell, as what is appended. -/
theorem Rd.one (w : World) (v : Value) (t : TypeId) : Rd (w.alloc (.cells #[v] t)) (w.heap.size + 1) 1 (some ⟨w.heap.size, 0, none⟩) 1 1 [v] :=
  ⟨by simp, Nat.le_refl _, by simp [maxLen], fun _ => ⟨_, rfl, by simp, fun j u hu => by
    have hj : j = 0 := by
      have := (List.getElem?_eq_some_iff.1 hu).1
      simp at this
      exact this
    subst hj
    simp at hu
    subst hu
    simp [add_lit]⟩⟩

/-- A world that was reached from w by making memory alone: below block B it is as w was. -/
structure Later (B : Nat) (w0 : World) where
  w : World
  below : Below B w0 w
instance (B : Nat) (w : World) : Nonempty (Later B w) := ⟨⟨w, Below.refl _ _⟩⟩
theorem Later.cell {B : Nat} {w : World} (x : Later B w) {p : Addr} (h : p.block < B) : x.w.cell? p = w.cell? p := x.below.cell h
theorem Later.size {B : Nat} {w : World} (x : Later B w) : w.heap.size ≤ x.w.heap.size := x.below.size
/-- A region that draws its order, whose calls make memory but answer plain values, and whose loads read what was there: one walk, in the order of the text, serves every order. -/
theorem wp_region_later {P : Program} {id : Nat} {Q : Exit → Act → World → Prop} {a : Act} {w : World} {l : List Oper} (B : Nat) (hm : P.follows .mixedOrders = true) (hB : Region.lexB .any l.toArray = true)
    (h : wpQuiet P l.toArray (fun w' => ∃ x : Later B w, w' = x.w) (fun a' => ∀ w', (∃ x : Later B w, w' = x.w) → Q .normal a' w') l a) : (Code.region id l.toArray true).wp P Q a w :=
  wp_region_quiet (C := fun w' => ∃ x : Later B w, w' = x.w) hm hB ⟨⟨_, (Below.refl B w).drew⟩, rfl⟩ (by simpa using h)
/-- A callee's contract inside such a region. -/
theorem Calls.later {P : Program} {f : FuncId} {args : Array Value} {B : Nat} {w : World} {x : Later B w} {v : Value} (hB : B ≤ w.heap.size)
    (h : Calls P f args x.w fun e w' => e = .returned v ∧ Below x.w.heap.size x.w w') : Calls P f args x.w fun e w'' => e = .returned v ∧ ∃ y : Later B w, w'' = y.w :=
  h.mono fun _ w' ⟨he, hb⟩ => ⟨he, ⟨w', x.below.trans (hb.mono (Nat.le_trans hB x.below.size))⟩, rfl⟩
theorem Calls.later_same {P : Program} {f : FuncId} {args : Array Value} {B : Nat} {w : World} {x : Later B w} {v : Value}
    (h : Calls P f args x.w fun e w' => e = .returned v ∧ x.w = w') : Calls P f args x.w fun e w'' => e = .returned v ∧ ∃ y : Later B w, w'' = y.w :=
  h.mono fun _ _ ⟨he, hb⟩ => ⟨he, x, hb.symm⟩

/-- A callee that only reads, in a region that is walked once ('go_quiet'). -/
theorem quiet_left {P : Program} {f : FuncId} {args : Array Value} {w : World} {n : Nat} {v : Value}
    (h : Calls P f args (w.drewN n) fun e w' => e = .returned v ∧ w.drewN n = w') : Calls P f args (w.drewN n) fun e w'' => e = .returned v ∧ ∃ m, w'' = w.drewN m :=
  h.mono fun _ _ ⟨he, hm⟩ => ⟨he, n, hm.symm⟩

theorem quiet_add_left {P : Program} {f : FuncId} {args : Array Value} {w : World} {a n : Nat} {v : Value}
    (h : Calls P f args (w.drewN (a + n)) fun e w' => e = .returned v ∧ w.drewN (a + n) = w') : Calls P f args (w.drewN (a + n)) fun e w'' => e = .returned v ∧ ∃ m, w'' = w.drewN (a + m) :=
  h.mono fun _ _ ⟨he, hm⟩ => ⟨he, n, hm.symm⟩

/-- An array of numbers that came in by value. -/
theorem arr_ints {H : Type} {enc : TypeId × Value → H} {P : Program} {w : World} {base : Nat} {sp : Nat → Bool} {held : Bool} {fuel : Nat} {t e : TypeId} {n : Nat} {k : IntKind} {cs : List Value} {x : DataW H × List MemPlace}
    (ht : P.underlying t = some (.array n e)) (he : P.underlying e = some (.int k)) (hce : P.cellsOf e = 1) (hct : P.cellsOf t = n)
    (h : DataW.trod enc P w base sp held fuel t cs = some x) : ∃ f : Nat → Int, cs.toArray = cellsOf k n f ∧ ∀ i, i < n → (Lit.int k (f i)).wf = true := by
  obtain ⟨xs, m, _, _, hl, hxl, hg⟩ := DataW.trod_array ht h
  rw [hct] at hl
  have hi : ∀ i, i < n → ∃ z, cs[i]? = some (.int k z) ∧ (Lit.int k z).wf = true := by
    intro i hi
    have h1 := hg i hi
    rw [hce, Nat.mul_one] at h1
    have h2 : xs[i]? = some (xs[i]'(by omega)) := List.getElem?_eq_getElem (by omega)
    rw [h2] at h1
    obtain ⟨z, hz, _, hw⟩ := DataW.trod_int he h1
    refine ⟨z, ?_, hw⟩
    have h3 : ((cs.drop i).take 1)[0]? = some (Value.int k z) := by rw [hz]; rfl
    simpa using h3
  refine ⟨fun i => match cs[i]? with | some (.int _ z) => z | _ => 0, ?_, ?_⟩
  · apply Array.ext
    · simp [cellsOf, hl]
    · intro i h1 h2
      obtain ⟨z, hz, _⟩ := hi i (by simpa [cellsOf] using h2)
      have h3 : i < cs.length := by simpa using h1
      simp only [cellsOf, Array.getElem_ofFn, List.getElem_toArray, hz]
      rw [List.getElem?_eq_getElem h3] at hz
      exact Option.some.inj hz
  · intro i hi'
    obtain ⟨z, hz, hw⟩ := hi i hi'
    simp only [hz]
    exact hw

/-- What the walk of a law is told of a slice of numbers that came in. -/
def IsRow (k : IntKind) (w : World) (a : Option Addr) (len cap : Nat) (zs : List Int) : Prop :=
  (a = none ∧ len = 0 ∧ cap = 0 ∧ zs = []) ∨
  ∃ x, a = some x ∧ len ≤ cap ∧ cap ≤ maxLen ∧ zs.length = cap ∧ (∀ i, i < zs.length → w.cell? (x.add i) = some (.int k (zs.getD i 0))) ∧ ∀ n ∈ zs, (Lit.int k n).wf = true
/-- A slice of bytes that came in is a text that is read. -/
theorem rd_of_row {w : World} {a : Option Addr} {len cap : Nat} {zs : List Int} (h : IsRow .u8 w a len cap zs) : ∃ bs : List UInt8, Rd w w.heap.size 1 a len cap (u8s bs) := by
  rcases h with ⟨rfl, rfl, rfl, rfl⟩ | ⟨x, rfl, h1, h2, h3, h4, h5⟩
  · exact ⟨[], Rd.none_⟩
  · refine ⟨(zs.take len).map fun z => UInt8.ofNat z.toNat, ?_⟩
    refine ⟨by simp [u8s]; omega, h1, h2, fun hn => ⟨x, rfl, ?_, fun j u hu => ?_⟩⟩
    · have h6 := World.block_lt_of_cell? (h := h4 0 (by omega))
      rwa [add_block] at h6
    · have hj : j < len ∧ j < zs.length := by
        have := (List.getElem?_eq_some_iff.1 hu).1
        simp [u8s] at this
        omega
      rw [h4 j hj.2]
      have hz := h5 (zs.getD j 0) (by rw [List.getD_eq_getElem?_getD, List.getElem?_eq_getElem hj.2]; exact List.getElem_mem hj.2)
      have hb : 0 ≤ zs.getD j 0 ∧ zs.getD j 0 ≤ 255 := by simpa [Lit.wf, IntKind.min, IntKind.max, IntKind.signed, IntKind.bits] using hz
      rw [← hu]
      have e : zs[j]? = some (zs.getD j 0) := by rw [List.getD_eq_getElem?_getD, List.getElem?_eq_getElem hj.2]; rfl
      simp only [u8s, List.getElem?_map, List.getElem?_take, hj.1, if_true, e, Option.map_some]
      congr 2
      rw [UInt8.toNat_ofNat']
      omega

end Go.Proofs.Ytameecogopnkjaa.B
