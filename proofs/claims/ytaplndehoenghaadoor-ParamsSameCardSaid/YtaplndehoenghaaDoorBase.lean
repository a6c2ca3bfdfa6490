/- Readings of memory that the walks of this seat share: a row of cells that is only read, an owned row, and laws on append. -/
import Derived.Test.YtaplndehoenghaaDoorRows
import Derived.WalkKit
import Derived.WalkSpells
import Derived.WalkLawsBesides
import Derived.Handy
import Derived.Laws.CopyOwn
import Derived.Maps.AppendAt
import Derived.Deep.AppendLies
import Derived.Lib.Hide
import Derived.Deep.Draws
import Derived.Deep.RegionLaw
namespace Go.Proofs.YtaplndehoenghaaDoor
open Go.RowKit

/-- The cells xs lie at a, in a block below B. -/
def Row (w : World) (B : Nat) (a : Option Addr) (xs : List Value) : Prop :=
  xs ≠ [] → ∃ b o, a = some ⟨b, o, none⟩ ∧ b < B ∧ ∀ j u, xs[j]? = some u → w.cell? ⟨b, o + j, none⟩ = some u

section
variable {w w' : World} {B B' : Nat} {a : Option Addr} {xs : List Value}

theorem Row.nil (w : World) (B : Nat) (a : Option Addr) : Row w B a [] := fun h => (h rfl).elim

theorem Row.keep (h : Row w B a xs) (hk : ∀ p : Addr, p.block < B → w'.cell? p = w.cell? p) : Row w' B a xs := fun hn => by
  obtain ⟨b, o, rfl, hb, hc⟩ := h hn
  exact ⟨b, o, rfl, hb, fun j u hu => (hk _ hb).trans (hc j u hu)⟩

theorem Row.more (h : Row w B a xs) (hB : B ≤ B') : Row w B' a xs := fun hn => by
  obtain ⟨b, o, rfl, hb, hc⟩ := h hn
  exact ⟨b, o, rfl, by omega, hc⟩

theorem Row.below (h : Row w B a xs) (hb : Below B w w') : Row w' B a xs := h.keep fun _ hp => hb.cell hp
theorem Row.drew (h : Row w B a xs) : Row w.drew B a xs := h
theorem Row.drewN (h : Row w B a xs) (n : Nat) : Row (w.drewN n) B a xs := h
theorem Row.alloc (h : Row w B a xs) (hB : B ≤ w.heap.size) (o : Obj) : Row (w.alloc o) B a xs :=
  h.below ((Below.refl B w).alloc hB o)
theorem Row.setCell (h : Row w B a xs) {p : Addr} (hp : B ≤ p.block) (u : Value) : Row (w.setCell p u) B a xs :=
  h.below ((Below.refl B w).setCell hp u)

theorem Row.at_ (h : Row w B a xs) {j : Nat} (hj : j < xs.length) : ∃ b o u, a = some ⟨b, o, none⟩ ∧ b < B ∧ xs[j]? = some u ∧ w.cell? ⟨b, o + j, none⟩ = some u := by
  have hn : xs ≠ [] := by rintro rfl; simp at hj
  obtain ⟨b, o, rfl, hb, hc⟩ := h hn
  exact ⟨b, o, _, rfl, hb, List.getElem?_eq_getElem hj, hc j _ (List.getElem?_eq_getElem hj)⟩

theorem Row.drop (h : Row w B a xs) (k : Nat) (hk : k < xs.length) : Row w B (a.map (·.add k)) (xs.drop k) := fun hn => by
  have hx : xs ≠ [] := by rintro rfl; simp at hk
  obtain ⟨b, o, rfl, hb, hc⟩ := h hx
  refine ⟨b, o + k, by by_cases h0 : k = 0 <;> simp [Addr.add, h0], hb, fun j u hu => ?_⟩
  rw [List.getElem?_drop] at hu
  rw [Nat.add_assoc]
  exact hc _ _ hu

theorem Row.take (h : Row w B a xs) (k : Nat) : Row w B a (xs.take k) := fun hn => by
  have hx : xs ≠ [] := by rintro rfl; simp at hn
  obtain ⟨b, o, rfl, hb, hc⟩ := h hx
  refine ⟨b, o, rfl, hb, fun j u hu => hc j u ?_⟩
  rw [List.getElem?_take] at hu
  split at hu
  · exact hu
  · cases hu

theorem Row.of_own {base e n : Nat} {c m : Nat} (h : w.ownsRow base e n (.slice a m c) m xs) : Row w w.heap.size a xs := fun hn => by
  have hm : 0 < m := by
    rcases Nat.eq_zero_or_pos m with h0 | h0
    · subst h0
      exact absurd (List.eq_nil_of_length_eq_zero (by simpa using h.1)) hn
    · exact h0
  obtain ⟨g, cap, hv, _, hlt⟩ := h.form hm
  have ha : a = some ⟨g, 0, none⟩ := by injection hv
  subst ha
  refine ⟨g, 0, rfl, hlt, fun j u hu => ?_⟩
  have := h.cells (g := g) rfl j u hu
  rw [Nat.zero_add]
  by_cases h0 : j = 0
  · subst h0; simpa [Addr.add] using this
  · simpa [Addr.add, h0] using this
end

theorem below_of_drew {B : Nat} {w w' : World} (h : Below B w.drew w') : Below B w w' := ⟨h.os, h.tape, h.output, h.size, h.block⟩
theorem below_of_drewN {B n : Nat} {w w' : World} (h : Below B (w.drewN n) w') : Below B w w' := ⟨h.os, h.tape, h.output, h.size, h.block⟩
theorem own_below {w w' : World} {base B : Nat} {e size n : Nat} {v : Value} {xs : List Value} (h : w.ownsRow base e size v n xs) (hb : Below B w w') (hB : w.heap.size ≤ B) : w'.ownsRow base e size v n xs := by
  by_cases hv : v.ownBlock = none
  · exact h.kept (row := none) ⟨hb.os, hb.tape, hb.output, hb.size, fun k hk _ => hb.block k (Nat.lt_of_lt_of_le hk hB)⟩ (.inl hv)
  · exact h.kept (row := none) ⟨hb.os, hb.tape, hb.output, hb.size, fun k hk _ => hb.block k (Nat.lt_of_lt_of_le hk hB)⟩ (.inr hv)

/-- An owned value is a slice. -/
theorem own_slice {w : World} {base e size n : Nat} {v : Value} {xs : List Value} (h : w.ownsRow base e size v n xs) : ∃ a c, v = .slice a n c ∧ n ≤ c ∧ (a = none → n = 0 ∧ c = 0) ∧ (∀ x, a = some x → x.off = 0 ∧ x.spot = none ∧ base ≤ x.block ∧ x.block < w.heap.size) := by
  rcases h.2 with ⟨rfl, rfl⟩ | ⟨g, cap, cur, rfl, hb, hg, hc, _⟩
  · exact ⟨none, 0, rfl, Nat.le_refl _, fun _ => ⟨rfl, rfl⟩, by simp⟩
  · exact ⟨_, cap, rfl, hc, by simp, by rintro x h; cases h; exact ⟨rfl, rfl, hb, (Array.getElem?_eq_some_iff.1 hg).1⟩⟩

/-- 'append(s, x...)' onto an owned row, x a row that is read: nil, empty or not. -/
theorem run_app {P : Program} (w : World) (base : Nat) (t ty e : TypeId) (i : TypeInfo) (z : Value) (size bytes : Nat) (ht : P.underlying t = some (.slice e)) (hi : P.info? e = some i) (hz : i.zero = some z)
    (hsize : i.size = size) (hby : i.bytes = bytes) (hzs : z.cells.size = size) (hsz : 0 < size)
    (v : Value) (n : Nat) (xs : List Value) (hown : w.ownsRow base e size v n xs)
    (B : Nat) (A : Option Addr) (m c : Nat) (news : List Value) (hl : news.length = m * size) (hr : Row w B A news) (h1 : ∀ u ∈ news, u.oneCell' = true)
    (h63 : n + m ≤ maxLen) (hbytes : (n + m) * bytes ≤ 140737488355328) (hbase : base ≤ w.heap.size) :
    ∃ v' w', (Builtin.append_ #[t, t] ty #[v, .slice A m c]).run P w = .ok v' w' ∧ w'.ownsRow base e size v' (n + m) (xs ++ news) ∧ w.grownBy w' v.ownBlock ∧
      (v'.ownBlock = v.ownBlock ∨ v'.ownBlock = some w.heap.size) := by
  by_cases hn : news = []
  · subst hn
    have hm : m = 0 := by
      have h0 : m * size = 0 := by simpa using hl.symm
      rcases Nat.mul_eq_zero.1 h0 with h | h
      · exact h
      · omega
    subst hm
    refine ⟨v, w, ?_, by simpa using hown, ⟨rfl, rfl, rfl, Nat.le_refl _, fun _ _ _ => rfl⟩, .inl rfl⟩
    rcases hown.2 with ⟨rfl, rfl⟩ | ⟨g, cap, cur, rfl, _, _, hnc, _⟩
    · rcases A with _ | ad <;> simp [Builtin.append_, run_underlying ht, sizeOf, typeInfo, hi, Builtin.lenOf, Builtin.firstCells, loadCells, loadCellsFrom]
    · rcases A with _ | ad <;> simp [Builtin.append_, run_underlying ht, sizeOf, typeInfo, hi, Builtin.lenOf, Builtin.firstCells, hnc, storeCells, loadCells, loadCellsFrom]
  · obtain ⟨b, o, rfl, _, hc⟩ := hr hn
    have hcells : ∀ j u, news[j]? = some u → w.cell? ((⟨b, o, none⟩ : Addr).add j) = some u := by
      intro j u hu
      have := hc j u hu
      by_cases h0 : j = 0
      · subst h0; simpa [Addr.add] using this
      · simpa [Addr.add, h0] using this
    obtain ⟨v', w', hrun, h2, h3, _, h5⟩ := run_append_own_at (P := P) w base t ty e i z size bytes ht hi hz hsize hby hzs hsz v n xs hown ⟨b, o, none⟩ m c news hl hcells h1 h63 hbytes hbase
    exact ⟨v', w', hrun, h2, h3, h5⟩

/-- append, behind a name: so a walk meets it whole ('attribute [local go_sem ↓] app_hide'). -/
def appSem (ts : Array TypeId) (ty : TypeId) (vs : Array Value) : Sem Value := Builtin.append_ ts ty vs
theorem app_hide (ts : Array TypeId) (ty : TypeId) (vs : Array Value) : Builtin.append_ ts ty vs = appSem ts ty vs := rfl

theorem wp_app {P : Program} {w : World} {o : Oper} {a : Act} {K : Act → World → Prop} {Q : Exit → Act → World → Prop} (s x : Operand) (t : TypeId)
    (ho : o.op = .call { callee := .builtin .append, args := #[s, x], argTypes := #[t, t] })
    (base : Nat) (e : TypeId) (i : TypeInfo) (z : Value) (size bytes : Nat) (ht : P.underlying t = some (.slice e)) (hi : P.info? e = some i) (hz : i.zero = some z)
    (hsize : i.size = size) (hby : i.bytes = bytes) (hzs : z.cells.size = size) (hsz : 0 < size)
    (v : Value) (n : Nat) (xs : List Value) (hs : a.eval s = v) (hown : w.ownsRow base e size v n xs)
    (B : Nat) (A : Option Addr) (m c : Nat) (news : List Value) (hx : a.eval x = .slice A m c) (hl : news.length = m * size) (hr : Row w B A news) (h1 : ∀ u ∈ news, u.oneCell' = true)
    (h63 : n + m ≤ maxLen) (hbytes : (n + m) * bytes ≤ 140737488355328) (hbase : base ≤ w.heap.size)
    (h : ∀ v' w', w'.ownsRow base e size v' (n + m) (xs ++ news) → w.grownBy w' v.ownBlock → (v'.ownBlock = v.ownBlock ∨ v'.ownBlock = some w.heap.size) → K (a.put o.dst v') w') : o.wp P a w K Q := by
  obtain ⟨v', w', hrun, h2, h3, h4⟩ := run_app (P := P) w base t o.type e i z size bytes ht hi hz hsize hby hzs hsz v n xs hown B A m c news hl hr h1 h63 hbytes hbase
  unfold Oper.wp execOp
  simp only [ho, resolve, invoke, builtin, Sem.run_bind, Sem.run_pure, Result.andThen_ok, List.map_toArray, List.map_cons, List.map_nil, hs, hx, hrun]
  exact h v' w' h2 h3 h4

theorem wpList_app {P : Program} {w : World} {ops : Array Oper} {rest : List Oper} {o : Oper} {a : Act} {Q : Exit → Act → World → Prop} (hgd : o.guard = none) (s x : Operand) (t : TypeId)
    (ho : o.op = .call { callee := .builtin .append, args := #[s, x], argTypes := #[t, t] })
    (base : Nat) (e : TypeId) (i : TypeInfo) (z : Value) (size bytes : Nat) (ht : P.underlying t = some (.slice e)) (hi : P.info? e = some i) (hz : i.zero = some z)
    (hsize : i.size = size) (hby : i.bytes = bytes) (hzs : z.cells.size = size) (hsz : 0 < size)
    (v : Value) (n : Nat) (xs : List Value) (hs : a.eval s = v) (hown : w.ownsRow base e size v n xs)
    (B : Nat) (A : Option Addr) (m c : Nat) (news : List Value) (hx : a.eval x = .slice A m c) (hl : news.length = m * size) (hr : Row w B A news) (h1 : ∀ u ∈ news, u.oneCell' = true)
    (h63 : n + m ≤ maxLen) (hbytes : (n + m) * bytes ≤ 140737488355328) (hbase : base ≤ w.heap.size)
    (h : ∀ v' w', w'.ownsRow base e size v' (n + m) (xs ++ news) → w.grownBy w' v.ownBlock → (v'.ownBlock = v.ownBlock ∨ v'.ownBlock = some w.heap.size) → wpList P ops Q rest (a.put o.dst v') w') : wpList P ops Q (o :: rest) a w :=
  wpList_plain hgd fun _ hK => wp_app s x t ho base e i z size bytes ht hi hz hsize hby hzs hsz v n xs hs hown B A m c news hx hl hr h1 h63 hbytes hbase fun v' w' h2 h3 h4 => hK _ _ (h v' w' h2 h3 h4)

theorem step_app {P : Program} {w : World} {ops : Array Oper} {o : Oper} {a : Act} {K : Act → World → Prop} {Q : Exit → Act → World → Prop} {E : Prop} (hgd : o.guard = none) (s x : Operand) (t : TypeId)
    (ho : o.op = .call { callee := .builtin .append, args := #[s, x], argTypes := #[t, t] })
    (base : Nat) (e : TypeId) (i : TypeInfo) (z : Value) (size bytes : Nat) (ht : P.underlying t = some (.slice e)) (hi : P.info? e = some i) (hz : i.zero = some z)
    (hsize : i.size = size) (hby : i.bytes = bytes) (hzs : z.cells.size = size) (hsz : 0 < size)
    (v : Value) (n : Nat) (xs : List Value) (hs : a.eval s = v) (hown : w.ownsRow base e size v n xs)
    (B : Nat) (A : Option Addr) (m c : Nat) (news : List Value) (hx : a.eval x = .slice A m c) (hl : news.length = m * size) (hr : Row w B A news) (h1 : ∀ u ∈ news, u.oneCell' = true)
    (h63 : n + m ≤ maxLen) (hbytes : (n + m) * bytes ≤ 140737488355328) (hbase : base ≤ w.heap.size)
    (h : ∀ v' w', w'.ownsRow base e size v' (n + m) (xs ++ news) → w.grownBy w' v.ownBlock → (v'.ownBlock = v.ownBlock ∨ v'.ownBlock = some w.heap.size) → K (a.put o.dst v') w') :
    if Region.wanted o (yielded ops a.tmps) = true then Oper.wp P o a w K Q else E := by
  have hw : Region.wanted o (yielded ops a.tmps) = true := by simp [Region.wanted, hgd]
  rw [if_pos hw]
  exact wp_app s x t ho base e i z size bytes ht hi hz hsize hby hzs hsz v n xs hs hown B A m c news hx hl hr h1 h63 hbytes hbase h

/-- w' is w but for blocks in S and new ones. -/
structure Kept (S : Nat → Prop) (w w' : World) : Prop where
  os : w'.os = w.os
  tape : w'.tape = w.tape
  output : w'.output = w.output
  size : w.heap.size ≤ w'.heap.size
  block : ∀ k, k < w.heap.size → ¬ S k → w'.heap[k]? = w.heap[k]?

section
variable {S S' : Nat → Prop} {a b c w w' : World}
theorem Kept.refl (S : Nat → Prop) (w : World) : Kept S w w := ⟨rfl, rfl, rfl, Nat.le_refl _, fun _ _ _ => rfl⟩
theorem Kept.trans (h : Kept S a b) (k : Kept S b c) : Kept S a c :=
  ⟨k.os.trans h.os, k.tape.trans h.tape, k.output.trans h.output, Nat.le_trans h.size k.size, fun i hi hn => (k.block i (Nat.lt_of_lt_of_le hi h.size) hn).trans (h.block i hi hn)⟩
theorem Kept.mono (h : Kept S a b) (hs : ∀ k, k < a.heap.size → S k → S' k) : Kept S' a b := ⟨h.os, h.tape, h.output, h.size, fun k hk hn => h.block k hk (fun hS => hn (hs k hk hS))⟩
theorem Kept.of_below {B : Nat} (h : Below B a b) (hB : ∀ k, B ≤ k → k < a.heap.size → S k) : Kept S a b :=
  ⟨h.os, h.tape, h.output, h.size, fun k hk hn => h.block k (Nat.lt_of_not_le fun hle => hn (hB k hle hk))⟩
theorem Kept.of_below' (h : Below a.heap.size a b) (S : Nat → Prop) : Kept S a b := Kept.of_below h fun k h1 h2 => by omega
theorem Kept.below (h : Kept (fun _ => False) a b) : Below a.heap.size a b := ⟨h.os, h.tape, h.output, h.size, fun k hk => h.block k hk (fun h => h)⟩
/-- What is kept from a to c, where the blocks that b has more than a may turn behind b. -/
theorem Kept.then (h : Kept S a b) (k : Kept S' b c) (hs : ∀ i, i < a.heap.size → S' i → S i) : Kept S a c :=
  ⟨k.os.trans h.os, k.tape.trans h.tape, k.output.trans h.output, Nat.le_trans h.size k.size, fun i hi hn => (k.block i (Nat.lt_of_lt_of_le hi h.size) (fun h' => hn (hs i hi h'))).trans (h.block i hi hn)⟩
theorem Kept.drew (h : Kept S a w) : Kept S a w.drew := ⟨h.os, h.tape, h.output, h.size, h.block⟩
theorem Kept.drewN (h : Kept S a w) (n : Nat) : Kept S a (w.drewN n) := ⟨h.os, h.tape, h.output, h.size, h.block⟩
theorem Kept.alloc (h : Kept S a w) (o : Obj) : Kept S a (w.alloc o) := h.trans (Kept.of_below' ((Below.refl _ _).alloc (Nat.le_refl _) o) _)
theorem Kept.setCell (h : Kept S a w) {p : Addr} (hp : S p.block ∨ a.heap.size ≤ p.block) (u : Value) : Kept S a (w.setCell p u) :=
  ⟨h.os, h.tape, h.output, by simpa [World.setCell] using h.size, fun k hk hn => (Below.heap_setCell w p u k (by
    rintro rfl
    rcases hp with hp | hp
    · exact hn hp
    · omega)).trans (h.block k hk hn)⟩
theorem Kept.grown (h : Kept S a w) {row : Option Nat} (hg : w.grownBy w' row) (hr : ∀ k, row = some k → S k ∨ a.heap.size ≤ k) : Kept S a w' :=
  ⟨hg.os.trans h.os, hg.tape.trans h.tape, hg.output.trans h.output, Nat.le_trans h.size hg.size, fun k hk hn => (hg.block k (Nat.lt_of_lt_of_le hk h.size) (fun e => by
    rcases hr k e.symm with h1 | h1
    · exact hn h1
    · omega)).trans (h.block k hk hn)⟩
theorem Kept.andBelow (h : Kept S a b) (k : Below b.heap.size b c) : Kept S a c := h.trans (Kept.of_below' k S)
theorem Kept.cell (h : Kept S w w') {p : Addr} (hp : p.block < w.heap.size) (hn : ¬ S p.block) : w'.cell? p = w.cell? p := World.cell?_of_block (h.block _ hp hn)
theorem Kept.frozen (h : Kept S w w') {p : Addr} (hp : p.block < w.heap.size) (hn : ¬ S p.block) : w'.frozen? p = w.frozen? p := World.frozen?_of_block (h.block _ hp hn)
theorem Row.kept {B : Nat} {x : Option Addr} {xs : List Value} (h : Row w B x xs) (hk : Kept S w w') (hB : B ≤ w.heap.size) (hn : ∀ k, k < B → ¬ S k) : Row w' B x xs :=
  Row.keep h fun _ hp => hk.cell (by omega) (hn _ hp)
theorem own_kept {base e size n : Nat} {v : Value} {xs : List Value} (h : w.ownsRow base e size v n xs) (hk : Kept S w w') (hn : ∀ k, v.ownBlock = some k → ¬ S k) : w'.ownsRow base e size v n xs := by
  refine ⟨h.1, ?_⟩
  rcases h.2 with hx | ⟨g, cap, cur, rfl, hb, hgg, rest⟩
  · exact .inl hx
  · refine .inr ⟨g, cap, cur, rfl, hb, ?_, rest⟩
    rw [hk.block g (Array.getElem?_eq_some_iff.1 hgg).1 (hn g rfl)]
    exact hgg
theorem own_base {base base' e size n : Nat} {v : Value} {xs : List Value} (h : w.ownsRow base e size v n xs) (hb : base' ≤ base) : w.ownsRow base' e size v n xs := by
  refine ⟨h.1, ?_⟩
  rcases h.2 with hx | ⟨g, cap, cur, rfl, h1, h2⟩
  · exact .inl hx
  · exact .inr ⟨g, cap, cur, rfl, by omega, h2⟩
end

/-- Bytes. -/
def IsU8 (zs : List Int) : Prop := ∀ z ∈ zs, 0 ≤ z ∧ z < 256
/-- The cells of integers. -/
def ints (k : IntKind) (zs : List Int) : List Value := zs.map (Value.int k)

theorem ints_one (k : IntKind) (zs : List Int) : ∀ u ∈ ints k zs, u.oneCell' = true := by
  intro u hu
  simp [ints] at hu
  obtain ⟨z, _, rfl⟩ := hu
  rfl
theorem ints_get (k : IntKind) (zs : List Int) {j : Nat} (hj : j < zs.length) : (ints k zs)[j]? = some (.int k (zs[j]?.getD 0)) := by
  simp [ints, List.getElem?_eq_getElem hj]
@[simp] theorem ints_length (k : IntKind) (zs : List Int) : (ints k zs).length = zs.length := by simp [ints]
theorem ints_drop (k : IntKind) (n : Nat) (zs : List Int) : (ints k zs).drop n = ints k (zs.drop n) := by simp [ints]
theorem ints_take (k : IntKind) (n : Nat) (zs : List Int) : (ints k zs).take n = ints k (zs.take n) := by simp [ints]
theorem ints_append (k : IntKind) (xs ys : List Int) : ints k xs ++ ints k ys = ints k (xs ++ ys) := by simp [ints]
theorem ints_ne {k : IntKind} {zs : List Int} (h : zs ≠ []) : ints k zs ≠ [] := by simpa [ints] using h
theorem IsU8.get {zs : List Int} (h : IsU8 zs) (j : Nat) : 0 ≤ zs[j]?.getD 0 ∧ zs[j]?.getD 0 < 256 := by
  rcases Nat.lt_or_ge j zs.length with hj | hj
  · rw [List.getElem?_eq_getElem hj]; exact h _ (List.getElem_mem hj)
  · rw [List.getElem?_eq_none hj]; decide

/-- A row of integers: where it lies, and its cells in the walk's spelling. -/
theorem Row.ints {w : World} {B : Nat} {a : Option Addr} {k : IntKind} {zs : List Int} (h : Row w B a (Go.Proofs.YtaplndehoenghaaDoor.ints k zs)) (hn : zs ≠ []) :
    ∃ b o, a = some ⟨b, o, none⟩ ∧ b < B ∧ ∀ j, j < zs.length → w.cell? ⟨b, o + j, none⟩ = some (.int k (zs[j]?.getD 0)) := by
  obtain ⟨b, o, rfl, hb, hc⟩ := h (ints_ne hn)
  exact ⟨b, o, rfl, hb, fun j hj => hc j _ (ints_get k zs hj)⟩

theorem Row.adds {w : World} {B b o : Nat} {xs : List Value} (h : Row w B (some ⟨b, o, none⟩) xs) : ∀ j u, xs[j]? = some u → w.cell? ((⟨b, o, none⟩ : Addr).add j) = some u := by
  intro j u hu
  have hn : xs ≠ [] := by rintro rfl; simp at hu
  obtain ⟨b', o', he, _, hc⟩ := h hn
  cases he
  have := hc j u hu
  by_cases h0 : j = 0
  · subst h0; simpa [Addr.add] using this
  · simpa [Addr.add, h0] using this

theorem cell_of_heap {w : World} {g : Nat} {cs : Array Value} {t : TypeId} {f : Nat × Nat} (h : w.heap[g]? = some (.cells cs t f)) (i : Nat) : w.cell? ⟨g, i, none⟩ = cs[i]? := cell_of_row w g i cs t f h

/-- Where a slice begins that is cut at k: Go keeps the old address where nothing is left of the capacity. -/
def cutAt (a : Option Addr) (k cap : Nat) : Option Addr := if cap = k then a else a.map (·.add k)
/-- .. of elements of s cells. -/
def cutBy (a : Option Addr) (k cap s : Nat) : Option Addr := if cap = k then a else a.map (·.add (k * s))
@[go_sem ↓] theorem sliced_by (a : Option Addr) (l h m s : Nat) : sliced a l h m s = .slice (cutBy a l m s) (h - l) (m - l) := by simp [sliced, cutBy]
@[go_sem] theorem cutBy_one (a : Option Addr) (l m : Nat) : cutBy a l m 1 = cutAt a l m := by simp [cutBy, cutAt]
@[go_sem] theorem cutAt_zero (a : Option Addr) (m : Nat) : cutAt a 0 m = a := by
  unfold cutAt
  split
  · rfl
  · cases a <;> simp [Addr.add]

theorem Row.cut {w : World} {B : Nat} {a : Option Addr} {xs : List Value} (h : Row w B a xs) (k cap : Nat) (hc : xs.length ≤ cap) : Row w B (cutAt a k cap) (xs.drop k) := by
  rcases Nat.lt_or_ge k xs.length with hk | hk
  · unfold cutAt
    rw [if_neg (by omega)]
    exact h.drop k hk
  · rw [List.drop_eq_nil_of_le hk]
    exact Row.nil _ _ _

/-- The box of a variable. -/
theorem box_cell {w : World} {R : Nat} {v : Value} {t : TypeId} (h : w.heap[R]? = some (.cells #[v] t (0, 0))) : w.cell? ⟨R, 0, none⟩ = some v := cell_of_heap h 0

/-- The cell of a new box, as a row. -/
theorem row_one (w : World) (u : Value) (t : TypeId) : Row (w.alloc (.cells #[u] t)) (w.heap.size + 1) (some ⟨w.heap.size, 0, none⟩) [u] := fun _ => by
  refine ⟨_, _, rfl, Nat.lt_succ_self _, fun j x hj => ?_⟩
  match j, hj with
  | 0, hj =>
    cases hj
    exact cell_of_heap (heap_alloc_new w _) 0

theorem ofInt_i64 (a : Nat) (ha : a < 9223372036854775808) : (BitVec.ofInt 64 (a : Int)).toNat = a := by
  rw [BitVec.ofInt_natCast, BitVec.toNat_ofNat]; exact Nat.mod_eq_of_lt (by omega)
theorem i64_or_nat (a b : Nat) (ha : a < 9223372036854775808) (hb : b < 9223372036854775808) : bits .or .i64 (a : Int) (b : Int) = ((a ||| b : Nat) : Int) := by
  have hx : a ||| b < 2 ^ 63 := Nat.or_lt_two_pow (by omega) (by omega)
  show IntKind.i64.wrap ((BitVec.ofInt 64 (a : Int) ||| BitVec.ofInt 64 (b : Int)).toNat : Int) = _
  rw [BitVec.toNat_or, ofInt_i64 a ha, ofInt_i64 b hb, IntKind.wrap_i64]
  omega
/-- 'x<<k | y' with y below 2^k is a sum. -/
theorem or_low (k : Nat) (x y : Int) (hx : 0 ≤ x) (hy : 0 ≤ y) (hk : y < 2 ^ k) (hs : x * 2 ^ k < 9223372036854775808) (hy' : y < 9223372036854775808) :
    bits .or .i64 (x * 2 ^ k) y = x * 2 ^ k + y := by
  obtain ⟨a, rfl⟩ := Int.eq_ofNat_of_zero_le hx
  obtain ⟨b, rfl⟩ := Int.eq_ofNat_of_zero_le hy
  have h1 : ((a : Int) * 2 ^ k) = ((a * 2 ^ k : Nat) : Int) := by simp
  have h2 : b < 2 ^ k := by exact_mod_cast hk
  rw [h1] at hs ⊢
  rw [i64_or_nat _ _ (by omega) (by omega)]
  rw [Nat.mul_comm a, ← Nat.two_pow_add_eq_or_of_lt h2]
  simp

/-- 'append(s, x)' onto an owned row of elements of one cell: where the element lies in a box of its own. -/
theorem app_elem {P : Program} {W : World} {B n q : Nat} {p : Option Addr} {xs : List Value} (t e : TypeId) (bytes : Nat) (z u : Value) (ht : P.underlying t = some (.slice e))
    (hinfo : (P.info? e).map (fun i => (i.zero, i.size, i.bytes)) = some (some z, 1, bytes)) (hz : z.cells.size = 1) (hby : bytes ≤ 64) (hu : u.oneCell' = true)
    (ho : W.ownsRow B e 1 (.slice p n q) n xs) (hn : n ≤ 1000000) (hB : B ≤ W.heap.size) :
    ∃ g cap wz, (appSem #[t, t] t #[.slice p n q, .slice (some ⟨W.heap.size, 0, none⟩) 1 1]).run P (W.alloc (.cells #[u] e)) = .ok (.slice (some ⟨g, 0, none⟩) (n + 1) cap) wz ∧
      wz.ownsRow B e 1 (.slice (some ⟨g, 0, none⟩) (n + 1) cap) (n + 1) (xs ++ [u]) ∧ Kept (fun k => (Value.slice p n q).ownBlock = some k) W wz := by
  obtain ⟨i0, hi, hz0, hz1, hz2⟩ := info_parts hinfo
  have h1 : (n + 1) * bytes ≤ 140737488355328 := by
    have : (n + 1) * bytes ≤ (n + 1) * 64 := Nat.mul_le_mul_left _ hby
    omega
  obtain ⟨v', wz, hrun, hoz, hgz, haz⟩ := run_app (P := P) (W.alloc (.cells #[u] e)) B t t e i0 z 1 bytes ht hi hz0 hz1 hz2 hz (by omega) (.slice p n q) n xs (ho.alloc _) (W.heap.size + 1)
    (some ⟨W.heap.size, 0, none⟩) 1 1 [u] rfl (row_one _ _ _) (by simpa using hu) (by simp only [maxLen]; omega) h1 (by simp; omega)
  obtain ⟨g, cap, rfl, _, _⟩ := hoz.form (by omega)
  exact ⟨g, cap, wz, hrun, hoz, ((Kept.refl _ _).alloc _).grown hgz fun k hk => .inl hk⟩

theorem info_u8 : (Tryd.prog.info? 5).map (fun i => (i.zero, i.size, i.bytes)) = some (some (.int .u8 0), 1, 1) := by kernel_rfl
theorem info_int : (Tryd.prog.info? 3).map (fun i => (i.zero, i.size, i.bytes)) = some (some (.int .i64 0), 1, 8) := by kernel_rfl
end Go.Proofs.YtaplndehoenghaaDoor
