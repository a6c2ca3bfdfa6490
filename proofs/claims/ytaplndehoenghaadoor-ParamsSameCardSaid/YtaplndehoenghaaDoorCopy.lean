/- Structs copied field by field in one drawn region: the shared words. -/
import Derived.Test.YtaplndehoenghaaDoorBaseB
import Derived.Test.YtaplndehoenghaaDoorRule
namespace Go.Proofs.YtaplndehoenghaaDoor
open Go.RowKit
set_option linter.unusedVariables false
attribute [local go_sem ↓] app_hide

/-- An empty block. -/
def Emp (W : World) (g : Nat) (e : TypeId) : Prop := W.heap[g]? = some (.cells #[] e (0, 0))
theorem Emp.lt {W : World} {g : Nat} {e : TypeId} (h : Emp W g e) : g < W.heap.size := (Array.getElem?_eq_some_iff.1 h).1
theorem Emp.new (W : World) (e : TypeId) : Emp (W.alloc (.cells #[] e)) W.heap.size e := heap_alloc_new _ _
theorem Emp.kept {W W' : World} {S : Nat → Prop} {g : Nat} {e : TypeId} (h : Emp W g e) (hk : Kept S W W') (hn : ¬ S g) : Emp W' g e := (hk.block _ h.lt hn).trans h
theorem Emp.own {W : World} {g base : Nat} {e : TypeId} (h : Emp W g e) (hb : base ≤ g) : W.ownsRow base e 1 (.slice (some ⟨g, 0, none⟩) 0 0) 0 [] :=
  ⟨rfl, .inr ⟨g, 0, #[], rfl, hb, h, Nat.le_refl _, by simp [maxLen], rfl, rfl⟩⟩

/-- A new empty row, of the call's own from n0 on. -/
def IsEmp (n0 : Nat) (e : TypeId) (v : Value) (w : World) : Prop := ∃ g, v = .slice (some ⟨g, 0, none⟩) 0 0 ∧ Emp w g e ∧ n0 ≤ g
theorem IsEmp.kept {n0 : Nat} {e : TypeId} {v : Value} {w w' : World} {S : Nat → Prop} (h : IsEmp n0 e v w) (hk : Kept S w w') (hS : ∀ j, S j → j < n0) : IsEmp n0 e v w' := by
  obtain ⟨g, rfl, he, hg⟩ := h
  exact ⟨g, rfl, he.kept hk (fun hs => by have := hS g hs; omega), hg⟩
theorem IsEmp.new (n0 : Nat) (e : TypeId) (w : World) (h : n0 ≤ w.heap.size) : IsEmp n0 e (.slice (some ⟨w.heap.size, 0, none⟩) 0 0) (w.alloc (.cells #[] e)) := ⟨_, rfl, Emp.new w e, h⟩

/-- A copy of integers, of the call's own from n0 on. -/
def IsCopy (n0 : Nat) (e : TypeId) (k : IntKind) (m : Nat) (zs : List Int) (v : Value) (w : World) : Prop := ∃ p q, v = .slice p m q ∧ m ≤ q ∧ w.ownsRow n0 e 1 (.slice p m q) m (ints k zs)
theorem IsCopy.kept {n0 : Nat} {e : TypeId} {k : IntKind} {m : Nat} {zs : List Int} {v : Value} {w w' : World} {S : Nat → Prop} (h : IsCopy n0 e k m zs v w) (hk : Kept S w w') (hS : ∀ j, S j → j < n0) : IsCopy n0 e k m zs v w' := by
  obtain ⟨p, q, rfl, hq, ho⟩ := h
  exact ⟨p, q, rfl, hq, own_kept ho hk fun j hj hs => by have := hS j hs; have := (ho.lt j hj).1; omega⟩

theorem app_emp {W : World} {n0 B m c e bytes t : Nat} {k : IntKind} {A : Option Addr} {ys : List Int} {v : Value} (ht : Tryd.prog.underlying t = some (.slice e)) (hinfo : (Tryd.prog.info? e).map (fun i => (i.zero, i.size, i.bytes)) = some (some (.int k 0), 1, bytes)) (hby : bytes ≤ 64)
    (h : IsEmp n0 e v W) (hm : ys.length = m) (hl : m ≤ 1000) (hr : Row W B A (ints k ys)) :
    ∃ v' wz, (appSem #[t, t] t #[v, .slice A m c]).run Tryd.prog W = .ok v' wz ∧ IsCopy n0 e k m ys v' wz ∧ Below W.heap.size W wz := by
  obtain ⟨g, rfl, he, hg⟩ := h
  obtain ⟨i0, hi, hz0, hz1, hz2⟩ := info_parts hinfo
  have hs : (g : Nat) < W.heap.size := he.lt
  by_cases h0 : m = 0
  · subst h0
    have h0 : ys = [] := List.eq_nil_of_length_eq_zero hm
    subst h0
    refine ⟨_, W, ?_, ⟨_, _, rfl, Nat.le_refl _, he.own hg⟩, Below.refl _ _⟩
    rcases A with _ | ad <;> simp [appSem, Builtin.append_, run_underlying ht, sizeOf, typeInfo, hi, Builtin.lenOf, Builtin.firstCells, storeCells, loadCells, loadCellsFrom]
  · obtain ⟨b, o, rfl, _, hc⟩ := hr (by intro e; apply h0; have := congrArg List.length e; rw [ints_length] at this; simpa [hm] using this)
    have hmb : m * bytes ≤ 64000 := Nat.le_trans (Nat.mul_le_mul hl hby) (by omega)
    have hmb2 : (0 + m) * bytes ≤ 140737488355328 := by rw [Nat.zero_add]; omega
    obtain ⟨v', wz, hrun, hoz, hgz⟩ := run_append_arg_grows (P := Tryd.prog) W t t e i0 (.int k 0) 1 bytes ht hi hz0 hz1 hz2 rfl (by omega) ⟨g, 0, none⟩ 0 0 [] (by simp) (by simp) ⟨b, o, none⟩ m c (ints k ys) (by simp [hm]) hr.adds (by omega) (by simp only [maxLen]; omega) hmb2
    rw [Nat.zero_add, List.nil_append] at hoz
    obtain ⟨p, q, rfl, hq, -⟩ := own_slice hoz
    exact ⟨_, wz, hrun, ⟨p, q, rfl, hq, own_base hoz (by omega)⟩, ⟨hgz.os, hgz.tape, hgz.output, hgz.size, fun k hk => hgz.block k hk (by simp)⟩⟩

/-- What holds of the world all along: only the result's cells may have turned. -/
def boxG (W0 : World) (R2 t : Nat) (s : Nat) (w : World) : Prop := Kept (· = R2) W0 w ∧ ∃ cs : Array Value, cs.size = s ∧ w.heap[R2]? = some (.cells cs t (0, 0))
theorem boxG.below {W0 w w' : World} {R2 t s : Nat} (h : boxG W0 R2 t s w) (hb : Below w.heap.size w w') : boxG W0 R2 t s w' := by
  obtain ⟨hk, cs, hs, hh⟩ := h
  exact ⟨hk.trans (Kept.of_below' hb _), cs, hs, (hb.block _ (Array.getElem?_eq_some_iff.1 hh).1).trans hh⟩

/-- Cells of one block, stored one behind the other from i on. -/
def setAll (w : World) (R : Nat) : Nat → List Value → World
  | _, [] => w
  | i, v :: vs => setAll (w.setCell ⟨R, i, none⟩ v) R (i + 1) vs
theorem setAll_at {R t : Nat} : ∀ (vs : List Value) (w : World) (i : Nat) (cs : Array Value), cs.size = i + vs.length → w.heap[R]? = some (.cells cs t (0, 0)) →
    (setAll w R i vs).heap[R]? = some (.cells (cs.toList.take i ++ vs).toArray t (0, 0)) ∧ Kept (· = R) w (setAll w R i vs)
  | [], w, i, cs, hs, hh => by
    refine ⟨?_, Kept.refl _ _⟩
    rw [List.take_of_length_le (by simp at hs; simp; omega), List.append_nil]
    exact hh
  | v :: vs, w, i, cs, hs, hh => by
    have hlt := (Array.getElem?_eq_some_iff.1 hh).1
    have hi : i < cs.size := by simp at hs; omega
    have h1 : (w.setCell ⟨R, i, none⟩ v).heap[R]? = some (.cells (cs.setIfInBounds i v) t (0, 0)) := by simp [World.setCell, Array.getElem?_modify, hh]
    obtain ⟨h2, h3⟩ := setAll_at vs _ (i + 1) _ (by simp at hs ⊢; omega) h1
    refine ⟨?_, ((Kept.refl (· = R) w).setCell (p := ⟨R, i, none⟩) (.inl rfl) v).trans h3⟩
    rw [setAll, h2]
    congr 3
    rw [Array.toList_setIfInBounds, List.take_set, List.take_add_one]
    simp [hi, List.set_append, Nat.min_eq_left (Nat.le_of_lt hi)]
theorem setAll_all {R t : Nat} {vs : List Value} {w : World} {cs : Array Value} (hs : cs.size = vs.length) (hh : w.heap[R]? = some (.cells cs t (0, 0))) :
    (setAll w R 0 vs).heap[R]? = some (.cells vs.toArray t (0, 0)) ∧ Kept (· = R) w (setAll w R 0 vs) := by
  have := setAll_at vs w 0 cs (by omega) hh
  simpa using this
theorem size3 {cs : Array Value} (h : cs.size = 3) : ∃ y0 y1 y2, cs = #[y0, y1, y2] := by
  obtain ⟨l⟩ := cs
  match l, h with
  | [y0, y1, y2], _ => exact ⟨y0, y1, y2, rfl⟩
theorem size4 {cs : Array Value} (h : cs.size = 4) : ∃ y0 y1 y2 y3, cs = #[y0, y1, y2, y3] := by
  obtain ⟨l⟩ := cs
  match l, h with
  | [y0, y1, y2, y3], _ => exact ⟨y0, y1, y2, y3, rfl⟩
theorem size5 {cs : Array Value} (h : cs.size = 5) : ∃ y0 y1 y2 y3 y4, cs = #[y0, y1, y2, y3, y4] := by
  obtain ⟨l⟩ := cs
  match l, h with
  | [y0, y1, y2, y3, y4], _ => exact ⟨y0, y1, y2, y3, y4, rfl⟩
theorem size10 {cs : Array Value} (h : cs.size = 10) : ∃ y0 y1 y2 y3 y4 y5 y6 y7 y8 y9, cs = #[y0, y1, y2, y3, y4, y5, y6, y7, y8, y9] := by
  obtain ⟨l⟩ := cs
  match l, h with
  | [y0, y1, y2, y3, y4, y5, y6, y7, y8, y9], _ => exact ⟨y0, y1, y2, y3, y4, y5, y6, y7, y8, y9, rfl⟩
end Go.Proofs.YtaplndehoenghaaDoor
