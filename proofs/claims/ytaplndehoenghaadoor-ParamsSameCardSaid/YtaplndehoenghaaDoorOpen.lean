/- The arguments of a law, opened: rows of integers, the fields of a struct. -/
import Derived.Test.YtaplndehoenghaaDoorBase
import Derived.ProofKit
import Derived.OpenShut
import Derived.ShutString
import Derived.ChangeOld
import Derived.Below
import Derived.Deep.Fields
namespace Go.Proofs.YtaplndehoenghaaDoor
open Go.ChangeShapes Go.WideShapes Go.ChangeAt Go.RowKit Go.Deep
set_option linter.unusedVariables false

theorem is_u8 {n : Int} (h : (Lit.int .u8 n).wf = true) : 0 ≤ n ∧ n < 256 := by
  have h2 : IntKind.u8.min ≤ n ∧ n ≤ IntKind.u8.max := by simpa [Lit.wf] using h
  have e1 : IntKind.u8.min = 0 := by decide
  have e2 : IntKind.u8.max = 255 := by decide
  omega
theorem is_i64 {n : Int} (h : (Lit.int .i64 n).wf = true) : -9223372036854775808 ≤ n ∧ n ≤ 9223372036854775807 := by
  have h2 : IntKind.i64.min ≤ n ∧ n ≤ IntKind.i64.max := by simpa [Lit.wf] using h
  have e1 : IntKind.i64.min = -9223372036854775808 := by decide
  have e2 : IntKind.i64.max = 9223372036854775807 := by decide
  omega

theorem row_of_cells {k : IntKind} {w : World} {x : Addr} {len cap : Nat} {zs : List Int} (hz : zs.length = cap) (hl : len ≤ cap) (hc : ∀ i, i < zs.length → w.cell? (x.add i) = some (.int k (zs.getD i 0))) :
    Row w w.heap.size (some x) (ints k (zs.take len)) := fun hn => by
  have h0 : 0 < (zs.take len).length := by
    rcases h : zs.take len with _ | ⟨y, ys⟩
    · rw [h] at hn; exact absurd rfl hn
    · simp
  have h1 : 0 < zs.length := by simp at h0; omega
  obtain ⟨b, o, sp⟩ := x
  have hsp : sp = none := by
    rcases sp with _ | sp
    · rfl
    · have := hc 0 h1
      simp only [Addr.add, if_pos, World.cell?] at this
      split at this <;> simp at this
  subst hsp
  have cc : ∀ i, i < zs.length → w.cell? ⟨b, o + i, none⟩ = some (.int k (zs.getD i 0)) := fun i hi => by
    have := hc i hi
    by_cases hi0 : i = 0
    · subst hi0; simpa [Addr.add] using this
    · simpa [Addr.add, hi0] using this
  refine ⟨b, o, rfl, World.block_lt_of_cell? w _ (cc 0 h1), fun j u hj => ?_⟩
  have hj1 : j < (ints k (zs.take len)).length := (List.getElem?_eq_some_iff.1 hj).1
  replace hj1 : j < len ∧ j < zs.length := by
    rw [ints_length, List.length_take] at hj1
    omega
  rw [cc j hj1.2]
  simp only [ints, List.getElem?_map, List.getElem?_take, if_pos hj1.1, List.getElem?_eq_getElem hj1.2, Option.map_some, Option.some.injEq] at hj
  rw [← hj]
  simp [List.getD_eq_getElem?_getD, List.getElem?_eq_getElem hj1.2]

theorem arr3 {cs : Array Value} {x0 x1 x2 : Value} (h : cs.size = 3) (h0 : cs[0]? = some x0) (h1 : cs[1]? = some x1) (h2 : cs[2]? = some x2) : cs = #[x0, x1, x2] := by
  obtain ⟨l⟩ := cs
  match l, h with
  | [_, _, _], _ =>
    simp at h0 h1 h2
    simp [h0, h1, h2]
theorem arr4 {cs : Array Value} {x0 x1 x2 x3 : Value} (h : cs.size = 4) (h0 : cs[0]? = some x0) (h1 : cs[1]? = some x1) (h2 : cs[2]? = some x2) (h3 : cs[3]? = some x3) : cs = #[x0, x1, x2, x3] := by
  obtain ⟨l⟩ := cs
  match l, h with
  | [_, _, _, _], _ =>
    simp at h0 h1 h2 h3
    simp [h0, h1, h2, h3]
theorem arr5 {cs : Array Value} {x0 x1 x2 x3 x4 : Value} (h : cs.size = 5) (h0 : cs[0]? = some x0) (h1 : cs[1]? = some x1) (h2 : cs[2]? = some x2) (h3 : cs[3]? = some x3) (h4 : cs[4]? = some x4) : cs = #[x0, x1, x2, x3, x4] := by
  obtain ⟨l⟩ := cs
  match l, h with
  | [_, _, _, _, _], _ =>
    simp at h0 h1 h2 h3 h4
    simp [h0, h1, h2, h3, h4]
theorem arr10 {cs : Array Value} {x0 x1 x2 x3 x4 x5 x6 x7 x8 x9 : Value} (h : cs.size = 10) (h0 : cs[0]? = some x0) (h1 : cs[1]? = some x1) (h2 : cs[2]? = some x2) (h3 : cs[3]? = some x3) (h4 : cs[4]? = some x4) (h5 : cs[5]? = some x5) (h6 : cs[6]? = some x6) (h7 : cs[7]? = some x7) (h8 : cs[8]? = some x8) (h9 : cs[9]? = some x9) : cs = #[x0, x1, x2, x3, x4, x5, x6, x7, x8, x9] := by
  obtain ⟨l⟩ := cs
  match l, h with
  | [_, _, _, _, _, _, _, _, _, _], _ =>
    simp at h0 h1 h2 h3 h4 h5 h6 h7 h8 h9
    simp [h0, h1, h2, h3, h4, h5, h6, h7, h8, h9]

section
variable {H : Type} {enc : TypeId × Value → H} {P : Program} {w : World} {base : Nat} {held : Bool}

/-- A slice of integers that came in. -/
theorem open_ints_row {t e : TypeId} {k : IntKind} {n : Nat} {v : Value} {y : DataW H × List MemPlace} (ht : P.underlying t = some (.slice e)) (he : P.underlying e = some (.int k)) (hc : P.cellsOf e = 1)
    (h : DataW.trod enc P w base (fun _ => true) held n t [v] = some y) :
    ∃ a l c zs, v = .slice a l c ∧ zs.length = l ∧ l ≤ c ∧ Row w w.heap.size a (ints k zs) ∧ ∀ x ∈ zs, (Lit.int k x).wf = true := by
  rcases open_ints ht he hc h with ⟨hcs, _⟩ | ⟨x, l, c, zs, hcs, _, hl, hm, hz, _, hcell, hwz⟩
  · simp at hcs
    exact ⟨none, 0, 0, [], hcs, rfl, Nat.le_refl _, Row.nil _ _ _, fun x hx => by simp at hx⟩
  · simp at hcs
    refine ⟨some x, l, c, zs.take l, hcs, ?_, hl, row_of_cells (by simpa using hz) hl hcell, fun x hx => hwz x (List.mem_of_mem_take hx)⟩
    simp at hz
    simp; omega

/-- The fields of a struct by value: each reads by itself. -/
theorem open_fields {spare : Nat → Bool} {r : Reach} {b0 : Nat} {t : TypeId} {fs : Array Field} {v : Value} {d : DataW H} {p : List MemPlace} (hs : P.underlying t = some (.struct fs)) (hone : oneCellFields P fs = true) (hC : P.cellsOf t = fs.size)
    (hv : Value.okWide P w r b0 t v) (h : DataW.Trod enc P w base spare held t v d p) :
    ∃ cs : Array Value, v = .agg cs ∧ cs.size = fs.size ∧ ∀ (j : Nat) (f : Field), fs[j]? = some f → ∃ (c : Value) (y : DataW H × List MemPlace) (n : Nat), cs[j]? = some c ∧ DataW.trod enc P w base spare held n f.type [c] = some y := by
  obtain ⟨cs, rfl, hsz⟩ := okWide_struct hs hv
  refine ⟨cs, rfl, hsz.trans hC, fun j f hj => ?_⟩
  obtain ⟨fuel, hf⟩ := h
  obtain ⟨xs, n, _, hx, _, hlen, hg⟩ := DataW.trod_struct hs hf
  obtain ⟨o, k⟩ := hone_of hone j f hj
  have hjl : j < fs.size := (Array.getElem?_eq_some_iff.1 hj).1
  have hjc : j < cs.size := by omega
  have h1 := hg j f hj
  rw [o, k] at h1
  have e1 : ((Value.agg cs).cells.toList.drop j).take 1 = [cs[j]] := by
    show (cs.toList.drop j).take 1 = _
    rw [List.drop_eq_getElem_cons (by simpa using hjc)]
    simp
  rw [e1] at h1
  have hys : xs[j]? = some (xs[j]'(by omega)) := List.getElem?_eq_getElem (by omega)
  exact ⟨cs[j], _, n, Array.getElem?_eq_getElem hjc, h1.trans hys⟩

theorem field_int {t : TypeId} {k : IntKind} {spare : Nat → Bool} {n : Nat} {v : Value} {y : DataW H × List MemPlace} (ht : P.underlying t = some (.int k)) (h : DataW.trod enc P w base spare held n t [v] = some y) : ∃ x, v = .int k x ∧ (Lit.int k x).wf = true := by
  obtain ⟨x, h1, _, h2⟩ := DataW.trod_int ht h
  simp at h1
  exact ⟨x, h1, h2⟩
theorem field_bool {t : TypeId} {spare : Nat → Bool} {n : Nat} {v : Value} {y : DataW H × List MemPlace} (ht : P.underlying t = some .bool) (h : DataW.trod enc P w base spare held n t [v] = some y) : ∃ x, v = .bool x := by
  obtain ⟨x, h1, _⟩ := DataW.trod_bool ht h
  simp at h1
  exact ⟨x, h1⟩
end
end Go.Proofs.YtaplndehoenghaaDoor
