/- What the frames of the two statements on params share: the library's table, read off the row's condition. -/
import Derived.Test.YtaplndehoenghaaDoorRows
import Derived.Test.YtaplndehoenghaaDoorOpen
import Derived.Test.YtaplndehoenghaaDoorVInt
import Derived.LaidMore
import Derived.Stop.Joined
namespace Go.Proofs.YtaplndehoenghaaDoor
open Go.ChangeShapes Go.WideShapes Go.ChangeAt Go.WideMaps Go.WideElems Go.RowKit Go.Deep
set_option linter.unusedVariables false

theorem own : ownKnob Tryd.prog.godebug = none := by kernel_rfl
theorem laidOut : laidOutB Tryd.prog = true := by kernel_rfl
theorem gTab32 : Tryd.prog.globalNamed "math/bits.deBruijn32tab" = some 0 := by kernel_rfl
theorem gTab64 : Tryd.prog.globalNamed "math/bits.deBruijn64tab" = some 1 := by kernel_rfl
theorem tTab64 : (Tryd.prog.globals[1]?).map (·.type) = some 70 := by kernel_rfl

/-- What the rows list. -/
abbrev laidP : List (String × DataW Unit) := [("math/bits.deBruijn32tab", Rows.laid_math_bits_deBruijn32tab), ("math/bits.deBruijn64tab", Rows.laid_math_bits_deBruijn64tab)]

/-- The door's own heap meets the condition. -/
theorem door_met (os : Os) (args : Array Value) : laidMetH Tryd.prog laidP ((World.doorLaid Tryd.prog 400 os).forCall (fun _ _ => 0) ⟨#[], args, []⟩).memory :=
  laidMetH_of_parts3 (fuel := 8) (laidMet_of_run' 8 (by kernel_rfl) (by kernel_rfl)) (by kernel_rfl) (by kernel_rfl)

theorem of_laid {W : World} (h : laidMetH Tryd.prog laidP W) : TabOk W := by
  rw [MakeChecks.laidMetH_plain _ _ _ (by kernel_rfl)] at h
  obtain ⟨ps, ⟨g0, t0, cs0, f0, p0, q0, hg0, ht0, hv0, hd0, ⟨g1, t1, cs1, f1, p1, q1, hg1, ht1, hv1, hd1, _, _⟩, _⟩, _, _⟩ := h
  obtain rfl := Option.some.inj (gTab64.symm.trans hg1)
  obtain rfl := Option.some.inj (tTab64.symm.trans ht1)
  obtain ⟨xs, m1, rfl, hx1, hlen, hn3, hel⟩ := DataW.trod_array Tryd.underlying70 hd1
  have c5 : Tryd.prog.cellsOf 5 = 1 := by kernel_rfl
  have hs : cs1.size = 64 := by
    have := hlen
    rw [show Tryd.prog.cellsOf 70 = 64 by kernel_rfl] at this
    simpa using this
  have hl : List.map (fun x => x.fst) xs = match (Rows.laid_math_bits_deBruijn64tab : DataW Unit) with | .agg l => l | _ => [] := by
    simp only [Prod.mk.injEq] at hx1
    rw [hx1.1]
  have get : ∀ (i : Nat) (v : Int), i < 64 → (List.map (fun x => x.fst) xs)[i]? = some (.lit (.int .u8 v)) → W.cell? ⟨1, i, none⟩ = some (.int .u8 v) := fun i v hi hv => by
    have h1 := hel i hi
    rw [c5, Nat.mul_one, List.drop_eq_getElem_cons (by simp; omega)] at h1
    simp only [List.take_succ_cons, List.take_zero] at h1
    obtain ⟨x, hx⟩ : ∃ x, xs[i]? = some x := ⟨_, List.getElem?_eq_getElem (by omega)⟩
    rw [hx] at h1
    obtain ⟨k, e1, e2, _⟩ := DataW.trod_int Tryd.underlying5 h1
    rw [List.getElem?_map, hx, e2] at hv
    simp only [Option.map_some, Option.some.injEq, DataW.lit.injEq, Lit.int.injEq, true_and] at hv
    subst hv
    rw [World.var?_cell hg1 hv1 i, Array.getElem?_eq_getElem (by omega)]
    simpa using e1
  rw [hl] at get
  have h0 := get 0 0 (by omega) rfl
  exact ⟨h0, get 1 1 (by omega) rfl, get 3 2 (by omega) rfl, get 7 3 (by omega) rfl, World.block_lt_of_cell? W _ h0⟩
end Go.Proofs.YtaplndehoenghaaDoor
