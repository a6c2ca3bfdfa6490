/-
  SpecialBack returns true for every input, and changes nothing that was there: what is written as a list or as a retry is read as it was. No condition.
  (The frame of this text follows the one that the kit's program writes for a law; the walk is mine.)
-/
import Derived.Test.YtaplndehoenghaaRows
import Derived.Test.YtaplndehoenghaaLawB
import Derived.Test.YtaplndehoenghaaOpen
import Derived.WalkKit
import Derived.ProofKit
import Derived.OpenShut
import Derived.ShutString
import Derived.ChangeOld
import Derived.Below
namespace Go.Proofs.Ytaplndehoenghaa.specialBack
open Go.ChangeShapes Go.WideShapes Go.ChangeAt Go.RowKit Go.Deep
set_option linter.unusedVariables false

theorem own : ownKnob Try.prog.godebug = none := by kernel_rfl
theorem laidOut : laidOutB Try.prog = true := by kernel_rfl

set_option maxRecDepth 100000 in
theorem lifted (os : Os) (started : os.Started) (H : Type) (enc : TypeId × Value → H) :
    ReturnsInHanded {} Try.checked os 4 .any (Rows.specialBackSpec.pre6 enc Try.prog Try.f4 Rows.specialBackRow.domain false) (Rows.specialBackSpec.post enc Try.prog Try.f4 false true false false) := by
  refine returnsInHanded_of_change (C := Try.checked) own started (by kernel_rfl) Try.func4
    (ChangeSpec.witness6 (enc := enc) (C := Try.checked) false ⟨#[], #[.agg #[.slice none 0 0, .slice none 0 0, .slice none 0 0], .agg #[.int .i64 0, .slice none 0 0, .slice none 0 0, .int .i64 0, .int .i64 0]], []⟩ 8 (by kernel_rfl) (by kernel_rfl) (by kernel_rfl) (by kernel_rfl)) ?_
  intro W base args ds gs before hval0 hW hcnd _
  have hval : ∀ (j : Nat) t v, Try.f4.params[j]? = some t → args[j]? = some v → Value.okWide Try.prog W .any base t v := hval0
  have hW' := hW
  obtain ⟨p, q, hA0, hV, rfl, hfz, hnd⟩ := hW
  have hA : DataW.TrodAll enc Try.prog W 0 (fun _ => true) true Try.f4.params.toList args.toList ds p := hA0
  rw [Try.params4] at hA hval
  obtain ⟨v0, vs0, d0, ds0, p0, q0, hargs, rfl, rfl, h0, r0⟩ := trodAll_cons hA
  obtain ⟨v1, vs1, d1, ds1, p1, q1, rfl, rfl, rfl, h1, r1⟩ := trodAll_cons r0
  obtain ⟨rfl, rfl, rfl⟩ := trodAll_nil r1
  obtain rfl : args = #[v0, v1] := by cases args; simp_all
  obtain ⟨rfl, rfl⟩ := trodVars_none hV
  have k0 := h0
  have k1 := h1
  have lt0 : ∀ x ∈ p0, x.block < W.heap.size := by obtain ⟨m, hm⟩ := k0; exact DataW.trod_lt m _ _ _ hm
  have lt1 : ∀ x ∈ p1, x.block < W.heap.size := by obtain ⟨m, hm⟩ := k1; exact DataW.trod_lt m _ _ _ hm
  obtain ⟨cs, rfl, hcs, hf0⟩ := open_fields Try.underlying29 (by kernel_rfl) (by kernel_rfl) (hval 0 29 v0 rfl rfl) h0
  obtain ⟨es, rfl, hes, hf1⟩ := open_fields Try.underlying38 (by kernel_rfl) (by kernel_rfl) (hval 1 38 v1 rfl rfl) h1
  obtain ⟨c0, y0, n0, g0, t0⟩ := hf0 0 _ rfl
  obtain ⟨c1, y1, n1, g1, t1⟩ := hf0 1 _ rfl
  obtain ⟨c2, y2, n2, g2, t2⟩ := hf0 2 _ rfl
  obtain ⟨e0, z0, m0, i0, u0⟩ := hf1 0 _ rfl
  obtain ⟨e1, z1, m1, i1, u1⟩ := hf1 1 _ rfl
  obtain ⟨e2, z2, m2, i2, u2⟩ := hf1 2 _ rfl
  obtain ⟨e3, z3, m3, i3, u3⟩ := hf1 3 _ rfl
  obtain ⟨e4, z4, m4, i4, u4⟩ := hf1 4 _ rfl
  obtain ⟨a0, l0, b0, x0, rfl, q0, -, R0, w0⟩ := open_ints_row Try.underlying22 Try.underlying5 (by kernel_rfl) t0
  obtain ⟨a1, l1, b1, x1, rfl, q1, -, R1, w1⟩ := open_ints_row Try.underlying22 Try.underlying5 (by kernel_rfl) t1
  obtain ⟨a2, l2, b2, x2, rfl, q2, -, R2, w2⟩ := open_ints_row Try.underlying23 Try.underlying3 (by kernel_rfl) t2
  obtain ⟨V, rfl, wV⟩ := field_int Try.underlying3 u0
  obtain ⟨a3, l3, b3, x3, rfl, q3, -, R3, w3⟩ := open_ints_row Try.underlying22 Try.underlying5 (by kernel_rfl) u1
  obtain ⟨a4, l4, b4, x4, rfl, q4, -, R4, w4⟩ := open_ints_row Try.underlying22 Try.underlying5 (by kernel_rfl) u2
  obtain ⟨t, rfl, _⟩ := field_int Try.underlying3 u3
  obtain ⟨g, rfl, _⟩ := field_int Try.underlying3 u4
  obtain rfl := arr3 hcs g0 g1 g2
  obtain rfl := arr5 hes i0 i1 i2 i3 i4
  have walk : Calls Try.prog 4 #[.agg #[.slice a0 l0 b0, .slice a1 l1 b1, .slice a2 l2 b2], .agg #[.int .i64 V, .slice a3 l3 b3, .slice a4 l4 b4, .int .i64 t, .int .i64 g]] W fun e w' => e = .returned (.bool true) ∧ Below W.heap.size W w' := by
    by_cases hs : l0 ≤ 50 ∧ l1 ≤ 50 ∧ l2 ≤ 30 ∧ l3 ≤ 50 ∧ l4 ≤ 50
    · obtain ⟨s0, s1, s2, s3, s4⟩ := hs
      exact specialBack_small a0 a1 a2 a3 a4 x0 x1 x2 x3 x4 V t g l0 l1 l2 b0 b1 b2 l3 l4 b3 b4 W q0 q1 q2 q3 q4 s0 s1 s2 s3 s4 R0 R1 R2 R3 R4
        (fun z hz => is_u8 (w0 z hz)) (fun z hz => is_u8 (w1 z hz)) (fun z hz => is_u8 (w3 z hz)) (fun z hz => is_u8 (w4 z hz)) (fun z hz => is_i64 (w2 z hz)) (is_i64 wV).1 (is_i64 wV).2
    · exact specialBack_big a0 a1 a2 a3 a4 V t g l0 l1 l2 b0 b1 b2 l3 l4 b3 b4 W hs
  clear hA0 hval0
  refine walk.mono fun e W' ⟨he, bel⟩ => ?_
  subst he
  exact ⟨_, rfl, _, _, _, [], _, [], hW', trodAll_mk1 (shut_bool Try.underlying4 _), (trodAll_cons_mk (Below.trod laidOut (by kernel_rfl) (of_decide_eq_true (by kernel_rfl)) k0 bel lt0) (trodAll_cons_mk (Below.trod laidOut (by kernel_rfl) (of_decide_eq_true (by kernel_rfl)) k1 bel lt1) trodAll_mk0)), rfl, bel.frame _, fun h => by cases h⟩

theorem over : Rows.specialBackRow.holds Try.pinned (OpenSpec.ofChange Rows.specialBackSpec) :=
  OpenClaim.holds_of_wide 4 Try.f4 rfl rfl rfl rfl rfl rfl rfl ⟨rfl, rfl, rfl, rfl, rfl⟩ rfl rfl rfl rfl rfl (by kernel_rfl) Try.func4 (by kernel_rfl)
    (of_decide_eq_true (by kernel_rfl)) (by unfold Func.isWrapper; first | (rw [if_pos (by decide +kernel)]; kernel_rfl) | (rw [if_neg (by decide +kernel)]; exact ⟨rfl, rfl⟩))
    (fun os started H enc _ => lifted os started H enc)

/-- The statement. -/
theorem proved : Rows.SpecialBackSaid := over
#print axioms proved
end Go.Proofs.Ytaplndehoenghaa.specialBack
