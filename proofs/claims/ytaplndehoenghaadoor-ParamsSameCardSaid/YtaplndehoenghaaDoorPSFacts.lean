/- What the operations of the third region of ParamsSame leave. (Printed by wip/gen/mk_pslaw.py.) -/
import Derived.Test.YtaplndehoenghaaDoorRuleB
import Derived.Test.YtaplndehoenghaaDoorPOfC
namespace Go.Proofs.YtaplndehoenghaaDoor
open Go.RowKit
set_option linter.unusedVariables false

theorem copy_off {n0 e m R t : Nat} {k : IntKind} {zs : List Int} {v : Value} {w w' : World} {cs : Array Value} {fz : Nat × Nat} (h : IsCopy n0 e k m zs v w) (hk : Kept (· = R) w w') (hR : w.heap[R]? = some (.cells cs t fz)) (ht : t ≠ e) : IsCopy n0 e k m zs v w' := by
  obtain ⟨p, q, rfl, hq, ho⟩ := h
  refine ⟨p, q, rfl, hq, own_kept ho hk fun j hj e1 => ?_⟩
  subst e1
  rcases ho.2 with ⟨e1, _⟩ | ⟨g, cap, cur, e1, _, hg, _⟩
  · rw [e1] at hj; cases hj
  · rw [e1] at hj
    obtain rfl : g = j := by simpa [Value.ownBlock] using hj
    rw [hR] at hg
    injection hg with hg
    injection hg with h1 h2
    exact ht h2

/-- Params that were copied. -/
def IsPar (n0 : Nat) (idle data cho : Int) (hg ho hr : Bool) (gm om rm vm : Nat) (gz oz rz vz : List Int) (v : Value) (w : World) : Prop := ∃ gS oS rS vsS, v = .agg #[.int .i64 idle, .int .i64 data, .bool hg, .bool ho, .bool hr, gS, oS, rS, .int .i64 cho, vsS] ∧ IsCopy n0 5 .u8 gm gz gS w ∧ IsCopy n0 5 .u8 om oz oS w ∧ IsCopy n0 5 .u8 rm rz rS w ∧ IsCopy n0 3 .i64 vm vz vsS w
/-- A box that holds them. -/
def BoxPar (n0 : Nat) (idle data cho : Int) (hg ho hr : Bool) (gm om rm vm : Nat) (gz oz rz vz : List Int) (R : Nat) (w : World) : Prop := ∃ gS oS rS vsS, w.heap[R]? = some (.cells #[.int .i64 idle, .int .i64 data, .bool hg, .bool ho, .bool hr, gS, oS, rS, .int .i64 cho, vsS] 27 (0, 0)) ∧ IsCopy n0 5 .u8 gm gz gS w ∧ IsCopy n0 5 .u8 om oz oS w ∧ IsCopy n0 5 .u8 rm rz rS w ∧ IsCopy n0 3 .i64 vm vz vsS w
/-- A box for params. -/
def BoxAny (R : Nat) (w : World) : Prop := ∃ cs : Array Value, cs.size = 10 ∧ w.heap[R]? = some (.cells cs 27 (0, 0))
section
variable {n0 : Nat} {idle data cho : Int} {hg ho hr : Bool} {gm om rm vm : Nat} {gz oz rz vz : List Int} {v : Value} {w w' : World} {R : Nat}
theorem IsPar.below (h : IsPar n0 idle data cho hg ho hr gm om rm vm gz oz rz vz v w) (hb : Below w.heap.size w w') : IsPar n0 idle data cho hg ho hr gm om rm vm gz oz rz vz v w' := by
  obtain ⟨gS, oS, rS, vsS, e, h1, h2, h3, h4⟩ := h
  exact ⟨gS, oS, rS, vsS, e, h1.below hb, h2.below hb, h3.below hb, h4.below hb⟩
theorem BoxPar.below (h : BoxPar n0 idle data cho hg ho hr gm om rm vm gz oz rz vz R w) (hb : Below w.heap.size w w') : BoxPar n0 idle data cho hg ho hr gm om rm vm gz oz rz vz R w' := by
  obtain ⟨gS, oS, rS, vsS, e, h1, h2, h3, h4⟩ := h
  exact ⟨gS, oS, rS, vsS, (hb.block _ (Array.getElem?_eq_some_iff.1 e).1).trans e, h1.below hb, h2.below hb, h3.below hb, h4.below hb⟩
theorem BoxAny.lt (h : BoxAny R w) : R < w.heap.size := by obtain ⟨cs, _, e⟩ := h; exact (Array.getElem?_eq_some_iff.1 e).1
theorem BoxAny.below (h : BoxAny R w) (hb : Below w.heap.size w w') : BoxAny R w' := by
  have hl := h.lt
  obtain ⟨cs, hs, e⟩ := h
  exact ⟨cs, hs, (hb.block _ hl).trans e⟩
theorem IsPar.off (h : IsPar n0 idle data cho hg ho hr gm om rm vm gz oz rz vz v w) (hk : Kept (· = R) w w') (hR : BoxAny R w) : IsPar n0 idle data cho hg ho hr gm om rm vm gz oz rz vz v w' := by
  obtain ⟨gS, oS, rS, vsS, e, h1, h2, h3, h4⟩ := h
  obtain ⟨cs, _, hR⟩ := hR
  exact ⟨gS, oS, rS, vsS, e, copy_off h1 hk hR (by decide), copy_off h2 hk hR (by decide), copy_off h3 hk hR (by decide), copy_off h4 hk hR (by decide)⟩
theorem BoxPar.off {R2 : Nat} (h : BoxPar n0 idle data cho hg ho hr gm om rm vm gz oz rz vz R2 w) (hk : Kept (· = R) w w') (hR : BoxAny R w) (hne : R2 ≠ R) : BoxPar n0 idle data cho hg ho hr gm om rm vm gz oz rz vz R2 w' := by
  obtain ⟨gS, oS, rS, vsS, e, h1, h2, h3, h4⟩ := h
  obtain ⟨cs, _, hR⟩ := hR
  exact ⟨gS, oS, rS, vsS, (hk.block _ (Array.getElem?_eq_some_iff.1 e).1 hne).trans e, copy_off h1 hk hR (by decide), copy_off h2 hk hR (by decide), copy_off h3 hk hR (by decide), copy_off h4 hk hR (by decide)⟩
theorem BoxAny.off {R2 : Nat} (h : BoxAny R2 w) (hk : Kept (· = R) w w') (hR : BoxAny R w') : BoxAny R2 w' := by
  by_cases hne : R2 = R
  · rw [hne]; exact hR
  · have hl := h.lt
    obtain ⟨cs, hs, e⟩ := h
    exact ⟨cs, hs, (hk.block _ hl hne).trans e⟩
theorem IsPar.store (h : IsPar n0 idle data cho hg ho hr gm om rm vm gz oz rz vz v w) (hk : Kept (· = R) w w') (hR : BoxAny R w) : ∀ {gS oS rS vsS : Value}, v = .agg #[.int .i64 idle, .int .i64 data, .bool hg, .bool ho, .bool hr, gS, oS, rS, .int .i64 cho, vsS] → w'.heap[R]? = some (.cells #[.int .i64 idle, .int .i64 data, .bool hg, .bool ho, .bool hr, gS, oS, rS, .int .i64 cho, vsS] 27 (0, 0)) → BoxPar n0 idle data cho hg ho hr gm om rm vm gz oz rz vz R w' := by
  intro gS oS rS vsS e hh
  obtain ⟨gS', oS', rS', vsS', e', h1, h2, h3, h4⟩ := h.off hk hR
  rw [e] at e'
  simp only [Value.agg.injEq, Array.mk.injEq, List.cons.injEq, true_and, and_true] at e'
  obtain ⟨rfl, rfl, rfl, rfl⟩ := e'
  exact ⟨_, _, _, _, hh, h1, h2, h3, h4⟩
theorem BoxPar.any (h : BoxPar n0 idle data cho hg ho hr gm om rm vm gz oz rz vz R w) : BoxAny R w := by
  obtain ⟨gS, oS, rS, vsS, e, _⟩ := h
  exact ⟨_, rfl, e⟩
end

/-- What the third region's operations leave. -/
def sF (n0 : Nat) (A B : Value) (idle data cho : Int) (hg ho hr : Bool) (gm om rm vm : Nat) (gz oz rz vz : List Int) (idle' data' cho' : Int) (hg' ho' hr' : Bool) (gm' om' rm' vm' : Nat) (gz' oz' rz' vz' : List Int) : Nat → (Nat → Value) → World → Prop
  | 0, f, _ => f 0 = A
  | 1, f, w => IsPar n0 idle data cho hg ho hr gm om rm vm gz oz rz vz (f 1) w
  | 2, f, _ => f 2 = B
  | 3, f, w => IsPar n0 idle' data' cho' hg' ho' hr' gm' om' rm' vm' gz' oz' rz' vz' (f 3) w
  | 4, f, w => (∃ R, f 4 = .pointer (some ⟨R, 0, none⟩) ∧ n0 ≤ R ∧ BoxAny R w) ∧ f 5 ≠ f 4
  | 5, f, w => ∃ R, f 5 = .pointer (some ⟨R, 0, none⟩) ∧ n0 ≤ R ∧ BoxAny R w
  | 6, f, w => ∃ R, f 4 = .pointer (some ⟨R, 0, none⟩) ∧ n0 ≤ R ∧ BoxPar n0 idle data cho hg ho hr gm om rm vm gz oz rz vz R w
  | 7, f, w => ∃ R, f 5 = .pointer (some ⟨R, 0, none⟩) ∧ n0 ≤ R ∧ BoxPar n0 idle' data' cho' hg' ho' hr' gm' om' rm' vm' gz' oz' rz' vz' R w
  | _, _, _ => True
/-- What stands ready. -/
def sN : Nat → (Nat → Value) → World → Prop
  | 4, f, _ => f 4 = undef
  | 5, f, _ => f 5 = undef
  | _, _, _ => True
theorem sN_pres {i : Nat} {f : Nat → Value} {v : Value} {w w' : World} : ∀ j, j ≠ i → sN j f w → sN j (updAt f i v) w' := by
  intro j hj h
  rcases j with _ | _ | _ | _ | _ | _ | j
  · trivial
  · trivial
  · trivial
  · trivial
  · exact (updAt_other f v hj).trans h
  · exact (updAt_other f v hj).trans h
  · trivial

theorem sF_pres {n0 : Nat} {A B : Value} {idle data cho : Int} {hg ho hr : Bool} {gm om rm vm : Nat} {gz oz rz vz : List Int} {idle' data' cho' : Int} {hg' ho' hr' : Bool} {gm' om' rm' vm' : Nat} {gz' oz' rz' vz' : List Int} {i : Nat} {f : Nat → Value} {v : Value} {w w' : World} (hb : Below w.heap.size w w') (h5 : i = 5 → v = .pointer (some ⟨w.heap.size, 0, none⟩)) :
    ∀ j, j ≠ i → (j = 6 → i ≠ 4) → (j = 7 → i ≠ 5) → sF n0 A B idle data cho hg ho hr gm om rm vm gz oz rz vz idle' data' cho' hg' ho' hr' gm' om' rm' vm' gz' oz' rz' vz' j f w → sF n0 A B idle data cho hg ho hr gm om rm vm gz oz rz vz idle' data' cho' hg' ho' hr' gm' om' rm' vm' gz' oz' rz' vz' j (updAt f i v) w' := by
  intro j hj h6 h7 h
  rcases j with _ | _ | _ | _ | _ | _ | _ | _ | j
  · exact (updAt_other f v hj).trans h
  · show IsPar _ _ _ _ _ _ _ _ _ _ _ _ _ _ _ (updAt f i v 1) w'
    rw [updAt_other f v hj]
    exact IsPar.below h hb
  · exact (updAt_other f v hj).trans h
  · show IsPar _ _ _ _ _ _ _ _ _ _ _ _ _ _ _ (updAt f i v 3) w'
    rw [updAt_other f v hj]
    exact IsPar.below h hb
  · obtain ⟨⟨R, e, hR, hx⟩, hne⟩ := h
    refine ⟨⟨R, (updAt_other f v hj).trans e, hR, hx.below hb⟩, ?_⟩
    show updAt f i v 5 ≠ updAt f i v 4
    rw [updAt_other f v hj]
    by_cases hi : i = 5
    · subst hi
      rw [updAt_same, h5 rfl, e]
      intro e2
      have hl := hx.lt
      injection e2 with e2
      injection e2 with e2
      injection e2 with e2
      omega
    · rw [updAt_other f v (Ne.symm hi)]
      exact hne
  · obtain ⟨R, e, hR, hx⟩ := h
    exact ⟨R, (updAt_other f v hj).trans e, hR, hx.below hb⟩
  · obtain ⟨R, e, hR, hx⟩ := h
    exact ⟨R, (updAt_other f v (Ne.symm (h6 rfl))).trans e, hR, hx.below hb⟩
  · obtain ⟨R, e, hR, hx⟩ := h
    exact ⟨R, (updAt_other f v (Ne.symm (h7 rfl))).trans e, hR, hx.below hb⟩
  · trivial

theorem sF_store {n0 : Nat} {A B : Value} {idle data cho : Int} {hg ho hr : Bool} {gm om rm vm : Nat} {gz oz rz vz : List Int} {idle' data' cho' : Int} {hg' ho' hr' : Bool} {gm' om' rm' vm' : Nat} {gz' oz' rz' vz' : List Int} {i R : Nat} {f : Nat → Value} {v : Value} {w w' : World} (hi : 6 ≤ i) (hk : Kept (· = R) w w') (hR : BoxAny R w) (hR' : BoxAny R w') :
    ∀ j, j ≠ i → j ≠ 7 → (j = 6 → ∀ R4, f 4 = .pointer (some ⟨R4, 0, none⟩) → R4 ≠ R) → sF n0 A B idle data cho hg ho hr gm om rm vm gz oz rz vz idle' data' cho' hg' ho' hr' gm' om' rm' vm' gz' oz' rz' vz' j f w → sF n0 A B idle data cho hg ho hr gm om rm vm gz oz rz vz idle' data' cho' hg' ho' hr' gm' om' rm' vm' gz' oz' rz' vz' j (updAt f i v) w' := by
  intro j hj h7 h6 h
  have e : ∀ k, k < 6 → updAt f i v k = f k := fun k hk => updAt_other f v (by omega)
  rcases j with _ | _ | _ | _ | _ | _ | _ | _ | j
  · exact (e 0 (by omega)).trans h
  · show IsPar _ _ _ _ _ _ _ _ _ _ _ _ _ _ _ (updAt f i v 1) w'
    rw [e 1 (by omega)]
    exact IsPar.off h hk hR
  · exact (e 2 (by omega)).trans h
  · show IsPar _ _ _ _ _ _ _ _ _ _ _ _ _ _ _ (updAt f i v 3) w'
    rw [e 3 (by omega)]
    exact IsPar.off h hk hR
  · obtain ⟨⟨R2, e2, hR2, hx⟩, hne⟩ := h
    refine ⟨⟨R2, (e 4 (by omega)).trans e2, hR2, hx.off hk hR'⟩, ?_⟩
    show updAt f i v 5 ≠ updAt f i v 4
    rw [e 4 (by omega), e 5 (by omega)]
    exact hne
  · obtain ⟨R2, e2, hR2, hx⟩ := h
    exact ⟨R2, (e 5 (by omega)).trans e2, hR2, hx.off hk hR'⟩
  · obtain ⟨R2, e2, hR2, hx⟩ := h
    exact ⟨R2, (e 4 (by omega)).trans e2, hR2, hx.off hk hR (h6 rfl _ e2)⟩
  · exact absurd rfl h7
  · trivial
end Go.Proofs.YtaplndehoenghaaDoor
