/- A drawn region by facts: operations that are guarded. -/
import Derived.Test.YtaplndehoenghaaDoorRule
namespace Go.Proofs.YtaplndehoenghaaDoor
open Go.RowKit
set_option linter.unusedVariables false
section
variable {P : Program} {md : Region.Mode} {ops : Array Oper} {Q : Exit → Act → World → Prop}

theorem yielded_of {a : Act} {j : Nat} {b : Bool} (h : valOf ops a j = .bool b) : yielded ops a.tmps j = some b := by
  unfold valOf at h
  unfold yielded
  rcases hd : (ops[j]?).bind (·.dst) with _ | d
  · rw [hd] at h
    simp [undef] at h
  · rw [hd] at h
    simp only [Option.bind_some]
    dsimp only at h
    rcases Nat.lt_or_ge d a.tmps.size with hl | hl
    · rw [Array.getD_eq_getD_getElem?, Array.getElem?_eq_getElem hl] at h
      rw [Array.getElem?_eq_getElem hl]
      simp only [Option.getD_some] at h
      rw [h]
    · rw [Array.getD_eq_getD_getElem?, Array.getElem?_eq_none hl] at h
      simp [undef] at h

/-- A guarded step: what the guard reads is known. -/
theorem inv_step_guarded {m : Nat} {fix : Array Value} {F : Nat → Value → World → Prop} {G : World → Prop} {i j : Nat} {o : Oper} {b want : Bool} (hok : dstsOk ops m fix.size = true) (ho : ops[i]? = some o) (hg : o.guard = some (j, want))
    (hjd : (o.after.any fun e => Region.binds md e && e.on == j) = true) (hb : ∀ v w, F j v w → v = .bool b) (hoff : b ≠ want → ∀ w, G w → F i undef w)
    (hon : b = want → ∀ a w, G w → (∀ j, j < m → a.tmps.getD j undef = fix.getD j undef) → (∀ k, (o.after.any fun e => Region.binds md e && e.on == k) = true → F k (valOf ops a k) w) →
      ∀ K : Act → World → Prop, (∀ v w', G w' → (∀ j u, F j u w → F j u w') → F i (match o.dst with | some _ => v | none => undef) w' → K (a.put o.dst v) w') → o.wp P a w K Q) : Step P md ops Q (Inv ops m fix F G) i := by
  refine step_guard ho fun listed a w hi _ hdep => ?_
  have hd : ∀ k, (o.after.any fun e => Region.binds md e && e.on == k) = true → F k (valOf ops a k) w := fun k hk => by
    refine hi.fact k ?_
    obtain ⟨e, he, hb⟩ := Array.any_eq_true'.1 hk
    simp only [Bool.and_eq_true, beq_iff_eq] at hb
    have h2 := Array.all_eq_true_iff_forall_mem.1 hdep e he
    simp only [hb.1, Bool.not_true, Bool.false_or] at h2
    rw [← hb.2]
    exact h2
  have hy := yielded_of (hb _ _ (hd j hjd))
  by_cases hbw : b = want
  · have hw : Region.wanted o (yielded ops a.tmps) = true := by simp [Region.wanted, hg, hy, hbw]
    rw [if_pos hw]
    exact hon hbw a w hi.glob (fun j hj => hi.fixed j hj) hd _ fun v w' hG hm hF => hi.put hok ho hG hm hF
  · have hw : ¬ Region.wanted o (yielded ops a.tmps) = true := by simp [Region.wanted, hg, hy, hbw]
    rw [if_neg hw]
    have hF : F i (match o.dst with | some _ => undef | none => undef) w := by
      have := hoff hbw w hi.glob
      split <;> exact this
    exact hi.put hok ho hi.glob (fun _ _ h => h) hF
end
end Go.Proofs.YtaplndehoenghaaDoor
