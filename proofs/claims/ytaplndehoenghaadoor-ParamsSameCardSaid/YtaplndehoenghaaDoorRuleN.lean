/- A drawn region by facts, with what stands ready for an operation till it runs. -/
import Derived.Test.YtaplndehoenghaaDoorRuleG
namespace Go.Proofs.YtaplndehoenghaaDoor
open Go.RowKit
set_option linter.unusedVariables false
section
variable {P : Program} {md : Region.Mode} {ops : Array Oper} {Q : Exit → Act → World → Prop}

/-- The facts of what has been done, and N of what has not. -/
def InvN (ops : Array Oper) (m : Nat) (fix : Array Value) (F : Nat → Value → World → Prop) (N : Nat → World → Prop) (G : World → Prop) (listed : Array Bool) (a : Act) (w : World) : Prop :=
  Inv ops m fix F G listed a w ∧ ∀ j, listed.getD j true = false → N j w

theorem set_false {listed : Array Bool} {i j : Nat} (h : (listed.setIfInBounds i true).getD j true = false) : listed.getD j true = false ∧ j ≠ i := by
  by_cases hji : j = i
  · subst hji
    exfalso
    simp only [Array.getD_eq_getD_getElem?] at h
    rcases Nat.lt_or_ge j listed.size with hl | hl
    · simp [hl] at h
    · simp [Nat.not_lt.2 hl] at h
  · refine ⟨?_, hji⟩
    simp only [Array.getD_eq_getD_getElem?] at h ⊢
    rwa [Array.getElem?_setIfInBounds_ne (Ne.symm hji)] at h

theorem getD_both {listed : Array Bool} {j : Nat} (h1 : listed.getD j false = true) (h2 : listed.getD j true = false) : False := by
  simp only [Array.getD_eq_getD_getElem?] at h1 h2
  rcases h : listed[j]? with _ | b
  · rw [h] at h2; simp at h2
  · rw [h] at h1 h2; simp at h1 h2; rw [h1] at h2; cases h2

theorem invN_step {m : Nat} {fix : Array Value} {F : Nat → Value → World → Prop} {N : Nat → World → Prop} {G : World → Prop} {i : Nat} {o : Oper} (hok : dstsOk ops m fix.size = true) (ho : ops[i]? = some o) (hg : o.guard = none)
    (h : ∀ a w, G w → N i w → (∀ j, j < m → a.tmps.getD j undef = fix.getD j undef) → (∀ k, (o.after.any fun e => Region.binds md e && e.on == k) = true → F k (valOf ops a k) w) →
      ∀ K : Act → World → Prop, (∀ v w', G w' → (∀ j u, F j u w → F j u w') → (∀ j, j ≠ i → (o.after.any fun e => Region.binds md e && e.on == j) = false → N j w → N j w') → F i (match o.dst with | some _ => v | none => undef) w' → K (a.put o.dst v) w') → o.wp P a w K Q) :
    Step P md ops Q (InvN ops m fix F N G) i := by
  refine step_plain ho hg fun listed a w hi hl hdep => ?_
  have hd : ∀ k, (o.after.any fun e => Region.binds md e && e.on == k) = true → listed.getD k false = true := fun k hk => by
    obtain ⟨e, he, hb⟩ := Array.any_eq_true'.1 hk
    simp only [Bool.and_eq_true, beq_iff_eq] at hb
    have h2 := Array.all_eq_true_iff_forall_mem.1 hdep e he
    simp only [hb.1, Bool.not_true, Bool.false_or] at h2
    rw [← hb.2]
    exact h2
  refine h a w hi.1.glob (hi.2 i hl) (fun j hj => hi.1.fixed j hj) (fun k hk => hi.1.fact k (hd k hk)) _ fun v w' hG hm hN hF => ⟨hi.1.put hok ho hG hm hF, fun j hj => ?_⟩
  obtain ⟨h1, h2⟩ := set_false hj
  refine hN j h2 ?_ (hi.2 j h1)
  rcases hb : (o.after.any fun e => Region.binds md e && e.on == j) with _ | _
  · rfl
  · exact (getD_both (hd j hb) h1).elim

theorem invN_step_guarded {m : Nat} {fix : Array Value} {F : Nat → Value → World → Prop} {N : Nat → World → Prop} {G : World → Prop} {i j : Nat} {o : Oper} {b want : Bool} (hok : dstsOk ops m fix.size = true) (ho : ops[i]? = some o) (hg : o.guard = some (j, want))
    (hjd : (o.after.any fun e => Region.binds md e && e.on == j) = true) (hb : ∀ v w, F j v w → v = .bool b) (hoff : b ≠ want → ∀ w, G w → F i undef w)
    (h : b = want → ∀ a w, G w → N i w → (∀ j, j < m → a.tmps.getD j undef = fix.getD j undef) → (∀ k, (o.after.any fun e => Region.binds md e && e.on == k) = true → F k (valOf ops a k) w) →
      ∀ K : Act → World → Prop, (∀ v w', G w' → (∀ j u, F j u w → F j u w') → (∀ j, j ≠ i → (o.after.any fun e => Region.binds md e && e.on == j) = false → N j w → N j w') → F i (match o.dst with | some _ => v | none => undef) w' → K (a.put o.dst v) w') → o.wp P a w K Q) :
    Step P md ops Q (InvN ops m fix F N G) i := by
  refine step_guard ho fun listed a w hi hl hdep => ?_
  have hd : ∀ k, (o.after.any fun e => Region.binds md e && e.on == k) = true → listed.getD k false = true := fun k hk => by
    obtain ⟨e, he, hb⟩ := Array.any_eq_true'.1 hk
    simp only [Bool.and_eq_true, beq_iff_eq] at hb
    have h2 := Array.all_eq_true_iff_forall_mem.1 hdep e he
    simp only [hb.1, Bool.not_true, Bool.false_or] at h2
    rw [← hb.2]
    exact h2
  have hy := yielded_of (hb _ _ (hi.1.fact j (hd j hjd)))
  by_cases hbw : b = want
  · have hw : Region.wanted o (yielded ops a.tmps) = true := by simp [Region.wanted, hg, hy, hbw]
    rw [if_pos hw]
    refine h hbw a w hi.1.glob (hi.2 i hl) (fun j hj => hi.1.fixed j hj) (fun k hk => hi.1.fact k (hd k hk)) _ fun v w' hG hm hN hF => ⟨hi.1.put hok ho hG hm hF, fun j hj => ?_⟩
    obtain ⟨h1, h2⟩ := set_false hj
    refine hN j h2 ?_ (hi.2 j h1)
    rcases hb : (o.after.any fun e => Region.binds md e && e.on == j) with _ | _
    · rfl
    · exact (getD_both (hd j hb) h1).elim
  · have hw : ¬ Region.wanted o (yielded ops a.tmps) = true := by simp [Region.wanted, hg, hy, hbw]
    rw [if_neg hw]
    have hF : F i (match o.dst with | some _ => undef | none => undef) w := by
      have := hoff hbw w hi.1.glob
      split <;> exact this
    exact ⟨hi.1.put hok ho hi.1.glob (fun _ _ h => h) hF, fun j hj => hi.2 j (set_false hj).1⟩

/-- The region by facts, and what stands ready. -/
theorem wp_region_ready {id : Nat} {a : Act} {w : World} (m n : Nat) (F : Nat → Value → World → Prop) (N : Nat → World → Prop) (G : World → Prop) (hn : ops.size = n) (hmx : P.follows .mixedOrders = true) (hd : a.defers = [])
    (hok : dstsOk ops m a.tmps.size = true) (he : edgesOk ops = true) (hG : G w.drew) (hN : ∀ j, j < n → N j w.drew) (hs : Steps P .any ops Q (InvN ops m a.tmps F N G) n)
    (hdone : ∀ a' w', a'.tmps.size = a.tmps.size → a'.defers = [] → (∀ j, j < m → a'.tmps.getD j undef = a.tmps.getD j undef) → G w' → (∀ k, k < n → F k (valOf ops a' k) w') → Q .normal a' w') :
    (Code.region id ops true).wp P Q a w := by
  refine wp_region_rule (InvN ops m a.tmps F N G) n hn hmx ⟨⟨by simp [hn], rfl, hd, fun _ _ => rfl, hG, ?_⟩, ?_⟩ hs ?_
  · intro j hj
    simp only [Array.getD_eq_getD_getElem?, Array.getElem?_replicate] at hj
    split at hj <;> simp at hj
  · intro j hj
    refine hN j ?_
    simp only [Array.getD_eq_getD_getElem?, Array.getElem?_replicate] at hj
    split at hj
    · assumption
    · simp at hj
  · intro listed a' w' hi hr
    exact hdone a' w' hi.1.tsize hi.1.defers hi.1.fixed hi.1.glob fun k hk => hi.1.fact k (all_listed hi.1.size he hr k (by omega))
end
end Go.Proofs.YtaplndehoenghaaDoor
