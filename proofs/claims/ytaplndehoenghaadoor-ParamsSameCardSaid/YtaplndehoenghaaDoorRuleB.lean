/- As RuleA, where what stands ready may speak of the values too, and a step is told of every operation that it is done or stands ready. -/
import Derived.Test.YtaplndehoenghaaDoorRuleA
namespace Go.Proofs.YtaplndehoenghaaDoor
open Go.RowKit
set_option linter.unusedVariables false
section
variable {P : Program} {md : Region.Mode} {ops : Array Oper} {Q : Exit → Act → World → Prop}

/-- No operation writes a slot that is held fixed. -/
def fxOk (ops : Array Oper) (fx : Nat → Bool) : Bool := ops.all fun o => match o.dst with | some d => !fx d | none => true

structure InvB (md : Region.Mode) (ops : Array Oper) (fx : Nat → Bool) (fix : Array Value) (F : Nat → (Nat → Value) → World → Prop) (N : Nat → (Nat → Value) → World → Prop) (G : World → Prop) (listed : Array Bool) (a : Act) (w : World) : Prop where
  size : listed.size = ops.size
  tsize : a.tmps.size = fix.size
  defers : a.defers = []
  fixed : ∀ j, fx j = true → a.tmps.getD j undef = fix.getD j undef
  glob : G w
  fact : ∀ j, listed.getD j false = true → F j (valOf ops a) w
  ready : ∀ j, listed.getD j true = false → N j (valOf ops a) w
  closed : ∀ j k, listed.getD j false = true → waits md ops j k = true → listed.getD k false = true

theorem InvB.put {m : Nat} {fx : Nat → Bool} {fix : Array Value} {F : Nat → (Nat → Value) → World → Prop} {N : Nat → (Nat → Value) → World → Prop} {G : World → Prop} {listed : Array Bool} {a : Act} {w w' : World} {i : Nat} {o : Oper} {v : Value}
    (h : InvB md ops fx fix F N G listed a w) (hun : listed.getD i true = false) (hrd : ∀ k, waits md ops i k = true → listed.getD k false = true) (hok : dstsOk ops m fix.size = true) (hfx : fxOk ops fx = true) (ho : ops[i]? = some o) (hG : G w')
    (hm : ∀ j, j ≠ i → waits md ops j i = false → F j (valOf ops a) w → F j (updAt (valOf ops a) i (match o.dst with | some _ => v | none => undef)) w')
    (hN : ∀ j, j ≠ i → waits md ops i j = false → N j (valOf ops a) w → N j (updAt (valOf ops a) i (match o.dst with | some _ => v | none => undef)) w')
    (hF : F i (updAt (valOf ops a) i (match o.dst with | some _ => v | none => undef)) w') :
    InvB md ops fx fix F N G (listed.setIfInBounds i true) (a.put o.dst v) w' := by
  have hi : i < ops.size := (Array.getElem?_eq_some_iff.1 ho).1
  have hv : valOf ops (a.put o.dst v) = updAt (valOf ops a) i (match o.dst with | some _ => v | none => undef) := funext (valOf_put_all hok h.tsize ho)
  have hl : ∀ j, (listed.setIfInBounds i true).getD j false = true → j = i ∨ listed.getD j false = true := fun j hj => by
    by_cases hji : j = i
    · exact .inl hji
    · right
      simp only [Array.getD_eq_getD_getElem?] at hj ⊢
      rwa [Array.getElem?_setIfInBounds_ne (Ne.symm hji)] at hj
  have hl2 : ∀ j, listed.getD j false = true → (listed.setIfInBounds i true).getD j false = true := fun j hj => by
    simp only [Array.getD_eq_getD_getElem?] at hj ⊢
    by_cases hji : j = i
    · subst hji
      rw [Array.getElem?_setIfInBounds_self_of_lt (by rw [h.size]; exact hi)]
      rfl
    · rwa [Array.getElem?_setIfInBounds_ne (Ne.symm hji)]
  refine ⟨by simp [h.size], ?_, ?_, ?_, hG, ?_, ?_, ?_⟩
  · rcases hdi : o.dst with _ | d <;> simp [Act.put, h.tsize]
  · rcases hdi : o.dst with _ | d <;> simp [Act.put, h.defers]
  · intro j hj
    rw [← h.fixed j hj]
    rcases hdi : o.dst with _ | d
    · rfl
    · have h1 := Array.all_eq_true_iff_forall_mem.1 hfx o (Array.mem_of_getElem? ho)
      simp only [hdi, Bool.not_eq_true'] at h1
      simp only [Act.put, Array.getD_eq_getD_getElem?]
      rw [Array.getElem?_setIfInBounds_ne (by intro e; subst e; rw [hj] at h1; cases h1)]
  · intro j hj
    rw [hv]
    rcases hl j hj with rfl | hj'
    · exact hF
    · have hne : j ≠ i := fun e => by subst e; exact getD_both hj' hun
      refine hm j hne ?_ (h.fact j hj')
      rcases hb : waits md ops j i with _ | _
      · rfl
      · exact (getD_both (h.closed j i hj' hb) hun).elim
  · intro j hj
    obtain ⟨h1, h2⟩ := set_false hj
    rw [hv]
    refine hN j h2 ?_ (h.ready j h1)
    rcases hb : waits md ops i j with _ | _
    · rfl
    · exact (getD_both (hrd j hb) h1).elim
  · intro j k hj hw
    rcases hl j hj with rfl | hj'
    · exact hl2 k (hrd k hw)
    · exact hl2 k (h.closed j k hj' hw)

theorem InvB.either {fx : Nat → Bool} {fix : Array Value} {F : Nat → (Nat → Value) → World → Prop} {N : Nat → (Nat → Value) → World → Prop} {G : World → Prop} {listed : Array Bool} {a : Act} {w : World} (h : InvB md ops fx fix F N G listed a w) : ∀ k, k < ops.size → F k (valOf ops a) w ∨ N k (valOf ops a) w := fun k hk => by
  have hl : k < listed.size := by rw [h.size]; exact hk
  have e : listed[k]? = some listed[k] := Array.getElem?_eq_getElem hl
  rcases hb : listed[k] with _ | _
  · exact .inr (h.ready k (by rw [Array.getD_eq_getD_getElem?, e, hb]; rfl))
  · exact .inl (h.fact k (by rw [Array.getD_eq_getD_getElem?, e, hb]; rfl))

theorem invB_step {m : Nat} {fx : Nat → Bool} {fix : Array Value} {F : Nat → (Nat → Value) → World → Prop} {N : Nat → (Nat → Value) → World → Prop} {G : World → Prop} {i : Nat} {o : Oper} (hok : dstsOk ops m fix.size = true) (hfx : fxOk ops fx = true) (ho : ops[i]? = some o) (hg : o.guard = none)
    (h : ∀ a w, G w → N i (valOf ops a) w → (∀ j, fx j = true → a.tmps.getD j undef = fix.getD j undef) → (∀ k, waits md ops i k = true → F k (valOf ops a) w) → (∀ k, k < ops.size → F k (valOf ops a) w ∨ N k (valOf ops a) w) →
      ∀ K : Act → World → Prop, (∀ v w', G w' → (∀ j, j ≠ i → waits md ops j i = false → F j (valOf ops a) w → F j (updAt (valOf ops a) i (match o.dst with | some _ => v | none => undef)) w') → (∀ j, j ≠ i → waits md ops i j = false → N j (valOf ops a) w → N j (updAt (valOf ops a) i (match o.dst with | some _ => v | none => undef)) w') →
        F i (updAt (valOf ops a) i (match o.dst with | some _ => v | none => undef)) w' → K (a.put o.dst v) w') → o.wp P a w K Q) :
    Step P md ops Q (InvB md ops fx fix F N G) i := by
  refine step_plain ho hg fun listed a w hi hl hdep => ?_
  have hrd := waits_of ho hdep
  exact h a w hi.glob (hi.ready i hl) (fun j hj => hi.fixed j hj) (fun k hk => hi.fact k (hrd k hk)) (hi.either) _ fun v w' hG hm hN hF => hi.put hl hrd hok hfx ho hG hm hN hF

theorem invB_step_guarded {m : Nat} {fx : Nat → Bool} {fix : Array Value} {F : Nat → (Nat → Value) → World → Prop} {N : Nat → (Nat → Value) → World → Prop} {G : World → Prop} {i j : Nat} {o : Oper} {b want : Bool} (hok : dstsOk ops m fix.size = true) (hfx : fxOk ops fx = true) (ho : ops[i]? = some o) (hg : o.guard = some (j, want))
    (hjd : waits md ops i j = true) (hb : ∀ f w, F j f w → f j = .bool b)
    (hbw : b = want) (h : ∀ a w, G w → N i (valOf ops a) w → (∀ j, fx j = true → a.tmps.getD j undef = fix.getD j undef) → (∀ k, waits md ops i k = true → F k (valOf ops a) w) →
      ∀ K : Act → World → Prop, (∀ v w', G w' → (∀ j, j ≠ i → waits md ops j i = false → F j (valOf ops a) w → F j (updAt (valOf ops a) i (match o.dst with | some _ => v | none => undef)) w') → (∀ j, j ≠ i → waits md ops i j = false → N j (valOf ops a) w → N j (updAt (valOf ops a) i (match o.dst with | some _ => v | none => undef)) w') →
        F i (updAt (valOf ops a) i (match o.dst with | some _ => v | none => undef)) w' → K (a.put o.dst v) w') → o.wp P a w K Q) :
    Step P md ops Q (InvB md ops fx fix F N G) i := by
  refine step_guard ho fun listed a w hi hl hdep => ?_
  have hrd := waits_of ho hdep
  have hy := yielded_of (hb _ _ (hi.fact j (hrd j hjd)))
  have hw : Region.wanted o (yielded ops a.tmps) = true := by simp [Region.wanted, hg, hy, hbw]
  rw [if_pos hw]
  exact h a w hi.glob (hi.ready i hl) (fun j hj => hi.fixed j hj) (fun k hk => hi.fact k (hrd k hk)) _ fun v w' hG hm hN hF => hi.put hl hrd hok hfx ho hG hm hN hF

/-- The region by facts over all values. -/
theorem wp_region_ready_all {id : Nat} {a : Act} {w : World} (m n : Nat) (fx : Nat → Bool) (F : Nat → (Nat → Value) → World → Prop) (N : Nat → (Nat → Value) → World → Prop) (G : World → Prop) (hn : ops.size = n) (hmx : P.follows .mixedOrders = true) (hd : a.defers = [])
    (hok : dstsOk ops m a.tmps.size = true) (hfx : fxOk ops fx = true) (he : edgesOk ops = true) (hG : G w.drew) (hN : ∀ j, j < n → N j (valOf ops a) w.drew) (hs : Steps P .any ops Q (InvB .any ops fx a.tmps F N G) n)
    (hdone : ∀ a' w', a'.tmps.size = a.tmps.size → a'.defers = [] → (∀ j, fx j = true → a'.tmps.getD j undef = a.tmps.getD j undef) → G w' → (∀ k, k < n → F k (valOf ops a') w') → Q .normal a' w') :
    (Code.region id ops true).wp P Q a w := by
  refine wp_region_rule (InvB .any ops fx a.tmps F N G) n hn hmx ⟨by simp [hn], rfl, hd, fun _ _ => rfl, hG, ?_, ?_, ?_⟩ hs ?_
  · intro j hj
    simp only [Array.getD_eq_getD_getElem?, Array.getElem?_replicate] at hj
    split at hj <;> simp at hj
  · intro j hj
    refine hN j ?_
    simp only [Array.getD_eq_getD_getElem?, Array.getElem?_replicate] at hj
    split at hj
    · assumption
    · simp at hj
  · intro j k hj
    simp only [Array.getD_eq_getD_getElem?, Array.getElem?_replicate] at hj
    split at hj <;> simp at hj
  · intro listed a' w' hi hr
    exact hdone a' w' hi.tsize hi.defers hi.fixed hi.glob fun k hk => hi.fact k (all_listed hi.size he hr k (by omega))
end
end Go.Proofs.YtaplndehoenghaaDoor
