/- A drawn region by facts over all values so far: a fact may speak of the values that its operation waits for. -/
import Derived.Test.YtaplndehoenghaaDoorRuleN
namespace Go.Proofs.YtaplndehoenghaaDoor
open Go.RowKit
set_option linter.unusedVariables false
section
variable {P : Program} {md : Region.Mode} {ops : Array Oper} {Q : Exit → Act → World → Prop}

/-- Does operation j wait for k? -/
def waits (md : Region.Mode) (ops : Array Oper) (j k : Nat) : Bool := match ops[j]? with | some o => o.after.any fun e => Region.binds md e && e.on == k | none => false

structure InvA (md : Region.Mode) (ops : Array Oper) (m : Nat) (fix : Array Value) (F : Nat → (Nat → Value) → World → Prop) (N : Nat → World → Prop) (G : World → Prop) (listed : Array Bool) (a : Act) (w : World) : Prop where
  size : listed.size = ops.size
  tsize : a.tmps.size = fix.size
  defers : a.defers = []
  fixed : ∀ j, j < m → a.tmps.getD j undef = fix.getD j undef
  glob : G w
  fact : ∀ j, listed.getD j false = true → F j (valOf ops a) w
  ready : ∀ j, listed.getD j true = false → N j w
  closed : ∀ j k, listed.getD j false = true → waits md ops j k = true → listed.getD k false = true

/-- The values behind operation i. -/
def updAt (f : Nat → Value) (i : Nat) (v : Value) (k : Nat) : Value := if k = i then v else f k
theorem updAt_same (f : Nat → Value) (i : Nat) (v : Value) : updAt f i v i = v := by simp [updAt]
theorem updAt_other (f : Nat → Value) {i k : Nat} (v : Value) (h : k ≠ i) : updAt f i v k = f k := by simp [updAt, h]

theorem valOf_put_all {m n i : Nat} {o : Oper} {a : Act} {v : Value} (hok : dstsOk ops m n = true) (hsz : a.tmps.size = n) (ho : ops[i]? = some o) (k : Nat) :
    valOf ops (a.put o.dst v) k = updAt (valOf ops a) i (match o.dst with | some _ => v | none => undef) k := by
  by_cases hk : k < ops.size
  · by_cases hki : k = i
    · subst hki
      rw [updAt_same]
      unfold valOf
      rw [ho]
      simp only [Option.bind_some]
      rcases hdi : o.dst with _ | d
      · rfl
      · have h1 := List.all_eq_true.1 hok k (List.mem_range.2 hk)
        rw [ho] at h1
        simp only [Option.bind_some, hdi, Bool.and_eq_true, decide_eq_true_eq] at h1
        simp [Act.put, hsz, h1.1.2]
    · rw [updAt_other _ _ hki, valOf_put hok ho hk hki]
  · have hi : i < ops.size := (Array.getElem?_eq_some_iff.1 ho).1
    rw [updAt_other _ _ (by omega)]
    simp [valOf, Array.getElem?_eq_none (Nat.not_lt.1 hk)]

theorem InvA.put {m : Nat} {fix : Array Value} {F : Nat → (Nat → Value) → World → Prop} {N : Nat → World → Prop} {G : World → Prop} {listed : Array Bool} {a : Act} {w w' : World} {i : Nat} {o : Oper} {v : Value}
    (h : InvA md ops m fix F N G listed a w) (hun : listed.getD i true = false) (hrd : ∀ k, waits md ops i k = true → listed.getD k false = true) (hok : dstsOk ops m fix.size = true) (ho : ops[i]? = some o) (hG : G w')
    (hm : ∀ j, j ≠ i → waits md ops j i = false → F j (valOf ops a) w → F j (updAt (valOf ops a) i (match o.dst with | some _ => v | none => undef)) w')
    (hN : ∀ j, j ≠ i → waits md ops i j = false → N j w → N j w')
    (hF : F i (updAt (valOf ops a) i (match o.dst with | some _ => v | none => undef)) w') :
    InvA md ops m fix F N G (listed.setIfInBounds i true) (a.put o.dst v) w' := by
  have hi : i < ops.size := (Array.getElem?_eq_some_iff.1 ho).1
  have hv : valOf ops (a.put o.dst v) = updAt (valOf ops a) i (match o.dst with | some _ => v | none => undef) := funext (valOf_put_all hok h.tsize ho)
  have hl : ∀ j, (listed.setIfInBounds i true).getD j false = true → j = i ∨ listed.getD j false = true := fun j hj => by
    by_cases hji : j = i
    · exact .inl hji
    · right
      simp only [Array.getD_eq_getD_getElem?] at hj ⊢
      rwa [Array.getElem?_setIfInBounds_ne (Ne.symm hji)] at hj
  have hl2 : ∀ j, listed.getD j false = true → (listed.setIfInBounds i true).getD j false = true := fun j hj => by
    simp only [Array.getD_eq_getD_getElem?] at hj ⊢
    by_cases hji : j = i
    · subst hji
      rw [Array.getElem?_setIfInBounds_self_of_lt (by rw [h.size]; exact hi)]
      rfl
    · rwa [Array.getElem?_setIfInBounds_ne (Ne.symm hji)]
  refine ⟨by simp [h.size], ?_, ?_, ?_, hG, ?_, ?_, ?_⟩
  · rcases hdi : o.dst with _ | d <;> simp [Act.put, h.tsize]
  · rcases hdi : o.dst with _ | d <;> simp [Act.put, h.defers]
  · intro j hj
    rw [← h.fixed j hj]
    rcases hdi : o.dst with _ | d
    · rfl
    · have h1 := List.all_eq_true.1 hok i (List.mem_range.2 hi)
      rw [ho] at h1
      simp only [Option.bind_some, hdi, Bool.and_eq_true, decide_eq_true_eq] at h1
      simp only [Act.put, Array.getD_eq_getD_getElem?]
      rw [Array.getElem?_setIfInBounds_ne (by have := h1.1.1; omega)]
  · intro j hj
    rw [hv]
    rcases hl j hj with rfl | hj'
    · exact hF
    · have hne : j ≠ i := fun e => by subst e; exact getD_both hj' hun
      refine hm j hne ?_ (h.fact j hj')
      rcases hb : waits md ops j i with _ | _
      · rfl
      · exact (getD_both (h.closed j i hj' hb) hun).elim
  · intro j hj
    obtain ⟨h1, h2⟩ := set_false hj
    refine hN j h2 ?_ (h.ready j h1)
    rcases hb : waits md ops i j with _ | _
    · rfl
    · exact (getD_both (hrd j hb) h1).elim
  · intro j k hj hw
    rcases hl j hj with rfl | hj'
    · exact hl2 k (hrd k hw)
    · exact hl2 k (h.closed j k hj' hw)

theorem waits_of {i : Nat} {o : Oper} {listed : Array Bool} (ho : ops[i]? = some o) (hdep : (o.after.all fun e => !Region.binds md e || listed.getD e.on false) = true) : ∀ k, waits md ops i k = true → listed.getD k false = true := fun k hk => by
  unfold waits at hk
  rw [ho] at hk
  obtain ⟨e, he, hb⟩ := Array.any_eq_true'.1 hk
  simp only [Bool.and_eq_true, beq_iff_eq] at hb
  have h2 := Array.all_eq_true_iff_forall_mem.1 hdep e he
  simp only [hb.1, Bool.not_true, Bool.false_or] at h2
  rw [← hb.2]
  exact h2

theorem invA_step {m : Nat} {fix : Array Value} {F : Nat → (Nat → Value) → World → Prop} {N : Nat → World → Prop} {G : World → Prop} {i : Nat} {o : Oper} (hok : dstsOk ops m fix.size = true) (ho : ops[i]? = some o) (hg : o.guard = none)
    (h : ∀ a w, G w → N i w → (∀ j, j < m → a.tmps.getD j undef = fix.getD j undef) → (∀ k, waits md ops i k = true → F k (valOf ops a) w) →
      ∀ K : Act → World → Prop, (∀ v w', G w' → (∀ j, j ≠ i → waits md ops j i = false → F j (valOf ops a) w → F j (updAt (valOf ops a) i (match o.dst with | some _ => v | none => undef)) w') → (∀ j, j ≠ i → waits md ops i j = false → N j w → N j w') →
        F i (updAt (valOf ops a) i (match o.dst with | some _ => v | none => undef)) w' → K (a.put o.dst v) w') → o.wp P a w K Q) :
    Step P md ops Q (InvA md ops m fix F N G) i := by
  refine step_plain ho hg fun listed a w hi hl hdep => ?_
  have hrd := waits_of ho hdep
  exact h a w hi.glob (hi.ready i hl) (fun j hj => hi.fixed j hj) (fun k hk => hi.fact k (hrd k hk)) _ fun v w' hG hm hN hF => hi.put hl hrd hok ho hG hm hN hF

theorem invA_step_guarded {m : Nat} {fix : Array Value} {F : Nat → (Nat → Value) → World → Prop} {N : Nat → World → Prop} {G : World → Prop} {i j : Nat} {o : Oper} {b want : Bool} (hok : dstsOk ops m fix.size = true) (ho : ops[i]? = some o) (hg : o.guard = some (j, want))
    (hjd : waits md ops i j = true) (hb : ∀ f w, F j f w → f j = .bool b)
    (hoff : b ≠ want → ∀ f w, G w → (∀ k, k ≠ i → waits md ops k i = false → F k f w → F k (updAt f i undef) w) ∧ F i (updAt f i undef) w)
    (h : b = want → ∀ a w, G w → N i w → (∀ j, j < m → a.tmps.getD j undef = fix.getD j undef) → (∀ k, waits md ops i k = true → F k (valOf ops a) w) →
      ∀ K : Act → World → Prop, (∀ v w', G w' → (∀ j, j ≠ i → waits md ops j i = false → F j (valOf ops a) w → F j (updAt (valOf ops a) i (match o.dst with | some _ => v | none => undef)) w') → (∀ j, j ≠ i → waits md ops i j = false → N j w → N j w') →
        F i (updAt (valOf ops a) i (match o.dst with | some _ => v | none => undef)) w' → K (a.put o.dst v) w') → o.wp P a w K Q) :
    Step P md ops Q (InvA md ops m fix F N G) i := by
  refine step_guard ho fun listed a w hi hl hdep => ?_
  have hrd := waits_of ho hdep
  have hy := yielded_of (hb _ _ (hi.fact j (hrd j hjd)))
  by_cases hbw : b = want
  · have hw : Region.wanted o (yielded ops a.tmps) = true := by simp [Region.wanted, hg, hy, hbw]
    rw [if_pos hw]
    exact h hbw a w hi.glob (hi.ready i hl) (fun j hj => hi.fixed j hj) (fun k hk => hi.fact k (hrd k hk)) _ fun v w' hG hm hN hF => hi.put hl hrd hok ho hG hm hN hF
  · have hw : ¬ Region.wanted o (yielded ops a.tmps) = true := by simp [Region.wanted, hg, hy, hbw]
    rw [if_neg hw]
    have e : (match o.dst with | some _ => undef | none => undef) = undef := by split <;> rfl
    obtain ⟨h1, h2⟩ := hoff hbw (valOf ops a) w hi.glob
    exact hi.put hl hrd hok ho hi.glob (by rw [e]; exact h1) (fun _ _ _ h => h) (by rw [e]; exact h2)

/-- The region by facts over all values. -/
theorem wp_region_all {id : Nat} {a : Act} {w : World} (m n : Nat) (F : Nat → (Nat → Value) → World → Prop) (N : Nat → World → Prop) (G : World → Prop) (hn : ops.size = n) (hmx : P.follows .mixedOrders = true) (hd : a.defers = [])
    (hok : dstsOk ops m a.tmps.size = true) (he : edgesOk ops = true) (hG : G w.drew) (hN : ∀ j, j < n → N j w.drew) (hs : Steps P .any ops Q (InvA .any ops m a.tmps F N G) n)
    (hdone : ∀ a' w', a'.tmps.size = a.tmps.size → a'.defers = [] → (∀ j, j < m → a'.tmps.getD j undef = a.tmps.getD j undef) → G w' → (∀ k, k < n → F k (valOf ops a') w') → Q .normal a' w') :
    (Code.region id ops true).wp P Q a w := by
  refine wp_region_rule (InvA .any ops m a.tmps F N G) n hn hmx ⟨by simp [hn], rfl, hd, fun _ _ => rfl, hG, ?_, ?_, ?_⟩ hs ?_
  · intro j hj
    simp only [Array.getD_eq_getD_getElem?, Array.getElem?_replicate] at hj
    split at hj <;> simp at hj
  · intro j hj
    refine hN j ?_
    simp only [Array.getD_eq_getD_getElem?, Array.getElem?_replicate] at hj
    split at hj
    · assumption
    · simp at hj
  · intro j k hj
    simp only [Array.getD_eq_getD_getElem?, Array.getElem?_replicate] at hj
    split at hj <;> simp at hj
  · intro listed a' w' hi hr
    exact hdone a' w' hi.tsize hi.defers hi.fixed hi.glob fun k hk => hi.fact k (all_listed hi.size he hr k (by omega))
end
end Go.Proofs.YtaplndehoenghaaDoor
