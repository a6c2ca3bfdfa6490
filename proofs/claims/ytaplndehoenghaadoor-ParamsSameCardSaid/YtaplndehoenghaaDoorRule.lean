/- A drawn region by an invariant: one step for each operation, whatever order the tape draws. -/
import Derived.Test.YtaplndehoenghaaDoorBase
import Derived.Orders
import Derived.RegionTactic
namespace Go.Proofs.YtaplndehoenghaaDoor
open Go.RowKit
set_option linter.unusedVariables false

section
variable {P : Program} {md : Region.Mode} {ops : Array Oper} {Q : Exit → Act → World → Prop} {I : Array Bool → Act → World → Prop}

theorem count_set_false : ∀ (l : List Bool) (i : Nat), l[i]? = some false → (l.set i true).count false + 1 = l.count false
  | [], i, h => by simp at h
  | b :: l, 0, h => by
    simp at h
    subst h
    simp
  | b :: l, i + 1, h => by
    have := count_set_false l i (by simpa using h)
    simp only [List.set_cons_succ, List.count_cons]
    omega

theorem ready_false {listed : Array Bool} {i : Nat} (h : i ∈ Region.ready md ops listed) : listed.toList[i]? = some false := by
  simp only [Region.ready, List.mem_filter, List.mem_range, Bool.and_eq_true, Bool.not_eq_true'] at h
  have h1 := h.2.1
  rcases Nat.lt_or_ge i listed.size with hl | hl
  · simp [Array.getD, hl] at h1
    simp [hl, h1]
  · simp [Array.getD, Nat.not_lt.2 hl] at h1

/-- What one operation owes: from the invariant to the invariant. -/
def Step (P : Program) (md : Region.Mode) (ops : Array Oper) (Q : Exit → Act → World → Prop) (I : Array Bool → Act → World → Prop) (i : Nat) : Prop :=
  ∀ listed a w, I listed a w → i ∈ Region.ready md ops listed → wpOp P ops Q i (I (listed.setIfInBounds i true)) a w

def Steps (P : Program) (md : Region.Mode) (ops : Array Oper) (Q : Exit → Act → World → Prop) (I : Array Bool → Act → World → Prop) : Nat → Prop
  | 0 => True
  | n + 1 => Steps P md ops Q I n ∧ Step P md ops Q I n

theorem Steps.get : ∀ {n : Nat}, Steps P md ops Q I n → ∀ i, i < n → Step P md ops Q I i
  | 0, _, i, h => by omega
  | n + 1, h, i, hi => by
    rcases Nat.lt_or_ge i n with hl | hl
    · exact Steps.get h.1 i hl
    · obtain rfl : i = n := by omega
      exact h.2

theorem wpAny_rule (hs : ∀ i, i < ops.size → Step P md ops Q I i) (hd : ∀ listed a w, I listed a w → Region.ready md ops listed = [] → Q .normal a w) :
    ∀ (fuel : Nat) (listed : Array Bool) (a : Act) (w : World), listed.toList.count false ≤ fuel → I listed a w → wpAny P md ops Q fuel listed a w := by
  intro fuel
  induction fuel with
  | zero =>
    intro listed a w hc hi
    have hr : Region.ready md ops listed = [] := by
      rcases h : Region.ready md ops listed with _ | ⟨i, l⟩
      · rfl
      · have h1 := ready_false (md := md) (ops := ops) (listed := listed) (i := i) (by rw [h]; simp)
        have h2 := count_set_false _ _ h1
        omega
    exact ⟨hr, hd _ _ _ hi hr⟩
  | succ fuel ih =>
    intro listed a w hc hi
    refine ⟨fun hr => hd _ _ _ hi hr, fun i hm => ?_⟩
    have hlt : i < ops.size := by
      simp only [Region.ready, List.mem_filter, List.mem_range] at hm
      exact hm.1
    have h2 := count_set_false _ _ (ready_false hm)
    refine wpOp_mono (fun a' w' h => ih _ a' w' ?_ h) (hs i hlt listed a w hi hm)
    rw [Array.toList_setIfInBounds]
    omega

/-- The region by its invariant. -/
theorem wp_region_rule {id : Nat} {a : Act} {w : World} (I : Array Bool → Act → World → Prop) (n : Nat) (hn : ops.size = n) (hm : P.follows .mixedOrders = true)
    (h0 : I (Array.replicate n false) a w.drew) (hs : Steps P .any ops Q I n) (hd : ∀ listed a w, I listed a w → Region.ready .any ops listed = [] → Q .normal a w) :
    (Code.region id ops true).wp P Q a w := by
  refine wp_region_any hm ?_
  subst hn
  exact wpAny_rule (fun i hi => hs.get i hi) hd _ _ _ _ (by simp) h0

/-- A step of an operation without a guard. -/
theorem step_plain {i : Nat} {o : Oper} (ho : ops[i]? = some o) (hg : o.guard = none)
    (h : ∀ listed a w, I listed a w → listed.getD i true = false → (o.after.all fun e => !Region.binds md e || listed.getD e.on false) = true → o.wp P a w (I (listed.setIfInBounds i true)) Q) : Step P md ops Q I i := by
  intro listed a w hi hm
  simp only [Region.ready, List.mem_filter, List.mem_range, Bool.and_eq_true, Bool.not_eq_true', ho, Option.map_some, Option.getD_some] at hm
  unfold wpOp
  rw [ho]
  have hw : Region.wanted o (yielded ops a.tmps) = true := by simp [Region.wanted, hg]
  simp only [hw, if_true]
  exact .inl (h listed a w hi hm.2.1 hm.2.2)

/-- .. and with one: what is done where it is wanted, and where not. -/
theorem step_guard {i : Nat} {o : Oper} (ho : ops[i]? = some o)
    (h : ∀ listed a w, I listed a w → listed.getD i true = false → (o.after.all fun e => !Region.binds md e || listed.getD e.on false) = true →
      if Region.wanted o (yielded ops a.tmps) = true then o.wp P a w (I (listed.setIfInBounds i true)) Q else I (listed.setIfInBounds i true) (a.put o.dst undef) w) : Step P md ops Q I i := by
  intro listed a w hi hm
  simp only [Region.ready, List.mem_filter, List.mem_range, Bool.and_eq_true, Bool.not_eq_true', ho, Option.map_some, Option.getD_some] at hm
  have h1 := h listed a w hi hm.2.1 hm.2.2
  unfold wpOp
  rw [ho]
  show if Region.wanted o (yielded ops a.tmps) = true then _ else _
  split
  · rename_i hw; rw [if_pos hw] at h1; exact .inl h1
  · rename_i hw; rw [if_neg hw] at h1; exact h1

/-! The invariant by facts: each operation that has been done has left a fact about its value. -/
/-- What an operation has left. -/
def valOf (ops : Array Oper) (a : Act) (j : Nat) : Value := match (ops[j]?).bind (·.dst) with | some d => a.tmps.getD d undef | none => undef

/-- The slots that operations write: from m on, below n, each by one alone. -/
def dstsOk (ops : Array Oper) (m n : Nat) : Bool :=
  (List.range ops.size).all fun i => match (ops[i]?).bind (·.dst) with
    | none => true
    | some d => decide (m ≤ d) && decide (d < n) && (List.range ops.size).all fun j => j == i || !((ops[j]?).bind (·.dst) == some d)

/-- Each operation waits for earlier ones alone. -/
def edgesOk (ops : Array Oper) : Bool := (List.range ops.size).all fun i => match ops[i]? with | none => true | some o => o.after.all fun e => decide (e.on < i)

structure Inv (ops : Array Oper) (m : Nat) (fix : Array Value) (F : Nat → Value → World → Prop) (G : World → Prop) (listed : Array Bool) (a : Act) (w : World) : Prop where
  size : listed.size = ops.size
  tsize : a.tmps.size = fix.size
  defers : a.defers = []
  fixed : ∀ j, j < m → a.tmps.getD j undef = fix.getD j undef
  glob : G w
  fact : ∀ j, listed.getD j false = true → F j (valOf ops a j) w

theorem valOf_put {ops : Array Oper} {m n i j : Nat} {o : Oper} {a : Act} {v : Value} (hok : dstsOk ops m n = true) (ho : ops[i]? = some o) (hj : j < ops.size) (hne : j ≠ i) : valOf ops (a.put o.dst v) j = valOf ops a j := by
  have hi : i < ops.size := (Array.getElem?_eq_some_iff.1 ho).1
  unfold valOf
  rcases hd : (ops[j]?).bind (·.dst) with _ | d
  · rfl
  · dsimp only
    rcases hdi : o.dst with _ | di
    · rfl
    · have h1 := List.all_eq_true.1 hok i (List.mem_range.2 hi)
      rw [ho] at h1
      simp only [Option.bind_some, hdi, Bool.and_eq_true, decide_eq_true_eq] at h1
      have h2 := List.all_eq_true.1 h1.2 j (List.mem_range.2 hj)
      rw [hd] at h2
      simp only [Bool.or_eq_true, beq_iff_eq, hne, false_or, Bool.not_eq_true', beq_eq_false_iff_ne, ne_eq, Option.some.injEq] at h2
      simp only [Act.put, Array.getD_eq_getD_getElem?]
      rw [Array.getElem?_setIfInBounds_ne (Ne.symm h2)]

theorem Inv.put {m : Nat} {fix : Array Value} {F : Nat → Value → World → Prop} {G : World → Prop} {listed : Array Bool} {a : Act} {w w' : World} {i : Nat} {o : Oper} {v : Value}
    (h : Inv ops m fix F G listed a w) (hok : dstsOk ops m fix.size = true) (ho : ops[i]? = some o) (hG : G w') (hm : ∀ j u, F j u w → F j u w') (hF : F i (match o.dst with | some _ => v | none => undef) w') :
    Inv ops m fix F G (listed.setIfInBounds i true) (a.put o.dst v) w' := by
  have hi : i < ops.size := (Array.getElem?_eq_some_iff.1 ho).1
  have hd : ∀ d, o.dst = some d → m ≤ d ∧ d < fix.size := fun d hd => by
    have h1 := List.all_eq_true.1 hok i (List.mem_range.2 hi)
    rw [ho] at h1
    simp only [Option.bind_some, hd, Bool.and_eq_true, decide_eq_true_eq] at h1
    exact h1.1
  refine ⟨by simp [h.size], ?_, ?_, ?_, hG, ?_⟩
  · rcases hdi : o.dst with _ | d <;> simp [Act.put, h.tsize]
  · rcases hdi : o.dst with _ | d <;> simp [Act.put, h.defers]
  · intro j hj
    rw [← h.fixed j hj]
    rcases hdi : o.dst with _ | d
    · rfl
    · simp only [Act.put, Array.getD_eq_getD_getElem?]
      rw [Array.getElem?_setIfInBounds_ne (by have := hd d hdi; omega)]
  · intro j hj
    by_cases hji : j = i
    · subst hji
      have e : valOf ops (a.put o.dst v) j = (match o.dst with | some _ => v | none => undef) := by
        unfold valOf
        rw [ho]
        simp only [Option.bind_some]
        rcases hdi : o.dst with _ | d
        · rfl
        · have := hd d hdi
          simp [Act.put, h.tsize, this]
      rw [e]
      exact hF
    · have hj' : listed.getD j false = true := by
        simp only [Array.getD_eq_getD_getElem?] at hj ⊢
        rwa [Array.getElem?_setIfInBounds_ne (Ne.symm hji)] at hj
      have hjs : j < ops.size := by
        rcases Nat.lt_or_ge j ops.size with hl | hl
        · exact hl
        · rw [← h.size] at hl
          simp [Array.getD, Nat.not_lt.2 hl] at hj'
      rw [valOf_put hok ho hjs hji]
      exact hm _ _ (h.fact j hj')

/-- A step by its facts: what the operation waits for has left its facts; it leaves its own, and lets the others stand. -/
theorem inv_step {m : Nat} {fix : Array Value} {F : Nat → Value → World → Prop} {G : World → Prop} {i : Nat} {o : Oper} (hok : dstsOk ops m fix.size = true) (ho : ops[i]? = some o) (hg : o.guard = none)
    (h : ∀ a w, G w → (∀ j, j < m → a.tmps.getD j undef = fix.getD j undef) → (∀ k, (o.after.any fun e => Region.binds md e && e.on == k) = true → F k (valOf ops a k) w) →
      ∀ K : Act → World → Prop, (∀ v w', G w' → (∀ j u, F j u w → F j u w') → F i (match o.dst with | some _ => v | none => undef) w' → K (a.put o.dst v) w') → o.wp P a w K Q) : Step P md ops Q (Inv ops m fix F G) i := by
  refine step_plain ho hg fun listed a w hi _ hdep => ?_
  refine h a w hi.glob (fun j hj => hi.fixed j hj) (fun k hk => hi.fact k ?_) _ fun v w' hG hm hF => hi.put hok ho hG hm hF
  obtain ⟨e, he, hb⟩ := Array.any_eq_true'.1 hk
  simp only [Bool.and_eq_true, beq_iff_eq] at hb
  have h2 := Array.all_eq_true_iff_forall_mem.1 hdep e he
  simp only [hb.1, Bool.not_true, Bool.false_or] at h2
  rw [← hb.2]
  exact h2

theorem all_listed {listed : Array Bool} (hs : listed.size = ops.size) (he : edgesOk ops = true) (hr : Region.ready md ops listed = []) : ∀ j, j < ops.size → listed.getD j false = true := by
  intro j
  induction j using Nat.strongRecOn with
  | _ j ih =>
    intro hj
    by_cases hl : listed.getD j false = true
    · exact hl
    · exfalso
      have ho : ops[j]? = some ops[j] := Array.getElem?_eq_getElem hj
      have h1 := List.all_eq_true.1 he j (List.mem_range.2 hj)
      rw [ho] at h1
      dsimp only at h1
      have hm : j ∈ Region.ready md ops listed := by
        simp only [Region.ready, List.mem_filter, List.mem_range, Bool.and_eq_true, Bool.not_eq_true', ho, Option.map_some, Option.getD_some]
        refine ⟨hj, ?_, ?_⟩
        · simp only [Array.getD_eq_getD_getElem?] at hl ⊢
          rw [Array.getElem?_eq_getElem (by omega)] at hl ⊢
          simpa using hl
        · refine Array.all_eq_true_iff_forall_mem.2 fun e hem => ?_
          have h2 := Array.all_eq_true_iff_forall_mem.1 h1 e hem
          have h3 : e.on < j := by simpa using h2
          simp [ih e.on h3 (by omega)]
      rw [hr] at hm
      cases hm

/-- The region by facts. -/
theorem wp_region_facts {id : Nat} {a : Act} {w : World} (m n : Nat) (F : Nat → Value → World → Prop) (G : World → Prop) (hn : ops.size = n) (hmx : P.follows .mixedOrders = true) (hd : a.defers = [])
    (hok : dstsOk ops m a.tmps.size = true) (he : edgesOk ops = true) (hG : G w.drew) (hs : Steps P .any ops Q (Inv ops m a.tmps F G) n)
    (hdone : ∀ a' w', a'.tmps.size = a.tmps.size → a'.defers = [] → (∀ j, j < m → a'.tmps.getD j undef = a.tmps.getD j undef) → G w' → (∀ k, k < n → F k (valOf ops a' k) w') → Q .normal a' w') :
    (Code.region id ops true).wp P Q a w := by
  refine wp_region_rule (Inv ops m a.tmps F G) n hn hmx ⟨by simp [hn], rfl, hd, fun _ _ => rfl, hG, ?_⟩ hs ?_
  · intro j hj
    simp only [Array.getD_eq_getD_getElem?, Array.getElem?_replicate] at hj
    split at hj <;> simp at hj
  · intro listed a' w' hi hr
    exact hdone a' w' hi.tsize hi.defers hi.fixed hi.glob fun k hk => hi.fact k (all_listed hi.size he hr k (by omega))
end
end Go.Proofs.YtaplndehoenghaaDoor
