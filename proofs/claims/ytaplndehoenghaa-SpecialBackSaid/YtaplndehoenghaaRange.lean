/- A range over a function: a law for iterators that hand out fresh memory, stated by the number of rounds. -/
import Derived.Test.YtaplndehoenghaaBase
import Derived.RangeFuncNested
import Derived.RangeFuncBound
import Derived.RangeFuncCalls
import Derived.RangeFuncLeaves
import Derived.OwnWalkIn
import Derived.TacticsInMore
import Derived.LoopNIn
import Derived.LoopIn
namespace Go.Proofs.Ytaplndehoenghaa
open Go.RowKit
set_option linter.unusedVariables false

theorem kept_putObj {S : Nat → Prop} {A : World} {l : Nat} (o' : Obj) (hl : S l) : Kept S A (A.putObj l o') :=
  ⟨rfl, rfl, rfl, by simp [World.putObj], fun k hk hn => World.putObj_heap_other (fun e => hn (e ▸ hl))⟩

theorem keepsFrom_kept {S : Nat → Prop} {B : Nat} {W W' : World} (h : Kept S W W') (hc : ∀ k o, B ≤ k → S k → W.heap[k]? = some o → o.isCells = true) : KeepsFrom B W W' :=
  ⟨h.size, fun k o hB hk ho => (h.block k (Array.getElem?_eq_some_iff.1 hk).1 (fun hS => by rw [hc k o hB hS hk] at ho; cases ho)).trans hk⟩
theorem keepsFrom_below {B : Nat} {W W' : World} (h : Below W.heap.size W W') : KeepsFrom B W W' := keepsFrom_kept (Kept.of_below' h (fun _ => False)) (fun _ _ _ h => h.elim)
theorem own_cells {w : World} {base e size n : Nat} {v : Value} {xs : List Value} (h : w.ownsRow base e size v n xs) {k : Nat} {o : Obj} (hk : v.ownBlock = some k) (ho : w.heap[k]? = some o) : o.isCells = true := by
  rcases h.2 with ⟨rfl, _⟩ | ⟨g, cap, cur, rfl, _, hg, _⟩
  · cases hk
  · cases hk
    rw [hg] at ho
    cases ho
    rfl

theorem cell_putObj {W : World} {D i j : Nat} {o : Obj} (h : i ≠ D) : (W.putObj D o).cell? ⟨i, j, none⟩ = W.cell? ⟨i, j, none⟩ := World.cell?_of_block (World.putObj_heap_other h)
theorem heap_setCell_ne {W : World} {D : Nat} {p : Addr} {u : Value} (h : D ≠ p.block) : (W.setCell p u).heap[D]? = W.heap[D]? := Below.heap_setCell W p u D h

theorem below_putObj {B D : Nat} (W : World) (o : Obj) (h : B ≤ D) : Below B W (W.putObj D o) := ⟨rfl, rfl, rfl, by simp [World.putObj], fun k hk => World.putObj_heap_other (by omega)⟩

/-- What an iterator promises: it yields, in order, what Out says, N times or till a round says no; it turns blocks of S alone; T is what each round keeps for it. -/
def Gen (P : Program) (gf : Nat) (lb : Array Value) (N : Nat) (S : Nat → Prop) (T : World → World → Prop) (Out : Nat → Array Value → World → Prop) (w : World) : Prop :=
  ∀ (l : Nat) (J Jx : Nat → World → Prop) (W : World), T w W →
    (∀ i A B, J i A → Kept S A B → J i B) → (∀ i A B, Jx i A → Kept S A B → Jx i B) →
    (∀ i args W1, i < N → J i W1 → Out i args W1 → YieldAt Fence.wide 0 P l args W1 fun e W' =>
      (e = .returned (.bool true) ∧ J (i + 1) W' ∧ T W1 W') ∨ (e = .returned (.bool false) ∧ Jx i W')) →
    J 0 W →
    CallsIn Fence.wide 0 P gf (#[.func (.yield l) #[] #[]] ++ lb) W fun e W' => (∃ v, e = .returned v) ∧ (J N W' ∨ ∃ i, i < N ∧ Jx i W')

/-- How the body of a round may be left. -/
def roundEnd (B : Nat) (T : World → World → Prop) (I : Nat → World → Prop) (Ix : Code → Nat → World → Prop) (i : Nat) (W : World) : Exit → Act → World → Prop
  | .normal, _, W' => KeepsFrom B W W' ∧ T W W' ∧ I (i + 1) W'
  | .ret, _, W' => KeepsFrom B W W' ∧ Ix .ret i W'
  | .exit id, _, W' => KeepsFrom B W W' ∧ Ix (.exit id) i W'
  | .goto t, _, W' => KeepsFrom B W W' ∧ Ix (.goto t) i W'
  | .panic _, _, _ => False
  | .outgrown, _, _ => False

/-- The blocks that may turn beside the caller: the iterator's own, and the loop's records. -/
def Beside (S : Nat → Prop) (B : Nat) (A : World) (k : Nat) : Prop := S k ∨ (B ≤ k ∧ ∃ o, A.heap[k]? = some o ∧ o.isCells = false)

theorem wp_range {P : Program} {g : Operand} {ps : Array Tmp} {assign body : Code} {Q : Exit → Act → World → Prop} {a : Act} {w : World} {gf : Nat} {lb : Array Value}
    (hg : a.eval g = .func (.func gf) #[] lb) (eg : ∀ args w, (callFunc gf args).run P w = .ok (.enter gf args) w)
    {N : Nat} {S : Nat → Prop} {T : World → World → Prop} {Out : Nat → Array Value → World → Prop} (hgen : Gen P gf lb N S T Out w)
    (hS : ∀ k, S k → k < w.heap.size) (hTr : ∀ A, T A A) (hTt : ∀ A B C, T A B → T B C → T A C) (hTn : ∀ A o, w.heap.size ≤ A.heap.size → T A (A.alloc o))
    (hTp : ∀ A l o o', w.heap.size ≤ l → A.heap[l]? = some o → o.isCells = false → T A (A.putObj l o'))
    (hO : ∀ i args A l o o', w.heap.size ≤ l → A.heap[l]? = some o → o.isCells = false → Out i args A → Out i args (A.putObj l o'))
    (hsz : ∀ i args W, Out i args W → args.size = ps.size)
    (I : Nat → World → Prop) (Ix : Code → Nat → World → Prop) (hI : ∀ i A B, I i A → Kept (Beside S w.heap.size A) A B → I i B) (hIx : ∀ c i A B, Ix c i A → Kept (Beside S w.heap.size A) A B → Ix c i B)
    (h0 : I 0 w) (upd : Array Value → Array Value → Array Value)
    (hassign : ∀ (l i : Nat) (args : Array Value) (W : World) (K : Act → World → Prop), Out i args W → K { tmps := upd args a.tmps, defers := [] } W →
      assign.wpIn (Fence.wide.inRound l) 0 P (Exit.then K (fun _ _ _ => False)) { tmps := (ps.zip args).foldl (fun t (p, v) => t.setIfInBounds p v) a.tmps, defers := [] } W)
    (hbody : ∀ (l i : Nat) (args : Array Value) (W : World), i < N → w.heap.size ≤ W.heap.size → I i W → Out i args W → body.wpIn (Fence.wide.inRound l) 0 P (roundEnd w.heap.size T I Ix i W) { tmps := upd args a.tmps, defers := [] } W)
    (hdone : ∀ (D : Nat) (W : World), w.heap.size ≤ D → I N W → W.heap[D]? = some (.deferred (some [])) → Q .normal { a with defers := { target := .collected D, args := #[] } :: a.defers } W)
    (hstop : ∀ (D : Nat) (c : Code) (i : Nat) (W : World), w.heap.size ≤ D → i < N → Ix c i W → W.heap[D]? = some (.deferred (some [])) → c.wp P Q { a with defers := { target := .collected D, args := #[] } :: a.defers } W) :
    (Code.rangeFunc g ps assign body).wp P Q a w := by
  refine (wpIn_wide (n := 0)).1 (wpIn_rangeFunc fun fn hfn => ?_)
  obtain ⟨rec, hrec⟩ : ∃ rec : LoopState → Option Code → Loop, rec = fun st pe => { state := st, pending := pe, fn, tmps := a.tmps, params := ps, assign, body, defers := w.heap.size } := ⟨_, rfl⟩
  have hgt : ∀ {A : World} {k : Nat} {o : Obj}, A.heap[k]? = some o → k < A.heap.size := fun h => (Array.getElem?_eq_some_iff.1 h).1
  obtain ⟨W0, hW0⟩ : ∃ W0, w.alloc (.deferred (some [])) = W0 := ⟨_, rfl⟩
  obtain ⟨W1, hW1⟩ : ∃ W1, W0.alloc (.loop (rec .ready none)) = W1 := ⟨_, rfl⟩
  have hs0 : W0.heap.size = w.heap.size + 1 := by rw [← hW0]; simp
  have hL1 : W1.heap[w.heap.size + 1]? = some (.loop (rec .ready none)) := by rw [← hW1, ← hs0]; exact World.alloc_heap_new _ _
  have hK1 : W1.heap[w.heap.size]? = some (.deferred (some [])) := by
    rw [← hW1, Below.heap_alloc W0 _ _ (by omega), ← hW0]
    exact World.alloc_heap_new w _
  have hk01 : Kept (Beside S w.heap.size w) w W0 := by rw [← hW0]; exact (Kept.refl _ w).alloc _
  have hI0 : I 0 W0 := hI 0 w W0 h0 hk01
  have hI1 : I 0 W1 := hI 0 W0 W1 hI0 (by rw [← hW1]; exact (Kept.refl _ _).alloc _)
  have hT1 : T w W1 := hTt _ _ _ (hW0 ▸ hTn w _ (Nat.le_refl _)) (hW1 ▸ hTn W0 _ (by omega))
  refine ⟨w.heap.size + 1, [{ target := .collected w.heap.size, args := #[] }], W1, { target := .fn (.func gf) lb, args := #[.func (.yield (w.heap.size + 1)) #[] #[]] }, W1, gf,
    #[.func (.yield (w.heap.size + 1)) #[] #[]] ++ lb, W1, ?_, ?_, fun _ _ => trivial, ?_, fun h => (by cases h), ?_⟩
  · rw [← hW1, ← hW0, hrec]
    exact run_enterLoop_outer _ _ _ _ _
  · simp only [resolve, hg]
    simp [go_sem]
  · simp [invoke, go_sem, eg]
  have put : ∀ {i : Nat} {A : World} {l : Nat} {o : Obj} (o' : Obj), w.heap.size ≤ l → A.heap[l]? = some o → o.isCells = false → I i A → I i (A.putObj l o') :=
    fun o' hl ho hc h => hI _ _ _ h (kept_putObj o' (.inr ⟨hl, _, ho, hc⟩))
  have putx : ∀ {c : Code} {i : Nat} {A : World} {l : Nat} {o : Obj} (o' : Obj), w.heap.size ≤ l → A.heap[l]? = some o → o.isCells = false → Ix c i A → Ix c i (A.putObj l o') :=
    fun o' hl ho hc h => hIx _ _ _ _ h (kept_putObj o' (.inr ⟨hl, _, ho, hc⟩))
  have hne : ∀ k, w.heap.size ≤ k → ¬ S k := fun k hk hs => by have := hS k hs; omega
  refine (hgen (w.heap.size + 1)
    (fun i W => I i W ∧ W.heap[w.heap.size + 1]? = some (.loop (rec .ready none)) ∧ W.heap[w.heap.size]? = some (.deferred (some [])))
    (fun i W => ∃ c, Ix c i W ∧ W.heap[w.heap.size + 1]? = some (.loop (rec .done (some c))) ∧ W.heap[w.heap.size]? = some (.deferred (some [])))
    W1 hT1 ?_ ?_ ?_ ⟨hI1, hL1, hK1⟩).mono ?_
  · rintro i A B ⟨h1, h2, h3⟩ hk
    exact ⟨hI i A B h1 (hk.mono fun k _ h => .inl h), (hk.block _ (hgt h2) (hne _ (by omega))).trans h2, (hk.block _ (hgt h3) (hne _ (Nat.le_refl _))).trans h3⟩
  · rintro i A B ⟨c, h1, h2, h3⟩ hk
    exact ⟨c, hIx c i A B h1 (hk.mono fun k _ h => .inl h), (hk.block _ (hgt h2) (hne _ (by omega))).trans h2, (hk.block _ (hgt h3) (hne _ (Nat.le_refl _))).trans h3⟩
  · rintro i args W hiN ⟨hi, hl, hd⟩ hout
    have hlt := hgt hl
    have hy := run_yield (P := P) (args := args) hl (by rw [hrec]; exact hsz i args W hout)
    rw [hrec] at hy
    refine ⟨fn, _, assign, body, hy, roundIn_of_wpIn hfn (hassign _ i args W _ hout ⟨_, run_beginRound hl (by rw [hrec]), ?_⟩)⟩
    have hl2 : (W.putObj (w.heap.size + 1) (.loop { rec .ready none with state := .busy })).heap[w.heap.size + 1]? = some (.loop { rec .ready none with state := .busy }) := World.putObj_heap_same hlt
    have hd2 : (W.putObj (w.heap.size + 1) (.loop { rec .ready none with state := .busy })).heap[w.heap.size]? = some (.deferred (some [])) := (World.putObj_heap_other (by omega)).trans hd
    have ht2 : T W (W.putObj (w.heap.size + 1) (.loop { rec .ready none with state := .busy })) := hTp _ _ _ _ (by omega) hl rfl
    refine wpIn_mono (hbody _ i args _ hiN (by simp only [World.putObj, Array.size_setIfInBounds]; omega) (put _ (by omega) hl rfl hi) (hO _ _ _ _ _ _ (by omega) hl rfl hout)) ?_
    have fin : ∀ (jump : Option Code) (W3 : World), KeepsFrom w.heap.size (W.putObj (w.heap.size + 1) (.loop { rec .ready none with state := .busy })) W3 →
        (Instr.endRound (w.heap.size + 1) jump).run P W3 = .ok (.bool jump.isNone) (W3.putObj (w.heap.size + 1) (.loop (rec (if jump.isNone then .ready else .done) jump))) ∧
        (∃ o, W3.heap[w.heap.size + 1]? = some o ∧ o.isCells = false) ∧
        (W3.putObj (w.heap.size + 1) (.loop (rec (if jump.isNone then .ready else .done) jump))).heap[w.heap.size + 1]? = some (.loop (rec (if jump.isNone then .ready else .done) jump)) ∧
        (W3.putObj (w.heap.size + 1) (.loop (rec (if jump.isNone then .ready else .done) jump))).heap[w.heap.size]? = some (.deferred (some [])) := fun jump W3 hk3 => by
      have hl3 := hk3.same _ _ (by omega) hl2 rfl
      have hr := run_endRound (P := P) jump hl3
      refine ⟨?_, ⟨_, hl3, rfl⟩, World.putObj_heap_same (hgt hl3), (World.putObj_heap_other (by omega)).trans (hk3.same _ _ (Nat.le_refl _) hd2 rfl)⟩
      rw [hrec] at hr ⊢
      exact hr
    rintro e a3 W3 hp
    cases e with
    | normal =>
      obtain ⟨hk3, ht3, hi3⟩ := hp
      obtain ⟨hr, ⟨o3, hl3, hc3⟩, hl4, hd4⟩ := fin none W3 hk3
      exact ⟨_, _, hr, .inl ⟨rfl, ⟨put _ (by omega) hl3 hc3 hi3, hl4, hd4⟩, hTt _ _ _ (hTt _ _ _ ht2 ht3) (hTp _ _ _ _ (by omega) hl3 hc3)⟩⟩
    | ret =>
      obtain ⟨hk3, hi3⟩ := hp
      obtain ⟨hr, ⟨o3, hl3, hc3⟩, hl4, hd4⟩ := fin (some .ret) W3 hk3
      exact ⟨_, _, hr, .inr ⟨rfl, .ret, putx _ (by omega) hl3 hc3 hi3, hl4, hd4⟩⟩
    | exit id =>
      obtain ⟨hk3, hi3⟩ := hp
      obtain ⟨hr, ⟨o3, hl3, hc3⟩, hl4, hd4⟩ := fin (some (.exit id)) W3 hk3
      exact ⟨_, _, hr, .inr ⟨rfl, .exit id, putx _ (by omega) hl3 hc3 hi3, hl4, hd4⟩⟩
    | goto t =>
      obtain ⟨hk3, hi3⟩ := hp
      obtain ⟨hr, ⟨o3, hl3, hc3⟩, hl4, hd4⟩ := fin (some (.goto t)) W3 hk3
      exact ⟨_, _, hr, .inr ⟨rfl, .goto t, putx _ (by omega) hl3 hc3 hi3, hl4, hd4⟩⟩
    | panic ch => exact hp.elim
    | outgrown => exact hp.elim
  · rintro e W2 ⟨⟨v, rfl⟩, (⟨hi, hl, hd⟩ | ⟨i, hiN, c, hi, hl, hd⟩)⟩
    · refine ⟨none, W2.putObj (w.heap.size + 1) (.loop { rec .ready none with state := .exhausted }), ?_, hdone w.heap.size _ (Nat.le_refl _) (put _ (by omega) hl rfl hi) ((World.putObj_heap_other (by omega)).trans hd)⟩
      have := run_endLoop (P := P) hl (by rw [hrec]; simp)
      rw [hrec] at this ⊢
      exact this
    · refine ⟨some c, W2.putObj (w.heap.size + 1) (.loop { rec .done (some c) with state := .exhausted }), ?_, (wpIn_wide (n := 0)).2 (hstop w.heap.size c i _ (Nat.le_refl _) hiN (putx _ (by omega) hl rfl hi) ((World.putObj_heap_other (by omega)).trans hd))⟩
      have := run_endLoop (P := P) hl (by rw [hrec]; simp)
      rw [hrec] at this ⊢
      exact this

/-- A function whose body holds such a loop: entered so. -/
theorem calls_marks {P : Program} {f : FuncId} {fn : Func} {c : Code} {args : Array Value} {w : World} {R : Ending → World → Prop}
    (hf : P.funcs[f]? = some fn) (hb : fn.body = some c)
    (h : c.wp P (bodyPostM Fence.wide 0 P fn R) { tmps := args ++ Array.replicate (fn.ntmps - args.size) undef, defers := [] } w) : Calls P f args w R :=
  (callsIn_wide (n := 0)).1 (callsIn_of_wp_marks hf hb trivial ((wpIn_wide (n := 0)).2 h) rfl)

/-- Its return, no loop behind it. -/
theorem marks_ret0 {P : Program} {fn : Func} {R : Ending → World → Prop} {a : Act} {w : World} {v : Value} (hd : a.defers = []) (hr : (results fn a.tmps).run P w = .ok v w) (hR : R (.returned v) w) :
    bodyPostM Fence.wide 0 P fn R .ret a w := by
  show LeavesInM _ _ _ _ _ _ _ _ _
  rw [hd]
  exact ⟨v, hr, hR⟩

/-- Its return behind one loop. -/
theorem marks_ret1 {P : Program} {fn : Func} {R : Ending → World → Prop} {a : Act} {w : World} {v : Value} {D : Nat} (hd : a.defers = [{ target := .collected D, args := #[] }])
    (hK : w.heap[D]? = some (.deferred (some []))) (hr : (results fn a.tmps).run P (w.putObj D (.deferred none)) = .ok v (w.putObj D (.deferred none))) (hR : R (.returned v) (w.putObj D (.deferred none))) :
    bodyPostM Fence.wide 0 P fn R .ret a w := by
  show LeavesInM _ _ _ _ _ _ _ _ _
  rw [hd]
  exact ⟨by simp, .inl ⟨D, _, rfl, run_takeDeferred hK, v, hr, hR⟩⟩
end Go.Proofs.Ytaplndehoenghaa
