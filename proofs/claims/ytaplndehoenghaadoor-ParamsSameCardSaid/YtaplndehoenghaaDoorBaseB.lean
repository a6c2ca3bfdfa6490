/- More readings of memory: a world that has only drawn. -/
import Derived.Test.YtaplndehoenghaaDoorBase
namespace Go.Proofs.YtaplndehoenghaaDoor
open Go.RowKit

/-- The cells of a block of two, three, five: one hypothesis for the walk. -/
theorem cells2 {w : World} {b : Nat} {x0 x1 : Value} {t : TypeId} {f : Nat × Nat} (h : w.heap[b]? = some (.cells #[x0, x1] t f)) : w.cell? ⟨b, 0, none⟩ = some x0 ∧ w.cell? ⟨b, 1, none⟩ = some x1 := ⟨cell_of_heap h 0, cell_of_heap h 1⟩
theorem cells3 {w : World} {b : Nat} {x0 x1 x2 : Value} {t : TypeId} {f : Nat × Nat} (h : w.heap[b]? = some (.cells #[x0, x1, x2] t f)) : w.cell? ⟨b, 0, none⟩ = some x0 ∧ w.cell? ⟨b, 1, none⟩ = some x1 ∧ w.cell? ⟨b, 2, none⟩ = some x2 :=
  ⟨cell_of_heap h 0, cell_of_heap h 1, cell_of_heap h 2⟩
theorem cells4 {w : World} {b : Nat} {x0 x1 x2 x3 : Value} {t : TypeId} {f : Nat × Nat} (h : w.heap[b]? = some (.cells #[x0, x1, x2, x3] t f)) : w.cell? ⟨b, 0, none⟩ = some x0 ∧ w.cell? ⟨b, 1, none⟩ = some x1 ∧ w.cell? ⟨b, 2, none⟩ = some x2 ∧ w.cell? ⟨b, 3, none⟩ = some x3 :=
  ⟨cell_of_heap h 0, cell_of_heap h 1, cell_of_heap h 2, cell_of_heap h 3⟩
theorem cells5 {w : World} {b : Nat} {x0 x1 x2 x3 x4 : Value} {t : TypeId} {f : Nat × Nat} (h : w.heap[b]? = some (.cells #[x0, x1, x2, x3, x4] t f)) :
    w.cell? ⟨b, 0, none⟩ = some x0 ∧ w.cell? ⟨b, 1, none⟩ = some x1 ∧ w.cell? ⟨b, 2, none⟩ = some x2 ∧ w.cell? ⟨b, 3, none⟩ = some x3 ∧ w.cell? ⟨b, 4, none⟩ = some x4 :=
  ⟨cell_of_heap h 0, cell_of_heap h 1, cell_of_heap h 2, cell_of_heap h 3, cell_of_heap h 4⟩
theorem cells10 {w : World} {b : Nat} {x0 x1 x2 x3 x4 x5 x6 x7 x8 x9 : Value} {t : TypeId} {f : Nat × Nat} (h : w.heap[b]? = some (.cells #[x0, x1, x2, x3, x4, x5, x6, x7, x8, x9] t f)) :
    w.cell? ⟨b, 0, none⟩ = some x0 ∧ w.cell? ⟨b, 1, none⟩ = some x1 ∧ w.cell? ⟨b, 2, none⟩ = some x2 ∧ w.cell? ⟨b, 3, none⟩ = some x3 ∧ w.cell? ⟨b, 4, none⟩ = some x4 ∧
    w.cell? ⟨b, 5, none⟩ = some x5 ∧ w.cell? ⟨b, 6, none⟩ = some x6 ∧ w.cell? ⟨b, 7, none⟩ = some x7 ∧ w.cell? ⟨b, 8, none⟩ = some x8 ∧ w.cell? ⟨b, 9, none⟩ = some x9 :=
  ⟨cell_of_heap h 0, cell_of_heap h 1, cell_of_heap h 2, cell_of_heap h 3, cell_of_heap h 4, cell_of_heap h 5, cell_of_heap h 6, cell_of_heap h 7, cell_of_heap h 8, cell_of_heap h 9⟩
/-- A block of no frozen cells. -/
theorem unfrozen {w : World} {b : Nat} {cs : Array Value} {t : TypeId} (h : w.heap[b]? = some (.cells cs t (0, 0))) (i : Nat) : w.frozen? ⟨b, i, none⟩ = false := by simp [World.frozen?, h]
/-- The two new blocks of two values that are boxed one behind the other. -/
theorem two_new (w : World) (x y : Obj) : ((w.alloc x).alloc y).heap[w.heap.size]? = some x ∧ ((w.alloc x).alloc y).heap[w.heap.size + 1]? = some y ∧ Below w.heap.size w ((w.alloc x).alloc y) := by
  refine ⟨?_, ?_, ((Below.refl _ _).alloc (Nat.le_refl _) _).alloc (by simp) _⟩
  · rw [Below.heap_alloc _ _ _ (by simp)]
    exact heap_alloc_new _ _
  · have := heap_alloc_new (w.alloc x) y
    rwa [World.size_alloc] at this
theorem one_new (w : World) (x : Obj) : (w.alloc x).heap[w.heap.size]? = some x ∧ Below w.heap.size w (w.alloc x) := ⟨heap_alloc_new _ _, (Below.refl _ _).alloc (Nat.le_refl _) _⟩

/-- w' is w, but for draws. -/
def Drawn (w w' : World) : Prop := ∃ n, w.drewN n = w'
section
variable {w w' a b c : World} {S : Nat → Prop}
theorem Drawn.refl (w : World) : Drawn w w := ⟨0, rfl⟩
theorem Drawn.drewN (h : Drawn a b) (n : Nat) : Drawn a (b.drewN n) := by
  obtain ⟨k, rfl⟩ := h
  exact ⟨k + n, by simp [World.drewN_drewN]⟩
theorem Drawn.trans (h : Drawn a b) (k : Drawn b c) : Drawn a c := by
  obtain ⟨m, rfl⟩ := k
  exact h.drewN m
theorem Drawn.drew (h : Drawn a b) : Drawn a b.drew := h.drewN 1
theorem Drawn.heap (h : Drawn w w') : w'.heap = w.heap := by obtain ⟨n, rfl⟩ := h; rfl
theorem Drawn.cell (h : Drawn w w') (p : Addr) : w'.cell? p = w.cell? p := by obtain ⟨n, rfl⟩ := h; rfl
theorem Drawn.frozen (h : Drawn w w') (p : Addr) : w'.frozen? p = w.frozen? p := by obtain ⟨n, rfl⟩ := h; rfl
theorem Drawn.kept (h : Drawn w w') (S : Nat → Prop) : Kept S w w' := by obtain ⟨n, rfl⟩ := h; exact (Kept.refl _ _).drewN n
theorem Drawn.below (h : Drawn w w') (B : Nat) : Below B w w' := by obtain ⟨n, rfl⟩ := h; exact ⟨rfl, rfl, rfl, Nat.le_refl _, fun _ _ => rfl⟩
theorem Row.drawn {B : Nat} {x : Option Addr} {xs : List Value} (h : Row w B x xs) (hd : Drawn w w') : Row w' B x xs := by obtain ⟨n, rfl⟩ := hd; exact h
theorem own_drawn {base e size n : Nat} {v : Value} {xs : List Value} (h : w.ownsRow base e size v n xs) (hd : Drawn w w') : w'.ownsRow base e size v n xs := by obtain ⟨n, rfl⟩ := hd; exact h
/-- In the form that a quiet region asks of a call. -/
theorem Drawn.quiet {P : Program} {f : FuncId} {args : Array Value} {v : Value} (h : Calls P f args w fun e w' => e = .returned v ∧ Drawn w w') : Calls P f args w fun e w' => e = .returned v ∧ ∃ m, w' = w.drewN m :=
  h.mono fun _ _ ⟨he, m, hm⟩ => ⟨he, m, hm.symm⟩
end
end Go.Proofs.YtaplndehoenghaaDoor
