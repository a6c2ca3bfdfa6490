/- special.ReadList where the bytes are no list. -/
import Derived.Test.YtaplndehoenghaaSpD
import Derived.Test.YtaplndehoenghaaChunk
import Derived.Deep.RegionWith
import Derived.Shelf.Abstract
import Derived.Shelf.RegionOpen
namespace Go.Proofs.Ytaplndehoenghaa
open Go.RowKit Go.Shelf
set_option linter.unusedVariables false
attribute [local go_sem] Oper.semAt_some
attribute [local go_sem ↓] app_hide

def noList : Ending := .returned (.tuple #[.agg #[.slice none 0 0, .slice none 0 0, .slice none 0 0], .int .i64 3])

theorem readList_no (a : Option Addr) (zs : List Int) (m c : Nat) (w : World) (hm : zs.length = m) (hc : m ≤ c) (hl : m ≤ 1000000)
    (hr : Row w w.heap.size a (ints .u8 zs)) (hu : IsU8 zs) (hn : headR 128 zs = none) :
    Calls Try.prog 11 #[.slice a m c] w fun e w' => e = noList ∧ Below w.heap.size w w' := by
  have hr2 := (hr.alloc (Nat.le_refl _) (.cells #[.slice none 0 0, .slice none 0 0, .slice none 0 0] 25)).alloc (by simp) (.cells #[.int .i64 0] 26)
  have HR2 := Lib.hid hr2; clear hr2
  refine calls_marks Try.func11 rfl ?_
  simp only [Try.ntmps11, List.size_toArray, List.length_cons, List.length_nil, Nat.reduceAdd, Nat.reduceSub, Array.replicate_succ, Array.replicate_zero, List.push_toArray, List.append_toArray, List.nil_append, List.cons_append]
  go_wp2_with fail
  refine (headed_no 128 a zs m c _ hm hc hl (HR2.out.more (by simp; omega)) hu hn).mono ?_
  rintro e w1 ⟨⟨v0, v1, v2, v3, rfl⟩, hb⟩
  have hz := hb.size
  simp only [World.size_alloc] at hz
  have g2 : w1.heap[w.heap.size]? = some (.cells #[.slice none 0 0, .slice none 0 0, .slice none 0 0] 25 (0, 0)) := by
    rw [hb.block _ (by simp; omega), Below.heap_alloc _ _ _ (by simp)]
    exact World.alloc_heap_new _ _
  have g3 : w1.heap[w.heap.size + 1]? = some (.cells #[.int .i64 0] 26 (0, 0)) := by
    rw [hb.block _ (by simp)]
    have := World.alloc_heap_new (w.alloc (.cells #[.slice none 0 0, .slice none 0 0, .slice none 0 0] 25)) (.cells #[.int .i64 0] 26)
    rwa [World.size_alloc] at this
  have c20 := cell_of_heap g2 0
  have c21 := cell_of_heap g2 1
  have c22 := cell_of_heap g2 2
  have f20 : ∀ i, w1.frozen? ⟨w.heap.size, i, none⟩ = false := fun i => by simp [World.frozen?, g2]
  have c3 := box_cell g3
  have f3 := free_of_one g3
  clear g2 g3
  have HB := Lib.hid hb; clear hb
  go_wp2
  refine marks_ret0 (v := .tuple #[.agg #[.slice none 0 0, .slice none 0 0, .slice none 0 0], .int .i64 3]) rfl (by simp [results, Try.results11, go_sem, *]) ⟨rfl, ?_⟩
  have b0 : Below w.heap.size w w1 := (((Below.refl _ _).alloc (Nat.le_refl _) _).alloc (by simp) _).trans (HB.out.mono (by simp; omega))
  exact (((b0.setCell (Nat.le_refl _) _).setCell (Nat.le_refl _) _).setCell (Nat.le_refl _) _).setCell (Nat.le_succ _) _

theorem readList_bad (a : Option Addr) (zs : List Int) (m c : Nat) (w : World) (hm : zs.length = m) (hc : m ≤ c) (hl : m ≤ 1000000)
    (hr : Row w w.heap.size a (ints .u8 zs)) (hu : IsU8 zs) (v : Int) (n1 n2 left : List Int) (hn : headR 128 zs = some (v, n1, n2, left))
    (hbad : v ≠ 0 ∨ left.length = 0 ∨ left.length % 4 ≠ 0 ∨ 64 < left.length) :
    Calls Try.prog 11 #[.slice a m c] w fun e w' => e = noList ∧ Below w.heap.size w w' := by
  have hr2 := (hr.alloc (Nat.le_refl _) (.cells #[.slice none 0 0, .slice none 0 0, .slice none 0 0] 25)).alloc (by simp) (.cells #[.int .i64 0] 26)
  have HR2 := Lib.hid hr2; clear hr2
  have hlb : left.length ≤ 1000000 := by have := headR_u8 hu hn; omega
  have hbad' : ((v != 0) = true) ∨ ((v != 0) = false ∧ ((left.length : Int) == 0) = true) ∨ ((v != 0) = false ∧ ((left.length : Int) == 0) = false ∧ ((left.length : Int) % 4 != 0) = true) ∨
      ((v != 0) = false ∧ ((left.length : Int) == 0) = false ∧ ((left.length : Int) % 4 != 0) = false ∧ decide (64 < (left.length : Int)) = true) := by
    by_cases h1 : v = 0
    · by_cases h2 : left.length = 0
      · exact .inr (.inl ⟨by simp [h1], beq_iff_eq.2 (by omega)⟩)
      · by_cases h3 : left.length % 4 = 0
        · exact .inr (.inr (.inr ⟨by simp [h1], beq_eq_false_iff_ne.2 (by omega), by simp; omega, by simp; omega⟩))
        · exact .inr (.inr (.inl ⟨by simp [h1], beq_eq_false_iff_ne.2 (by omega), by simp; omega⟩))
    · exact .inl (by simp [h1])
  clear hbad
  have HN := Lib.hid hn; clear hn
  have HM := Lib.hid hm; clear hm
  rcases hbad' with d1 | ⟨d1, d2⟩ | ⟨d1, d2, d3⟩ | ⟨d1, d2, d3, d4⟩
  all_goals
    refine calls_marks Try.func11 rfl ?_
    simp only [Try.ntmps11, List.size_toArray, List.length_cons, List.length_nil, Nat.reduceAdd, Nat.reduceSub, Array.replicate_succ, Array.replicate_zero, List.push_toArray, List.append_toArray, List.nil_append, List.cons_append]
    go_wp2_with fail
    refine (headed_yes 128 a zs m c _ HM.out hc hl (HR2.out.more (by simp; omega)) hu v n1 n2 left HN.out).mono ?_
    rintro e w1 ⟨v1, v2, a', c', rfl, _, _, _, _, hb⟩
    have hz := hb.size
    simp only [World.size_alloc] at hz
    have g2 : w1.heap[w.heap.size]? = some (.cells #[.slice none 0 0, .slice none 0 0, .slice none 0 0] 25 (0, 0)) := by
      rw [hb.block _ (by simp; omega), Below.heap_alloc _ _ _ (by simp)]
      exact World.alloc_heap_new _ _
    have g3 : w1.heap[w.heap.size + 1]? = some (.cells #[.int .i64 0] 26 (0, 0)) := by
      rw [hb.block _ (by simp)]
      have := World.alloc_heap_new (w.alloc (.cells #[.slice none 0 0, .slice none 0 0, .slice none 0 0] 25)) (.cells #[.int .i64 0] 26)
      rwa [World.size_alloc] at this
    have c20 := cell_of_heap g2 0
    have c21 := cell_of_heap g2 1
    have c22 := cell_of_heap g2 2
    have f20 : ∀ i, w1.frozen? ⟨w.heap.size, i, none⟩ = false := fun i => by simp [World.frozen?, g2]
    have c3 := box_cell g3
    have f3 := free_of_one g3
    clear g2 g3
    have HB := Lib.hid hb; clear hb
    go_wp2
    refine marks_ret0 (v := .tuple #[.agg #[.slice none 0 0, .slice none 0 0, .slice none 0 0], .int .i64 3]) rfl (by simp [results, Try.results11, go_sem, *]) ⟨rfl, ?_⟩
    have b0 : Below w.heap.size w w1 := (((Below.refl _ _).alloc (Nat.le_refl _) _).alloc (by simp) _).trans (HB.out.mono (by simp; omega))
    exact (((b0.setCell (Nat.le_refl _) _).setCell (Nat.le_refl _) _).setCell (Nat.le_refl _) _).setCell (Nat.le_succ _) _

/-- The numbers of bytes, four by four. -/
def quads : List Int → List Int
  | a :: b :: c :: d :: r => quad a b c d :: quads r
  | _ => []
theorem quads_length : ∀ (N : Nat) (l : List Int), l.length = 4 * N → (quads l).length = N
  | 0, l, h => by
    have : l = [] := List.eq_nil_of_length_eq_zero (by omega)
    subst this; rfl
  | N + 1, a :: b :: c :: d :: r, h => by simp [quads, quads_length N r (by simp at h; omega)]
theorem quads_get : ∀ (i : Nat) (l : List Int), 4 * i + 4 ≤ l.length → ∃ b0 b1 b2 b3, (l.drop (4 * i)).take 4 = [b0, b1, b2, b3] ∧ (quads l)[i]? = some (quad b0 b1 b2 b3)
  | 0, a :: b :: c :: d :: r, h => ⟨a, b, c, d, rfl, rfl⟩
  | i + 1, a :: b :: c :: d :: r, h => by
    obtain ⟨b0, b1, b2, b3, h1, h2⟩ := quads_get i r (by simp at h; omega)
    refine ⟨b0, b1, b2, b3, ?_, by simpa [quads] using h2⟩
    rw [show 4 * (i + 1) = 4 * i + 1 + 1 + 1 + 1 from by omega]
    simpa using h1

end Go.Proofs.Ytaplndehoenghaa
