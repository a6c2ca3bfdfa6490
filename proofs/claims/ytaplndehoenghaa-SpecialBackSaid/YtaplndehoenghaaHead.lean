/- special.head. -/
import Derived.Test.YtaplndehoenghaaConcat
namespace Go.Proofs.Ytaplndehoenghaa
open Go.RowKit
set_option linter.unusedVariables false

/-- A packet's first bytes. -/
def headW (first n : Int) (xs ys : List Int) : List Int := [first] ++ four n ++ [(xs.length : Int)] ++ xs ++ [(ys.length : Int)] ++ ys

theorem head_no (first n : Int) (a b : Option Addr) (m k c d : Nat) (w : World) (h : 20 < m ∨ 20 < k) (hm : m ≤ 1000000) (hk : k ≤ 1000000) :
    Calls Try.prog 47 #[.int .u8 first, .int .i64 n, .slice a m c, .slice b k d] w fun e w' => e = .returned (.slice none 0 0) ∧ w = w' := by
  by_cases h1 : 20 < m
  · have d1 : decide (20 < (m : Int)) = true := by simp; omega
    go_enter Try.func47, Try.ntmps47
    go_wp2
    go_ret
    exact ⟨rfl, rfl⟩
  · have d1 : decide (20 < (m : Int)) = false := by simp; omega
    have d2 : decide (20 < (k : Int)) = true := by simp; omega
    go_enter Try.func47, Try.ntmps47
    go_wp2
    go_ret
    exact ⟨rfl, rfl⟩

theorem five_new (w : World) (x1 x2 x3 x4 x5 : Obj) : ∃ W, ((((w.alloc x1).alloc x2).alloc x3).alloc x4).alloc x5 = W ∧ W.heap[w.heap.size]? = some x1 ∧ W.heap[w.heap.size + 1]? = some x2 ∧ W.heap[w.heap.size + 1 + 1]? = some x3 ∧
    W.heap[w.heap.size + 1 + 1 + 1]? = some x4 ∧ W.heap[w.heap.size + 1 + 1 + 1 + 1]? = some x5 ∧ W.heap.size = w.heap.size + 1 + 1 + 1 + 1 + 1 ∧ Below w.heap.size w W := by
  refine ⟨_, rfl, ?_, ?_, ?_, ?_, ?_, by simp, (((((Below.refl _ _).alloc (Nat.le_refl _) _).alloc (by simp) _).alloc (by simp <;> omega) _).alloc (by simp <;> omega) _).alloc (by simp <;> omega) _⟩
  · rw [Below.heap_alloc _ _ _ (by simp <;> omega), Below.heap_alloc _ _ _ (by simp <;> omega), Below.heap_alloc _ _ _ (by simp <;> omega), Below.heap_alloc _ _ _ (by simp)]
    exact heap_alloc_new w x1
  · rw [Below.heap_alloc _ _ _ (by simp <;> omega), Below.heap_alloc _ _ _ (by simp <;> omega), Below.heap_alloc _ _ _ (by simp)]
    have := heap_alloc_new (w.alloc x1) x2
    simpa using this
  · rw [Below.heap_alloc _ _ _ (by simp <;> omega), Below.heap_alloc _ _ _ (by simp)]
    have := heap_alloc_new ((w.alloc x1).alloc x2) x3
    simpa using this
  · rw [Below.heap_alloc _ _ _ (by simp)]
    have := heap_alloc_new (((w.alloc x1).alloc x2).alloc x3) x4
    simpa using this
  · have := heap_alloc_new ((((w.alloc x1).alloc x2).alloc x3).alloc x4) x5
    simpa using this

/-- A block of bytes, as a row. -/
theorem row_block {W : World} {q t B : Nat} {zs : List Int} (h : W.heap[q]? = some (.cells (ints .u8 zs).toArray t (0, 0))) (hq : q < B) : Row W B (some ⟨q, 0, none⟩) (ints .u8 zs) := fun hn =>
  ⟨q, 0, rfl, hq, fun j u hj => by
    have := cell_of_heap h j
    simp only [List.getElem?_toArray] at this
    rw [hj] at this
    simpa using this⟩

set_option maxRecDepth 100000 in
theorem head_yes (first n : Int) (a b : Option Addr) (xs ys : List Int) (m k c d : Nat) (w : World) (hm : xs.length = m) (hk : ys.length = k) (hm2 : m ≤ 20) (hk2 : k ≤ 20) (f0 : 0 ≤ first) (f1 : first < 256)
    (h0 : -9223372036854775808 ≤ n) (h1 : n ≤ 9223372036854775807) (hx : Row w w.heap.size a (ints .u8 xs)) (hy : Row w w.heap.size b (ints .u8 ys)) :
    Calls Try.prog 47 #[.int .u8 first, .int .i64 n, .slice a m c, .slice b k d] w fun e w' => ∃ v, e = .returned v ∧ w'.ownsRow w.heap.size 5 1 v (headW first n xs ys).length (ints .u8 (headW first n xs ys)) ∧ Below w.heap.size w w' := by
  have d1 : decide (20 < (m : Int)) = false := by simp; omega
  have d2 : decide (20 < (k : Int)) = false := by simp; omega
  have HM := Lib.hid hm; clear hm
  have HK := Lib.hid hk; clear hk
  have HX := Lib.hid hx; clear hx
  have HY := Lib.hid hy; clear hy
  have m1 : (m : Int) ≤ 20 := by omega
  have k1 : (k : Int) ≤ 20 := by omega
  go_enter Try.func47, Try.ntmps47
  go_wp2_with fail
  refine (big_any n _ h0 h1).mono ?_
  rintro e w2 ⟨rfl, rfl⟩
  go_wp2_with fail
  obtain ⟨W, hW, g1, g2, g3, g4, g5, hs, hb⟩ := five_new w (.cells #[.int .u8 first] 5) (.cells (ints .u8 (four n)).toArray 117) (.cells #[.int .u8 m] 5) (.cells #[.int .u8 k] 5)
    (.cells #[.slice (some ⟨w.heap.size, 0, none⟩) 1 1, .slice (some ⟨w.heap.size + 1, 0, none⟩) 4 4, .slice (some ⟨w.heap.size + 1 + 1, 0, none⟩) 1 1, .slice a m c, .slice (some ⟨w.heap.size + 1 + 1 + 1, 0, none⟩) 1 1, .slice b k d] 22)
  rw [hW]
  clear hW
  have hj : joined [(some ⟨w.heap.size, 0, none⟩, 1, [first]), (some ⟨w.heap.size + 1, 0, none⟩, 4, four n), (some ⟨w.heap.size + 1 + 1, 0, none⟩, 1, [(m : Int)]), (a, c, xs), (some ⟨w.heap.size + 1 + 1 + 1, 0, none⟩, 1, [(k : Int)]), (b, d, ys)] = headW first n xs ys := by
    simp [joined, headW, HM.out, HK.out]
  have hlen : (headW first n xs ys).length ≤ 1000000 := by
    simp [headW, four, HM.out, HK.out]
    omega
  refine (concat_any [(some ⟨w.heap.size, 0, none⟩, 1, [first]), (some ⟨w.heap.size + 1, 0, none⟩, 4, four n), (some ⟨w.heap.size + 1 + 1, 0, none⟩, 1, [(m : Int)]), (a, c, xs), (some ⟨w.heap.size + 1 + 1 + 1, 0, none⟩, 1, [(k : Int)]), (b, d, ys)]
    (w.heap.size + 1 + 1 + 1 + 1) 0 6 6 W rfl (by omega) (by omega) ?_ ?_ (by rw [hj]; exact hlen)).mono ?_
  · intro i p hp
    have hcell := cell_of_heap g5 i
    rcases i with _ | _ | _ | _ | _ | _ | i <;> simp at hp <;> subst hp
    · exact hcell
    · exact hcell
    · exact hcell
    · rw [HM.out]; exact hcell
    · exact hcell
    · rw [HK.out]; exact hcell
  · intro p hp
    simp only [List.mem_cons, List.not_mem_nil, or_false] at hp
    rcases hp with rfl | rfl | rfl | rfl | rfl | rfl
    · exact row_block g1 (by omega)
    · exact row_block g2 (by omega)
    · exact row_block g3 (by omega)
    · exact (HX.out.below hb).more (by omega)
    · exact row_block g4 (by omega)
    · exact (HY.out.below hb).more (by omega)
  rintro e w3 ⟨v, rfl, ho, hb3⟩
  rw [hj] at ho
  have HO := Lib.hid ho; clear ho
  have HB3 := Lib.hid (hb.trans (hb3.mono (by omega))); clear hb3
  clear g1 g2 g3 g4 g5 hj hlen
  go_wp2
  go_ret
  exact ⟨v, rfl, own_base HO.out hb.size, HB3.out⟩
end Go.Proofs.Ytaplndehoenghaa
