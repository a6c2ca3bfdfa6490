/- The law's own comparisons, of what is equal: same, listed, retried. -/
import Derived.Test.YtaplndehoenghaaSpA
import Derived.Test.YtaplndehoenghaaBaseB
import Derived.Deep.QuietTactic
import Derived.BigQuiet
namespace Go.Proofs.Ytaplndehoenghaa
open Go.RowKit
set_option linter.unusedVariables false

theorem same_eq (a b : Option Addr) (xs : List Int) (m c d B : Nat) (w : World) (hm : xs.length = m) (hl : m ≤ 1000000)
    (ha : Row w B a (ints .u8 xs)) (hb : Row w B b (ints .u8 xs)) :
    Calls Try.prog 46 #[.slice a m c, .slice b m d] w fun e w' => e = .returned (.bool true) ∧ Drawn w w' := by
  have h1 : ((m : Int) != (m : Int)) = false := by simp
  have HM := Lib.hid hm; clear hm
  have HA := Lib.hid ha; clear ha
  have HB := Lib.hid hb; clear hb
  go_enter Try.func46, Try.ntmps46
  go_wp2
  go_loopw [5] (fun i wr => ∃ k : Nat, i = .int .i64 k ∧ k ≤ m ∧ Drawn w wr) (fun i _ => m - (intOf i).toNat)
  case atStart => exact ⟨0, by simp, Nat.zero_le _, Drawn.refl _⟩
  case round =>
    obtain ⟨k, rfl, hk, hd⟩ := hrel
    by_cases hlt : k < m
    · have l1 := HM.out
      obtain ⟨b1, o1, rfl, _, r1⟩ := HA.out.ints (by rintro rfl; simp at l1; omega)
      obtain ⟨b2, o2, rfl, _, r2⟩ := HB.out.ints (by rintro rfl; simp at l1; omega)
      have c1 : wr.cell? ⟨b1, o1 + k, none⟩ = some (.int .u8 (xs[k]?.getD 0)) := (hd.cell _).trans (r1 k (by omega))
      have c2 : wr.cell? ⟨b2, o2 + k, none⟩ = some (.int .u8 (xs[k]?.getD 0)) := (hd.cell _).trans (r2 k (by omega))
      clear r1 r2
      have i1 : (k : Int) < (m : Int) := by omega
      have i0 : (0 : Int) ≤ (k : Int) := by omega
      clear l1
      have d1 : (xs[k]?.getD 0 != xs[k]?.getD 0) = false := by simp
      go_wp2
      go_quiet (fail)
      go_wp2
      go_roundw
      case rel => exact ⟨k + 1, by simp, by omega, hd.drewN _⟩
      case measure => simp [intOf]; omega
    · have i1 : ¬ (k : Int) < (m : Int) := by omega
      go_wp2
      go_ret
      exact ⟨rfl, hd⟩

theorem listed_eq (a1 a2 a3 b1 b2 b3 : Option Addr) (xs ys vs : List Int) (m1 m2 m3 c1 c2 c3 d1 d2 d3 B : Nat) (w : World) (e1 : xs.length = m1) (e2 : ys.length = m2) (e3 : vs.length = m3)
    (l1 : m1 ≤ 1000000) (l2 : m2 ≤ 1000000) (l3 : m3 ≤ 1000000) (hB : B ≤ w.heap.size)
    (h1 : Row w B a1 (ints .u8 xs)) (h2 : Row w B a2 (ints .u8 ys)) (h3 : Row w B a3 (ints .i64 vs)) (k1 : Row w B b1 (ints .u8 xs)) (k2 : Row w B b2 (ints .u8 ys)) (k3 : Row w B b3 (ints .i64 vs)) :
    Calls Try.prog 15 #[.agg #[.slice a1 m1 c1, .slice a2 m2 c2, .slice a3 m3 c3], .agg #[.slice b1 m1 d1, .slice b2 m2 d2, .slice b3 m3 d3]] w
      fun e w' => e = .returned (.bool true) ∧ Below w.heap.size w w' := by
  obtain ⟨g1, g2, bw⟩ := two_new w (.cells #[.slice a1 m1 c1, .slice a2 m2 c2, .slice a3 m3 c3] 25) (.cells #[.slice b1 m1 d1, .slice b2 m2 d2, .slice b3 m3 d3] 29)
  obtain ⟨w2, hw2⟩ : ∃ w2, (w.alloc (.cells #[.slice a1 m1 c1, .slice a2 m2 c2, .slice a3 m3 c3] 25)).alloc (.cells #[.slice b1 m1 d1, .slice b2 m2 d2, .slice b3 m3 d3] 29) = w2 := ⟨_, rfl⟩
  have HW2 := Lib.hid hw2; clear hw2
  rw [HW2.out] at g1 g2 bw
  have q1 := Lib.hid (h1.below (bw.mono hB))
  have q2 := Lib.hid (h2.below (bw.mono hB))
  have q3 := Lib.hid (h3.below (bw.mono hB))
  have r1 := Lib.hid (k1.below (bw.mono hB))
  have r2 := Lib.hid (k2.below (bw.mono hB))
  have r3 := Lib.hid (k3.below (bw.mono hB))
  clear h1 h2 h3 k1 k2 k3
  have cA := cells3 g1
  have cB := cells3 g2
  have cAn := cells3 (heap_alloc_new w (.cells #[.slice a1 m1 c1, .slice a2 m2 c2, .slice a3 m3 c3] 25))
  have G1 := Lib.hid g1; clear g1
  have G2 := Lib.hid g2; clear g2
  have E1 := Lib.hid e1; clear e1
  have E2 := Lib.hid e2; clear e2
  have E3 := Lib.hid e3; clear e3
  have BW := Lib.hid bw; clear bw
  have dd : ((m3 : Int) != (m3 : Int)) = false := by simp
  go_enter Try.func15, Try.ntmps15
  go_wp2_with fail
  rw [HW2.out]
  refine (same_eq a1 b1 xs m1 c1 d1 B _ E1.out l1 q1.out r1.out).mono ?_
  rintro e w3 ⟨rfl, hd3⟩
  have D3 := Lib.hid hd3; clear hd3
  have cA3 := cells3 (show w3.heap[w.heap.size]? = _ by rw [D3.out.heap]; exact G1.out)
  have cB3 := cells3 (show w3.heap[w.heap.size + 1]? = _ by rw [D3.out.heap]; exact G2.out)
  go_wp2_with fail
  refine (same_eq a2 b2 ys m2 c2 d2 B _ E2.out l2 (q2.out.drawn D3.out) (r2.out.drawn D3.out)).mono ?_
  rintro e w4 ⟨rfl, hd4⟩
  have hd4' := D3.out.trans hd4
  have D4 := Lib.hid hd4'; clear hd4 hd4'
  have cA4 := cells3 (show w4.heap[w.heap.size]? = _ by rw [D4.out.heap]; exact G1.out)
  have cB4 := cells3 (show w4.heap[w.heap.size + 1]? = _ by rw [D4.out.heap]; exact G2.out)
  go_wp2_with fail
  go_loopw [5] (fun i wr => ∃ k : Nat, i = .int .i64 k ∧ k ≤ m3 ∧ Drawn w2 wr) (fun i _ => m3 - (intOf i).toNat)
  case atStart => exact ⟨0, by simp, Nat.zero_le _, D4.out⟩
  case round =>
    obtain ⟨k, rfl, hk, hd⟩ := hrel
    have cAr := cells3 (show wr.heap[w.heap.size]? = _ by rw [hd.heap]; exact G1.out)
    have cBr := cells3 (show wr.heap[w.heap.size + 1]? = _ by rw [hd.heap]; exact G2.out)
    by_cases hlt : k < m3
    · have l1 := E3.out
      obtain ⟨x1, o1, rfl, _, t1⟩ := q3.out.ints (by rintro rfl; simp at l1; omega)
      obtain ⟨x2, o2, rfl, _, t2⟩ := r3.out.ints (by rintro rfl; simp at l1; omega)
      have c1 : wr.cell? ⟨x1, o1 + k, none⟩ = some (.int .i64 (vs[k]?.getD 0)) := (hd.cell _).trans (t1 k (by omega))
      have c2 : wr.cell? ⟨x2, o2 + k, none⟩ = some (.int .i64 (vs[k]?.getD 0)) := (hd.cell _).trans (t2 k (by omega))
      clear t1 t2
      have i1 : (k : Int) < (m3 : Int) := by omega
      have i0 : (0 : Int) ≤ (k : Int) := by omega
      clear l1
      have d1 : (vs[k]?.getD 0 != vs[k]?.getD 0) = false := by simp
      have HD := Lib.hid hd; clear hd
      go_wp2
      go_quiet (fail)
      go_wp2
      go_roundw
      case rel => exact ⟨k + 1, by simp, by omega, HD.out.drewN _⟩
      case measure => simp [intOf]; omega
    · have i1 : ¬ (k : Int) < (m3 : Int) := by omega
      go_wp2
      go_ret
      exact ⟨rfl, BW.out.trans (hd.below _)⟩

theorem retried_eq (a1 a2 b1 b2 : Option Addr) (xs ys : List Int) (v t g : Int) (m1 m2 c1 c2 d1 d2 B : Nat) (w : World) (e1 : xs.length = m1) (e2 : ys.length = m2)
    (l1 : m1 ≤ 1000000) (l2 : m2 ≤ 1000000) (hB : B ≤ w.heap.size)
    (h1 : Row w B a1 (ints .u8 xs)) (h2 : Row w B a2 (ints .u8 ys)) (k1 : Row w B b1 (ints .u8 xs)) (k2 : Row w B b2 (ints .u8 ys)) :
    Calls Try.prog 16 #[.agg #[.int .i64 v, .slice a1 m1 c1, .slice a2 m2 c2, .int .i64 t, .int .i64 g], .agg #[.int .i64 v, .slice b1 m1 d1, .slice b2 m2 d2, .int .i64 t, .int .i64 g]] w
      fun e w' => e = .returned (.bool true) ∧ Below w.heap.size w w' := by
  obtain ⟨g1, g2, bw⟩ := two_new w (.cells #[.int .i64 v, .slice a1 m1 c1, .slice a2 m2 c2, .int .i64 t, .int .i64 g] 34) (.cells #[.int .i64 v, .slice b1 m1 d1, .slice b2 m2 d2, .int .i64 t, .int .i64 g] 38)
  obtain ⟨w2, hw2⟩ : ∃ w2, (w.alloc (.cells #[.int .i64 v, .slice a1 m1 c1, .slice a2 m2 c2, .int .i64 t, .int .i64 g] 34)).alloc (.cells #[.int .i64 v, .slice b1 m1 d1, .slice b2 m2 d2, .int .i64 t, .int .i64 g] 38) = w2 := ⟨_, rfl⟩
  have HW2 := Lib.hid hw2; clear hw2
  rw [HW2.out] at g1 g2 bw
  have q1 := Lib.hid (h1.below (bw.mono hB))
  have q2 := Lib.hid (h2.below (bw.mono hB))
  have r1 := Lib.hid (k1.below (bw.mono hB))
  have r2 := Lib.hid (k2.below (bw.mono hB))
  clear h1 h2 k1 k2
  have cA := cells5 g1
  have cB := cells5 g2
  have G1 := Lib.hid g1; clear g1
  have G2 := Lib.hid g2; clear g2
  have E1 := Lib.hid e1; clear e1
  have E2 := Lib.hid e2; clear e2
  have BW := Lib.hid bw; clear bw
  have dv : (v == v) = true := by simp
  have dt : (t == t) = true := by simp
  have dg : (g == g) = true := by simp
  go_enter Try.func16, Try.ntmps16
  go_wp2_with fail
  rw [HW2.out]
  refine (same_eq a1 b1 xs m1 c1 d1 B _ E1.out l1 q1.out r1.out).mono ?_
  rintro e w3 ⟨rfl, hd3⟩
  have D3 := Lib.hid hd3; clear hd3
  have cA3 := cells5 (show w3.heap[w.heap.size]? = _ by rw [D3.out.heap]; exact G1.out)
  have cB3 := cells5 (show w3.heap[w.heap.size + 1]? = _ by rw [D3.out.heap]; exact G2.out)
  go_wp2_with fail
  refine (same_eq a2 b2 ys m2 c2 d2 B _ E2.out l2 (q2.out.drawn D3.out) (r2.out.drawn D3.out)).mono ?_
  rintro e w4 ⟨rfl, hd4⟩
  have hd4' := D3.out.trans hd4
  have D4 := Lib.hid hd4'; clear hd4 hd4'
  have cA4 := cells5 (show w4.heap[w.heap.size]? = _ by rw [D4.out.heap]; exact G1.out)
  have cB4 := cells5 (show w4.heap[w.heap.size + 1]? = _ by rw [D4.out.heap]; exact G2.out)
  go_wp2
  go_ret
  exact ⟨rfl, BW.out.trans (D4.out.below _)⟩
end Go.Proofs.Ytaplndehoenghaa
