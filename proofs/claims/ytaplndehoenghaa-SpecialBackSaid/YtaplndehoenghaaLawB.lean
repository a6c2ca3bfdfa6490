/- The law SpecialBack. -/
import Derived.Test.YtaplndehoenghaaBackW
import Derived.Test.YtaplndehoenghaaListF
import Derived.Test.YtaplndehoenghaaAwake
namespace Go.Proofs.Ytaplndehoenghaa
open Go.RowKit
set_option linter.unusedVariables false

set_option maxRecDepth 100000 in
set_option maxHeartbeats 4000000 in
theorem specialBack_big (a b p a' b' : Option Addr) (V t g : Int) (m k N c d q m' k' c' d' : Nat) (w : World) (hl : ¬ (m ≤ 50 ∧ k ≤ 50 ∧ N ≤ 30 ∧ m' ≤ 50 ∧ k' ≤ 50)) :
    Calls Try.prog 4 #[.agg #[.slice a m c, .slice b k d, .slice p N q], .agg #[.int .i64 V, .slice a' m' c', .slice b' k' d', .int .i64 t, .int .i64 g]] w fun e w' => e = .returned (.bool true) ∧ Below w.heap.size w w' := by
  obtain ⟨g1, g2, b0⟩ := two_new w (.cells #[.slice a m c, .slice b k d, .slice p N q] 29) (.cells #[.int .i64 V, .slice a' m' c', .slice b' k' d', .int .i64 t, .int .i64 g] 38)
  have cA := cells3 g1
  have cB := cells5 g2
  have HB0 := Lib.hid b0
  clear g1 g2 b0
  by_cases h1 : 50 < m
  · have d1 : decide (50 < (m : Int)) = true := by simp; omega
    clear hl
    go_enter Try.func4, Try.ntmps4
    go_wp2
    go_ret
    exact ⟨rfl, HB0.out⟩
  have d1 : decide (50 < (m : Int)) = false := by simp; omega
  by_cases h2 : 50 < k
  · have d2 : decide (50 < (k : Int)) = true := by simp; omega
    clear hl
    go_enter Try.func4, Try.ntmps4
    go_wp2
    go_ret
    exact ⟨rfl, HB0.out⟩
  have d2 : decide (50 < (k : Int)) = false := by simp; omega
  by_cases h3 : 30 < N
  · have d3 : decide (30 < (N : Int)) = true := by simp; omega
    clear hl
    go_enter Try.func4, Try.ntmps4
    go_wp2
    go_ret
    exact ⟨rfl, HB0.out⟩
  have d3 : decide (30 < (N : Int)) = false := by simp; omega
  by_cases h4 : 50 < m'
  · have d4 : decide (50 < (m' : Int)) = true := by simp; omega
    clear hl
    go_enter Try.func4, Try.ntmps4
    go_wp2
    go_ret
    exact ⟨rfl, HB0.out⟩
  have d4 : decide (50 < (m' : Int)) = false := by simp; omega
  have d5 : decide (50 < (k' : Int)) = true := by simp; omega
  clear hl
  go_enter Try.func4, Try.ntmps4
  go_wp2
  go_ret
  exact ⟨rfl, HB0.out⟩

set_option maxRecDepth 100000 in
set_option maxHeartbeats 4000000 in
theorem specialBack_small (a b p a' b' : Option Addr) (xs ys vs xs' ys' : List Int) (V t g : Int) (m k N c d q m' k' c' d' : Nat) (w : World) (hm : xs.length = m) (hk : ys.length = k) (hN : vs.length = N) (hm' : xs'.length = m') (hk' : ys'.length = k')
    (lm : m ≤ 50) (lk : k ≤ 50) (lN : N ≤ 30) (lm' : m' ≤ 50) (lk' : k' ≤ 50) (hx : Row w w.heap.size a (ints .u8 xs)) (hy : Row w w.heap.size b (ints .u8 ys)) (hv : Row w w.heap.size p (ints .i64 vs))
    (hx' : Row w w.heap.size a' (ints .u8 xs')) (hy' : Row w w.heap.size b' (ints .u8 ys')) (ux : IsU8 xs) (uy : IsU8 ys) (ux' : IsU8 xs') (uy' : IsU8 ys') (hvb : ∀ x ∈ vs, -9223372036854775808 ≤ x ∧ x ≤ 9223372036854775807)
    (v0 : -9223372036854775808 ≤ V) (v1 : V ≤ 9223372036854775807) :
    Calls Try.prog 4 #[.agg #[.slice a m c, .slice b k d, .slice p N q], .agg #[.int .i64 V, .slice a' m' c', .slice b' k' d', .int .i64 t, .int .i64 g]] w fun e w' => e = .returned (.bool true) ∧ Below w.heap.size w w' := by
  obtain ⟨g1, g2, b0⟩ := two_new w (.cells #[.slice a m c, .slice b k d, .slice p N q] 29) (.cells #[.int .i64 V, .slice a' m' c', .slice b' k' d', .int .i64 t, .int .i64 g] 38)
  have cA := cells3 g1
  have cB := cells5 g2
  have d1 : decide (50 < (m : Int)) = false := by simp; omega
  have d2 : decide (50 < (k : Int)) = false := by simp; omega
  have d3 : decide (30 < (N : Int)) = false := by simp; omega
  have d4 : decide (50 < (m' : Int)) = false := by simp; omega
  have d5 : decide (50 < (k' : Int)) = false := by simp; omega
  have BL := listTT_len xs ys vs
  have BR := retryTT_len V xs' ys' t g
  obtain ⟨L1, hL1⟩ : ∃ n, (listTT xs ys vs).length = n := ⟨_, rfl⟩
  obtain ⟨L2, hL2⟩ : ∃ n, (retryTT V xs' ys' t g).length = n := ⟨_, rfl⟩
  rw [hL1] at BL
  rw [hL2] at BR
  have HX := Lib.hid hx; clear hx
  have HY := Lib.hid hy; clear hy
  have HV := Lib.hid hv; clear hv
  have HX' := Lib.hid hx'; clear hx'
  have HY' := Lib.hid hy'; clear hy'
  have U := Lib.hid (And.intro (And.intro ux uy) (And.intro ux' uy')); clear ux uy ux' uy'
  have HVB := Lib.hid hvb; clear hvb
  have HB0 := Lib.hid b0; clear b0
  have G1 := Lib.hid g1; clear g1
  have G2 := Lib.hid g2; clear g2
  have HM := Lib.hid hm; clear hm
  have HK := Lib.hid hk; clear hk
  have HN := Lib.hid hN; clear hN
  have HM' := Lib.hid hm'; clear hm'
  have HK' := Lib.hid hk'; clear hk'
  have HL1 := Lib.hid hL1; clear hL1
  have HL2 := Lib.hid hL2; clear hL2
  go_enter Try.func4, Try.ntmps4
  go_wp2_with fail
  have s0 := HB0.out.size
  refine (list_any a xs m c b ys k d p vs N q _ HM.out (by omega) ((HX.out.below HB0.out).more s0) HK.out (by omega) ((HY.out.below HB0.out).more s0) HN.out (by omega) ((HV.out.below HB0.out).more s0)).mono ?_
  rintro e W ⟨pa, qa, pb, qb, pv, qv, rfl, ra, la, rb, lb, rv, lv, hb⟩
  have B1 := Lib.hid (HB0.out.trans (hb.mono s0))
  have G1' := Lib.hid ((hb.block _ (Array.getElem?_eq_some_iff.1 G1.out).1).trans G1.out)
  have G2' := Lib.hid ((hb.block _ (Array.getElem?_eq_some_iff.1 G2.out).1).trans G2.out)
  have RA := Lib.hid ra; clear ra
  have RB := Lib.hid rb; clear rb
  have RV := Lib.hid rv; clear rv
  clear hb s0 cA cB
  go_wp2_with fail
  refine (writeList_all pa pb pv xs ys vs m k N qa qb qv W HM.out HK.out HN.out (by omega) (by omega) (by omega) RA.out RB.out RV.out HVB.out).mono ?_
  rintro e W2 ⟨v, rfl, hc, hb⟩
  have B2 := Lib.hid (B1.out.trans (hb.mono B1.out.size))
  have K1 := Lib.hid ((hb.block _ (Array.getElem?_eq_some_iff.1 G1'.out).1).trans G1'.out)
  have K2 := Lib.hid ((hb.block _ (Array.getElem?_eq_some_iff.1 G2'.out).1).trans G2'.out)
  rw [HL1.out] at hc
  obtain ⟨p1, q1, rfl, l1, o1⟩ := hc
  have O1 := Lib.hid o1; clear o1
  clear hb G1' G2' RA RB RV G1 G2 HB0 B1 la lb lv
  rcases Nat.eq_zero_or_pos L1 with z | z
  · subst z
    have cE := cells5 K2.out
    clear K1 O1 BL l1 HL1
    go_wp2_with fail
    refine (retry_any V a' xs' m' c' b' ys' k' d' t g _ HM'.out (by omega) ((HX'.out.below B2.out).more B2.out.size) HK'.out (by omega) ((HY'.out.below B2.out).more B2.out.size)).mono ?_
    rintro e W ⟨pa, qa, pb, qb, rfl, ra, la, rb, lb, hb⟩
    have B3 := Lib.hid (B2.out.trans (hb.mono B2.out.size))
    have K3 := Lib.hid ((hb.block _ (Array.getElem?_eq_some_iff.1 K2.out).1).trans K2.out)
    have RA := Lib.hid ra; clear ra
    have RB := Lib.hid rb; clear rb
    clear hb cE la lb B2 K2
    go_wp2_with fail
    refine (writeRetry_any V t g pa pb xs' ys' m' k' qa qb W HM'.out HK'.out (by omega) (by omega) v0 v1 RA.out RB.out).mono ?_
    rintro e W2 ⟨v, rfl, hc, hb⟩
    have B2 := Lib.hid (B3.out.trans (hb.mono B3.out.size))
    have K2 := Lib.hid ((hb.block _ (Array.getElem?_eq_some_iff.1 K3.out).1).trans K3.out)
    rw [HL2.out] at hc
    obtain ⟨p1, q1, rfl, l1, o1⟩ := hc
    have O1 := Lib.hid o1; clear o1
    clear hb RA RB B3 K3
    rcases Nat.eq_zero_or_pos L2 with z | z
    · subst z
      go_wp2_with fail
      refine (awake_true W2).mono ?_
      rintro e w12 ⟨rfl, hb12⟩
      have HB12 := Lib.hid (B2.out.trans (hb12.mono B2.out.size)); clear hb12
      go_wp2
      go_ret
      exact ⟨rfl, HB12.out⟩
    · have i1 : (0 : Int) < (L2 : Int) := by omega
      have hne : retryTT V xs' ys' t g ≠ [] := fun e => by have := HL2.out; rw [e] at this; simp at this; omega
      obtain ⟨t1, t2, t3⟩ := retryTT_back hne U.out.2.1 U.out.2.2
      have C1 := Lib.hid (fun (w : World) (hr : Row w w.heap.size p1 (ints .u8 (retryTT V xs' ys' t g))) => readRetry_any p1 (retryTT V xs' ys' t g) L2 q1 w HL2.out l1 (by omega) hr t3)
      have C2 := Lib.hid (fun (w : World) (hr : Row w w.heap.size p1 (ints .u8 (retryTT V xs' ys' t g))) => readList_any p1 (retryTT V xs' ys' t g) L2 q1 w HL2.out l1 (by omega) hr t3)
      rw [t1] at C1
      rw [t2] at C2
      clear t1 t2 t3 hne
      go_wp2_with fail
      refine (C1.out W2 (Row.of_own O1.out)).mono ?_
      rintro e W3 ⟨a1, a2, c1, c2, rfl, x1, x2, hb3⟩
      dsimp only at x1 x2 ⊢
      rw [HM'.out, HK'.out]
      have X := Lib.hid (And.intro x1 x2); clear x1 x2
      have HB3 := Lib.hid hb3
      have r3 := Lib.hid ((((Row.of_own O1.out).below hb3).more hb3.size).alloc (Nat.le_refl _) (.cells #[.int .i64 V, .slice a1 m' c1, .slice a2 k' c2, .int .i64 t, .int .i64 g] 34))
      clear hb3
      go_wp2_with fail
      refine (C2.out _ (r3.out.more (by simp))).mono ?_
      rintro e W4 ⟨e1, e2, e3, f1, f2, f3, rfl, u1, u2, u3, hb4⟩
      dsimp only at u1 u2 u3 ⊢
      have g4 : W4.heap[W3.heap.size]? = some (.cells #[.int .i64 V, .slice a1 m' c1, .slice a2 k' c2, .int .i64 t, .int .i64 g] 34 (0, 0)) := (hb4.block _ (by simp)).trans (heap_alloc_new W3 _)
      have k34 : Below W3.heap.size W3 W4 := ((Below.refl _ _).alloc (Nat.le_refl _) _).trans (hb4.mono (by simp))
      obtain ⟨W5, hW5⟩ : ∃ W5, W4.alloc (.cells #[.slice e1 0 f1, .slice e2 0 f2, .slice e3 0 f3] 25) = W5 := ⟨_, rfl⟩
      have k45 : Below W4.heap.size W4 W5 := by rw [← hW5]; exact (Below.refl _ _).alloc (Nat.le_refl _) _
      have k35 : Below W3.heap.size W3 W5 := k34.trans (k45.mono k34.size)
      have k25 : Below W2.heap.size W2 W5 := HB3.out.trans (k35.mono HB3.out.size)
      have g5 : W5.heap[W3.heap.size]? = some (.cells #[.int .i64 V, .slice a1 m' c1, .slice a2 k' c2, .int .i64 t, .int .i64 g] 34 (0, 0)) := (k45.block _ (Array.getElem?_eq_some_iff.1 g4).1).trans g4
      have kk := (k25.block _ (Array.getElem?_eq_some_iff.1 K2.out).1).trans K2.out
      have cC := cells5 g5
      have cD := cells5 kk
      rw [← hW5] at cC cD
      have HW5 := Lib.hid hW5
      have b5 : Below w.heap.size w W5 := B2.out.trans (k25.mono B2.out.size)
      have B5 := Lib.hid b5
      have X1 := Lib.hid ((X.out.1.below k35).more k35.size)
      have X2 := Lib.hid ((X.out.2.below k35).more k35.size)
      have Y1 := Lib.hid ((HX'.out.below b5).more b5.size)
      have Y2 := Lib.hid ((HY'.out.below b5).more b5.size)
      clear hW5 k45 k34 k35 k25 b5 g4 g5 kk u1 u2 u3 hb4
      simp only [cond_true, cond_false, List.length_nil]
      go_wp2_with fail
      rw [HW5.out]
      refine (retried_eq a1 a2 a' b' xs' ys' V t g m' k' c1 c2 c' d' W5.heap.size W5 HM'.out HK'.out (by omega) (by omega) (Nat.le_refl _) X1.out X2.out Y1.out Y2.out).mono ?_
      rintro e W6 ⟨rfl, hb6⟩
      have B6 := Lib.hid (B5.out.trans (hb6.mono B5.out.size))
      clear hb6 X1 X2 Y1 Y2 cC cD HW5 X C1 C2 r3 HB3 B5 O1 K2 B2
      go_wp2_with fail
      refine (awake_true W6).mono ?_
      rintro e w12 ⟨rfl, hb12⟩
      have HB12 := Lib.hid (B6.out.trans (hb12.mono B6.out.size)); clear hb12
      go_wp2
      go_ret
      exact ⟨rfl, HB12.out⟩
  · skip
    have i1 : (0 : Int) < (L1 : Int) := by omega
    have hne : listTT xs ys vs ≠ [] := fun e => by have := HL1.out; rw [e] at this; simp at this; omega
    obtain ⟨t1, t2, t3⟩ := listTT_back hne U.out.1.1 U.out.1.2
    have C1 := Lib.hid (fun (w : World) (hr : Row w w.heap.size p1 (ints .u8 (listTT xs ys vs))) => readList_any p1 (listTT xs ys vs) L1 q1 w HL1.out l1 (by omega) hr t3)
    have C2 := Lib.hid (fun (w : World) (hr : Row w w.heap.size p1 (ints .u8 (listTT xs ys vs))) => readRetry_any p1 (listTT xs ys vs) L1 q1 w HL1.out l1 (by omega) hr t3)
    rw [t1] at C1
    rw [t2] at C2
    clear t1 t2 t3 hne
    go_wp2_with fail
    refine (C1.out W2 (Row.of_own O1.out)).mono ?_
    rintro e W3 ⟨a1, a2, a3, c1, c2, c3, rfl, x1, x2, x3, hb3⟩
    dsimp only at x1 x2 x3 ⊢
    rw [HM.out, HK.out, HN.out]
    have X := Lib.hid (And.intro x1 (And.intro x2 x3)); clear x1 x2 x3
    have HB3 := Lib.hid hb3
    have r3 := Lib.hid ((((Row.of_own O1.out).below hb3).more hb3.size).alloc (Nat.le_refl _) (.cells #[.slice a1 m c1, .slice a2 k c2, .slice a3 N c3] 25))
    clear hb3
    go_wp2_with fail
    refine (C2.out _ (r3.out.more (by simp))).mono ?_
    rintro e W4 ⟨e1, e2, f1, f2, rfl, u1, u2, hb4⟩
    dsimp only at u1 u2 ⊢
    have g4 : W4.heap[W3.heap.size]? = some (.cells #[.slice a1 m c1, .slice a2 k c2, .slice a3 N c3] 25 (0, 0)) := (hb4.block _ (by simp)).trans (heap_alloc_new W3 _)
    have k34 : Below W3.heap.size W3 W4 := ((Below.refl _ _).alloc (Nat.le_refl _) _).trans (hb4.mono (by simp))
    obtain ⟨W5, hW5⟩ : ∃ W5, W4.alloc (.cells #[.int .i64 0, .slice e1 0 f1, .slice e2 0 f2, .int .i64 0, .int .i64 0] 34) = W5 := ⟨_, rfl⟩
    have k45 : Below W4.heap.size W4 W5 := by rw [← hW5]; exact (Below.refl _ _).alloc (Nat.le_refl _) _
    have k35 : Below W3.heap.size W3 W5 := k34.trans (k45.mono k34.size)
    have k25 : Below W2.heap.size W2 W5 := HB3.out.trans (k35.mono HB3.out.size)
    have g5 : W5.heap[W3.heap.size]? = some (.cells #[.slice a1 m c1, .slice a2 k c2, .slice a3 N c3] 25 (0, 0)) := (k45.block _ (Array.getElem?_eq_some_iff.1 g4).1).trans g4
    have kk := (k25.block _ (Array.getElem?_eq_some_iff.1 K1.out).1).trans K1.out
    have cC := cells3 g5
    have cD := cells3 kk
    rw [← hW5] at cC cD
    have HW5 := Lib.hid hW5
    have b5 : Below w.heap.size w W5 := B2.out.trans (k25.mono B2.out.size)
    have B5 := Lib.hid b5
    have X1 := Lib.hid ((X.out.1.below k35).more k35.size)
    have X2 := Lib.hid ((X.out.2.1.below k35).more k35.size)
    have X3 := Lib.hid ((X.out.2.2.below k35).more k35.size)
    have Y1 := Lib.hid ((HX.out.below b5).more b5.size)
    have Y2 := Lib.hid ((HY.out.below b5).more b5.size)
    have Y3 := Lib.hid ((HV.out.below b5).more b5.size)
    have K25 := Lib.hid k25
    clear hW5 k45 k34 k35 k25 b5 g4 g5 kk u1 u2 hb4
    simp only [cond_true, cond_false, List.length_nil]
    go_wp2_with fail
    rw [HW5.out]
    refine (listed_eq a1 a2 a3 a b p xs ys vs m k N c1 c2 c3 c d q W5.heap.size W5 HM.out HK.out HN.out (by omega) (by omega) (by omega) (Nat.le_refl _) X1.out X2.out X3.out Y1.out Y2.out Y3.out).mono ?_
    rintro e W6 ⟨rfl, hb6⟩
    have K26 := Lib.hid (K25.out.trans (hb6.mono K25.out.size))
    have B6 := Lib.hid (B2.out.trans (K26.out.mono B2.out.size))
    have M2 := Lib.hid ((K26.out.block _ (Array.getElem?_eq_some_iff.1 K2.out).1).trans K2.out)
    clear hb6 X1 X2 X3 Y1 Y2 Y3 cC cD HW5 X K25 B2 K2 K1 B5 C1 C2 r3 HB3 K26 O1
    have B2 := Lib.hid B6.out
    have K2 := Lib.hid M2.out
    have cE := cells5 K2.out
    clear B6 M2
    go_wp2_with fail
    refine (retry_any V a' xs' m' c' b' ys' k' d' t g _ HM'.out (by omega) ((HX'.out.below B2.out).more B2.out.size) HK'.out (by omega) ((HY'.out.below B2.out).more B2.out.size)).mono ?_
    rintro e W ⟨pa, qa, pb, qb, rfl, ra, la, rb, lb, hb⟩
    have B3 := Lib.hid (B2.out.trans (hb.mono B2.out.size))
    have K3 := Lib.hid ((hb.block _ (Array.getElem?_eq_some_iff.1 K2.out).1).trans K2.out)
    have RA := Lib.hid ra; clear ra
    have RB := Lib.hid rb; clear rb
    clear hb cE la lb B2 K2
    go_wp2_with fail
    refine (writeRetry_any V t g pa pb xs' ys' m' k' qa qb W HM'.out HK'.out (by omega) (by omega) v0 v1 RA.out RB.out).mono ?_
    rintro e W2 ⟨v, rfl, hc, hb⟩
    have B2 := Lib.hid (B3.out.trans (hb.mono B3.out.size))
    have K2 := Lib.hid ((hb.block _ (Array.getElem?_eq_some_iff.1 K3.out).1).trans K3.out)
    rw [HL2.out] at hc
    obtain ⟨p1, q1, rfl, l1, o1⟩ := hc
    have O1 := Lib.hid o1; clear o1
    clear hb RA RB B3 K3
    rcases Nat.eq_zero_or_pos L2 with z | z
    · subst z
      go_wp2_with fail
      refine (awake_true W2).mono ?_
      rintro e w12 ⟨rfl, hb12⟩
      have HB12 := Lib.hid (B2.out.trans (hb12.mono B2.out.size)); clear hb12
      go_wp2
      go_ret
      exact ⟨rfl, HB12.out⟩
    · have i1 : (0 : Int) < (L2 : Int) := by omega
      have hne : retryTT V xs' ys' t g ≠ [] := fun e => by have := HL2.out; rw [e] at this; simp at this; omega
      obtain ⟨t1, t2, t3⟩ := retryTT_back hne U.out.2.1 U.out.2.2
      have C1 := Lib.hid (fun (w : World) (hr : Row w w.heap.size p1 (ints .u8 (retryTT V xs' ys' t g))) => readRetry_any p1 (retryTT V xs' ys' t g) L2 q1 w HL2.out l1 (by omega) hr t3)
      have C2 := Lib.hid (fun (w : World) (hr : Row w w.heap.size p1 (ints .u8 (retryTT V xs' ys' t g))) => readList_any p1 (retryTT V xs' ys' t g) L2 q1 w HL2.out l1 (by omega) hr t3)
      rw [t1] at C1
      rw [t2] at C2
      clear t1 t2 t3 hne
      go_wp2_with fail
      refine (C1.out W2 (Row.of_own O1.out)).mono ?_
      rintro e W3 ⟨a1, a2, c1, c2, rfl, x1, x2, hb3⟩
      dsimp only at x1 x2 ⊢
      rw [HM'.out, HK'.out]
      have X := Lib.hid (And.intro x1 x2); clear x1 x2
      have HB3 := Lib.hid hb3
      have r3 := Lib.hid ((((Row.of_own O1.out).below hb3).more hb3.size).alloc (Nat.le_refl _) (.cells #[.int .i64 V, .slice a1 m' c1, .slice a2 k' c2, .int .i64 t, .int .i64 g] 34))
      clear hb3
      go_wp2_with fail
      refine (C2.out _ (r3.out.more (by simp))).mono ?_
      rintro e W4 ⟨e1, e2, e3, f1, f2, f3, rfl, u1, u2, u3, hb4⟩
      dsimp only at u1 u2 u3 ⊢
      have g4 : W4.heap[W3.heap.size]? = some (.cells #[.int .i64 V, .slice a1 m' c1, .slice a2 k' c2, .int .i64 t, .int .i64 g] 34 (0, 0)) := (hb4.block _ (by simp)).trans (heap_alloc_new W3 _)
      have k34 : Below W3.heap.size W3 W4 := ((Below.refl _ _).alloc (Nat.le_refl _) _).trans (hb4.mono (by simp))
      obtain ⟨W5, hW5⟩ : ∃ W5, W4.alloc (.cells #[.slice e1 0 f1, .slice e2 0 f2, .slice e3 0 f3] 25) = W5 := ⟨_, rfl⟩
      have k45 : Below W4.heap.size W4 W5 := by rw [← hW5]; exact (Below.refl _ _).alloc (Nat.le_refl _) _
      have k35 : Below W3.heap.size W3 W5 := k34.trans (k45.mono k34.size)
      have k25 : Below W2.heap.size W2 W5 := HB3.out.trans (k35.mono HB3.out.size)
      have g5 : W5.heap[W3.heap.size]? = some (.cells #[.int .i64 V, .slice a1 m' c1, .slice a2 k' c2, .int .i64 t, .int .i64 g] 34 (0, 0)) := (k45.block _ (Array.getElem?_eq_some_iff.1 g4).1).trans g4
      have kk := (k25.block _ (Array.getElem?_eq_some_iff.1 K2.out).1).trans K2.out
      have cC := cells5 g5
      have cD := cells5 kk
      rw [← hW5] at cC cD
      have HW5 := Lib.hid hW5
      have b5 : Below w.heap.size w W5 := B2.out.trans (k25.mono B2.out.size)
      have B5 := Lib.hid b5
      have X1 := Lib.hid ((X.out.1.below k35).more k35.size)
      have X2 := Lib.hid ((X.out.2.below k35).more k35.size)
      have Y1 := Lib.hid ((HX'.out.below b5).more b5.size)
      have Y2 := Lib.hid ((HY'.out.below b5).more b5.size)
      clear hW5 k45 k34 k35 k25 b5 g4 g5 kk u1 u2 u3 hb4
      simp only [cond_true, cond_false, List.length_nil]
      go_wp2_with fail
      rw [HW5.out]
      refine (retried_eq a1 a2 a' b' xs' ys' V t g m' k' c1 c2 c' d' W5.heap.size W5 HM'.out HK'.out (by omega) (by omega) (Nat.le_refl _) X1.out X2.out Y1.out Y2.out).mono ?_
      rintro e W6 ⟨rfl, hb6⟩
      have B6 := Lib.hid (B5.out.trans (hb6.mono B5.out.size))
      clear hb6 X1 X2 Y1 Y2 cC cD HW5 X C1 C2 r3 HB3 B5 O1 K2 B2
      go_wp2_with fail
      refine (awake_true W6).mono ?_
      rintro e w12 ⟨rfl, hb12⟩
      have HB12 := Lib.hid (B6.out.trans (hb12.mono B6.out.size)); clear hb12
      go_wp2
      go_ret
      exact ⟨rfl, HB12.out⟩

end Go.Proofs.Ytaplndehoenghaa
