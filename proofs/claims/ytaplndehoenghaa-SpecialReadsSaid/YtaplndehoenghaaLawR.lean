/- The law SpecialReads. -/
import Derived.Test.YtaplndehoenghaaUni
import Derived.Test.YtaplndehoenghaaAwake
namespace Go.Proofs.Ytaplndehoenghaa
open Go.RowKit
set_option linter.unusedVariables false
attribute [local go_sem ↓] app_hide

theorem specialReads_long (a : Option Addr) (m c : Nat) (w : World) (h : 300 < m) : Calls Try.prog 3 #[.slice a m c] w fun e w' => e = .returned (.bool true) ∧ w = w' := by
  have h1 : (300 : Int) < (m : Int) := by omega
  go_enter Try.func3, Try.ntmps3
  go_wp2
  go_ret
  exact ⟨rfl, rfl⟩

/-- 'append([]byte{}, b...)': a copy. -/
theorem copy_u8 (w : World) {B m c : Nat} {A : Option Addr} {ys : List Int} (hm : ys.length = m) (hr : Row w B A (ints .u8 ys)) (hB : B ≤ w.heap.size) (hn : m ≤ 1000000) :
    ∃ p q wz, (appSem #[22, 22] 22 #[.slice (some ⟨w.heap.size, 0, none⟩) 0 0, .slice A m c]).run Try.prog (w.alloc (.cells #[] 5)) = .ok (.slice p m q) wz ∧ m ≤ q ∧ wz.ownsRow w.heap.size 5 1 (.slice p m q) m (ints .u8 ys) ∧ Below w.heap.size w wz := by
  have ho : (w.alloc (.cells #[] 5)).ownsRow w.heap.size 5 1 (.slice (some ⟨w.heap.size, 0, none⟩) 0 0) 0 [] := World.ownsRow_lit w #[] 0 (Nat.le_refl _) (by simp [maxLen]) rfl
  obtain ⟨v', wz, hrun, hoz, hkz⟩ := app_u8 (c := c) ho (by simp) hm (hr.alloc hB _) (by omega)
  rw [Nat.zero_add, List.nil_append] at hoz
  obtain ⟨p, q, rfl, hq, -⟩ := own_slice hoz
  exact ⟨p, q, wz, hrun, hq, hoz, Kept.below (((Kept.refl (fun _ => False) w).alloc _).then hkz (fun i h1 h2 => by simp [Value.ownBlock] at h2; omega))⟩

theorem quads_len_le : ∀ (l : List Int), (quads l).length ≤ l.length
  | a :: b :: c :: d :: r => by
    have := quads_len_le r
    simp only [quads, List.length_cons]
    omega
  | [] => Nat.le_refl _
  | [_] => by simp [quads]
  | [_, _] => by simp [quads]
  | [_, _, _] => by simp [quads]

theorem listT_len (zs : List Int) (hu : IsU8 zs) : (listT zs).1.length ≤ 64 ∧ (listT zs).2.1.length ≤ 64 ∧ (listT zs).2.2.1.length ≤ 64 := by
  unfold listT
  rcases hn : headR 128 zs with _ | ⟨v, n1, n2, left⟩
  · simp
  · dsimp only
    have h := headR_u8 hu hn
    split
    · simp
    · have := quads_len_le left
      split
      · dsimp only; omega
      · simp
theorem retryT_len (zs : List Int) (hu : IsU8 zs) : (retryT zs).2.1.length ≤ 64 ∧ (retryT zs).2.2.1.length ≤ 64 := by
  unfold retryT
  split
  · rename_i h
    have := headR_u8 hu h
    split
    · dsimp only; omega
    · simp
  · simp

set_option maxRecDepth 100000 in
set_option maxHeartbeats 4000000 in
theorem specialReads_small (a : Option Addr) (zs : List Int) (m c B : Nat) (w : World) (hm : zs.length = m) (hc : m ≤ c) (hl : m ≤ 300) (hB : B ≤ w.heap.size) (hr : Row w B a (ints .u8 zs)) (hu : IsU8 zs) :
    Calls Try.prog 3 #[.slice a m c] w fun e w' => e = .returned (.bool true) ∧ Below w.heap.size w w' := by
  have h1 : ¬ (300 : Int) < (m : Int) := by omega
  obtain ⟨p1, q1, wa, hrun1, hq1, ho1, hb1⟩ := copy_u8 w (c := c) hm hr hB (by omega)
  have HM := Lib.hid hm; clear hm
  have HR := Lib.hid hr; clear hr
  have HU := Lib.hid hu; clear hu
  have HO1 := Lib.hid ho1; clear ho1
  have HB1 := Lib.hid hb1; clear hb1
  obtain ⟨T, hT⟩ : ∃ T, listT zs = T := ⟨_, rfl⟩
  obtain ⟨R, hR⟩ : ∃ R, retryT zs = R := ⟨_, rfl⟩
  have C1 := Lib.hid (readList_any p1 zs m q1 wa HM.out hq1 (by omega) (Row.of_own HO1.out) HU.out)
  have C2 := Lib.hid (fun w B h1 h2 => refList_any a zs m c B w HM.out hc (by omega) h1 h2 HU.out)
  have C3 := Lib.hid (fun w p q h1 h2 => readRetry_any p zs m q w HM.out h1 (by omega) h2 HU.out)
  have C4 := Lib.hid (fun w B h1 h2 => refRetry_any a zs m c B w HM.out hc (by omega) h1 h2 HU.out)
  have LL := Lib.hid (listT_len zs HU.out)
  have RL := Lib.hid (retryT_len zs HU.out)
  rw [hT] at LL
  rw [hR] at RL
  rw [hT] at C1 C2
  rw [hR] at C3 C4
  clear hT hR
  obtain ⟨n1, n2, vs, ok⟩ := T
  obtain ⟨v, r1, r2, t, g, is⟩ := R
  dsimp only at C1 C2 C3 C4 LL RL
  go_enter Try.func3, Try.ntmps3
  go_wp2_with fail
  refine C1.out.mono ?_
  rintro e w2 ⟨a1, a2, a3, c1, c2, c3, rfl, x1, x2, x3, hb2⟩
  dsimp only at x1 x2 x3 ⊢
  have s2 := hb2.size
  have b2 : Below w.heap.size w w2 := HB1.out.trans (hb2.mono HB1.out.size)
  have b3 : Below w.heap.size w (w2.alloc (.cells #[.slice a1 n1.length c1, .slice a2 n2.length c2, .slice a3 vs.length c3] 25)) := b2.alloc b2.size _
  have X := Lib.hid (And.intro x1 (And.intro x2 x3)); clear x1 x2 x3
  have B2 := Lib.hid b2; clear b2
  have B3 := Lib.hid b3; clear b3
  clear hb2 s2
  go_wp2_with fail
  refine (C2.out _ B (Nat.le_trans hB B3.out.size) (HR.out.below (B3.out.mono hB))).mono ?_
  rintro e w4 ⟨b1, b2, b3, d1, d2, d3, rfl, y1, y2, y3, hb4⟩
  dsimp only at y1 y2 y3 ⊢
  have g14 : w4.heap[w2.heap.size]? = some (.cells #[.slice a1 n1.length c1, .slice a2 n2.length c2, .slice a3 vs.length c3] 25 (0, 0)) := (hb4.block _ (by simp)).trans (heap_alloc_new w2 _)
  have b4 : Below w.heap.size w w4 := B3.out.trans (hb4.mono B3.out.size)
  have k24 : Below w2.heap.size w2 w4 := ((Below.refl _ _).alloc (Nat.le_refl _) _).trans (hb4.mono (by simp))
  have b5 : Below w.heap.size w (w4.alloc (.cells #[.slice b1 n1.length d1, .slice b2 n2.length d2, .slice b3 vs.length d3] 29)) := b4.alloc b4.size _
  obtain ⟨p2, q2, wb, hrun2, hq2, ho2, hb5⟩ := copy_u8 (w4.alloc (.cells #[.slice b1 n1.length d1, .slice b2 n2.length d2, .slice b3 vs.length d3] 29)) (c := c) HM.out (HR.out.below (b5.mono hB)) (Nat.le_trans hB b5.size) (by omega)
  simp only [World.size_alloc] at hrun2
  have k45 : Below w4.heap.size w4 wb := ((Below.refl _ _).alloc (Nat.le_refl _) _).trans (hb5.mono (by simp))
  have g1b : wb.heap[w2.heap.size]? = some (.cells #[.slice a1 n1.length c1, .slice a2 n2.length c2, .slice a3 vs.length c3] 25 (0, 0)) := (k45.block _ (Array.getElem?_eq_some_iff.1 g14).1).trans g14
  have g2b : wb.heap[w4.heap.size]? = some (.cells #[.slice b1 n1.length d1, .slice b2 n2.length d2, .slice b3 vs.length d3] 29 (0, 0)) := (hb5.block _ (by simp)).trans (heap_alloc_new w4 _)
  have G1b := Lib.hid g1b; clear g1b g14
  have G2b := Lib.hid g2b; clear g2b
  have K24 := Lib.hid k24; clear k24
  have K45 := Lib.hid k45; clear k45
  have B5 := Lib.hid (b4.trans (K45.out.mono b4.size)); clear b5 b4
  have HO2 := Lib.hid ho2; clear ho2
  have Y := Lib.hid (And.intro y1 (And.intro y2 y3)); clear y1 y2 y3
  clear hb4 hb5
  go_wp2_with fail
  refine (C3.out wb p2 q2 hq2 (Row.of_own HO2.out)).mono ?_
  rintro e w6 ⟨e1, e2, f1, f2, rfl, u1, u2, hb6⟩
  dsimp only at u1 u2 ⊢
  have b6 : Below w.heap.size w w6 := B5.out.trans (hb6.mono B5.out.size)
  have b7 : Below w.heap.size w (w6.alloc (.cells #[.int .i64 v, .slice e1 r1.length f1, .slice e2 r2.length f2, .int .i64 t, .int .i64 g] 34)) := b6.alloc b6.size _
  have U := Lib.hid (And.intro u1 u2); clear u1 u2
  have B7 := Lib.hid b7; clear b7
  have HB6 := Lib.hid hb6; clear hb6
  clear b6
  go_wp2_with fail
  refine (C4.out _ B (Nat.le_trans hB B7.out.size) (HR.out.below (B7.out.mono hB))).mono ?_
  rintro e w8 ⟨g1, g2, k1, k2, rfl, z1, z2, hb8⟩
  dsimp only at z1 z2 ⊢
  obtain ⟨w9, hw9⟩ : ∃ w9, w8.alloc (.cells #[.int .i64 v, .slice g1 r1.length k1, .slice g2 r2.length k2, .int .i64 t, .int .i64 g] 38) = w9 := ⟨_, rfl⟩
  have k89 : Below w8.heap.size w8 w9 := by rw [← hw9]; exact (Below.refl _ _).alloc (Nat.le_refl _) _
  have k68 : Below w6.heap.size w6 w8 := ((Below.refl _ _).alloc (Nat.le_refl _) _).trans (hb8.mono (by simp))
  have k69 : Below w6.heap.size w6 w9 := k68.trans (k89.mono k68.size)
  have kb9 : Below wb.heap.size wb w9 := HB6.out.trans (k69.mono HB6.out.size)
  have k49 : Below w4.heap.size w4 w9 := K45.out.trans (kb9.mono K45.out.size)
  have k29 : Below w2.heap.size w2 w9 := K24.out.trans (k49.mono K24.out.size)
  have h1' : w9.heap[w2.heap.size]? = some (.cells #[.slice a1 n1.length c1, .slice a2 n2.length c2, .slice a3 vs.length c3] 25 (0, 0)) := (kb9.block _ (Array.getElem?_eq_some_iff.1 G1b.out).1).trans G1b.out
  have h2' : w9.heap[w4.heap.size]? = some (.cells #[.slice b1 n1.length d1, .slice b2 n2.length d2, .slice b3 vs.length d3] 29 (0, 0)) := (kb9.block _ (Array.getElem?_eq_some_iff.1 G2b.out).1).trans G2b.out
  have h3' : w9.heap[w6.heap.size]? = some (.cells #[.int .i64 v, .slice e1 r1.length f1, .slice e2 r2.length f2, .int .i64 t, .int .i64 g] 34 (0, 0)) := by
    have e8 : w8.heap[w6.heap.size]? = some (.cells #[.int .i64 v, .slice e1 r1.length f1, .slice e2 r2.length f2, .int .i64 t, .int .i64 g] 34 (0, 0)) := (hb8.block _ (by simp)).trans (heap_alloc_new w6 _)
    exact (k89.block _ (Array.getElem?_eq_some_iff.1 e8).1).trans e8
  have h4' : w9.heap[w8.heap.size]? = some (.cells #[.int .i64 v, .slice g1 r1.length k1, .slice g2 r2.length k2, .int .i64 t, .int .i64 g] 38 (0, 0)) := by rw [← hw9]; exact heap_alloc_new w8 _
  have X1 := Lib.hid (X.out.1.below k29)
  have X2 := Lib.hid (X.out.2.1.below k29)
  have X3 := Lib.hid (X.out.2.2.below k29)
  have Y1 := Lib.hid (Y.out.1.below k49)
  have Y2 := Lib.hid (Y.out.2.1.below k49)
  have Y3 := Lib.hid (Y.out.2.2.below k49)
  have U1 := Lib.hid (U.out.1.below k69)
  have U2 := Lib.hid (U.out.2.below k69)
  have Z1 := Lib.hid (z1.below k89)
  have Z2 := Lib.hid (z2.below k89)
  have B9 := Lib.hid (B5.out.trans (kb9.mono B5.out.size))
  have sz : Hid (w2.heap.size ≤ w9.heap.size ∧ w4.heap.size ≤ w9.heap.size ∧ w6.heap.size ≤ w9.heap.size ∧ w8.heap.size ≤ w9.heap.size) := Lib.hid ⟨k29.size, k49.size, k69.size, k89.size⟩
  have cA := cells3 h1'
  have cB := cells3 h2'
  rw [← hw9] at cA cB
  have H3 := Lib.hid h3'; clear h3'
  have H4 := Lib.hid h4'; clear h4'
  have HW9 := Lib.hid hw9; clear hw9
  clear h1' h2' z1 z2 hb8 k89 k68 k69 kb9 k49 k29
  cases ok <;> cases is
  all_goals
    simp only [cond_true, cond_false]
    go_wp2_with fail
    rw [HW9.out]
    refine (listed_eq a1 a2 a3 b1 b2 b3 n1 n2 vs _ _ _ c1 c2 c3 d1 d2 d3 w9.heap.size w9 rfl rfl rfl (by have := LL.out; omega) (by have := LL.out; omega) (by have := LL.out; omega) (Nat.le_refl _)
      (X1.out.more sz.out.1) (X2.out.more sz.out.1) (X3.out.more sz.out.1) (Y1.out.more sz.out.2.1) (Y2.out.more sz.out.2.1) (Y3.out.more sz.out.2.1)).mono ?_
    rintro e w10 ⟨rfl, hb10⟩
    have cC := cells5 ((hb10.block _ (Array.getElem?_eq_some_iff.1 H3.out).1).trans H3.out)
    have cD := cells5 ((hb10.block _ (Array.getElem?_eq_some_iff.1 H4.out).1).trans H4.out)
    have HB10 := Lib.hid hb10; clear hb10
    go_wp2_with fail
    refine (retried_eq e1 e2 g1 g2 r1 r2 v t g _ _ f1 f2 k1 k2 w9.heap.size w10 rfl rfl (by have := RL.out; omega) (by have := RL.out; omega) HB10.out.size
      ((U1.out.more sz.out.2.2.1).below HB10.out) ((U2.out.more sz.out.2.2.1).below HB10.out) ((Z1.out.more sz.out.2.2.2).below HB10.out) ((Z2.out.more sz.out.2.2.2).below HB10.out)).mono ?_
    rintro e w11 ⟨rfl, hb11⟩
    have HB11 := Lib.hid (B9.out.trans ((HB10.out.trans (hb11.mono HB10.out.size)).mono B9.out.size)); clear hb11
    go_wp2_with fail
    refine (awake_true w11).mono ?_
    rintro e w12 ⟨rfl, hb12⟩
    have HB12 := Lib.hid (HB11.out.trans (hb12.mono HB11.out.size)); clear hb12
    go_wp2
    go_ret
    exact ⟨rfl, HB12.out⟩
end Go.Proofs.Ytaplndehoenghaa
