/- special.WriteRetry. (The region's steps are printed by wip/gen/mk_wretry.py.) -/
import Derived.Test.YtaplndehoenghaaBody
namespace Go.Proofs.Ytaplndehoenghaa
open Go.RowKit
set_option linter.unusedVariables false
attribute [local go_sem ↓] app_hide

theorem size21 {cs : Array Value} (h : cs.size = 21) : ∃ y0 y1 y2 y3 y4 y5 y6 y7 y8 y9 y10 y11 y12 y13 y14 y15 y16 y17 y18 y19 y20, cs = #[y0, y1, y2, y3, y4, y5, y6, y7, y8, y9, y10, y11, y12, y13, y14, y15, y16, y17, y18, y19, y20] := by
  obtain ⟨l⟩ := cs
  match l, h with
  | [y0, y1, y2, y3, y4, y5, y6, y7, y8, y9, y10, y11, y12, y13, y14, y15, y16, y17, y18, y19, y20], _ => exact ⟨y0, y1, y2, y3, y4, y5, y6, y7, y8, y9, y10, y11, y12, y13, y14, y15, y16, y17, y18, y19, y20, rfl⟩
/-- What the operations of a region leave. -/
def wretryF (n0 : Nat) (R : Nat) (V t g : Int) (a b : Option Addr) (xs ys : List Int) (m k c d : Nat) : Nat → Value → World → Prop
  | 0, v, w => v = .agg #[.int .i64 V, .slice a m c, .slice b k d, .int .i64 t, .int .i64 g]
  | 1, v, w => IsCopy n0 5 .u8 (bodyT V xs ys t).length (bodyT V xs ys t) v w
  | 2, v, w => v = .pointer (some ⟨R, 4, none⟩)
  | 3, v, w => v = .int .i64 g
  | 4, v, w => IsRead .u8 (numT g).length (numT g) v w
  | 5, v, w => IsCopy n0 5 .u8 (bodyT V xs ys t).length (bodyT V xs ys t) v w
  | 6, v, w => IsRead .u8 (numT g).length (numT g) v w
  | _, _, _ => True

theorem wretryF_below {n0 : Nat} (R : Nat) (V t g : Int) (a b : Option Addr) (xs ys : List Int) (m k c d : Nat) {w w' : World} (h : Below w.heap.size w w') : ∀ j v, wretryF n0 R V t g a b xs ys m k c d j v w → wretryF n0 R V t g a b xs ys m k c d j v w' := by
  have hk := Kept.of_below' h (fun _ => False)
  have hC : ∀ {e kd m zs v}, IsCopy n0 e kd m zs v w → IsCopy n0 e kd m zs v w' := fun h => h.kept hk (fun _ h => h.elim)
  have hR : ∀ {kd m zs v}, IsRead kd m zs v w → IsRead kd m zs v w' := fun hr => hr.below h
  intro j v hj
  match j, hj with
  | 0, hj => exact hj
  | 1, hj => exact hC hj
  | 2, hj => exact hj
  | 3, hj => exact hj
  | 4, hj => exact hR hj
  | 5, hj => exact hC hj
  | 6, hj => exact hR hj
  | j + 7, hj => exact hj


set_option maxRecDepth 100000 in
set_option maxHeartbeats 1000000 in
theorem writeRetry_any (V t g : Int) (a b : Option Addr) (xs ys : List Int) (m k c d : Nat) (w : World) (hm : xs.length = m) (hk : ys.length = k) (lm : m ≤ 1000) (lk : k ≤ 1000) (v0 : -9223372036854775808 ≤ V) (v1 : V ≤ 9223372036854775807)
    (hx : Row w w.heap.size a (ints .u8 xs)) (hy : Row w w.heap.size b (ints .u8 ys)) :
    Calls Try.prog 20 #[.agg #[.int .i64 V, .slice a m c, .slice b k d, .int .i64 t, .int .i64 g]] w fun e w' => ∃ v, e = .returned v ∧ IsCopy w.heap.size 5 .u8 (retryTT V xs ys t g).length (retryTT V xs ys t g) v w' ∧ Below w.heap.size w w' := by
  have HT : ∀ T, T = retryTT V xs ys t g → T = if bodyT V xs ys t = [] ∨ numT g = [] then [] else bodyT V xs ys t ++ four g := fun T h => h
  obtain ⟨T, hT⟩ : ∃ T, retryTT V xs ys t g = T := ⟨_, rfl⟩
  have HT := Lib.hid (HT T hT.symm)
  rw [hT]
  clear hT
  obtain ⟨W0, hW0⟩ : ∃ W0, w.alloc (.cells #[.int .i64 V, .slice a m c, .slice b k d, .int .i64 t, .int .i64 g] 34) = W0 := ⟨_, rfl⟩
  obtain ⟨g1, b0⟩ := one_new w (.cells #[.int .i64 V, .slice a m c, .slice b k d, .int .i64 t, .int .i64 g] 34)
  have hs0 : W0.heap.size = w.heap.size + 1 := by rw [← hW0]; simp
  rw [hW0] at g1 b0
  have hbx : ∀ w1, Below W0.heap.size W0 w1 → w1.heap[w.heap.size]? = some (.cells #[.int .i64 V, .slice a m c, .slice b k d, .int .i64 t, .int .i64 g] 34 (0, 0)) ∧ Below w.heap.size w w1 ∧
      Row w1 w1.heap.size a (ints .u8 xs) ∧ Row w1 w1.heap.size b (ints .u8 ys) ∧ W0.heap.size ≤ w1.heap.size := fun w1 h => by
    have hb1 : Below w.heap.size w w1 := b0.trans (h.mono b0.size)
    exact ⟨(h.block _ (by omega)).trans g1, hb1, (hx.below hb1).more hb1.size, (hy.below hb1).more hb1.size, h.size⟩
  have HBX := Lib.hid hbx; clear hbx
  have HG0 := Lib.hid (show Below W0.heap.size W0 W0.drew from ⟨rfl, rfl, rfl, Nat.le_refl _, fun _ _ => rfl⟩)
  have HW0 := Lib.hid hW0; clear hW0
  have HS := Lib.hid hs0; clear hs0
  have HB0 := Lib.hid b0; clear b0
  have HM := Lib.hid hm; clear hm
  have HK := Lib.hid hk; clear hk
  clear g1 hx hy
  go_enter Try.func20, Try.ntmps20
  go_wp2_with fail
  rw [HW0.out]
  refine wp_region_facts 3 7 (wretryF (w.heap.size + 1) w.heap.size V t g a b xs ys m k c d) (Below W0.heap.size W0) rfl (by kernel_rfl) rfl (by kernel_rfl) (by kernel_rfl) HG0.out ?_ ?_
  · refine ⟨⟨⟨⟨⟨⟨⟨trivial, ?_⟩, ?_⟩, ?_⟩, ?_⟩, ?_⟩, ?_⟩, ?_⟩
    · refine inv_step (o := ⟨some 5, _, _, _, _, _⟩) (by kernel_rfl) rfl rfl fun α w1 hG hfix hdep K hK => ?_
      have h1 : α.tmps.getD 1 undef = _ := hfix 1 (by omega)
      have cc := cells5 (HBX.out w1 hG).1
      have HK1 := Lib.hid (hK (.agg #[.int .i64 V, .slice a m c, .slice b k d, .int .i64 t, .int .i64 g]) w1 hG (fun _ _ h => h) rfl); clear hK hG hfix hdep
      go_simp
      exact HK1.out
    · refine inv_step (o := ⟨some 6, _, _, _, _, _⟩) (by kernel_rfl) rfl rfl fun α w1 hG hfix hdep K hK => ?_
      have h1 : α.tmps.getD 5 undef = .agg #[.int .i64 V, .slice a m c, .slice b k d, .int .i64 t, .int .i64 g] := hdep 0 (by kernel_rfl)
      obtain ⟨hb0, hx1, hy1, hs1⟩ := (HBX.out w1 hG).2
      have HC := Lib.hid (body_any V t g a b xs ys m k c d w1 HM.out HK.out lm lk v0 v1 hx1 hy1)
      have HK1 := Lib.hid hK; have HG := Lib.hid hG; clear hK hG hfix hdep hx1 hy1 hb0
      go_simp
      refine HC.out.mono ?_
      rintro e w2 ⟨x, rfl, hc, hb⟩
      exact HK1.out _ _ (HG.out.trans (hb.mono hs1)) (wretryF_below _ _ _ _ _ _ _ _ _ _ _ _ hb) (hc.base (by have := HS.out; omega))
    · refine inv_step (o := ⟨some 7, _, _, _, _, _⟩) (by kernel_rfl) rfl rfl fun α w1 hG hfix hdep K hK => ?_
      have h1 : α.tmps.getD 1 undef = _ := hfix 1 (by omega)
      have HK1 := Lib.hid (hK (.pointer (some ⟨w.heap.size, 4, none⟩)) w1 hG (fun _ _ h => h) rfl); clear hK hG hfix hdep
      go_simp
      exact HK1.out
    · refine inv_step (o := ⟨some 8, _, _, _, _, _⟩) (by kernel_rfl) rfl rfl fun α w1 hG hfix hdep K hK => ?_
      have h1 : α.tmps.getD 7 undef = .pointer (some ⟨w.heap.size, 4, none⟩) := hdep 2 (by kernel_rfl)
      have cc : w1.cell? ⟨w.heap.size, 4, none⟩ = some (.int .i64 g) := cell_of_heap (HBX.out w1 hG).1 4
      have HK1 := Lib.hid (hK (.int .i64 g) w1 hG (fun _ _ h => h) rfl); clear hK hG hfix hdep
      go_simp
      exact HK1.out
    · refine inv_step (o := ⟨some 9, _, _, _, _, _⟩) (by kernel_rfl) rfl rfl fun α w1 hG hfix hdep K hK => ?_
      have h1 : α.tmps.getD 8 undef = .int .i64 g := hdep 3 (by kernel_rfl)
      obtain ⟨hb0, hx1, hy1, hs1⟩ := (HBX.out w1 hG).2
      have HC := Lib.hid (number_any g w1)
      have HK1 := Lib.hid hK; have HG := Lib.hid hG; clear hK hG hfix hdep hx1 hy1 hb0
      go_simp
      refine HC.out.mono ?_
      rintro e w2 ⟨x, rfl, hc, hb⟩
      exact HK1.out _ _ (HG.out.trans (hb.mono hs1)) (wretryF_below _ _ _ _ _ _ _ _ _ _ _ _ hb) hc
    · refine inv_step (o := ⟨some 3, _, _, _, _, _⟩) (by kernel_rfl) rfl rfl fun α w1 hG hfix hdep K hK => ?_
      have h1 : IsCopy _ 5 .u8 (bodyT V xs ys t).length (bodyT V xs ys t) (α.tmps.getD 6 undef) w1 := hdep 1 (by kernel_rfl)
      have HK1 := Lib.hid (hK (α.tmps.getD 6 undef) w1 hG (fun _ _ h => h) h1); clear hK hG hfix hdep h1
      go_simp
      simp only [Array.getD_eq_getD_getElem?] at HK1
      exact HK1.out
    · refine inv_step (o := ⟨some 4, _, _, _, _, _⟩) (by kernel_rfl) rfl rfl fun α w1 hG hfix hdep K hK => ?_
      have h1 : IsRead .u8 (numT g).length (numT g) (α.tmps.getD 9 undef) w1 := hdep 4 (by kernel_rfl)
      have HK1 := Lib.hid (hK (α.tmps.getD 9 undef) w1 hG (fun _ _ h => h) h1); clear hK hG hfix hdep h1
      go_simp
      simp only [Array.getD_eq_getD_getElem?] at HK1
      exact HK1.out
  · intro a' w' hs hd hfix hG hF
    obtain ⟨tm, df⟩ := a'
    dsimp only at hs hd hfix hF
    subst hd
    obtain ⟨y0, y1, y2, y3, y4, y5, y6, y7, y8, y9, y10, y11, y12, y13, y14, y15, y16, y17, y18, y19, y20, rfl⟩ := size21 hs
    have h1 : y1 = .pointer (some ⟨w.heap.size, 0, none⟩) := hfix 1 (by omega)
    have h2 : y2 = .slice none 0 0 := hfix 2 (by omega)
    have h3 : IsCopy (w.heap.size + 1) 5 .u8 (bodyT V xs ys t).length (bodyT V xs ys t) y3 w' := hF 5 (by omega)
    have h4 : IsRead .u8 (numT g).length (numT g) y4 w' := hF 6 (by omega)
    have hbw := Lib.hid (HBX.out w' hG).2.1
    clear hF hfix hs
    subst h1 h2
    have B3 := bodyT_len V xs ys t
    have B4 := numT_len g
    have e1 : numT g ≠ [] → numT g = four g := fun h => by
      unfold numT at h ⊢
      split at h
      · exact absurd rfl h
      · rename_i h2; rw [if_neg h2]
    have HE := Lib.hid e1; clear e1
    have hz : bodyT V xs ys t = [] ↔ (bodyT V xs ys t).length = 0 := List.length_eq_zero_iff.symm
    have hy : numT g = [] ↔ (numT g).length = 0 := List.length_eq_zero_iff.symm
    obtain ⟨L3, hL3⟩ : ∃ n, (bodyT V xs ys t).length = n := ⟨_, rfl⟩
    obtain ⟨L4, hL4⟩ : ∃ n, (numT g).length = n := ⟨_, rfl⟩
    rw [hL3] at h3 hz B3
    rw [hL4] at h4 hy B4
    obtain ⟨p3, q3, rfl, l3, o3⟩ := h3
    obtain ⟨p4, q4, rfl, l4, r4⟩ := h4
    have HZ := Lib.hid (And.intro hz (And.intro hy (And.intro hL3 hL4))); clear hz hy hL3 hL4
    have O3 := Lib.hid o3; clear o3
    have R4 := Lib.hid r4; clear r4
    have hnil : T = [] → ∃ v, Ending.returned (.slice none 0 0) = .returned v ∧ IsCopy w.heap.size 5 .u8 T.length T v w' ∧ Below w.heap.size w w' := by
      rintro rfl
      exact ⟨_, rfl, copy_none _ _ _ _, hbw.out⟩
    have HNIL := Lib.hid hnil; clear hnil
    by_cases z3 : L3 = 0
    · subst z3
      have HTT := Lib.hid (HT.out.trans (if_pos (.inl (HZ.out.1.2 rfl))))
      go_wp2
      go_ret
      exact HNIL.out HTT.out
    · have d3 : ((L3 : Int) == 0) = false := beq_eq_false_iff_ne.2 (by omega)
      by_cases z4 : L4 = 0
      · subst z4
        have HTT := Lib.hid (HT.out.trans (if_pos (.inr (HZ.out.2.1.2 rfl))))
        go_wp2
        go_ret
        exact HNIL.out HTT.out
      · have d4 : ((L4 : Int) == 0) = false := beq_eq_false_iff_ne.2 (by omega)
        have h4n : numT g ≠ [] := fun h => z4 (HZ.out.2.1.1 h)
        have HTT := Lib.hid (HT.out.trans (if_neg (fun h => h.elim (fun h => z3 (HZ.out.1.1 h)) h4n)))
        have hlen : (four g).length = L4 := by rw [← HE.out h4n]; exact HZ.out.2.2.2
        have o3 := O3.out
        have r4 := R4.out
        rw [HE.out h4n] at r4
        have hs0 : w.heap.size + 1 ≤ w'.heap.size := by have := hG.size; have := HS.out; omega
        obtain ⟨v', wz, hrun, hoz, hkz⟩ := app_u8 o3 hs0 hlen (c := q4) r4 (by omega)
        have hb2 : Below w.heap.size w wz := Kept.below (((Kept.of_below' hbw.out (fun _ => False))).then hkz (fun i h1 h2 => by have := (o3.lt i h2).1; omega))
        have HOZ := Lib.hid hoz; have HBZ := Lib.hid hb2; have HLN := Lib.hid hlen
        clear hoz hb2 hkz o3 r4 hlen h4n
        go_wp2
        go_ret
        refine ⟨v', rfl, ?_, HBZ.out⟩
        have e2 : T.length = L3 + L4 := by rw [HTT.out, List.length_append, HZ.out.2.2.1, HLN.out]
        obtain ⟨p, q, rfl, hq, -⟩ := own_slice HOZ.out
        refine ⟨p, q, by rw [e2], by rw [e2]; exact hq, ?_⟩
        rw [e2, HTT.out, ← ints_append]
        exact own_base HOZ.out (by omega)
end Go.Proofs.Ytaplndehoenghaa
