/- special.body and special.WriteRetry. (The regions' steps are printed by wip/gen/mk_body.py.) -/
import Derived.Test.YtaplndehoenghaaCopy
import Derived.Test.YtaplndehoenghaaBackLaw
namespace Go.Proofs.Ytaplndehoenghaa
open Go.RowKit
set_option linter.unusedVariables false
attribute [local go_sem ↓] app_hide

/-- A packet's first bytes, or none. -/
def headT (first n : Int) (xs ys : List Int) : List Int := if 20 < xs.length ∨ 20 < ys.length then [] else headW first n xs ys
/-- A number's bytes, or none. -/
def numT (h : Int) : List Int := if h < 1 ∨ 65536 < h then [] else four h

theorem copy_none (w : World) (n0 e : Nat) (k : IntKind) : IsCopy n0 e k 0 [] (.slice none 0 0) w := ⟨none, 0, rfl, Nat.le_refl _, World.ownsRow_nil _ _ _ _⟩

theorem copy_own {w : World} {n0 e : Nat} {k : IntKind} {zs : List Int} {v : Value} (h : w.ownsRow n0 e 1 v zs.length (ints k zs)) : IsCopy n0 e k zs.length zs v w := by
  obtain ⟨p, q, rfl, hq, -⟩ := own_slice h
  exact ⟨p, q, rfl, hq, h⟩

theorem IsCopy.base {n0 n1 e m : Nat} {k : IntKind} {zs : List Int} {v : Value} {w : World} (h : IsCopy n0 e k m zs v w) (hb : n1 ≤ n0) : IsCopy n1 e k m zs v w := by
  obtain ⟨p, q, rfl, hq, ho⟩ := h
  exact ⟨p, q, rfl, hq, own_base ho hb⟩
theorem IsCopy.below {n0 e m : Nat} {k : IntKind} {zs : List Int} {v : Value} {w w' : World} (h : IsCopy n0 e k m zs v w) (hb : Below w.heap.size w w') : IsCopy n0 e k m zs v w' := h.kept (Kept.of_below' hb (fun _ => False)) (fun _ h => h.elim)

theorem head_any (first n : Int) (a b : Option Addr) (xs ys : List Int) (m k c d : Nat) (w : World) (hm : xs.length = m) (hk : ys.length = k) (hm2 : m ≤ 1000) (hk2 : k ≤ 1000) (f0 : 0 ≤ first) (f1 : first < 256)
    (h0 : -9223372036854775808 ≤ n) (h1 : n ≤ 9223372036854775807) (hx : Row w w.heap.size a (ints .u8 xs)) (hy : Row w w.heap.size b (ints .u8 ys)) :
    Calls Try.prog 47 #[.int .u8 first, .int .i64 n, .slice a m c, .slice b k d] w fun e w' => ∃ v, e = .returned v ∧ IsCopy w.heap.size 5 .u8 (headT first n xs ys).length (headT first n xs ys) v w' ∧ Below w.heap.size w w' := by
  by_cases h : 20 < m ∨ 20 < k
  · refine (head_no first n a b m k c d w h (by omega) (by omega)).mono ?_
    rintro e w' ⟨rfl, rfl⟩
    have e1 : headT first n xs ys = [] := by unfold headT; rw [if_pos (by omega)]
    rw [e1]
    exact ⟨_, rfl, copy_none _ _ _ _, Below.refl _ _⟩
  · refine (head_yes first n a b xs ys m k c d w hm hk (by omega) (by omega) f0 f1 h0 h1 hx hy).mono ?_
    rintro e w' ⟨v, rfl, ho, hb⟩
    have e1 : headT first n xs ys = headW first n xs ys := by unfold headT; rw [if_neg (by omega)]
    rw [e1]
    exact ⟨v, rfl, copy_own ho, hb⟩

/-- Integers that are read. -/
def IsRead (k : IntKind) (m : Nat) (zs : List Int) (v : Value) (w : World) : Prop := ∃ p q, v = .slice p m q ∧ m ≤ q ∧ Row w w.heap.size p (ints k zs)
theorem IsRead.below {k : IntKind} {m : Nat} {zs : List Int} {v : Value} {w w' : World} (h : IsRead k m zs v w) (hb : Below w.heap.size w w') : IsRead k m zs v w' := by
  obtain ⟨p, q, rfl, hq, hr⟩ := h
  exact ⟨p, q, rfl, hq, (hr.below hb).more hb.size⟩
theorem IsCopy.read {n0 e : Nat} {k : IntKind} {m : Nat} {zs : List Int} {v : Value} {w : World} (h : IsCopy n0 e k m zs v w) : IsRead k m zs v w := by
  obtain ⟨p, q, rfl, hq, ho⟩ := h
  exact ⟨p, q, rfl, hq, Row.of_own ho⟩

theorem number_any (h : Int) (w : World) : Calls Try.prog 50 #[.int .i64 h] w fun e w' => ∃ v, e = .returned v ∧ IsRead .u8 (numT h).length (numT h) v w' ∧ Below w.heap.size w w' := by
  by_cases hh : h < 1 ∨ 65536 < h
  · refine (number_no h w hh).mono ?_
    rintro e w' ⟨rfl, rfl⟩
    have e1 : numT h = [] := by unfold numT; rw [if_pos hh]
    rw [e1]
    exact ⟨_, rfl, ⟨none, 0, rfl, Nat.le_refl _, Row.nil _ _ _⟩, Below.refl _ _⟩
  · refine (number_yes h w (by omega) (by omega)).mono ?_
    rintro e w' ⟨rfl, rfl⟩
    have e1 : numT h = four h := by unfold numT; rw [if_neg hh]
    rw [e1]
    exact ⟨_, rfl, ⟨_, _, rfl, Nat.le_refl _, row_block (heap_alloc_new _ _) (by simp)⟩, (Below.refl _ _).alloc (Nat.le_refl _) _⟩

/-- A retry's bytes without its tag, or none. -/
def bodyT (v : Int) (xs ys : List Int) (t : Int) : List Int := if headT 240 v xs ys = [] ∨ numT t = [] ∨ ¬ (1 ≤ v ∧ v < 4294967296) then [] else headW 240 v xs ys ++ four t
/-- .. with it. -/
def retryTT (v : Int) (xs ys : List Int) (t g : Int) : List Int := if bodyT v xs ys t = [] ∨ numT g = [] then [] else bodyT v xs ys t ++ four g

theorem headT_len (first n : Int) (xs ys : List Int) : (headT first n xs ys).length ≤ 100 := by
  unfold headT
  split
  · simp
  · simp [headW, four]; omega
theorem numT_len (h : Int) : (numT h).length ≤ 4 := by
  unfold numT
  split
  · simp
  · simp [four]
theorem bodyT_len (v : Int) (xs ys : List Int) (t : Int) : (bodyT v xs ys t).length ≤ 104 := by
  unfold bodyT
  split
  · simp
  · rename_i h
    have h1 : headT 240 v xs ys ≠ [] := fun e => h (.inl e)
    have := headT_len 240 v xs ys
    unfold headT at h1 this
    split at h1
    · exact absurd rfl h1
    · rename_i h2
      rw [if_neg h2] at this
      simp [four]
      omega
theorem size32 {cs : Array Value} (h : cs.size = 32) : ∃ y0 y1 y2 y3 y4 y5 y6 y7 y8 y9 y10 y11 y12 y13 y14 y15 y16 y17 y18 y19 y20 y21 y22 y23 y24 y25 y26 y27 y28 y29 y30 y31, cs = #[y0, y1, y2, y3, y4, y5, y6, y7, y8, y9, y10, y11, y12, y13, y14, y15, y16, y17, y18, y19, y20, y21, y22, y23, y24, y25, y26, y27, y28, y29, y30, y31] := by
  obtain ⟨l⟩ := cs
  match l, h with
  | [y0, y1, y2, y3, y4, y5, y6, y7, y8, y9, y10, y11, y12, y13, y14, y15, y16, y17, y18, y19, y20, y21, y22, y23, y24, y25, y26, y27, y28, y29, y30, y31], _ => exact ⟨y0, y1, y2, y3, y4, y5, y6, y7, y8, y9, y10, y11, y12, y13, y14, y15, y16, y17, y18, y19, y20, y21, y22, y23, y24, y25, y26, y27, y28, y29, y30, y31, rfl⟩
/-- What the operations of a region leave. -/
def bodyF (n0 : Nat) (R : Nat) (V t g : Int) (a b : Option Addr) (xs ys : List Int) (m k c d : Nat) : Nat → Value → World → Prop
  | 0, v, w => v = .pointer (some ⟨R, 0, none⟩)
  | 1, v, w => v = .int .i64 V
  | 2, v, w => v = .pointer (some ⟨R, 1, none⟩)
  | 3, v, w => v = .slice a m c
  | 4, v, w => v = .pointer (some ⟨R, 2, none⟩)
  | 5, v, w => v = .slice b k d
  | 6, v, w => IsCopy n0 5 .u8 (headT 240 V xs ys).length (headT 240 V xs ys) v w
  | 7, v, w => v = .pointer (some ⟨R, 3, none⟩)
  | 8, v, w => v = .int .i64 t
  | 9, v, w => IsRead .u8 (numT t).length (numT t) v w
  | 10, v, w => IsCopy n0 5 .u8 (headT 240 V xs ys).length (headT 240 V xs ys) v w
  | 11, v, w => IsRead .u8 (numT t).length (numT t) v w
  | _, _, _ => True

theorem bodyF_below {n0 : Nat} (R : Nat) (V t g : Int) (a b : Option Addr) (xs ys : List Int) (m k c d : Nat) {w w' : World} (h : Below w.heap.size w w') : ∀ j v, bodyF n0 R V t g a b xs ys m k c d j v w → bodyF n0 R V t g a b xs ys m k c d j v w' := by
  have hk := Kept.of_below' h (fun _ => False)
  have hC : ∀ {e kd m zs v}, IsCopy n0 e kd m zs v w → IsCopy n0 e kd m zs v w' := fun h => h.kept hk (fun _ h => h.elim)
  have hR : ∀ {kd m zs v}, IsRead kd m zs v w → IsRead kd m zs v w' := fun hr => hr.below h
  intro j v hj
  match j, hj with
  | 0, hj => exact hj
  | 1, hj => exact hj
  | 2, hj => exact hj
  | 3, hj => exact hj
  | 4, hj => exact hj
  | 5, hj => exact hj
  | 6, hj => exact hC hj
  | 7, hj => exact hj
  | 8, hj => exact hj
  | 9, hj => exact hR hj
  | 10, hj => exact hC hj
  | 11, hj => exact hR hj
  | j + 12, hj => exact hj


set_option maxRecDepth 100000 in
set_option maxHeartbeats 1000000 in
theorem body_any (V t g : Int) (a b : Option Addr) (xs ys : List Int) (m k c d : Nat) (w : World) (hm : xs.length = m) (hk : ys.length = k) (lm : m ≤ 1000) (lk : k ≤ 1000) (v0 : -9223372036854775808 ≤ V) (v1 : V ≤ 9223372036854775807)
    (hx : Row w w.heap.size a (ints .u8 xs)) (hy : Row w w.heap.size b (ints .u8 ys)) :
    Calls Try.prog 49 #[.agg #[.int .i64 V, .slice a m c, .slice b k d, .int .i64 t, .int .i64 g]] w fun e w' => ∃ v, e = .returned v ∧ IsCopy w.heap.size 5 .u8 (bodyT V xs ys t).length (bodyT V xs ys t) v w' ∧ Below w.heap.size w w' := by
  have HT : ∀ T, T = bodyT V xs ys t → T = if headT 240 V xs ys = [] ∨ numT t = [] ∨ ¬ (1 ≤ V ∧ V < 4294967296) then [] else headW 240 V xs ys ++ four t := fun T h => h
  obtain ⟨T, hT⟩ : ∃ T, bodyT V xs ys t = T := ⟨_, rfl⟩
  have HT := Lib.hid (HT T hT.symm)
  rw [hT]
  clear hT
  obtain ⟨W0, hW0⟩ : ∃ W0, w.alloc (.cells #[.int .i64 V, .slice a m c, .slice b k d, .int .i64 t, .int .i64 g] 34) = W0 := ⟨_, rfl⟩
  obtain ⟨g1, b0⟩ := one_new w (.cells #[.int .i64 V, .slice a m c, .slice b k d, .int .i64 t, .int .i64 g] 34)
  have hs0 : W0.heap.size = w.heap.size + 1 := by rw [← hW0]; simp
  rw [hW0] at g1 b0
  have hbx : ∀ w1, Below W0.heap.size W0 w1 → w1.heap[w.heap.size]? = some (.cells #[.int .i64 V, .slice a m c, .slice b k d, .int .i64 t, .int .i64 g] 34 (0, 0)) ∧ Below w.heap.size w w1 ∧
      Row w1 w1.heap.size a (ints .u8 xs) ∧ Row w1 w1.heap.size b (ints .u8 ys) ∧ W0.heap.size ≤ w1.heap.size := fun w1 h => by
    have hb1 : Below w.heap.size w w1 := b0.trans (h.mono b0.size)
    exact ⟨(h.block _ (by omega)).trans g1, hb1, (hx.below hb1).more hb1.size, (hy.below hb1).more hb1.size, h.size⟩
  have HBX := Lib.hid hbx; clear hbx
  have HG0 := Lib.hid (show Below W0.heap.size W0 W0.drew from ⟨rfl, rfl, rfl, Nat.le_refl _, fun _ _ => rfl⟩)
  have HW0 := Lib.hid hW0; clear hW0
  have HS := Lib.hid hs0; clear hs0
  have HB0 := Lib.hid b0; clear b0
  have HM := Lib.hid hm; clear hm
  have HK := Lib.hid hk; clear hk
  clear g1 hx hy
  go_enter Try.func49, Try.ntmps49
  go_wp2_with fail
  rw [HW0.out]
  refine wp_region_facts 3 12 (bodyF (w.heap.size + 1) w.heap.size V t g a b xs ys m k c d) (Below W0.heap.size W0) rfl (by kernel_rfl) rfl (by kernel_rfl) (by kernel_rfl) HG0.out ?_ ?_
  · refine ⟨⟨⟨⟨⟨⟨⟨⟨⟨⟨⟨⟨trivial, ?_⟩, ?_⟩, ?_⟩, ?_⟩, ?_⟩, ?_⟩, ?_⟩, ?_⟩, ?_⟩, ?_⟩, ?_⟩, ?_⟩
    · refine inv_step (o := ⟨some 5, _, _, _, _, _⟩) (by kernel_rfl) rfl rfl fun α w1 hG hfix hdep K hK => ?_
      have h1 : α.tmps.getD 1 undef = _ := hfix 1 (by omega)
      have HK1 := Lib.hid (hK (.pointer (some ⟨w.heap.size, 0, none⟩)) w1 hG (fun _ _ h => h) rfl); clear hK hG hfix hdep
      go_simp
      exact HK1.out
    · refine inv_step (o := ⟨some 6, _, _, _, _, _⟩) (by kernel_rfl) rfl rfl fun α w1 hG hfix hdep K hK => ?_
      have h1 : α.tmps.getD 5 undef = .pointer (some ⟨w.heap.size, 0, none⟩) := hdep 0 (by kernel_rfl)
      have cc : w1.cell? ⟨w.heap.size, 0, none⟩ = some (.int .i64 V) := cell_of_heap (HBX.out w1 hG).1 0
      have HK1 := Lib.hid (hK (.int .i64 V) w1 hG (fun _ _ h => h) rfl); clear hK hG hfix hdep
      go_simp
      exact HK1.out
    · refine inv_step (o := ⟨some 7, _, _, _, _, _⟩) (by kernel_rfl) rfl rfl fun α w1 hG hfix hdep K hK => ?_
      have h1 : α.tmps.getD 1 undef = _ := hfix 1 (by omega)
      have HK1 := Lib.hid (hK (.pointer (some ⟨w.heap.size, 1, none⟩)) w1 hG (fun _ _ h => h) rfl); clear hK hG hfix hdep
      go_simp
      exact HK1.out
    · refine inv_step (o := ⟨some 8, _, _, _, _, _⟩) (by kernel_rfl) rfl rfl fun α w1 hG hfix hdep K hK => ?_
      have h1 : α.tmps.getD 7 undef = .pointer (some ⟨w.heap.size, 1, none⟩) := hdep 2 (by kernel_rfl)
      have cc : w1.cell? ⟨w.heap.size, 1, none⟩ = some (.slice a m c) := cell_of_heap (HBX.out w1 hG).1 1
      have HK1 := Lib.hid (hK (.slice a m c) w1 hG (fun _ _ h => h) rfl); clear hK hG hfix hdep
      go_simp
      exact HK1.out
    · refine inv_step (o := ⟨some 9, _, _, _, _, _⟩) (by kernel_rfl) rfl rfl fun α w1 hG hfix hdep K hK => ?_
      have h1 : α.tmps.getD 1 undef = _ := hfix 1 (by omega)
      have HK1 := Lib.hid (hK (.pointer (some ⟨w.heap.size, 2, none⟩)) w1 hG (fun _ _ h => h) rfl); clear hK hG hfix hdep
      go_simp
      exact HK1.out
    · refine inv_step (o := ⟨some 10, _, _, _, _, _⟩) (by kernel_rfl) rfl rfl fun α w1 hG hfix hdep K hK => ?_
      have h1 : α.tmps.getD 9 undef = .pointer (some ⟨w.heap.size, 2, none⟩) := hdep 4 (by kernel_rfl)
      have cc : w1.cell? ⟨w.heap.size, 2, none⟩ = some (.slice b k d) := cell_of_heap (HBX.out w1 hG).1 2
      have HK1 := Lib.hid (hK (.slice b k d) w1 hG (fun _ _ h => h) rfl); clear hK hG hfix hdep
      go_simp
      exact HK1.out
    · refine inv_step (o := ⟨some 11, _, _, _, _, _⟩) (by kernel_rfl) rfl rfl fun α w1 hG hfix hdep K hK => ?_
      have h1 : α.tmps.getD 6 undef = .int .i64 V := hdep 1 (by kernel_rfl)
      have h2 : α.tmps.getD 8 undef = .slice a m c := hdep 3 (by kernel_rfl)
      have h3 : α.tmps.getD 10 undef = .slice b k d := hdep 5 (by kernel_rfl)
      obtain ⟨hb0, hx1, hy1, hs1⟩ := (HBX.out w1 hG).2
      have HC := Lib.hid (head_any 240 V a b xs ys m k c d w1 HM.out HK.out lm lk (by omega) (by omega) v0 v1 hx1 hy1)
      have HK1 := Lib.hid hK; have HG := Lib.hid hG; clear hK hG hfix hdep hx1 hy1 hb0
      go_simp
      refine HC.out.mono ?_
      rintro e w2 ⟨x, rfl, hc, hb⟩
      exact HK1.out _ _ (HG.out.trans (hb.mono hs1)) (bodyF_below _ _ _ _ _ _ _ _ _ _ _ _ hb) (hc.base (by have := HS.out; omega))
    · refine inv_step (o := ⟨some 12, _, _, _, _, _⟩) (by kernel_rfl) rfl rfl fun α w1 hG hfix hdep K hK => ?_
      have h1 : α.tmps.getD 1 undef = _ := hfix 1 (by omega)
      have HK1 := Lib.hid (hK (.pointer (some ⟨w.heap.size, 3, none⟩)) w1 hG (fun _ _ h => h) rfl); clear hK hG hfix hdep
      go_simp
      exact HK1.out
    · refine inv_step (o := ⟨some 13, _, _, _, _, _⟩) (by kernel_rfl) rfl rfl fun α w1 hG hfix hdep K hK => ?_
      have h1 : α.tmps.getD 12 undef = .pointer (some ⟨w.heap.size, 3, none⟩) := hdep 7 (by kernel_rfl)
      have cc : w1.cell? ⟨w.heap.size, 3, none⟩ = some (.int .i64 t) := cell_of_heap (HBX.out w1 hG).1 3
      have HK1 := Lib.hid (hK (.int .i64 t) w1 hG (fun _ _ h => h) rfl); clear hK hG hfix hdep
      go_simp
      exact HK1.out
    · refine inv_step (o := ⟨some 14, _, _, _, _, _⟩) (by kernel_rfl) rfl rfl fun α w1 hG hfix hdep K hK => ?_
      have h1 : α.tmps.getD 13 undef = .int .i64 t := hdep 8 (by kernel_rfl)
      obtain ⟨hb0, hx1, hy1, hs1⟩ := (HBX.out w1 hG).2
      have HC := Lib.hid (number_any t w1)
      have HK1 := Lib.hid hK; have HG := Lib.hid hG; clear hK hG hfix hdep hx1 hy1 hb0
      go_simp
      refine HC.out.mono ?_
      rintro e w2 ⟨x, rfl, hc, hb⟩
      exact HK1.out _ _ (HG.out.trans (hb.mono hs1)) (bodyF_below _ _ _ _ _ _ _ _ _ _ _ _ hb) hc
    · refine inv_step (o := ⟨some 3, _, _, _, _, _⟩) (by kernel_rfl) rfl rfl fun α w1 hG hfix hdep K hK => ?_
      have h1 : IsCopy _ 5 .u8 (headT 240 V xs ys).length (headT 240 V xs ys) (α.tmps.getD 11 undef) w1 := hdep 6 (by kernel_rfl)
      have HK1 := Lib.hid (hK (α.tmps.getD 11 undef) w1 hG (fun _ _ h => h) h1); clear hK hG hfix hdep h1
      go_simp
      simp only [Array.getD_eq_getD_getElem?] at HK1
      exact HK1.out
    · refine inv_step (o := ⟨some 4, _, _, _, _, _⟩) (by kernel_rfl) rfl rfl fun α w1 hG hfix hdep K hK => ?_
      have h1 : IsRead .u8 (numT t).length (numT t) (α.tmps.getD 14 undef) w1 := hdep 9 (by kernel_rfl)
      have HK1 := Lib.hid (hK (α.tmps.getD 14 undef) w1 hG (fun _ _ h => h) h1); clear hK hG hfix hdep h1
      go_simp
      simp only [Array.getD_eq_getD_getElem?] at HK1
      exact HK1.out
  · intro a' w' hs hd hfix hG hF
    obtain ⟨tm, df⟩ := a'
    dsimp only at hs hd hfix hF
    subst hd
    obtain ⟨y0, y1, y2, y3, y4, y5, y6, y7, y8, y9, y10, y11, y12, y13, y14, y15, y16, y17, y18, y19, y20, y21, y22, y23, y24, y25, y26, y27, y28, y29, y30, y31, rfl⟩ := size32 hs
    have h1 : y1 = .pointer (some ⟨w.heap.size, 0, none⟩) := hfix 1 (by omega)
    have h2 : y2 = .slice none 0 0 := hfix 2 (by omega)
    have h3 : IsCopy (w.heap.size + 1) 5 .u8 (headT 240 V xs ys).length (headT 240 V xs ys) y3 w' := hF 10 (by omega)
    have h4 : IsRead .u8 (numT t).length (numT t) y4 w' := hF 11 (by omega)
    have ch : w'.cell? ⟨w.heap.size, 0, none⟩ = some (.int .i64 V) := cell_of_heap (HBX.out w' hG).1 0
    have hbw := Lib.hid (HBX.out w' hG).2.1
    clear hF hfix hs
    subst h1 h2
    have B3 := headT_len 240 V xs ys
    have B4 := numT_len t
    have e0 : headT 240 V xs ys ≠ [] → headT 240 V xs ys = headW 240 V xs ys := fun h => by
      unfold headT at h ⊢
      split at h
      · exact absurd rfl h
      · rename_i h2; rw [if_neg h2]
    have e1 : numT t ≠ [] → numT t = four t := fun h => by
      unfold numT at h ⊢
      split at h
      · exact absurd rfl h
      · rename_i h2; rw [if_neg h2]
    have HE := Lib.hid (And.intro e0 e1); clear e0 e1
    have hz : headT 240 V xs ys = [] ↔ (headT 240 V xs ys).length = 0 := List.length_eq_zero_iff.symm
    have hy : numT t = [] ↔ (numT t).length = 0 := List.length_eq_zero_iff.symm
    obtain ⟨L3, hL3⟩ : ∃ n, (headT 240 V xs ys).length = n := ⟨_, rfl⟩
    obtain ⟨L4, hL4⟩ : ∃ n, (numT t).length = n := ⟨_, rfl⟩
    rw [hL3] at h3 hz B3
    rw [hL4] at h4 hy B4
    obtain ⟨p3, q3, rfl, l3, o3⟩ := h3
    obtain ⟨p4, q4, rfl, l4, r4⟩ := h4
    have HZ := Lib.hid (And.intro hz (And.intro hy (And.intro hL3 hL4))); clear hz hy hL3 hL4
    have O3 := Lib.hid o3; clear o3
    have R4 := Lib.hid r4; clear r4
    have hnil : T = [] → ∃ v, Ending.returned (.slice none 0 0) = .returned v ∧ IsCopy w.heap.size 5 .u8 T.length T v w' ∧ Below w.heap.size w w' := by
      rintro rfl
      exact ⟨_, rfl, copy_none _ _ _ _, hbw.out⟩
    have HNIL := Lib.hid hnil; clear hnil
    by_cases z3 : L3 = 0
    · subst z3
      have HTT := Lib.hid (HT.out.trans (if_pos (.inl (HZ.out.1.2 rfl))))
      go_wp2
      go_ret
      exact HNIL.out HTT.out
    · have d3 : ((L3 : Int) == 0) = false := beq_eq_false_iff_ne.2 (by omega)
      by_cases z4 : L4 = 0
      · subst z4
        have HTT := Lib.hid (HT.out.trans (if_pos (.inr (.inl (HZ.out.2.1.2 rfl)))))
        go_wp2
        go_ret
        exact HNIL.out HTT.out
      · have d4 : ((L4 : Int) == 0) = false := beq_eq_false_iff_ne.2 (by omega)
        have h3n : headT 240 V xs ys ≠ [] := fun h => z3 (HZ.out.1.1 h)
        have h4n : numT t ≠ [] := fun h => z4 (HZ.out.2.1.1 h)
        have H34 := Lib.hid (And.intro h3n h4n); clear h3n h4n
        go_wp2_with fail
        refine (version_any _ _).mono ?_
        rintro e w3 ⟨rfl, rfl⟩
        by_cases hv : 1 ≤ V ∧ V < 4294967296
        · rw [decide_eq_true hv]
          have HTT := Lib.hid (HT.out.trans (if_neg (fun h => h.elim H34.out.1 fun h => h.elim H34.out.2 fun h => h hv)))
          have hlen : (headW 240 V xs ys).length = L3 ∧ (four t).length = L4 := by
            rw [← HE.out.1 H34.out.1, ← HE.out.2 H34.out.2]
            exact HZ.out.2.2
          have o3 := O3.out
          have r4 := R4.out
          rw [HE.out.1 H34.out.1] at o3
          rw [HE.out.2 H34.out.2] at r4
          have hs0 : w.heap.size + 1 ≤ w'.heap.size := by have := hG.size; have := HS.out; omega
          obtain ⟨v', wz, hrun, hoz, hkz⟩ := app_u8 o3 hs0 hlen.2 (c := q4) r4 (by omega)
          have hb2 : Below w.heap.size w wz := Kept.below (((Kept.of_below' hbw.out (fun _ => False))).then hkz (fun i h1 h2 => by have := (o3.lt i h2).1; omega))
          have HOZ := Lib.hid hoz; have HBZ := Lib.hid hb2; have HLN := Lib.hid hlen
          clear hoz hb2 hkz o3 r4 hlen hv
          go_wp2
          go_ret
          refine ⟨v', rfl, ?_, HBZ.out⟩
          have e2 : T.length = L3 + L4 := by rw [HTT.out, List.length_append, HLN.out.1, HLN.out.2]
          obtain ⟨p, q, rfl, hq, -⟩ := own_slice HOZ.out
          refine ⟨p, q, by rw [e2], by rw [e2]; exact hq, ?_⟩
          rw [e2, HTT.out, ← ints_append]
          exact own_base HOZ.out (by omega)
        · rw [decide_eq_false hv]
          have HTT := Lib.hid (HT.out.trans (if_pos (.inr (.inr hv))))
          clear hv
          go_wp2
          go_ret
          exact HNIL.out HTT.out
end Go.Proofs.Ytaplndehoenghaa
