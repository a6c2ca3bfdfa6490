/- The law ParamsWrite. (Printed in part by wip/gen/mk_plaw.py.) -/
import Derived.Test.YtaplndehoenghaaDoorPRefW
import Derived.Test.YtaplndehoenghaaDoorPRef
import Derived.Test.YtaplndehoenghaaDoorPOf
namespace Go.Proofs.YtaplndehoenghaaDoor
open Go.RowKit
set_option linter.unusedVariables false

theorem write_no (idle data cho : Int) (hg ho hr : Bool) (ga oa ra va : Option Addr) (gm om rm vm gc oc rc vc : Nat) (vz : List Int) (w : World) (hv : vz.length = vm) (lg : gm ≤ 1000) (lo : om ≤ 1000) (lr : rm ≤ 1000) (lv : vm ≤ 1000)
    (hrow : Row w w.heap.size va (ints .i64 vz)) (hR : rightT idle data cho hg ho hr gm om rm vz = false) :
    Calls Tryd.prog 7 #[.agg #[.int .i64 idle, .int .i64 data, .bool hg, .bool ho, .bool hr, .slice ga gm gc, .slice oa om oc, .slice ra rm rc, .int .i64 cho, .slice va vm vc]] w fun e w' => e = .returned (.slice none 0 0) ∧ Below w.heap.size w w' := by
  obtain ⟨g1, nb⟩ := one_new w (.cells #[.int .i64 idle, .int .i64 data, .bool hg, .bool ho, .bool hr, .slice ga gm gc, .slice oa om oc, .slice ra rm rc, .int .i64 cho, .slice va vm vc] 27)
  have C0 := Lib.hid (right_any idle data cho hg ho hr ga oa ra va gm om rm vm gc oc rc vc vz (w.alloc (.cells #[.int .i64 idle, .int .i64 data, .bool hg, .bool ho, .bool hr, .slice ga gm gc, .slice oa om oc, .slice ra rm rc, .int .i64 cho, .slice va vm vc] 27)) hv lg lo lr lv ((hrow.below nb).more (by simp)))
  rw [hR] at C0
  have cA := cells10 g1
  have NB := Lib.hid nb
  clear hrow hR g1 nb hv
  go_enter Tryd.func7, Tryd.ntmps7
  go_wp2_with fail
  refine C0.out.mono ?_
  rintro e w2 ⟨rfl, hb⟩
  have B2 := Lib.hid (NB.out.trans (hb.mono (by simp)))
  clear hb cA C0
  go_wp2
  go_ret
  exact ⟨rfl, B2.out⟩

theorem same_any (a b : Option Addr) (xs ys : List Int) (m k c d B : Nat) (w : World) (hm : xs.length = m) (hk : ys.length = k) (hmc : m ≤ c) (hkd : k ≤ d) (hl : m ≤ 1000000) (hl2 : k ≤ 1000000)
    (ha : Row w B a (ints .u8 xs)) (hb : Row w B b (ints .u8 ys)) :
    Calls Tryd.prog 11 #[.slice a m c, .slice b k d] w fun e w' => e = .returned (.bool (decide (xs = ys))) ∧ Drawn w w' := by
  by_cases hmk : ¬ m = k
  · have h1 : ((m : Int) != (k : Int)) = true := by simp; omega
    have e1 : decide (xs = ys) = false := by simp; intro e; apply hmk; rw [← hm, ← hk, e]
    rw [e1]
    clear e1 hmk hm hk ha hb
    go_enter Tryd.func11, Tryd.ntmps11
    go_wp2
    go_ret
    exact ⟨rfl, Drawn.refl _⟩
  replace hmk := Decidable.not_not.1 hmk
  subst hmk
  obtain ⟨E, hE⟩ : ∃ E, decide (xs = ys) = E := ⟨_, rfl⟩
  have e1 : xs = ys → E = true := fun h => by rw [← hE]; simpa using h
  have e2 : xs ≠ ys → E = false := fun h => by rw [← hE]; simpa using h
  rw [hE]
  have E1 := Lib.hid (And.intro e1 e2); clear e1 e2 hE
  have h1 : ((m : Int) != (m : Int)) = false := by simp
  have HM := Lib.hid hm; clear hm
  have HK := Lib.hid hk; clear hk
  have HA := Lib.hid ha; clear ha
  have HB := Lib.hid hb; clear hb
  go_enter Tryd.func11, Tryd.ntmps11
  go_wp2
  go_loopw [5] (fun i wr => ∃ n : Nat, i = .int .i64 n ∧ n ≤ m ∧ xs.take n = ys.take n ∧ Drawn w wr) (fun i _ => m - (intOf i).toNat)
  case atStart => exact ⟨0, by simp, Nat.zero_le _, by simp, Drawn.refl _⟩
  case round =>
    obtain ⟨n, rfl, hn, heq, hd⟩ := hrel
    have HEQ := Lib.hid heq; clear heq
    have HD := Lib.hid hd; clear hd
    by_cases hlt : n < m
    · obtain ⟨b1, o1, rfl, _, r1⟩ := HA.out.ints (by intro e; have := HM.out; rw [e] at this; simp at this; omega)
      obtain ⟨b2, o2, rfl, _, r2⟩ := HB.out.ints (by intro e; have := HK.out; rw [e] at this; simp at this; omega)
      obtain ⟨x, hx⟩ : ∃ x, xs[n]? = some x := ⟨_, List.getElem?_eq_getElem (by have := HM.out; omega)⟩
      obtain ⟨y, hy⟩ : ∃ y, ys[n]? = some y := ⟨_, List.getElem?_eq_getElem (by have := HK.out; omega)⟩
      have c1 : wr.cell? ⟨b1, o1 + n, none⟩ = some (.int .u8 x) := by have := r1 n (by have := HM.out; omega); rw [hx] at this; exact (HD.out.cell _).trans this
      have c2 : wr.cell? ⟨b2, o2 + n, none⟩ = some (.int .u8 y) := by have := r2 n (by have := HK.out; omega); rw [hy] at this; exact (HD.out.cell _).trans this
      have hxt : xs.take (n + 1) = xs.take n ++ [x] := by rw [List.take_add_one, hx]; rfl
      have hyt : ys.take (n + 1) = ys.take n ++ [y] := by rw [List.take_add_one, hy]; rfl
      have HXT := Lib.hid (And.intro hxt hyt); clear hxt hyt
      have HXY := Lib.hid (And.intro hx hy); clear hx hy
      have i1 : (n : Int) < (m : Int) := by omega
      have i0 : (0 : Int) ≤ (n : Int) := by omega
      have i2 : (m : Int) ≤ (c : Int) := by omega
      have i3 : (m : Int) ≤ (d : Int) := by omega
      clear r1 r2
      by_cases hxy : x = y
      · subst hxy
        have d1 : ((x : Int) != x) = false := by simp
        go_wp2
        go_quiet (fail)
        go_wp2
        go_roundw
        case rel => exact ⟨n + 1, by simp, by omega, by rw [HXT.out.1, HXT.out.2, HEQ.out], HD.out.drewN _⟩
        case measure => simp [intOf]; omega
      · have d1 : ((x : Int) != y) = true := by simpa using hxy
        obtain rfl : E = false := E1.out.2 (fun h => hxy (by have h1 := HXY.out.1; have h2 := HXY.out.2; rw [h, h2] at h1; exact (Option.some.inj h1).symm))
        clear hxy
        go_wp2
        go_quiet (fail)
        go_wp2
        go_ret
        exact ⟨rfl, HD.out.drewN _⟩
    · have i1 : ¬ (n : Int) < (m : Int) := by omega
      have h1 := HEQ.out
      rw [List.take_of_length_le (by have := HM.out; omega), List.take_of_length_le (by have := HK.out; omega)] at h1
      obtain rfl : E = true := E1.out.1 h1
      clear h1
      go_wp2
      go_ret
      exact ⟨rfl, HD.out⟩

set_option maxRecDepth 100000 in
theorem awake_true (w : World) (hT : TabOk w) : Calls Tryd.prog 10 #[] w fun e w' => e = .returned (.bool true) ∧ Below w.heap.size w w' := by
  have hg := heap_alloc_new w (.cells #[.int .i64 1] 3)
  have r1 : Row (w.alloc (.cells #[.int .i64 1] 3)) (w.alloc (.cells #[.int .i64 1] 3)).heap.size (some ⟨w.heap.size, 0, none⟩) (ints .i64 [1]) := by
    rw [World.size_alloc]
    exact row_one w (.int .i64 1) 3
  have b1 : Below w.heap.size w (w.alloc (.cells #[.int .i64 1] 3)) := (Below.refl _ _).alloc (Nat.le_refl _) _
  have W1 := Lib.hid (write_yes 5 6 1 false false false none none none (some ⟨w.heap.size, 0, none⟩) 0 0 0 1 0 0 0 1 [] [] [] [1] (w.alloc (.cells #[.int .i64 1] 3)) rfl rfl rfl rfl (by omega) (by omega) (by omega) (by omega) (Row.nil _ _ _) (Row.nil _ _ _) (Row.nil _ _ _) r1 (hT.below b1) (by decide) (by omega) (by intro x hx; simp at hx; omega))
  have BB := Lib.hid b1
  clear hg r1 b1 hT
  rw [show writeT 5 6 1 false false false [] [] [] [1] = [1, 1, 5, 4, 1, 6, 17, 8, 0, 0, 0, 1, 0, 0, 0, 1] by decide] at W1
  go_enter Tryd.func10, Tryd.ntmps10
  go_wp2_with fail
  refine W1.out.mono ?_
  rintro e w2 ⟨v, rfl, hc, hb⟩
  obtain ⟨p, q, rfl, hq, ho⟩ := hc
  have HQ := Lib.hid hq
  have RO := Lib.hid (Row.of_own ho)
  have B2 := Lib.hid (BB.out.trans (hb.mono BB.out.size))
  clear hq ho hb W1
  go_wp2_with fail
  have hg := heap_alloc_new w2 (.cells (ints .u8 [1, 1, 5, 4, 1, 6, 17, 8, 0, 0, 0, 1, 0, 0, 0, 1]).toArray 5)
  have ra := row_block4 hg
  have rb := (RO.out.alloc (Nat.le_refl _) (.cells (ints .u8 [1, 1, 5, 4, 1, 6, 17, 8, 0, 0, 0, 1, 0, 0, 0, 1]).toArray 5)).more (Nat.le_succ _)
  refine (same_any p (some ⟨w2.heap.size, 0, none⟩) [1, 1, 5, 4, 1, 6, 17, 8, 0, 0, 0, 1, 0, 0, 0, 1] [1, 1, 5, 4, 1, 6, 17, 8, 0, 0, 0, 1, 0, 0, 0, 1] 16 16 q 16 (w2.heap.size + 1) _ rfl rfl HQ.out (by omega) (by omega) (by omega) rb (by simpa using ra)).mono ?_
  rintro e w3 ⟨rfl, hd⟩
  have D3 := Lib.hid hd
  clear hd ra rb hg
  simp only [decide_true]
  go_wp2
  go_ret
  exact ⟨rfl, (B2.out.alloc B2.out.size _).trans (D3.out.below _)⟩

def lightT (gm om rm vm : Nat) : Bool := decide (gm ≤ 50) && (decide (om ≤ 50) && (decide (rm ≤ 50) && decide (vm ≤ 30)))
theorem light_any (idle data cho : Int) (hg ho hr : Bool) (ga oa ra va : Option Addr) (gm om rm vm gc oc rc vc : Nat) (w : World) : Calls Tryd.prog 5 #[.agg #[.int .i64 idle, .int .i64 data, .bool hg, .bool ho, .bool hr, .slice ga gm gc, .slice oa om oc, .slice ra rm rc, .int .i64 cho, .slice va vm vc]] w fun e w' => e = .returned (.bool (lightT gm om rm vm)) ∧ Below w.heap.size w w' := by
  obtain ⟨g1, nb⟩ := one_new w (.cells #[.int .i64 idle, .int .i64 data, .bool hg, .bool ho, .bool hr, .slice ga gm gc, .slice oa om oc, .slice ra rm rc, .int .i64 cho, .slice va vm vc] 25)
  have cA := cells10 g1
  have NB := Lib.hid nb
  clear g1 nb
  by_cases h0 : ¬ gm ≤ 50
  · have d0 : decide ((gm : Int) ≤ 50) = false := by simp; omega
    have e : lightT gm om rm vm = false := by simp [lightT, h0]
    rw [e]
    clear e h0
    go_enter Tryd.func5, Tryd.ntmps5
    go_wp2
    go_ret
    exact ⟨rfl, NB.out⟩
  have d0 : decide ((gm : Int) ≤ 50) = true := by simp; omega
  by_cases h1 : ¬ om ≤ 50
  · have d1 : decide ((om : Int) ≤ 50) = false := by simp; omega
    have e : lightT gm om rm vm = false := by simp [lightT, h1]
    rw [e]
    clear e h1
    go_enter Tryd.func5, Tryd.ntmps5
    go_wp2
    go_ret
    exact ⟨rfl, NB.out⟩
  have d1 : decide ((om : Int) ≤ 50) = true := by simp; omega
  by_cases h2 : ¬ rm ≤ 50
  · have d2 : decide ((rm : Int) ≤ 50) = false := by simp; omega
    have e : lightT gm om rm vm = false := by simp [lightT, h2]
    rw [e]
    clear e h2
    go_enter Tryd.func5, Tryd.ntmps5
    go_wp2
    go_ret
    exact ⟨rfl, NB.out⟩
  have d2 : decide ((rm : Int) ≤ 50) = true := by simp; omega
  by_cases h3 : ¬ vm ≤ 30
  · have d3 : decide ((vm : Int) ≤ 30) = false := by simp; omega
    have e : lightT gm om rm vm = false := by simp [lightT, h3]
    rw [e]
    clear e h3
    go_enter Tryd.func5, Tryd.ntmps5
    go_wp2
    go_ret
    exact ⟨rfl, NB.out⟩
  have d3 : decide ((vm : Int) ≤ 30) = true := by simp; omega
  have e : lightT gm om rm vm = true := by simp [lightT]; omega
  rw [e]
  clear e h0 h1 h2 h3
  go_enter Tryd.func5, Tryd.ntmps5
  go_wp2
  go_ret
  exact ⟨rfl, NB.out⟩
end Go.Proofs.YtaplndehoenghaaDoor
