/- The law ParamsSame, walked. (Printed by wip/gen/mk_pslaw.py.) -/
import Derived.Test.YtaplndehoenghaaDoorPSFacts
import Derived.Test.YtaplndehoenghaaDoorPSame
import Derived.Test.YtaplndehoenghaaDoorPToldC
namespace Go.Proofs.YtaplndehoenghaaDoor
open Go.RowKit
set_option linter.unusedVariables false
attribute [local go_sem ↓] app_hide

theorem size43 {cs : Array Value} (h : cs.size = 43) : ∃ y0 y1 y2 y3 y4 y5 y6 y7 y8 y9 y10 y11 y12 y13 y14 y15 y16 y17 y18 y19 y20 y21 y22 y23 y24 y25 y26 y27 y28 y29 y30 y31 y32 y33 y34 y35 y36 y37 y38 y39 y40 y41 y42, cs = List.toArray (y0 :: y1 :: y2 :: y3 :: y4 :: y5 :: y6 :: y7 :: y8 :: y9 :: y10 :: y11 :: y12 :: y13 :: y14 :: y15 :: y16 :: y17 :: y18 :: y19 :: y20 :: y21 :: y22 :: y23 :: y24 :: y25 :: y26 :: y27 :: y28 :: y29 :: y30 :: y31 :: y32 :: y33 :: y34 :: y35 :: y36 :: y37 :: y38 :: y39 :: y40 :: y41 :: y42 :: []) := by
  obtain ⟨l⟩ := cs
  match l, h with
  | y0 :: y1 :: y2 :: y3 :: y4 :: y5 :: y6 :: y7 :: y8 :: y9 :: y10 :: y11 :: y12 :: y13 :: y14 :: y15 :: y16 :: y17 :: y18 :: y19 :: y20 :: y21 :: y22 :: y23 :: y24 :: y25 :: y26 :: y27 :: y28 :: y29 :: y30 :: y31 :: y32 :: y33 :: y34 :: y35 :: y36 :: y37 :: y38 :: y39 :: y40 :: y41 :: y42 :: [], _ => exact ⟨y0, y1, y2, y3, y4, y5, y6, y7, y8, y9, y10, y11, y12, y13, y14, y15, y16, y17, y18, y19, y20, y21, y22, y23, y24, y25, y26, y27, y28, y29, y30, y31, y32, y33, y34, y35, y36, y37, y38, y39, y40, y41, y42, rfl⟩

/-- What the fourth region's operations give. -/
def c4 (X Y B : Value) (S : Bool) : Nat → Value
  | 0 => X
  | 1 => Y
  | 2 => .bool S
  | 3 => X
  | 4 => B
  | 5 => .bool S
  | 6 => .bool true
  | 7 => .bool true
  | 8 => Y
  | 9 => X
  | 10 => .bool S
  | 11 => X
  | 12 => Y
  | 13 => .bool S
  | 14 => .bool true
  | 15 => .bool true
  | 16 => .bool true
  | 17 => X
  | 18 => X
  | 19 => .bool true
  | 20 => .bool true
  | 21 => .bool true
  | 22 => .bool true
  | 23 => .bool true
  | 24 => .bool true
  | _ => undef

set_option maxRecDepth 100000 in
theorem paramsSame_bigA (idle data cho : Int) (hg ho hr : Bool) (ga oa ra va : Option Addr) (gm om rm vm gc oc rc vc : Nat) (idle' data' cho' : Int) (hg' ho' hr' : Bool) (ga' oa' ra' va' : Option Addr) (gm' om' rm' vm' gc' oc' rc' vc' : Nat) (w : World) (h : lightT gm om rm vm = false) :
    Calls Tryd.prog 4 #[.agg #[.int .i64 idle, .int .i64 data, .bool hg, .bool ho, .bool hr, .slice ga gm gc, .slice oa om oc, .slice ra rm rc, .int .i64 cho, .slice va vm vc], .agg #[.int .i64 idle', .int .i64 data', .bool hg', .bool ho', .bool hr', .slice ga' gm' gc', .slice oa' om' oc', .slice ra' rm' rc', .int .i64 cho', .slice va' vm' vc']] w fun e w' => e = .returned (.bool true) ∧ Below w.heap.size w w' := by
  obtain ⟨g1, g2, nb⟩ := two_new w (.cells #[.int .i64 idle, .int .i64 data, .bool hg, .bool ho, .bool hr, .slice ga gm gc, .slice oa om oc, .slice ra rm rc, .int .i64 cho, .slice va vm vc] 25) (.cells #[.int .i64 idle', .int .i64 data', .bool hg', .bool ho', .bool hr', .slice ga' gm' gc', .slice oa' om' oc', .slice ra' rm' rc', .int .i64 cho', .slice va' vm' vc'] 25)
  have cA := cells10 g1
  have cB := cells10 g2
  obtain ⟨W0, hW0⟩ : ∃ W0, (w.alloc (.cells #[.int .i64 idle, .int .i64 data, .bool hg, .bool ho, .bool hr, .slice ga gm gc, .slice oa om oc, .slice ra rm rc, .int .i64 cho, .slice va vm vc] 25)).alloc (.cells #[.int .i64 idle', .int .i64 data', .bool hg', .bool ho', .bool hr', .slice ga' gm' gc', .slice oa' om' oc', .slice ra' rm' rc', .int .i64 cho', .slice va' vm' vc'] 25) = W0 := ⟨_, rfl⟩
  rw [hW0] at nb
  have C := Lib.hid (light_any idle data cho hg ho hr ga oa ra va gm om rm vm gc oc rc vc W0)
  rw [h] at C
  have NB := Lib.hid nb
  have HW0 := Lib.hid hW0
  clear g1 g2 nb h hW0
  go_enter Tryd.func4, Tryd.ntmps4
  go_wp2_with fail
  rw [HW0.out]
  refine C.out.mono ?_
  rintro e w2 ⟨rfl, hb⟩
  have B2 := Lib.hid (NB.out.trans (hb.mono NB.out.size))
  clear hb cA cB C
  go_wp2
  go_ret
  exact ⟨rfl, B2.out⟩

set_option maxRecDepth 100000 in
theorem paramsSame_bigB (idle data cho : Int) (hg ho hr : Bool) (ga oa ra va : Option Addr) (gm om rm vm gc oc rc vc : Nat) (idle' data' cho' : Int) (hg' ho' hr' : Bool) (ga' oa' ra' va' : Option Addr) (gm' om' rm' vm' gc' oc' rc' vc' : Nat) (w : World) (h : lightT gm om rm vm = true) (h2 : lightT gm' om' rm' vm' = false) :
    Calls Tryd.prog 4 #[.agg #[.int .i64 idle, .int .i64 data, .bool hg, .bool ho, .bool hr, .slice ga gm gc, .slice oa om oc, .slice ra rm rc, .int .i64 cho, .slice va vm vc], .agg #[.int .i64 idle', .int .i64 data', .bool hg', .bool ho', .bool hr', .slice ga' gm' gc', .slice oa' om' oc', .slice ra' rm' rc', .int .i64 cho', .slice va' vm' vc']] w fun e w' => e = .returned (.bool true) ∧ Below w.heap.size w w' := by
  obtain ⟨g1, g2, nb⟩ := two_new w (.cells #[.int .i64 idle, .int .i64 data, .bool hg, .bool ho, .bool hr, .slice ga gm gc, .slice oa om oc, .slice ra rm rc, .int .i64 cho, .slice va vm vc] 25) (.cells #[.int .i64 idle', .int .i64 data', .bool hg', .bool ho', .bool hr', .slice ga' gm' gc', .slice oa' om' oc', .slice ra' rm' rc', .int .i64 cho', .slice va' vm' vc'] 25)
  have cA := cells10 g1
  have cB := cells10 g2
  obtain ⟨W0, hW0⟩ : ∃ W0, (w.alloc (.cells #[.int .i64 idle, .int .i64 data, .bool hg, .bool ho, .bool hr, .slice ga gm gc, .slice oa om oc, .slice ra rm rc, .int .i64 cho, .slice va vm vc] 25)).alloc (.cells #[.int .i64 idle', .int .i64 data', .bool hg', .bool ho', .bool hr', .slice ga' gm' gc', .slice oa' om' oc', .slice ra' rm' rc', .int .i64 cho', .slice va' vm' vc'] 25) = W0 := ⟨_, rfl⟩
  have hs : w.heap.size + 1 < W0.heap.size := by rw [← hW0]; simp
  rw [hW0] at nb g1 g2
  have C := Lib.hid (light_any idle data cho hg ho hr ga oa ra va gm om rm vm gc oc rc vc W0)
  rw [h] at C
  have NB := Lib.hid nb
  have HW0 := Lib.hid hW0
  have G2 := Lib.hid g2
  have HS := Lib.hid hs
  clear g1 g2 nb h hW0 hs
  go_enter Tryd.func4, Tryd.ntmps4
  go_wp2_with fail
  rw [HW0.out]
  refine C.out.mono ?_
  rintro e w2 ⟨rfl, hb⟩
  have B2 := Lib.hid (NB.out.trans (hb.mono NB.out.size))
  have C2 := Lib.hid (light_any idle' data' cho' hg' ho' hr' ga' oa' ra' va' gm' om' rm' vm' gc' oc' rc' vc' w2)
  rw [h2] at C2
  have g2 := (hb.block _ HS.out).trans G2.out
  clear hb cA cB C h2
  have cB := cells10 g2
  clear g2
  go_wp2_with fail
  refine C2.out.mono ?_
  rintro e w3 ⟨rfl, hb⟩
  have B3 := Lib.hid (B2.out.trans (hb.mono B2.out.size))
  clear hb cB
  go_wp2
  go_ret
  exact ⟨rfl, B3.out⟩

set_option maxRecDepth 100000 in
set_option maxHeartbeats 4000000 in
theorem paramsSame_small (idle data cho : Int) (hg ho hr : Bool) (ga oa ra va : Option Addr) (gm om rm vm gc oc rc vc : Nat) (idle' data' cho' : Int) (hg' ho' hr' : Bool) (ga' oa' ra' va' : Option Addr) (gm' om' rm' vm' gc' oc' rc' vc' : Nat) (gz oz rz vz gz' oz' rz' vz' : List Int) (w : World) (eg : gz.length = gm) (lg : gm ≤ 50) (cg : gm ≤ gc) (rg : Row w w.heap.size ga (ints .u8 gz)) (eo : oz.length = om) (lo : om ≤ 50) (co : om ≤ oc) (ro : Row w w.heap.size oa (ints .u8 oz)) (er : rz.length = rm) (lr : rm ≤ 50) (cr : rm ≤ rc) (rr : Row w w.heap.size ra (ints .u8 rz)) (ev : vz.length = vm) (lv : vm ≤ 30) (cv : vm ≤ vc) (rv : Row w w.heap.size va (ints .i64 vz)) (eg' : gz'.length = gm') (lg' : gm' ≤ 50) (cg' : gm' ≤ gc') (rg' : Row w w.heap.size ga' (ints .u8 gz')) (eo' : oz'.length = om') (lo' : om' ≤ 50) (co' : om' ≤ oc') (ro' : Row w w.heap.size oa' (ints .u8 oz')) (er' : rz'.length = rm') (lr' : rm' ≤ 50) (cr' : rm' ≤ rc') (rr' : Row w w.heap.size ra' (ints .u8 rz')) (ev' : vz'.length = vm') (lv' : vm' ≤ 30) (cv' : vm' ≤ vc') (rv' : Row w w.heap.size va' (ints .i64 vz')) (ug : ∀ z ∈ gz, 0 ≤ z ∧ z < 256) (uo : ∀ z ∈ oz, 0 ≤ z ∧ z < 256) (ur : ∀ z ∈ rz, 0 ≤ z ∧ z < 256) (ug' : ∀ z ∈ gz', 0 ≤ z ∧ z < 256) (uo' : ∀ z ∈ oz', 0 ≤ z ∧ z < 256) (ur' : ∀ z ∈ rz', 0 ≤ z ∧ z < 256) (hT : TabOk w) (hl1 : lightT gm om rm vm = true) (hl2 : lightT gm' om' rm' vm' = true) :
    Calls Tryd.prog 4 #[.agg #[.int .i64 idle, .int .i64 data, .bool hg, .bool ho, .bool hr, .slice ga gm gc, .slice oa om oc, .slice ra rm rc, .int .i64 cho, .slice va vm vc], .agg #[.int .i64 idle', .int .i64 data', .bool hg', .bool ho', .bool hr', .slice ga' gm' gc', .slice oa' om' oc', .slice ra' rm' rc', .int .i64 cho', .slice va' vm' vc']] w fun e w' => e = .returned (.bool true) ∧ Below w.heap.size w w' := by
  obtain ⟨g1, g2, nb⟩ := two_new w (.cells #[.int .i64 idle, .int .i64 data, .bool hg, .bool ho, .bool hr, .slice ga gm gc, .slice oa om oc, .slice ra rm rc, .int .i64 cho, .slice va vm vc] 25) (.cells #[.int .i64 idle', .int .i64 data', .bool hg', .bool ho', .bool hr', .slice ga' gm' gc', .slice oa' om' oc', .slice ra' rm' rc', .int .i64 cho', .slice va' vm' vc'] 25)
  have cA := cells10 g1
  have cB := cells10 g2
  obtain ⟨W0, hW0⟩ : ∃ W0, (w.alloc (.cells #[.int .i64 idle, .int .i64 data, .bool hg, .bool ho, .bool hr, .slice ga gm gc, .slice oa om oc, .slice ra rm rc, .int .i64 cho, .slice va vm vc] 25)).alloc (.cells #[.int .i64 idle', .int .i64 data', .bool hg', .bool ho', .bool hr', .slice ga' gm' gc', .slice oa' om' oc', .slice ra' rm' rc', .int .i64 cho', .slice va' vm' vc'] 25) = W0 := ⟨_, rfl⟩
  have hs : w.heap.size + 1 < W0.heap.size := by rw [← hW0]; simp
  rw [hW0] at nb g1 g2
  have CL := Lib.hid (light_any idle data cho hg ho hr ga oa ra va gm om rm vm gc oc rc vc W0)
  rw [hl1] at CL
  have NB := Lib.hid nb
  have HW0 := Lib.hid hW0
  have G1 := Lib.hid g1
  have G2 := Lib.hid g2
  have HS := Lib.hid hs
  have CP := Lib.hid (show (gm ≤ gc ∧ om ≤ oc ∧ rm ≤ rc ∧ vm ≤ vc) ∧ (gm' ≤ gc' ∧ om' ≤ oc' ∧ rm' ≤ rc' ∧ vm' ≤ vc') from ⟨⟨cg, co, cr, cv⟩, ⟨cg', co', cr', cv'⟩⟩)
  have EE := Lib.hid (show (gz.length = gm ∧ oz.length = om ∧ rz.length = rm ∧ vz.length = vm) ∧ (gz'.length = gm' ∧ oz'.length = om' ∧ rz'.length = rm' ∧ vz'.length = vm') from ⟨⟨eg, eo, er, ev⟩, ⟨eg', eo', er', ev'⟩⟩)
  have LL := Lib.hid (show (gm ≤ 50 ∧ om ≤ 50 ∧ rm ≤ 50 ∧ vm ≤ 30) ∧ (gm' ≤ 50 ∧ om' ≤ 50 ∧ rm' ≤ 50 ∧ vm' ≤ 30) from ⟨⟨lg, lo, lr, lv⟩, ⟨lg', lo', lr', lv'⟩⟩)
  have UU := Lib.hid (And.intro (And.intro ug (And.intro uo ur)) (And.intro ug' (And.intro uo' ur')))
  have RA := Lib.hid (fun (W : World) (hb : Below w.heap.size w W) => And.intro ((rg.below hb).more hb.size) (And.intro ((ro.below hb).more hb.size) (And.intro ((rr.below hb).more hb.size) ((rv.below hb).more hb.size))))
  have RB := Lib.hid (fun (W : World) (hb : Below w.heap.size w W) => And.intro ((rg'.below hb).more hb.size) (And.intro ((ro'.below hb).more hb.size) (And.intro ((rr'.below hb).more hb.size) ((rv'.below hb).more hb.size))))
  have TB := Lib.hid (fun (W : World) (hb : Below w.heap.size w W) => hT.below hb)
  clear g1 g2 nb hl1 hW0 hs hT eg lg cg rg eo lo co ro er lr cr rr ev lv cv rv eg' lg' cg' rg' eo' lo' co' ro' er' lr' cr' rr' ev' lv' cv' rv' ug uo ur ug' uo' ur'
  go_enter Tryd.func4, Tryd.ntmps4
  go_wp2_with fail
  rw [HW0.out]
  refine CL.out.mono ?_
  rintro e w2 ⟨rfl, hb⟩
  have B2 := Lib.hid (NB.out.trans (hb.mono NB.out.size))
  have K2 := Lib.hid hb
  have C2 := Lib.hid (light_any idle' data' cho' hg' ho' hr' ga' oa' ra' va' gm' om' rm' vm' gc' oc' rc' vc' w2)
  rw [hl2] at C2
  clear cA cB CL hl2
  have cB := cells10 ((hb.block _ HS.out).trans G2.out)
  clear hb
  go_wp2_with fail
  refine C2.out.mono ?_
  rintro e W2 ⟨rfl, hb⟩
  have B3 := Lib.hid (B2.out.trans (hb.mono B2.out.size))
  have K3 := Lib.hid (K2.out.trans (hb.mono K2.out.size))
  have Z3 := Lib.hid (show w.heap.size + 1 < W2.heap.size by have h1 := K3.out.size; have h2 := HS.out; omega)
  have BX := Lib.hid (fun (w1 : World) (hb : Below W2.heap.size W2 w1) => And.intro ((hb.block w.heap.size (by have := Z3.out; omega)).trans ((K3.out.block _ (by have := HS.out; omega)).trans G1.out)) ((hb.block (w.heap.size + 1) Z3.out).trans ((K3.out.block _ HS.out).trans G2.out)))
  clear hb cB C2 B2 K2 G1 G2 NB HW0 K3
  have C1 := Lib.hid (fun (W : World) (hb : Below W2.heap.size W2 W) => OfC.of_copies idle data hg ho hr ga gz gm gc oa oz om oc ra rz rm rc cho va vz vm vc W EE.out.1.1 (by have := LL.out; omega) (RA.out W (B3.out.trans (hb.mono B3.out.size))).1 EE.out.1.2.1 (by have := LL.out; omega) (RA.out W (B3.out.trans (hb.mono B3.out.size))).2.1 EE.out.1.2.2.1 (by have := LL.out; omega) (RA.out W (B3.out.trans (hb.mono B3.out.size))).2.2.1 EE.out.1.2.2.2 (by have := LL.out; omega) (RA.out W (B3.out.trans (hb.mono B3.out.size))).2.2.2)
  have C3 := Lib.hid (fun (W : World) (hb : Below W2.heap.size W2 W) => OfC.of_copies idle' data' hg' ho' hr' ga' gz' gm' gc' oa' oz' om' oc' ra' rz' rm' rc' cho' va' vz' vm' vc' W EE.out.2.1 (by have := LL.out; omega) (RB.out W (B3.out.trans (hb.mono B3.out.size))).1 EE.out.2.2.1 (by have := LL.out; omega) (RB.out W (B3.out.trans (hb.mono B3.out.size))).2.1 EE.out.2.2.2.1 (by have := LL.out; omega) (RB.out W (B3.out.trans (hb.mono B3.out.size))).2.2.1 EE.out.2.2.2.2 (by have := LL.out; omega) (RB.out W (B3.out.trans (hb.mono B3.out.size))).2.2.2)
  go_wp2_with fail
  refine wp_region_ready_all 0 8 (fun j => decide (j < 5)) (sF W2.heap.size (.agg #[.int .i64 idle, .int .i64 data, .bool hg, .bool ho, .bool hr, .slice ga gm gc, .slice oa om oc, .slice ra rm rc, .int .i64 cho, .slice va vm vc]) (.agg #[.int .i64 idle', .int .i64 data', .bool hg', .bool ho', .bool hr', .slice ga' gm' gc', .slice oa' om' oc', .slice ra' rm' rc', .int .i64 cho', .slice va' vm' vc']) idle data cho hg ho hr gm om rm vm gz oz rz vz idle' data' cho' hg' ho' hr' gm' om' rm' vm' gz' oz' rz' vz') sN (fun w1 => Below W2.heap.size W2 w1) rfl (by kernel_rfl) rfl (by kernel_rfl) (by kernel_rfl) (by kernel_rfl) ((Drawn.refl _).drew.below _) ?_ ?_ ?_
  · intro j hj
    rcases j with _ | _ | _ | _ | _ | _ | j
    · trivial
    · trivial
    · trivial
    · trivial
    · rfl
    · rfl
    · trivial
  · refine ⟨⟨⟨⟨⟨⟨⟨⟨trivial, ?_⟩, ?_⟩, ?_⟩, ?_⟩, ?_⟩, ?_⟩, ?_⟩, ?_⟩
    · refine invB_step (m := 0) (o := ⟨some 15, _, _, _, _, _⟩) (by kernel_rfl) (by kernel_rfl) rfl rfl fun α w1 hG hN hfix hdep hall K hK => ?_
      have h1 : α.tmps.getD 2 undef = _ := hfix 2 rfl
      have cc := cells10 (BX.out w1 hG).1
      have HK1 := Lib.hid (hK (.agg #[.int .i64 idle, .int .i64 data, .bool hg, .bool ho, .bool hr, .slice ga gm gc, .slice oa om oc, .slice ra rm rc, .int .i64 cho, .slice va vm vc]) w1 hG (fun j hj hw h => sF_pres (Below.refl _ _) (fun e => absurd e (by decide)) j hj (fun h6 e => absurd e (by decide)) (fun h7 e => absurd e (by decide)) h) (fun j hj _ h => sN_pres j hj h) (updAt_same _ _ _)); clear hK hG hN hfix hdep hall
      go_simp
      exact HK1.out
    · refine invB_step (m := 0) (o := ⟨some 16, _, _, _, _, _⟩) (by kernel_rfl) (by kernel_rfl) rfl rfl fun α w1 hG hN hfix hdep hall K hK => ?_
      have h1 : α.tmps.getD 15 undef = .agg #[.int .i64 idle, .int .i64 data, .bool hg, .bool ho, .bool hr, .slice ga gm gc, .slice oa om oc, .slice ra rm rc, .int .i64 cho, .slice va vm vc] := hdep 0 (by kernel_rfl)
      have CC := Lib.hid (C1.out w1 hG)
      have HK1 := Lib.hid hK; have HG := Lib.hid hG; clear hK hG hN hfix hdep hall
      simp only [Array.getD_eq_getD_getElem?] at h1
      go_simp
      refine CC.out.mono ?_
      rintro e w2 ⟨gS, oS, rS, vsS, rfl, k1, k2, k3, k4, hb⟩
      refine HK1.out _ _ (HG.out.trans (hb.mono HG.out.size)) (fun j hj hw h => sF_pres hb (fun e => absurd e (by decide)) j hj (fun h6 e => absurd e (by decide)) (fun h7 e => absurd e (by decide)) h) (fun j hj _ h => sN_pres j hj h) ?_
      show IsPar _ _ _ _ _ _ _ _ _ _ _ _ _ _ _ (updAt _ 1 _ 1) w2
      rw [updAt_same]
      exact ⟨_, _, _, _, rfl, k1.base HG.out.size, k2.base HG.out.size, k3.base HG.out.size, k4.base HG.out.size⟩
    · refine invB_step (m := 0) (o := ⟨some 17, _, _, _, _, _⟩) (by kernel_rfl) (by kernel_rfl) rfl rfl fun α w1 hG hN hfix hdep hall K hK => ?_
      have h1 : α.tmps.getD 3 undef = _ := hfix 3 rfl
      have cc := cells10 (BX.out w1 hG).2
      have HK1 := Lib.hid (hK (.agg #[.int .i64 idle', .int .i64 data', .bool hg', .bool ho', .bool hr', .slice ga' gm' gc', .slice oa' om' oc', .slice ra' rm' rc', .int .i64 cho', .slice va' vm' vc']) w1 hG (fun j hj hw h => sF_pres (Below.refl _ _) (fun e => absurd e (by decide)) j hj (fun h6 e => absurd e (by decide)) (fun h7 e => absurd e (by decide)) h) (fun j hj _ h => sN_pres j hj h) (updAt_same _ _ _)); clear hK hG hN hfix hdep hall
      go_simp
      exact HK1.out
    · refine invB_step (m := 0) (o := ⟨some 18, _, _, _, _, _⟩) (by kernel_rfl) (by kernel_rfl) rfl rfl fun α w1 hG hN hfix hdep hall K hK => ?_
      have h1 : α.tmps.getD 17 undef = .agg #[.int .i64 idle', .int .i64 data', .bool hg', .bool ho', .bool hr', .slice ga' gm' gc', .slice oa' om' oc', .slice ra' rm' rc', .int .i64 cho', .slice va' vm' vc'] := hdep 2 (by kernel_rfl)
      have CC := Lib.hid (C3.out w1 hG)
      have HK1 := Lib.hid hK; have HG := Lib.hid hG; clear hK hG hN hfix hdep hall
      simp only [Array.getD_eq_getD_getElem?] at h1
      go_simp
      refine CC.out.mono ?_
      rintro e w2 ⟨gS, oS, rS, vsS, rfl, k1, k2, k3, k4, hb⟩
      refine HK1.out _ _ (HG.out.trans (hb.mono HG.out.size)) (fun j hj hw h => sF_pres hb (fun e => absurd e (by decide)) j hj (fun h6 e => absurd e (by decide)) (fun h7 e => absurd e (by decide)) h) (fun j hj _ h => sN_pres j hj h) ?_
      show IsPar _ _ _ _ _ _ _ _ _ _ _ _ _ _ _ (updAt _ 3 _ 3) w2
      rw [updAt_same]
      exact ⟨_, _, _, _, rfl, k1.base HG.out.size, k2.base HG.out.size, k3.base HG.out.size, k4.base HG.out.size⟩
    · refine invB_step (m := 0) (o := ⟨some 5, _, _, _, _, _⟩) (by kernel_rfl) (by kernel_rfl) rfl rfl fun α w1 hG hN hfix hdep hall K hK => ?_
      have hb : Below w1.heap.size w1 (w1.alloc (.cells #[.int .i64 0, .int .i64 0, .bool false, .bool false, .bool false, .slice none 0 0, .slice none 0 0, .slice none 0 0, .int .i64 0, .slice none 0 0] 27)) := (Below.refl _ _).alloc (Nat.le_refl _) _
      have hn : BoxAny w1.heap.size (w1.alloc (.cells #[.int .i64 0, .int .i64 0, .bool false, .bool false, .bool false, .slice none 0 0, .slice none 0 0, .slice none 0 0, .int .i64 0, .slice none 0 0] 27)) := ⟨_, rfl, heap_alloc_new _ _⟩
      have hne : α.tmps.getD 6 undef ≠ .pointer (some ⟨w1.heap.size, 0, none⟩) := by
        rcases hall 5 (Nat.lt_of_lt_of_eq (show 5 < 8 by decide) (by kernel_rfl)) with h | h
        · obtain ⟨R, e, _, hx⟩ := h
          rw [show α.tmps.getD 6 undef = .pointer (some ⟨R, 0, none⟩) from e]
          intro e2
          have hl := hx.lt
          injection e2 with e2
          injection e2 with e2
          injection e2 with e2
          omega
        · rw [show α.tmps.getD 6 undef = undef from h]; intro e2; cases e2
      have HK1 := Lib.hid (hK (.pointer (some ⟨w1.heap.size, 0, none⟩)) (w1.alloc (.cells #[.int .i64 0, .int .i64 0, .bool false, .bool false, .bool false, .slice none 0 0, .slice none 0 0, .slice none 0 0, .int .i64 0, .slice none 0 0] 27)) (hG.alloc hG.size _) (fun j hj hw h => sF_pres hb (fun e => absurd e (by decide)) j hj (fun h6 e => by subst h6; exact Bool.false_ne_true (hw.symm.trans (by kernel_rfl))) (fun h7 e => absurd e (by decide)) h) (fun j hj _ h => sN_pres j hj h) ⟨⟨w1.heap.size, updAt_same _ _ _, hG.size, hn⟩, by rw [updAt_same, updAt_other _ _ (by decide)]; exact hne⟩); clear hK hG hN hfix hdep hall hb hn hne
      go_simp
      exact HK1.out
    · refine invB_step (m := 0) (o := ⟨some 6, _, _, _, _, _⟩) (by kernel_rfl) (by kernel_rfl) rfl rfl fun α w1 hG hN hfix hdep hall K hK => ?_
      have hb : Below w1.heap.size w1 (w1.alloc (.cells #[.int .i64 0, .int .i64 0, .bool false, .bool false, .bool false, .slice none 0 0, .slice none 0 0, .slice none 0 0, .int .i64 0, .slice none 0 0] 27)) := (Below.refl _ _).alloc (Nat.le_refl _) _
      have hn : BoxAny w1.heap.size (w1.alloc (.cells #[.int .i64 0, .int .i64 0, .bool false, .bool false, .bool false, .slice none 0 0, .slice none 0 0, .slice none 0 0, .int .i64 0, .slice none 0 0] 27)) := ⟨_, rfl, heap_alloc_new _ _⟩
      have HK1 := Lib.hid (hK (.pointer (some ⟨w1.heap.size, 0, none⟩)) (w1.alloc (.cells #[.int .i64 0, .int .i64 0, .bool false, .bool false, .bool false, .slice none 0 0, .slice none 0 0, .slice none 0 0, .int .i64 0, .slice none 0 0] 27)) (hG.alloc hG.size _) (fun j hj hw h => sF_pres hb (fun _ => rfl) j hj (fun h6 e => absurd e (by decide)) (fun h7 e => by subst h7; exact Bool.false_ne_true (hw.symm.trans (by kernel_rfl))) h) (fun j hj _ h => sN_pres j hj h) ⟨w1.heap.size, updAt_same _ _ _, hG.size, hn⟩); clear hK hG hN hfix hdep hall hb hn
      go_simp
      exact HK1.out
    · refine invB_step (m := 0) (o := ⟨none, _, _, _, _, _⟩) (by kernel_rfl) (by kernel_rfl) rfl rfl fun α w1 hG hN hfix hdep hall K hK => ?_
      obtain ⟨⟨R, h1, hR, hx⟩, hne⟩ : (∃ R, α.tmps.getD 5 undef = .pointer (some ⟨R, 0, none⟩) ∧ _ ≤ R ∧ BoxAny R w1) ∧ _ := hdep 4 (by kernel_rfl)
      have hp : IsPar _ idle data cho hg ho hr gm om rm vm gz oz rz vz (α.tmps.getD 16 undef) w1 := hdep 1 (by kernel_rfl)
      obtain ⟨cs, hcs, hh⟩ := id hx
      obtain ⟨gS, oS, rS, vsS, e1, gK, oK, rK, vsK⟩ := id hp
      obtain ⟨hn, hk2⟩ := setAll_all (vs := [.int .i64 idle, .int .i64 data, .bool hg, .bool ho, .bool hr, gS, oS, rS, .int .i64 cho, vsS]) hcs hh
      obtain ⟨W5, hW5⟩ : ∃ W5, (setAll w1 R 0 [.int .i64 idle, .int .i64 data, .bool hg, .bool ho, .bool hr, gS, oS, rS, .int .i64 cho, vsS]) = W5 := ⟨_, rfl⟩
      rw [hW5] at hn hk2
      have HW5 := Lib.hid hW5; clear hW5
      have hbp : BoxPar _ idle data cho hg ho hr gm om rm vm gz oz rz vz R W5 := hp.store hk2 hx e1 hn
      have hG2 : Below W2.heap.size W2 W5 := Kept.below ((Kept.of_below' hG (fun _ => False)).then hk2 (fun i h1 h2 => by omega))
      have HK1 := Lib.hid (hK undef W5 hG2 (fun j hj hw h => sF_store (by decide) hk2 hx hbp.any j hj (fun h7 => by subst h7; exact Bool.false_ne_true (hw.symm.trans (by kernel_rfl))) (fun h6 R4 e4 => absurd h6 hj) h) (fun j hj _ h => sN_pres j hj h) ⟨R, (updAt_other _ _ (by decide)).trans h1, hR, hbp⟩)
      rw [← HW5.out] at HK1
      obtain ⟨gp, gq, rfl, -, -⟩ := gK
      obtain ⟨op, oq, rfl, -, -⟩ := oK
      obtain ⟨rp, rq, rfl, -, -⟩ := rK
      obtain ⟨vsp, vsq, rfl, -, -⟩ := vsK
      obtain ⟨y0, y1, y2, y3, y4, y5, y6, y7, y8, y9, rfl⟩ := size10 hcs
      have cc := cells10 hh
      have ff := unfrozen hh
      simp only [Array.getD_eq_getD_getElem?] at e1 h1
      clear hK hG hfix hdep hall hN hn hk2 hh hcs hbp hG2 hp hx hne hR
      go_simp
      exact HK1.out
    · refine invB_step (m := 0) (o := ⟨none, _, _, _, _, _⟩) (by kernel_rfl) (by kernel_rfl) rfl rfl fun α w1 hG hN hfix hdep hall K hK => ?_
      obtain ⟨R, h1, hR, hx⟩ : ∃ R, α.tmps.getD 6 undef = .pointer (some ⟨R, 0, none⟩) ∧ _ ≤ R ∧ BoxAny R w1 := hdep 5 (by kernel_rfl)
      obtain ⟨_, hne⟩ : (∃ R, α.tmps.getD 5 undef = .pointer (some ⟨R, 0, none⟩) ∧ _ ≤ R ∧ BoxAny R w1) ∧ (α.tmps.getD 6 undef : Value) ≠ α.tmps.getD 5 undef := hdep 4 (by kernel_rfl)
      have hp : IsPar _ idle' data' cho' hg' ho' hr' gm' om' rm' vm' gz' oz' rz' vz' (α.tmps.getD 18 undef) w1 := hdep 3 (by kernel_rfl)
      obtain ⟨cs, hcs, hh⟩ := id hx
      obtain ⟨gS, oS, rS, vsS, e1, gK, oK, rK, vsK⟩ := id hp
      obtain ⟨hn, hk2⟩ := setAll_all (vs := [.int .i64 idle', .int .i64 data', .bool hg', .bool ho', .bool hr', gS, oS, rS, .int .i64 cho', vsS]) hcs hh
      obtain ⟨W5, hW5⟩ : ∃ W5, (setAll w1 R 0 [.int .i64 idle', .int .i64 data', .bool hg', .bool ho', .bool hr', gS, oS, rS, .int .i64 cho', vsS]) = W5 := ⟨_, rfl⟩
      rw [hW5] at hn hk2
      have HW5 := Lib.hid hW5; clear hW5
      have hbp : BoxPar _ idle' data' cho' hg' ho' hr' gm' om' rm' vm' gz' oz' rz' vz' R W5 := hp.store hk2 hx e1 hn
      have hG2 : Below W2.heap.size W2 W5 := Kept.below ((Kept.of_below' hG (fun _ => False)).then hk2 (fun i h1 h2 => by omega))
      have HK1 := Lib.hid (hK undef W5 hG2 (fun j hj hw h => sF_store (by decide) hk2 hx hbp.any j hj (fun h7 => hj h7) (fun h6 R4 e4 => fun e5 => hne (h1.trans (by subst e5; exact (show α.tmps.getD 5 undef = _ from e4).symm))) h) (fun j hj _ h => sN_pres j hj h) ⟨R, (updAt_other _ _ (by decide)).trans h1, hR, hbp⟩)
      rw [← HW5.out] at HK1
      obtain ⟨gp, gq, rfl, -, -⟩ := gK
      obtain ⟨op, oq, rfl, -, -⟩ := oK
      obtain ⟨rp, rq, rfl, -, -⟩ := rK
      obtain ⟨vsp, vsq, rfl, -, -⟩ := vsK
      obtain ⟨y0, y1, y2, y3, y4, y5, y6, y7, y8, y9, rfl⟩ := size10 hcs
      have cc := cells10 hh
      have ff := unfrozen hh
      simp only [Array.getD_eq_getD_getElem?] at e1 h1
      clear hK hG hfix hdep hall hN hn hk2 hh hcs hbp hG2 hp hx hne hR
      go_simp
      exact HK1.out
  intro a' W4 hs hd hfix hG hF
  obtain ⟨tm, df⟩ := a'
  dsimp only at hs hd hfix hF
  subst hd
  obtain ⟨y0, y1, y2, y3, y4, y5, y6, y7, y8, y9, y10, y11, y12, y13, y14, y15, y16, y17, y18, y19, y20, y21, y22, y23, y24, y25, y26, y27, y28, y29, y30, y31, y32, y33, y34, y35, y36, y37, y38, y39, y40, y41, y42, rfl⟩ := size43 hs
  have q0 : y0 = _ := hfix 0 rfl
  have q1 : y1 = _ := hfix 1 rfl
  have q2 : y2 = .pointer (some ⟨w.heap.size, 0, none⟩) := hfix 2 rfl
  have q3 : y3 = .pointer (some ⟨w.heap.size + 1, 0, none⟩) := hfix 3 rfl
  have q4 : y4 = .bool false := hfix 4 rfl
  obtain ⟨R4, q5, hR4, hB4⟩ : ∃ R, y5 = .pointer (some ⟨R, 0, none⟩) ∧ W2.heap.size ≤ R ∧ BoxPar W2.heap.size idle data cho hg ho hr gm om rm vm gz oz rz vz R W4 := hF 6 (by omega)
  obtain ⟨R5, q6, hR5, hB5⟩ : ∃ R, y6 = .pointer (some ⟨R, 0, none⟩) ∧ W2.heap.size ≤ R ∧ BoxPar W2.heap.size idle' data' cho' hg' ho' hr' gm' om' rm' vm' gz' oz' rz' vz' R W4 := hF 7 (by omega)
  obtain ⟨gS, oS, rS, vsS, hX, gK, oK, rK, vsK⟩ := hB4
  obtain ⟨gS', oS', rS', vsS', hY, gK', oK', rK', vsK'⟩ := hB5
  obtain ⟨xg, xgc, rfl, gl, go⟩ := gK
  obtain ⟨xo, xoc, rfl, ol, oo⟩ := oK
  obtain ⟨xr, xrc, rfl, rl, ro⟩ := rK
  obtain ⟨xv, xvc, rfl, vl, vo⟩ := vsK
  obtain ⟨yg, ygc, rfl, gl', go'⟩ := gK'
  obtain ⟨yo, yoc, rfl, ol', oo'⟩ := oK'
  obtain ⟨yr, yrc, rfl, rl', ro'⟩ := rK'
  obtain ⟨yv, yvc, rfl, vl', vo'⟩ := vsK'
  have B4 := Lib.hid (B3.out.trans (hG.mono B3.out.size))
  have BY := Lib.hid (fun (w1 : World) (hb : Below W4.heap.size W4 w1) => And.intro ((hb.block R4 (Array.getElem?_eq_some_iff.1 hX).1).trans hX) (And.intro ((hb.block R5 (Array.getElem?_eq_some_iff.1 hY).1).trans hY) ((hb.block (w.heap.size + 1) (by have h1 := Z3.out; have h2 := hG.size; omega)).trans (BX.out W4 hG).2)))
  have XR := Lib.hid (fun (w1 : World) (hb : Below W4.heap.size W4 w1) => And.intro (((Row.of_own go).below hb).more hb.size) (And.intro (((Row.of_own oo).below hb).more hb.size) (And.intro (((Row.of_own ro).below hb).more hb.size) (((Row.of_own vo).below hb).more hb.size))))
  have YR := Lib.hid (fun (w1 : World) (hb : Below W4.heap.size W4 w1) => And.intro (((Row.of_own go').below hb).more hb.size) (And.intro (((Row.of_own oo').below hb).more hb.size) (And.intro (((Row.of_own ro').below hb).more hb.size) (((Row.of_own vo').below hb).more hb.size))))
  have XC := Lib.hid (show (gm ≤ xgc ∧ om ≤ xoc ∧ rm ≤ xrc ∧ vm ≤ xvc) ∧ (gm' ≤ ygc ∧ om' ≤ yoc ∧ rm' ≤ yrc ∧ vm' ≤ yvc) from ⟨⟨gl, ol, rl, vl⟩, ⟨gl', ol', rl', vl'⟩⟩)
  clear hF hfix hG hs hX hY go oo ro vo go' oo' ro' vo' gl ol rl vl gl' ol' rl' vl' hR4 hR5 C1 C3 BX
  subst q0 q1 q2 q3 q4 q5 q6
  obtain ⟨S, hS⟩ : ∃ S, sameT idle data cho hg ho hr gz oz rz vz idle' data' cho' hg' ho' hr' gz' oz' rz' vz' = S := ⟨_, rfl⟩
  have CXY := Lib.hid (fun (W : World) (hb : Below W4.heap.size W4 W) => sameP_any idle data cho hg ho hr xg xo xr xv gm om rm vm xgc xoc xrc xvc idle' data' cho' hg' ho' hr' yg yo yr yv gm' om' rm' vm' ygc yoc yrc yvc gz oz rz vz gz' oz' rz' vz' W EE.out.1.1 (by have := LL.out; omega) (XR.out W hb).1 EE.out.1.2.1 (by have := LL.out; omega) (XR.out W hb).2.1 EE.out.1.2.2.1 (by have := LL.out; omega) (XR.out W hb).2.2.1 EE.out.1.2.2.2 (by have := LL.out; omega) (XR.out W hb).2.2.2 EE.out.2.1 (by have := LL.out; omega) (YR.out W hb).1 EE.out.2.2.1 (by have := LL.out; omega) (YR.out W hb).2.1 EE.out.2.2.2.1 (by have := LL.out; omega) (YR.out W hb).2.2.1 EE.out.2.2.2.2 (by have := LL.out; omega) (YR.out W hb).2.2.2 UU.out.1.1 UU.out.1.2.1 UU.out.1.2.2 UU.out.2.1 UU.out.2.2.1 UU.out.2.2.2)
  have CYX := Lib.hid (fun (W : World) (hb : Below W4.heap.size W4 W) => sameP_any idle' data' cho' hg' ho' hr' yg yo yr yv gm' om' rm' vm' ygc yoc yrc yvc idle data cho hg ho hr xg xo xr xv gm om rm vm xgc xoc xrc xvc gz' oz' rz' vz' gz oz rz vz W EE.out.2.1 (by have := LL.out; omega) (YR.out W hb).1 EE.out.2.2.1 (by have := LL.out; omega) (YR.out W hb).2.1 EE.out.2.2.2.1 (by have := LL.out; omega) (YR.out W hb).2.2.1 EE.out.2.2.2.2 (by have := LL.out; omega) (YR.out W hb).2.2.2 EE.out.1.1 (by have := LL.out; omega) (XR.out W hb).1 EE.out.1.2.1 (by have := LL.out; omega) (XR.out W hb).2.1 EE.out.1.2.2.1 (by have := LL.out; omega) (XR.out W hb).2.2.1 EE.out.1.2.2.2 (by have := LL.out; omega) (XR.out W hb).2.2.2 UU.out.2.1 UU.out.2.2.1 UU.out.2.2.2 UU.out.1.1 UU.out.1.2.1 UU.out.1.2.2)
  have CXX := Lib.hid (fun (W : World) (hb : Below W4.heap.size W4 W) => sameP_any idle data cho hg ho hr xg xo xr xv gm om rm vm xgc xoc xrc xvc idle data cho hg ho hr xg xo xr xv gm om rm vm xgc xoc xrc xvc gz oz rz vz gz oz rz vz W EE.out.1.1 (by have := LL.out; omega) (XR.out W hb).1 EE.out.1.2.1 (by have := LL.out; omega) (XR.out W hb).2.1 EE.out.1.2.2.1 (by have := LL.out; omega) (XR.out W hb).2.2.1 EE.out.1.2.2.2 (by have := LL.out; omega) (XR.out W hb).2.2.2 EE.out.1.1 (by have := LL.out; omega) (XR.out W hb).1 EE.out.1.2.1 (by have := LL.out; omega) (XR.out W hb).2.1 EE.out.1.2.2.1 (by have := LL.out; omega) (XR.out W hb).2.2.1 EE.out.1.2.2.2 (by have := LL.out; omega) (XR.out W hb).2.2.2 UU.out.1.1 UU.out.1.2.1 UU.out.1.2.2 UU.out.1.1 UU.out.1.2.1 UU.out.1.2.2)
  have CXB := Lib.hid (fun (W : World) (hb : Below W4.heap.size W4 W) => told_any idle data cho hg ho hr xg xo xr xv gm om rm vm xgc xoc xrc xvc idle' data' cho' hg' ho' hr' ga' oa' ra' va' gm' om' rm' vm' gc' oc' rc' vc' gz oz rz vz gz' oz' rz' vz' W XC.out.1.1 XC.out.1.2.1 XC.out.1.2.2.1 XC.out.1.2.2.2 CP.out.2.1 CP.out.2.2.1 CP.out.2.2.2.1 CP.out.2.2.2.2 EE.out.1.1 (by have := LL.out; omega) (XR.out W hb).1 EE.out.1.2.1 (by have := LL.out; omega) (XR.out W hb).2.1 EE.out.1.2.2.1 (by have := LL.out; omega) (XR.out W hb).2.2.1 EE.out.1.2.2.2 (by have := LL.out; omega) (XR.out W hb).2.2.2 EE.out.2.1 (by have := LL.out; omega) (RB.out W (B4.out.trans (hb.mono B4.out.size))).1 EE.out.2.2.1 (by have := LL.out; omega) (RB.out W (B4.out.trans (hb.mono B4.out.size))).2.1 EE.out.2.2.2.1 (by have := LL.out; omega) (RB.out W (B4.out.trans (hb.mono B4.out.size))).2.2.1 EE.out.2.2.2.2 (by have := LL.out; omega) (RB.out W (B4.out.trans (hb.mono B4.out.size))).2.2.2)
  have CAW := Lib.hid (fun (W : World) (hb : Below W4.heap.size W4 W) => awake_true W (TB.out W (B4.out.trans (hb.mono B4.out.size))))
  rw [hS] at CXY CXB
  rw [sameT_comm, hS] at CYX
  rw [sameT_self] at CXX
  clear hS EE LL CP UU RA RB XR YR XC TB
  go_wp2_with fail
  refine wp_region_ready_all 0 25 (fun j => j == 2 || j == 3 || j == 5 || j == 6) (fun j f _ => f j = c4 (.agg #[.int .i64 idle, .int .i64 data, .bool hg, .bool ho, .bool hr, .slice xg gm xgc, .slice xo om xoc, .slice xr rm xrc, .int .i64 cho, .slice xv vm xvc]) (.agg #[.int .i64 idle', .int .i64 data', .bool hg', .bool ho', .bool hr', .slice yg gm' ygc, .slice yo om' yoc, .slice yr rm' yrc, .int .i64 cho', .slice yv vm' yvc]) (.agg #[.int .i64 idle', .int .i64 data', .bool hg', .bool ho', .bool hr', .slice ga' gm' gc', .slice oa' om' oc', .slice ra' rm' rc', .int .i64 cho', .slice va' vm' vc']) S j) (fun _ _ _ => True) (fun w1 => Below W4.heap.size W4 w1) rfl (by kernel_rfl) rfl (by kernel_rfl) (by kernel_rfl) (by kernel_rfl) ((Drawn.refl _).drew.below _) (fun _ _ => trivial) ?_ ?_
  · refine ⟨⟨⟨⟨⟨⟨⟨⟨⟨⟨⟨⟨⟨⟨⟨⟨⟨⟨⟨⟨⟨⟨⟨⟨⟨trivial, ?_⟩, ?_⟩, ?_⟩, ?_⟩, ?_⟩, ?_⟩, ?_⟩, ?_⟩, ?_⟩, ?_⟩, ?_⟩, ?_⟩, ?_⟩, ?_⟩, ?_⟩, ?_⟩, ?_⟩, ?_⟩, ?_⟩, ?_⟩, ?_⟩, ?_⟩, ?_⟩, ?_⟩, ?_⟩
    · refine invB_step (m := 0) (o := ⟨some 19, _, _, _, _, _⟩) (by kernel_rfl) (by kernel_rfl) rfl rfl fun α w1 hG hN hfix hdep hall K hK => ?_
      have h1 : α.tmps.getD 5 undef = _ := hfix 5 rfl
      have cc := cells10 (BY.out w1 hG).1
      have HK1 := Lib.hid (hK (.agg #[.int .i64 idle, .int .i64 data, .bool hg, .bool ho, .bool hr, .slice xg gm xgc, .slice xo om xoc, .slice xr rm xrc, .int .i64 cho, .slice xv vm xvc]) w1 hG (fun j hj _ h => (updAt_other _ _ hj).trans h) (fun _ _ _ h => h) (updAt_same _ _ _)); clear hK hG hN hfix hdep hall
      go_simp
      exact HK1.out
    · refine invB_step (m := 0) (o := ⟨some 20, _, _, _, _, _⟩) (by kernel_rfl) (by kernel_rfl) rfl rfl fun α w1 hG hN hfix hdep hall K hK => ?_
      have h1 : α.tmps.getD 6 undef = _ := hfix 6 rfl
      have cc := cells10 (BY.out w1 hG).2.1
      have HK1 := Lib.hid (hK (.agg #[.int .i64 idle', .int .i64 data', .bool hg', .bool ho', .bool hr', .slice yg gm' ygc, .slice yo om' yoc, .slice yr rm' yrc, .int .i64 cho', .slice yv vm' yvc]) w1 hG (fun j hj _ h => (updAt_other _ _ hj).trans h) (fun _ _ _ h => h) (updAt_same _ _ _)); clear hK hG hN hfix hdep hall
      go_simp
      exact HK1.out
    · refine invB_step (m := 0) (o := ⟨some 21, _, _, _, _, _⟩) (by kernel_rfl) (by kernel_rfl) rfl rfl fun α w1 hG hN hfix hdep hall K hK => ?_
      have h1 : α.tmps.getD 19 undef = .agg #[.int .i64 idle, .int .i64 data, .bool hg, .bool ho, .bool hr, .slice xg gm xgc, .slice xo om xoc, .slice xr rm xrc, .int .i64 cho, .slice xv vm xvc] := hdep 0 (by kernel_rfl)
      have h2 : α.tmps.getD 20 undef = .agg #[.int .i64 idle', .int .i64 data', .bool hg', .bool ho', .bool hr', .slice yg gm' ygc, .slice yo om' yoc, .slice yr rm' yrc, .int .i64 cho', .slice yv vm' yvc] := hdep 1 (by kernel_rfl)
      have CC := Lib.hid (CXY.out w1 hG)
      have HK1 := Lib.hid hK; have HG := Lib.hid hG; clear hK hG hN hfix hdep hall
      simp only [Array.getD_eq_getD_getElem?] at h1 h2
      go_simp
      refine CC.out.mono ?_
      rintro e w2 ⟨rfl, hb⟩
      exact HK1.out _ _ (HG.out.trans (hb.mono HG.out.size)) (fun j hj _ h => (updAt_other _ _ hj).trans h) (fun _ _ _ h => h) (updAt_same _ _ _)
    · refine invB_step (m := 0) (o := ⟨some 22, _, _, _, _, _⟩) (by kernel_rfl) (by kernel_rfl) rfl rfl fun α w1 hG hN hfix hdep hall K hK => ?_
      have h1 : α.tmps.getD 5 undef = _ := hfix 5 rfl
      have cc := cells10 (BY.out w1 hG).1
      have HK1 := Lib.hid (hK (.agg #[.int .i64 idle, .int .i64 data, .bool hg, .bool ho, .bool hr, .slice xg gm xgc, .slice xo om xoc, .slice xr rm xrc, .int .i64 cho, .slice xv vm xvc]) w1 hG (fun j hj _ h => (updAt_other _ _ hj).trans h) (fun _ _ _ h => h) (updAt_same _ _ _)); clear hK hG hN hfix hdep hall
      go_simp
      exact HK1.out
    · refine invB_step (m := 0) (o := ⟨some 23, _, _, _, _, _⟩) (by kernel_rfl) (by kernel_rfl) rfl rfl fun α w1 hG hN hfix hdep hall K hK => ?_
      have h1 : α.tmps.getD 3 undef = _ := hfix 3 rfl
      have cc := cells10 (BY.out w1 hG).2.2
      have HK1 := Lib.hid (hK (.agg #[.int .i64 idle', .int .i64 data', .bool hg', .bool ho', .bool hr', .slice ga' gm' gc', .slice oa' om' oc', .slice ra' rm' rc', .int .i64 cho', .slice va' vm' vc']) w1 hG (fun j hj _ h => (updAt_other _ _ hj).trans h) (fun _ _ _ h => h) (updAt_same _ _ _)); clear hK hG hN hfix hdep hall
      go_simp
      exact HK1.out
    · refine invB_step (m := 0) (o := ⟨some 24, _, _, _, _, _⟩) (by kernel_rfl) (by kernel_rfl) rfl rfl fun α w1 hG hN hfix hdep hall K hK => ?_
      have h1 : α.tmps.getD 22 undef = .agg #[.int .i64 idle, .int .i64 data, .bool hg, .bool ho, .bool hr, .slice xg gm xgc, .slice xo om xoc, .slice xr rm xrc, .int .i64 cho, .slice xv vm xvc] := hdep 3 (by kernel_rfl)
      have h2 : α.tmps.getD 23 undef = .agg #[.int .i64 idle', .int .i64 data', .bool hg', .bool ho', .bool hr', .slice ga' gm' gc', .slice oa' om' oc', .slice ra' rm' rc', .int .i64 cho', .slice va' vm' vc'] := hdep 4 (by kernel_rfl)
      have CC := Lib.hid (CXB.out w1 hG)
      have HK1 := Lib.hid hK; have HG := Lib.hid hG; clear hK hG hN hfix hdep hall
      simp only [Array.getD_eq_getD_getElem?] at h1 h2
      go_simp
      refine CC.out.mono ?_
      rintro e w2 ⟨rfl, hb⟩
      exact HK1.out _ _ (HG.out.trans (hb.mono HG.out.size)) (fun j hj _ h => (updAt_other _ _ hj).trans h) (fun _ _ _ h => h) (updAt_same _ _ _)
    · refine invB_step (m := 0) (o := ⟨some 25, _, _, _, _, _⟩) (by kernel_rfl) (by kernel_rfl) rfl rfl fun α w1 hG hN hfix hdep hall K hK => ?_
      have h1 : α.tmps.getD 21 undef = .bool S := hdep 2 (by kernel_rfl)
      have h2 : α.tmps.getD 24 undef = .bool S := hdep 5 (by kernel_rfl)
      have HK1 := Lib.hid (hK (.bool true) w1 hG (fun j hj _ h => (updAt_other _ _ hj).trans h) (fun _ _ _ h => h) (updAt_same _ _ _)); clear hK hG hN hfix hdep hall
      have hss : (S == S) = true := by simp
      simp only [Array.getD_eq_getD_getElem?] at h1 h2
      go_simp
      exact HK1.out
    · refine invB_step (m := 0) (o := ⟨some 26, _, _, _, _, _⟩) (by kernel_rfl) (by kernel_rfl) rfl rfl fun α w1 hG hN hfix hdep hall K hK => ?_
      have h1 : α.tmps.getD 25 undef = .bool true := hdep 6 (by kernel_rfl)
      have HK1 := Lib.hid (hK (.bool true) w1 hG (fun j hj _ h => (updAt_other _ _ hj).trans h) (fun _ _ _ h => h) (updAt_same _ _ _)); clear hK hG hN hfix hdep hall
      simp only [Array.getD_eq_getD_getElem?] at h1
      go_simp
      exact HK1.out
    · refine invB_step_guarded (m := 0) (o := ⟨some 27, _, _, _, _, _⟩) (j := 7) (b := true) (want := true) (by kernel_rfl) (by kernel_rfl) rfl rfl (by kernel_rfl) (fun f w h => h) rfl fun α w1 hG hN hfix hdep K hK => ?_
      have h1 : α.tmps.getD 6 undef = _ := hfix 6 rfl
      have cc := cells10 (BY.out w1 hG).2.1
      have HK1 := Lib.hid (hK (.agg #[.int .i64 idle', .int .i64 data', .bool hg', .bool ho', .bool hr', .slice yg gm' ygc, .slice yo om' yoc, .slice yr rm' yrc, .int .i64 cho', .slice yv vm' yvc]) w1 hG (fun j hj _ h => (updAt_other _ _ hj).trans h) (fun _ _ _ h => h) (updAt_same _ _ _)); clear hK hG hN hfix hdep
      go_simp
      exact HK1.out
    · refine invB_step_guarded (m := 0) (o := ⟨some 28, _, _, _, _, _⟩) (j := 7) (b := true) (want := true) (by kernel_rfl) (by kernel_rfl) rfl rfl (by kernel_rfl) (fun f w h => h) rfl fun α w1 hG hN hfix hdep K hK => ?_
      have h1 : α.tmps.getD 5 undef = _ := hfix 5 rfl
      have cc := cells10 (BY.out w1 hG).1
      have HK1 := Lib.hid (hK (.agg #[.int .i64 idle, .int .i64 data, .bool hg, .bool ho, .bool hr, .slice xg gm xgc, .slice xo om xoc, .slice xr rm xrc, .int .i64 cho, .slice xv vm xvc]) w1 hG (fun j hj _ h => (updAt_other _ _ hj).trans h) (fun _ _ _ h => h) (updAt_same _ _ _)); clear hK hG hN hfix hdep
      go_simp
      exact HK1.out
    · refine invB_step_guarded (m := 0) (o := ⟨some 29, _, _, _, _, _⟩) (j := 7) (b := true) (want := true) (by kernel_rfl) (by kernel_rfl) rfl rfl (by kernel_rfl) (fun f w h => h) rfl fun α w1 hG hN hfix hdep K hK => ?_
      have h1 : α.tmps.getD 27 undef = .agg #[.int .i64 idle', .int .i64 data', .bool hg', .bool ho', .bool hr', .slice yg gm' ygc, .slice yo om' yoc, .slice yr rm' yrc, .int .i64 cho', .slice yv vm' yvc] := hdep 8 (by kernel_rfl)
      have h2 : α.tmps.getD 28 undef = .agg #[.int .i64 idle, .int .i64 data, .bool hg, .bool ho, .bool hr, .slice xg gm xgc, .slice xo om xoc, .slice xr rm xrc, .int .i64 cho, .slice xv vm xvc] := hdep 9 (by kernel_rfl)
      have CC := Lib.hid (CYX.out w1 hG)
      have HK1 := Lib.hid hK; have HG := Lib.hid hG; clear hK hG hN hfix hdep
      simp only [Array.getD_eq_getD_getElem?] at h1 h2
      go_simp
      refine CC.out.mono ?_
      rintro e w2 ⟨rfl, hb⟩
      exact HK1.out _ _ (HG.out.trans (hb.mono HG.out.size)) (fun j hj _ h => (updAt_other _ _ hj).trans h) (fun _ _ _ h => h) (updAt_same _ _ _)
    · refine invB_step_guarded (m := 0) (o := ⟨some 30, _, _, _, _, _⟩) (j := 7) (b := true) (want := true) (by kernel_rfl) (by kernel_rfl) rfl rfl (by kernel_rfl) (fun f w h => h) rfl fun α w1 hG hN hfix hdep K hK => ?_
      have h1 : α.tmps.getD 5 undef = _ := hfix 5 rfl
      have cc := cells10 (BY.out w1 hG).1
      have HK1 := Lib.hid (hK (.agg #[.int .i64 idle, .int .i64 data, .bool hg, .bool ho, .bool hr, .slice xg gm xgc, .slice xo om xoc, .slice xr rm xrc, .int .i64 cho, .slice xv vm xvc]) w1 hG (fun j hj _ h => (updAt_other _ _ hj).trans h) (fun _ _ _ h => h) (updAt_same _ _ _)); clear hK hG hN hfix hdep
      go_simp
      exact HK1.out
    · refine invB_step_guarded (m := 0) (o := ⟨some 31, _, _, _, _, _⟩) (j := 7) (b := true) (want := true) (by kernel_rfl) (by kernel_rfl) rfl rfl (by kernel_rfl) (fun f w h => h) rfl fun α w1 hG hN hfix hdep K hK => ?_
      have h1 : α.tmps.getD 6 undef = _ := hfix 6 rfl
      have cc := cells10 (BY.out w1 hG).2.1
      have HK1 := Lib.hid (hK (.agg #[.int .i64 idle', .int .i64 data', .bool hg', .bool ho', .bool hr', .slice yg gm' ygc, .slice yo om' yoc, .slice yr rm' yrc, .int .i64 cho', .slice yv vm' yvc]) w1 hG (fun j hj _ h => (updAt_other _ _ hj).trans h) (fun _ _ _ h => h) (updAt_same _ _ _)); clear hK hG hN hfix hdep
      go_simp
      exact HK1.out
    · refine invB_step_guarded (m := 0) (o := ⟨some 32, _, _, _, _, _⟩) (j := 7) (b := true) (want := true) (by kernel_rfl) (by kernel_rfl) rfl rfl (by kernel_rfl) (fun f w h => h) rfl fun α w1 hG hN hfix hdep K hK => ?_
      have h1 : α.tmps.getD 30 undef = .agg #[.int .i64 idle, .int .i64 data, .bool hg, .bool ho, .bool hr, .slice xg gm xgc, .slice xo om xoc, .slice xr rm xrc, .int .i64 cho, .slice xv vm xvc] := hdep 11 (by kernel_rfl)
      have h2 : α.tmps.getD 31 undef = .agg #[.int .i64 idle', .int .i64 data', .bool hg', .bool ho', .bool hr', .slice yg gm' ygc, .slice yo om' yoc, .slice yr rm' yrc, .int .i64 cho', .slice yv vm' yvc] := hdep 12 (by kernel_rfl)
      have CC := Lib.hid (CXY.out w1 hG)
      have HK1 := Lib.hid hK; have HG := Lib.hid hG; clear hK hG hN hfix hdep
      simp only [Array.getD_eq_getD_getElem?] at h1 h2
      go_simp
      refine CC.out.mono ?_
      rintro e w2 ⟨rfl, hb⟩
      exact HK1.out _ _ (HG.out.trans (hb.mono HG.out.size)) (fun j hj _ h => (updAt_other _ _ hj).trans h) (fun _ _ _ h => h) (updAt_same _ _ _)
    · refine invB_step_guarded (m := 0) (o := ⟨some 33, _, _, _, _, _⟩) (j := 7) (b := true) (want := true) (by kernel_rfl) (by kernel_rfl) rfl rfl (by kernel_rfl) (fun f w h => h) rfl fun α w1 hG hN hfix hdep K hK => ?_
      have h1 : α.tmps.getD 29 undef = .bool S := hdep 10 (by kernel_rfl)
      have h2 : α.tmps.getD 32 undef = .bool S := hdep 13 (by kernel_rfl)
      have HK1 := Lib.hid (hK (.bool true) w1 hG (fun j hj _ h => (updAt_other _ _ hj).trans h) (fun _ _ _ h => h) (updAt_same _ _ _)); clear hK hG hN hfix hdep
      have hss : (S == S) = true := by simp
      simp only [Array.getD_eq_getD_getElem?] at h1 h2
      go_simp
      exact HK1.out
    · refine invB_step (m := 0) (o := ⟨some 34, _, _, _, _, _⟩) (by kernel_rfl) (by kernel_rfl) rfl rfl fun α w1 hG hN hfix hdep hall K hK => ?_
      have h1 : α.tmps.getD 26 undef = .bool true := hdep 7 (by kernel_rfl)
      have h2 : α.tmps.getD 33 undef = .bool true := hdep 14 (by kernel_rfl)
      have HK1 := Lib.hid (hK (.bool true) w1 hG (fun j hj _ h => (updAt_other _ _ hj).trans h) (fun _ _ _ h => h) (updAt_same _ _ _)); clear hK hG hN hfix hdep hall
      simp only [Array.getD_eq_getD_getElem?] at h1 h2
      go_simp
      exact HK1.out
    · refine invB_step (m := 0) (o := ⟨some 35, _, _, _, _, _⟩) (by kernel_rfl) (by kernel_rfl) rfl rfl fun α w1 hG hN hfix hdep hall K hK => ?_
      have h1 : α.tmps.getD 34 undef = .bool true := hdep 15 (by kernel_rfl)
      have HK1 := Lib.hid (hK (.bool true) w1 hG (fun j hj _ h => (updAt_other _ _ hj).trans h) (fun _ _ _ h => h) (updAt_same _ _ _)); clear hK hG hN hfix hdep hall
      simp only [Array.getD_eq_getD_getElem?] at h1
      go_simp
      exact HK1.out
    · refine invB_step_guarded (m := 0) (o := ⟨some 36, _, _, _, _, _⟩) (j := 16) (b := true) (want := true) (by kernel_rfl) (by kernel_rfl) rfl rfl (by kernel_rfl) (fun f w h => h) rfl fun α w1 hG hN hfix hdep K hK => ?_
      have h1 : α.tmps.getD 5 undef = _ := hfix 5 rfl
      have cc := cells10 (BY.out w1 hG).1
      have HK1 := Lib.hid (hK (.agg #[.int .i64 idle, .int .i64 data, .bool hg, .bool ho, .bool hr, .slice xg gm xgc, .slice xo om xoc, .slice xr rm xrc, .int .i64 cho, .slice xv vm xvc]) w1 hG (fun j hj _ h => (updAt_other _ _ hj).trans h) (fun _ _ _ h => h) (updAt_same _ _ _)); clear hK hG hN hfix hdep
      go_simp
      exact HK1.out
    · refine invB_step_guarded (m := 0) (o := ⟨some 37, _, _, _, _, _⟩) (j := 16) (b := true) (want := true) (by kernel_rfl) (by kernel_rfl) rfl rfl (by kernel_rfl) (fun f w h => h) rfl fun α w1 hG hN hfix hdep K hK => ?_
      have h1 : α.tmps.getD 5 undef = _ := hfix 5 rfl
      have cc := cells10 (BY.out w1 hG).1
      have HK1 := Lib.hid (hK (.agg #[.int .i64 idle, .int .i64 data, .bool hg, .bool ho, .bool hr, .slice xg gm xgc, .slice xo om xoc, .slice xr rm xrc, .int .i64 cho, .slice xv vm xvc]) w1 hG (fun j hj _ h => (updAt_other _ _ hj).trans h) (fun _ _ _ h => h) (updAt_same _ _ _)); clear hK hG hN hfix hdep
      go_simp
      exact HK1.out
    · refine invB_step_guarded (m := 0) (o := ⟨some 38, _, _, _, _, _⟩) (j := 16) (b := true) (want := true) (by kernel_rfl) (by kernel_rfl) rfl rfl (by kernel_rfl) (fun f w h => h) rfl fun α w1 hG hN hfix hdep K hK => ?_
      have h1 : α.tmps.getD 36 undef = .agg #[.int .i64 idle, .int .i64 data, .bool hg, .bool ho, .bool hr, .slice xg gm xgc, .slice xo om xoc, .slice xr rm xrc, .int .i64 cho, .slice xv vm xvc] := hdep 17 (by kernel_rfl)
      have h2 : α.tmps.getD 37 undef = .agg #[.int .i64 idle, .int .i64 data, .bool hg, .bool ho, .bool hr, .slice xg gm xgc, .slice xo om xoc, .slice xr rm xrc, .int .i64 cho, .slice xv vm xvc] := hdep 18 (by kernel_rfl)
      have CC := Lib.hid (CXX.out w1 hG)
      have HK1 := Lib.hid hK; have HG := Lib.hid hG; clear hK hG hN hfix hdep
      simp only [Array.getD_eq_getD_getElem?] at h1 h2
      go_simp
      refine CC.out.mono ?_
      rintro e w2 ⟨rfl, hb⟩
      exact HK1.out _ _ (HG.out.trans (hb.mono HG.out.size)) (fun j hj _ h => (updAt_other _ _ hj).trans h) (fun _ _ _ h => h) (updAt_same _ _ _)
    · refine invB_step (m := 0) (o := ⟨some 39, _, _, _, _, _⟩) (by kernel_rfl) (by kernel_rfl) rfl rfl fun α w1 hG hN hfix hdep hall K hK => ?_
      have h1 : α.tmps.getD 35 undef = .bool true := hdep 16 (by kernel_rfl)
      have h2 : α.tmps.getD 38 undef = .bool true := hdep 19 (by kernel_rfl)
      have HK1 := Lib.hid (hK (.bool true) w1 hG (fun j hj _ h => (updAt_other _ _ hj).trans h) (fun _ _ _ h => h) (updAt_same _ _ _)); clear hK hG hN hfix hdep hall
      simp only [Array.getD_eq_getD_getElem?] at h1 h2
      go_simp
      exact HK1.out
    · refine invB_step (m := 0) (o := ⟨some 40, _, _, _, _, _⟩) (by kernel_rfl) (by kernel_rfl) rfl rfl fun α w1 hG hN hfix hdep hall K hK => ?_
      have h1 : α.tmps.getD 39 undef = .bool true := hdep 20 (by kernel_rfl)
      have HK1 := Lib.hid (hK (.bool true) w1 hG (fun j hj _ h => (updAt_other _ _ hj).trans h) (fun _ _ _ h => h) (updAt_same _ _ _)); clear hK hG hN hfix hdep hall
      simp only [Array.getD_eq_getD_getElem?] at h1
      go_simp
      exact HK1.out
    · refine invB_step_guarded (m := 0) (o := ⟨some 41, _, _, _, _, _⟩) (j := 21) (b := true) (want := true) (by kernel_rfl) (by kernel_rfl) rfl rfl (by kernel_rfl) (fun f w h => h) rfl fun α w1 hG hN hfix hdep K hK => ?_
      have CC := Lib.hid (CAW.out w1 hG)
      have HK1 := Lib.hid hK; have HG := Lib.hid hG; clear hK hG hN hfix hdep
      go_simp
      refine CC.out.mono ?_
      rintro e w2 ⟨rfl, hb⟩
      exact HK1.out _ _ (HG.out.trans (hb.mono HG.out.size)) (fun j hj _ h => (updAt_other _ _ hj).trans h) (fun _ _ _ h => h) (updAt_same _ _ _)
    · refine invB_step (m := 0) (o := ⟨some 42, _, _, _, _, _⟩) (by kernel_rfl) (by kernel_rfl) rfl rfl fun α w1 hG hN hfix hdep hall K hK => ?_
      have h1 : α.tmps.getD 40 undef = .bool true := hdep 21 (by kernel_rfl)
      have h2 : α.tmps.getD 41 undef = .bool true := hdep 22 (by kernel_rfl)
      have HK1 := Lib.hid (hK (.bool true) w1 hG (fun j hj _ h => (updAt_other _ _ hj).trans h) (fun _ _ _ h => h) (updAt_same _ _ _)); clear hK hG hN hfix hdep hall
      simp only [Array.getD_eq_getD_getElem?] at h1 h2
      go_simp
      exact HK1.out
    · refine invB_step (m := 0) (o := ⟨some 4, _, _, _, _, _⟩) (by kernel_rfl) (by kernel_rfl) rfl rfl fun α w1 hG hN hfix hdep hall K hK => ?_
      have h1 : α.tmps.getD 42 undef = .bool true := hdep 23 (by kernel_rfl)
      have HK1 := Lib.hid (hK (.bool true) w1 hG (fun j hj _ h => (updAt_other _ _ hj).trans h) (fun _ _ _ h => h) (updAt_same _ _ _)); clear hK hG hN hfix hdep hall
      simp only [Array.getD_eq_getD_getElem?] at h1
      go_simp
      exact HK1.out
  · intro a' w' hs hd hfix hG hF
    go_wp2_with fail
    have h4 : a'.tmps.getD 4 undef = .bool true := hF 24 (by omega)
    have hb := B4.out.trans (hG.mono B4.out.size)
    clear hF hfix hG
    refine bodyPost_ret (v := .bool true) ?_ hd ⟨rfl, hb⟩
    simp only [Array.getD_eq_getD_getElem?] at h4
    simp [results, Tryd.results4, go_sem, h4]
end Go.Proofs.YtaplndehoenghaaDoor
