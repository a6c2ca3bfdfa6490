/- told: are all fields alike? (Printed by wip/gen/mk_ptold.py.) -/
import Derived.Test.YtaplndehoenghaaDoorPTold
import Derived.Test.YtaplndehoenghaaDoorPToldB
namespace Go.Proofs.YtaplndehoenghaaDoor
open Go.RowKit
set_option linter.unusedVariables false

set_option maxRecDepth 100000 in
set_option maxHeartbeats 4000000 in
theorem told_c10 (idle data cho : Int) (hg ho hr : Bool) (ga oa ra va : Option Addr) (gm om rm vm gc oc rc vc : Nat) (idle' data' cho' : Int) (hg' ho' hr' : Bool) (ga' oa' ra' va' : Option Addr) (gm' om' rm' vm' gc' oc' rc' vc' : Nat) (gz oz rz vz gz' oz' rz' vz' : List Int) (w : World) (cg : gm ≤ gc) (co : om ≤ oc) (cr : rm ≤ rc) (cv : vm ≤ vc) (cg' : gm' ≤ gc') (co' : om' ≤ oc') (cr' : rm' ≤ rc') (cv' : vm' ≤ vc') (eg : gz.length = gm) (lg : gm ≤ 1000) (rg : Row w w.heap.size ga (ints .u8 gz)) (eo : oz.length = om) (lo : om ≤ 1000) (ro : Row w w.heap.size oa (ints .u8 oz)) (er : rz.length = rm) (lr : rm ≤ 1000) (rr : Row w w.heap.size ra (ints .u8 rz)) (ev : vz.length = vm) (lv : vm ≤ 1000) (rv : Row w w.heap.size va (ints .i64 vz)) (eg' : gz'.length = gm') (lg' : gm' ≤ 1000) (rg' : Row w w.heap.size ga' (ints .u8 gz')) (eo' : oz'.length = om') (lo' : om' ≤ 1000) (ro' : Row w w.heap.size oa' (ints .u8 oz')) (er' : rz'.length = rm') (lr' : rm' ≤ 1000) (rr' : Row w w.heap.size ra' (ints .u8 rz')) (ev' : vz'.length = vm') (lv' : vm' ≤ 1000) (rv' : Row w w.heap.size va' (ints .i64 vz')) (h0 : (idle != idle') = false) (h1 : (data != data') = false) (h2 : hg = hg') (h3 : ho = ho') (h4 : hr = hr') (h5 : decide (gz = gz') = true) (h6 : decide (oz = oz') = true) (h7 : decide (rz = rz') = true) (h8 : (cho != cho') = false) (h9 : vm = vm') :
    Calls Tryd.prog 14 #[.agg #[.int .i64 idle, .int .i64 data, .bool hg, .bool ho, .bool hr, .slice ga gm gc, .slice oa om oc, .slice ra rm rc, .int .i64 cho, .slice va vm vc], .agg #[.int .i64 idle', .int .i64 data', .bool hg', .bool ho', .bool hr', .slice ga' gm' gc', .slice oa' om' oc', .slice ra' rm' rc', .int .i64 cho', .slice va' vm' vc']] w fun e w' => e = .returned (.bool (vz == vz')) ∧ Below w.heap.size w w' := by
  subst h2 h3 h4
  obtain ⟨W0, hW0⟩ : ∃ W0, (w.alloc (.cells #[.int .i64 idle, .int .i64 data, .bool hg, .bool ho, .bool hr, .slice ga gm gc, .slice oa om oc, .slice ra rm rc, .int .i64 cho, .slice va vm vc] 27)).alloc (.cells #[.int .i64 idle', .int .i64 data', .bool hg, .bool ho, .bool hr, .slice ga' gm' gc', .slice oa' om' oc', .slice ra' rm' rc', .int .i64 cho', .slice va' vm' vc'] 25) = W0 := ⟨_, rfl⟩
  obtain ⟨g1, g2, b0⟩ := two_new w (.cells #[.int .i64 idle, .int .i64 data, .bool hg, .bool ho, .bool hr, .slice ga gm gc, .slice oa om oc, .slice ra rm rc, .int .i64 cho, .slice va vm vc] 27) (.cells #[.int .i64 idle', .int .i64 data', .bool hg, .bool ho, .bool hr, .slice ga' gm' gc', .slice oa' om' oc', .slice ra' rm' rc', .int .i64 cho', .slice va' vm' vc'] 25)
  have cA := cells10 g1
  have cB := cells10 g2
  rw [hW0] at b0 g1 g2
  subst h9
  have d9 : ((vm : Int) != (vm : Int)) = false := by simp
  have C5 := Lib.hid (fun (W : World) (hb : Below w.heap.size w W) => same_any ga ga' gz gz' gm gm' gc gc' w.heap.size W eg eg' cg cg' (by omega) (by omega) (rg.below hb) (rg'.below hb))
  rw [h5] at C5
  have C6 := Lib.hid (fun (W : World) (hb : Below w.heap.size w W) => same_any oa oa' oz oz' om om' oc oc' w.heap.size W eo eo' co co' (by omega) (by omega) (ro.below hb) (ro'.below hb))
  rw [h6] at C6
  have C7 := Lib.hid (fun (W : World) (hb : Below w.heap.size w W) => same_any ra ra' rz rz' rm rm' rc rc' w.heap.size W er er' cr cr' (by omega) (by omega) (rr.below hb) (rr'.below hb))
  rw [h7] at C7
  have HB0 := Lib.hid b0; clear b0
  have G1 := Lib.hid g1; have G2 := Lib.hid g2; clear g1 g2
  have HW0 := Lib.hid hW0; clear hW0
  obtain ⟨E, hE⟩ : ∃ E, (vz == vz') = E := ⟨_, rfl⟩
  have e1 : vz = vz' → E = true := fun h => by rw [← hE]; simpa using h
  have e2 : vz ≠ vz' → E = false := fun h => by rw [← hE]; simpa using h
  rw [hE]
  have E1 := Lib.hid (And.intro e1 e2); clear e1 e2 hE
  have EV := Lib.hid ev; have EV' := Lib.hid ev'
  have RV := Lib.hid (fun (W : World) (hb : Below w.heap.size w W) => And.intro (rv.below hb) (rv'.below hb))
  have CV := Lib.hid (And.intro cv cv')
  clear eg lg rg cg eo lo ro co er lr rr cr ev rv cv eg' lg' rg' cg' eo' lo' ro' co' er' lr' rr' cr' ev' lv' rv' cv'
  go_enter Tryd.func14, Tryd.ntmps14
  go_wp2_with fail
  rw [HW0.out]
  refine (C5.out W0 HB0.out).mono ?_
  rintro e w1 ⟨rfl, hd⟩
  have B1 := Lib.hid ((HB0).out.trans (hd.below _))
  have D1 := Lib.hid (hd)
  clear hd cA cB C5
  have cA := cells10 (by have := G1.out; rw [← D1.out.heap] at this; exact this)
  have cB := cells10 (by have := G2.out; rw [← D1.out.heap] at this; exact this)
  go_wp2_with fail
  refine (C6.out _ B1.out).mono ?_
  rintro e w2 ⟨rfl, hd⟩
  have B2 := Lib.hid ((B1).out.trans (hd.below _))
  have D2 := Lib.hid (D1.out.trans hd)
  clear hd cA cB C6
  have cA := cells10 (by have := G1.out; rw [← D2.out.heap] at this; exact this)
  have cB := cells10 (by have := G2.out; rw [← D2.out.heap] at this; exact this)
  go_wp2_with fail
  refine (C7.out _ B2.out).mono ?_
  rintro e w3 ⟨rfl, hd⟩
  have B3 := Lib.hid ((B2).out.trans (hd.below _))
  have D3 := Lib.hid (D2.out.trans hd)
  clear hd cA cB C7
  have cA := cells10 (by have := G1.out; rw [← D3.out.heap] at this; exact this)
  have cB := cells10 (by have := G2.out; rw [← D3.out.heap] at this; exact this)
  go_wp2
  go_loopw [5] (fun i wr => ∃ n : Nat, i = .int .i64 n ∧ n ≤ vm ∧ vz.take n = vz'.take n ∧ Drawn W0 wr) (fun i _ => vm - (intOf i).toNat)
  case atStart => exact ⟨0, by simp, Nat.zero_le _, by simp, D3.out⟩
  case round =>
    obtain ⟨n, rfl, hn, heq, hd⟩ := hrel
    have HEQ := Lib.hid heq; clear heq
    have HD := Lib.hid hd; clear hd
    clear cA cB D3 B3
    have cA := cells10 (by have := G1.out; rw [← HD.out.heap] at this; exact this)
    have cB := cells10 (by have := G2.out; rw [← HD.out.heap] at this; exact this)
    by_cases hlt : n < vm
    · have HB := Lib.hid (HB0.out.trans (HD.out.below w.heap.size))
      obtain ⟨b1, o1, rfl, _, r1⟩ := (RV.out wr HB.out).1.ints (by intro e; have := EV.out; rw [e] at this; simp at this; omega)
      obtain ⟨b2, o2, rfl, _, r2⟩ := (RV.out wr HB.out).2.ints (by intro e; have := EV'.out; rw [e] at this; simp at this; omega)
      obtain ⟨x, hx⟩ : ∃ x, vz[n]? = some x := ⟨_, List.getElem?_eq_getElem (by have := EV.out; omega)⟩
      obtain ⟨y, hy⟩ : ∃ y, vz'[n]? = some y := ⟨_, List.getElem?_eq_getElem (by have := EV'.out; omega)⟩
      have c1 : wr.cell? ⟨b1, o1 + n, none⟩ = some (.int .i64 x) := by have := r1 n (by have := EV.out; omega); rw [hx] at this; exact this
      have c2 : wr.cell? ⟨b2, o2 + n, none⟩ = some (.int .i64 y) := by have := r2 n (by have := EV'.out; omega); rw [hy] at this; exact this
      have hxt : vz.take (n + 1) = vz.take n ++ [x] := by rw [List.take_add_one, hx]; rfl
      have hyt : vz'.take (n + 1) = vz'.take n ++ [y] := by rw [List.take_add_one, hy]; rfl
      have HXT := Lib.hid (And.intro hxt hyt); clear hxt hyt
      have HXY := Lib.hid (And.intro hx hy); clear hx hy
      have i1 : (n : Int) < (vm : Int) := by omega
      have i0 : (0 : Int) ≤ (n : Int) := by omega
      have i2 : (vm : Int) ≤ (vc : Int) := by have := CV.out; omega
      have i3 : (vm : Int) ≤ (vc' : Int) := by have := CV.out; omega
      clear r1 r2
      by_cases hxy : x = y
      · subst hxy
        have d1 : ((x : Int) != x) = false := by simp
        go_wp2
        go_quiet (fail)
        go_wp2
        go_roundw
        case rel => exact ⟨n + 1, by simp, by omega, by rw [HXT.out.1, HXT.out.2, HEQ.out], HD.out.drewN _⟩
        case measure => simp [intOf]; omega
      · have d1 : ((x : Int) != y) = true := by simpa using hxy
        obtain rfl : E = false := E1.out.2 (fun h => hxy (by have h1 := HXY.out.1; have h2 := HXY.out.2; rw [h, h2] at h1; exact (Option.some.inj h1).symm))
        clear hxy
        go_wp2
        go_quiet (fail)
        go_wp2
        go_ret
        exact ⟨rfl, HB0.out.trans ((HD.out.drewN _).below _)⟩
    · have i1 : ¬ (n : Int) < (vm : Int) := by omega
      have h1 := HEQ.out
      rw [List.take_of_length_le (by have := EV.out; omega), List.take_of_length_le (by have := EV'.out; omega)] at h1
      obtain rfl : E = true := E1.out.1 h1
      clear h1
      go_wp2
      go_ret
      exact ⟨rfl, HB0.out.trans (HD.out.below _)⟩

theorem told_any (idle data cho : Int) (hg ho hr : Bool) (ga oa ra va : Option Addr) (gm om rm vm gc oc rc vc : Nat) (idle' data' cho' : Int) (hg' ho' hr' : Bool) (ga' oa' ra' va' : Option Addr) (gm' om' rm' vm' gc' oc' rc' vc' : Nat) (gz oz rz vz gz' oz' rz' vz' : List Int) (w : World) (cg : gm ≤ gc) (co : om ≤ oc) (cr : rm ≤ rc) (cv : vm ≤ vc) (cg' : gm' ≤ gc') (co' : om' ≤ oc') (cr' : rm' ≤ rc') (cv' : vm' ≤ vc') (eg : gz.length = gm) (lg : gm ≤ 1000) (rg : Row w w.heap.size ga (ints .u8 gz)) (eo : oz.length = om) (lo : om ≤ 1000) (ro : Row w w.heap.size oa (ints .u8 oz)) (er : rz.length = rm) (lr : rm ≤ 1000) (rr : Row w w.heap.size ra (ints .u8 rz)) (ev : vz.length = vm) (lv : vm ≤ 1000) (rv : Row w w.heap.size va (ints .i64 vz)) (eg' : gz'.length = gm') (lg' : gm' ≤ 1000) (rg' : Row w w.heap.size ga' (ints .u8 gz')) (eo' : oz'.length = om') (lo' : om' ≤ 1000) (ro' : Row w w.heap.size oa' (ints .u8 oz')) (er' : rz'.length = rm') (lr' : rm' ≤ 1000) (rr' : Row w w.heap.size ra' (ints .u8 rz')) (ev' : vz'.length = vm') (lv' : vm' ≤ 1000) (rv' : Row w w.heap.size va' (ints .i64 vz')) :
    Calls Tryd.prog 14 #[.agg #[.int .i64 idle, .int .i64 data, .bool hg, .bool ho, .bool hr, .slice ga gm gc, .slice oa om oc, .slice ra rm rc, .int .i64 cho, .slice va vm vc], .agg #[.int .i64 idle', .int .i64 data', .bool hg', .bool ho', .bool hr', .slice ga' gm' gc', .slice oa' om' oc', .slice ra' rm' rc', .int .i64 cho', .slice va' vm' vc']] w fun e w' => e = .returned (.bool (sameT idle data cho hg ho hr gz oz rz vz idle' data' cho' hg' ho' hr' gz' oz' rz' vz')) ∧ Below w.heap.size w w' := by
  by_cases h0 : (idle == idle') = false
  · have e : sameT idle data cho hg ho hr gz oz rz vz idle' data' cho' hg' ho' hr' gz' oz' rz' vz' = false := by unfold sameT; simp only [h0, Bool.and_false, Bool.false_and]
    rw [e]
    exact told_c0 idle data cho hg ho hr ga oa ra va gm om rm vm gc oc rc vc idle' data' cho' hg' ho' hr' ga' oa' ra' va' gm' om' rm' vm' gc' oc' rc' vc' gz oz rz vz gz' oz' rz' vz' w cg co cr cv cg' co' cr' cv' eg lg rg eo lo ro er lr rr ev lv rv eg' lg' rg' eo' lo' ro' er' lr' rr' ev' lv' rv'  (by simpa using h0)
  replace h0 : (idle == idle') = true := by simpa using h0
  by_cases h1 : (data == data') = false
  · have e : sameT idle data cho hg ho hr gz oz rz vz idle' data' cho' hg' ho' hr' gz' oz' rz' vz' = false := by unfold sameT; simp only [h0, h1, Bool.and_false, Bool.false_and]
    rw [e]
    exact told_c1 idle data cho hg ho hr ga oa ra va gm om rm vm gc oc rc vc idle' data' cho' hg' ho' hr' ga' oa' ra' va' gm' om' rm' vm' gc' oc' rc' vc' gz oz rz vz gz' oz' rz' vz' w cg co cr cv cg' co' cr' cv' eg lg rg eo lo ro er lr rr ev lv rv eg' lg' rg' eo' lo' ro' er' lr' rr' ev' lv' rv' (by simpa using h0) (by simpa using h1)
  replace h1 : (data == data') = true := by simpa using h1
  by_cases h2 : (hg == hg') = false
  · have e : sameT idle data cho hg ho hr gz oz rz vz idle' data' cho' hg' ho' hr' gz' oz' rz' vz' = false := by unfold sameT; simp only [h0, h1, h2, Bool.and_false, Bool.false_and]
    rw [e]
    have d : (hg = true ∧ hg' = false) ∨ (hg = false ∧ hg' = true) := by revert h2; cases hg <;> cases hg' <;> simp
    rcases d with d | d
    · exact told_c2t idle data cho hg ho hr ga oa ra va gm om rm vm gc oc rc vc idle' data' cho' hg' ho' hr' ga' oa' ra' va' gm' om' rm' vm' gc' oc' rc' vc' gz oz rz vz gz' oz' rz' vz' w cg co cr cv cg' co' cr' cv' eg lg rg eo lo ro er lr rr ev lv rv eg' lg' rg' eo' lo' ro' er' lr' rr' ev' lv' rv' (by simpa using h0) (by simpa using h1) d
    · exact told_c2f idle data cho hg ho hr ga oa ra va gm om rm vm gc oc rc vc idle' data' cho' hg' ho' hr' ga' oa' ra' va' gm' om' rm' vm' gc' oc' rc' vc' gz oz rz vz gz' oz' rz' vz' w cg co cr cv cg' co' cr' cv' eg lg rg eo lo ro er lr rr ev lv rv eg' lg' rg' eo' lo' ro' er' lr' rr' ev' lv' rv' (by simpa using h0) (by simpa using h1) d
  replace h2 : (hg == hg') = true := by simpa using h2
  by_cases h3 : (ho == ho') = false
  · have e : sameT idle data cho hg ho hr gz oz rz vz idle' data' cho' hg' ho' hr' gz' oz' rz' vz' = false := by unfold sameT; simp only [h0, h1, h2, h3, Bool.and_false, Bool.false_and]
    rw [e]
    have d : (ho = true ∧ ho' = false) ∨ (ho = false ∧ ho' = true) := by revert h3; cases ho <;> cases ho' <;> simp
    rcases d with d | d
    · exact told_c3t idle data cho hg ho hr ga oa ra va gm om rm vm gc oc rc vc idle' data' cho' hg' ho' hr' ga' oa' ra' va' gm' om' rm' vm' gc' oc' rc' vc' gz oz rz vz gz' oz' rz' vz' w cg co cr cv cg' co' cr' cv' eg lg rg eo lo ro er lr rr ev lv rv eg' lg' rg' eo' lo' ro' er' lr' rr' ev' lv' rv' (by simpa using h0) (by simpa using h1) (beq_iff_eq.1 h2) d
    · exact told_c3f idle data cho hg ho hr ga oa ra va gm om rm vm gc oc rc vc idle' data' cho' hg' ho' hr' ga' oa' ra' va' gm' om' rm' vm' gc' oc' rc' vc' gz oz rz vz gz' oz' rz' vz' w cg co cr cv cg' co' cr' cv' eg lg rg eo lo ro er lr rr ev lv rv eg' lg' rg' eo' lo' ro' er' lr' rr' ev' lv' rv' (by simpa using h0) (by simpa using h1) (beq_iff_eq.1 h2) d
  replace h3 : (ho == ho') = true := by simpa using h3
  by_cases h4 : (hr == hr') = false
  · have e : sameT idle data cho hg ho hr gz oz rz vz idle' data' cho' hg' ho' hr' gz' oz' rz' vz' = false := by unfold sameT; simp only [h0, h1, h2, h3, h4, Bool.and_false, Bool.false_and]
    rw [e]
    have d : (hr = true ∧ hr' = false) ∨ (hr = false ∧ hr' = true) := by revert h4; cases hr <;> cases hr' <;> simp
    rcases d with d | d
    · exact told_c4t idle data cho hg ho hr ga oa ra va gm om rm vm gc oc rc vc idle' data' cho' hg' ho' hr' ga' oa' ra' va' gm' om' rm' vm' gc' oc' rc' vc' gz oz rz vz gz' oz' rz' vz' w cg co cr cv cg' co' cr' cv' eg lg rg eo lo ro er lr rr ev lv rv eg' lg' rg' eo' lo' ro' er' lr' rr' ev' lv' rv' (by simpa using h0) (by simpa using h1) (beq_iff_eq.1 h2) (beq_iff_eq.1 h3) d
    · exact told_c4f idle data cho hg ho hr ga oa ra va gm om rm vm gc oc rc vc idle' data' cho' hg' ho' hr' ga' oa' ra' va' gm' om' rm' vm' gc' oc' rc' vc' gz oz rz vz gz' oz' rz' vz' w cg co cr cv cg' co' cr' cv' eg lg rg eo lo ro er lr rr ev lv rv eg' lg' rg' eo' lo' ro' er' lr' rr' ev' lv' rv' (by simpa using h0) (by simpa using h1) (beq_iff_eq.1 h2) (beq_iff_eq.1 h3) d
  replace h4 : (hr == hr') = true := by simpa using h4
  by_cases h5 : (gz == gz') = false
  · have e : sameT idle data cho hg ho hr gz oz rz vz idle' data' cho' hg' ho' hr' gz' oz' rz' vz' = false := by unfold sameT; simp only [h0, h1, h2, h3, h4, h5, Bool.and_false, Bool.false_and]
    rw [e]
    exact told_c5 idle data cho hg ho hr ga oa ra va gm om rm vm gc oc rc vc idle' data' cho' hg' ho' hr' ga' oa' ra' va' gm' om' rm' vm' gc' oc' rc' vc' gz oz rz vz gz' oz' rz' vz' w cg co cr cv cg' co' cr' cv' eg lg rg eo lo ro er lr rr ev lv rv eg' lg' rg' eo' lo' ro' er' lr' rr' ev' lv' rv' (by simpa using h0) (by simpa using h1) (beq_iff_eq.1 h2) (beq_iff_eq.1 h3) (beq_iff_eq.1 h4) (by simpa using h5)
  replace h5 : (gz == gz') = true := by simpa using h5
  by_cases h6 : (oz == oz') = false
  · have e : sameT idle data cho hg ho hr gz oz rz vz idle' data' cho' hg' ho' hr' gz' oz' rz' vz' = false := by unfold sameT; simp only [h0, h1, h2, h3, h4, h5, h6, Bool.and_false, Bool.false_and]
    rw [e]
    exact told_c6 idle data cho hg ho hr ga oa ra va gm om rm vm gc oc rc vc idle' data' cho' hg' ho' hr' ga' oa' ra' va' gm' om' rm' vm' gc' oc' rc' vc' gz oz rz vz gz' oz' rz' vz' w cg co cr cv cg' co' cr' cv' eg lg rg eo lo ro er lr rr ev lv rv eg' lg' rg' eo' lo' ro' er' lr' rr' ev' lv' rv' (by simpa using h0) (by simpa using h1) (beq_iff_eq.1 h2) (beq_iff_eq.1 h3) (beq_iff_eq.1 h4) (by simpa using h5) (by simpa using h6)
  replace h6 : (oz == oz') = true := by simpa using h6
  by_cases h7 : (rz == rz') = false
  · have e : sameT idle data cho hg ho hr gz oz rz vz idle' data' cho' hg' ho' hr' gz' oz' rz' vz' = false := by unfold sameT; simp only [h0, h1, h2, h3, h4, h5, h6, h7, Bool.and_false, Bool.false_and]
    rw [e]
    exact told_c7 idle data cho hg ho hr ga oa ra va gm om rm vm gc oc rc vc idle' data' cho' hg' ho' hr' ga' oa' ra' va' gm' om' rm' vm' gc' oc' rc' vc' gz oz rz vz gz' oz' rz' vz' w cg co cr cv cg' co' cr' cv' eg lg rg eo lo ro er lr rr ev lv rv eg' lg' rg' eo' lo' ro' er' lr' rr' ev' lv' rv' (by simpa using h0) (by simpa using h1) (beq_iff_eq.1 h2) (beq_iff_eq.1 h3) (beq_iff_eq.1 h4) (by simpa using h5) (by simpa using h6) (by simpa using h7)
  replace h7 : (rz == rz') = true := by simpa using h7
  by_cases h8 : (cho == cho') = false
  · have e : sameT idle data cho hg ho hr gz oz rz vz idle' data' cho' hg' ho' hr' gz' oz' rz' vz' = false := by unfold sameT; simp only [h0, h1, h2, h3, h4, h5, h6, h7, h8, Bool.and_false, Bool.false_and]
    rw [e]
    exact told_c8 idle data cho hg ho hr ga oa ra va gm om rm vm gc oc rc vc idle' data' cho' hg' ho' hr' ga' oa' ra' va' gm' om' rm' vm' gc' oc' rc' vc' gz oz rz vz gz' oz' rz' vz' w cg co cr cv cg' co' cr' cv' eg lg rg eo lo ro er lr rr ev lv rv eg' lg' rg' eo' lo' ro' er' lr' rr' ev' lv' rv' (by simpa using h0) (by simpa using h1) (beq_iff_eq.1 h2) (beq_iff_eq.1 h3) (beq_iff_eq.1 h4) (by simpa using h5) (by simpa using h6) (by simpa using h7) (by simpa using h8)
  replace h8 : (cho == cho') = true := by simpa using h8
  by_cases h9 : vm = vm'
  · have e : sameT idle data cho hg ho hr gz oz rz vz idle' data' cho' hg' ho' hr' gz' oz' rz' vz' = (vz == vz') := by unfold sameT; simp only [h0, h1, h2, h3, h4, h5, h6, h7, h8, Bool.true_and]
    rw [e]
    exact told_c10 idle data cho hg ho hr ga oa ra va gm om rm vm gc oc rc vc idle' data' cho' hg' ho' hr' ga' oa' ra' va' gm' om' rm' vm' gc' oc' rc' vc' gz oz rz vz gz' oz' rz' vz' w cg co cr cv cg' co' cr' cv' eg lg rg eo lo ro er lr rr ev lv rv eg' lg' rg' eo' lo' ro' er' lr' rr' ev' lv' rv' (by simpa using h0) (by simpa using h1) (beq_iff_eq.1 h2) (beq_iff_eq.1 h3) (beq_iff_eq.1 h4) (by simpa using h5) (by simpa using h6) (by simpa using h7) (by simpa using h8) h9
  · have hv : (vz == vz') = false := by rw [beq_eq_false_iff_ne]; intro e; exact h9 (by rw [← ev, ← ev', e])
    have e : sameT idle data cho hg ho hr gz oz rz vz idle' data' cho' hg' ho' hr' gz' oz' rz' vz' = false := by unfold sameT; simp only [h0, h1, h2, h3, h4, h5, h6, h7, h8, hv, Bool.and_false]
    rw [e]
    exact told_c9 idle data cho hg ho hr ga oa ra va gm om rm vm gc oc rc vc idle' data' cho' hg' ho' hr' ga' oa' ra' va' gm' om' rm' vm' gc' oc' rc' vc' gz oz rz vz gz' oz' rz' vz' w cg co cr cv cg' co' cr' cv' eg lg rg eo lo ro er lr rr ev lv rv eg' lg' rg' eo' lo' ro' er' lr' rr' ev' lv' rv' (by simpa using h0) (by simpa using h1) (beq_iff_eq.1 h2) (beq_iff_eq.1 h3) (beq_iff_eq.1 h4) (by simpa using h5) (by simpa using h6) (by simpa using h7) (by simpa using h8) h9

end Go.Proofs.YtaplndehoenghaaDoor
