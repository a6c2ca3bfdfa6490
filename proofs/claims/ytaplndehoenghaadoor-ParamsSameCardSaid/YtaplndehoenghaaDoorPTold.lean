/- told: are all fields alike? (Printed by wip/gen/mk_ptold.py.) -/
import Derived.Test.YtaplndehoenghaaDoorPSame
namespace Go.Proofs.YtaplndehoenghaaDoor
open Go.RowKit
set_option linter.unusedVariables false

set_option maxRecDepth 100000 in
set_option maxHeartbeats 4000000 in
theorem told_c0 (idle data cho : Int) (hg ho hr : Bool) (ga oa ra va : Option Addr) (gm om rm vm gc oc rc vc : Nat) (idle' data' cho' : Int) (hg' ho' hr' : Bool) (ga' oa' ra' va' : Option Addr) (gm' om' rm' vm' gc' oc' rc' vc' : Nat) (gz oz rz vz gz' oz' rz' vz' : List Int) (w : World) (cg : gm ≤ gc) (co : om ≤ oc) (cr : rm ≤ rc) (cv : vm ≤ vc) (cg' : gm' ≤ gc') (co' : om' ≤ oc') (cr' : rm' ≤ rc') (cv' : vm' ≤ vc') (eg : gz.length = gm) (lg : gm ≤ 1000) (rg : Row w w.heap.size ga (ints .u8 gz)) (eo : oz.length = om) (lo : om ≤ 1000) (ro : Row w w.heap.size oa (ints .u8 oz)) (er : rz.length = rm) (lr : rm ≤ 1000) (rr : Row w w.heap.size ra (ints .u8 rz)) (ev : vz.length = vm) (lv : vm ≤ 1000) (rv : Row w w.heap.size va (ints .i64 vz)) (eg' : gz'.length = gm') (lg' : gm' ≤ 1000) (rg' : Row w w.heap.size ga' (ints .u8 gz')) (eo' : oz'.length = om') (lo' : om' ≤ 1000) (ro' : Row w w.heap.size oa' (ints .u8 oz')) (er' : rz'.length = rm') (lr' : rm' ≤ 1000) (rr' : Row w w.heap.size ra' (ints .u8 rz')) (ev' : vz'.length = vm') (lv' : vm' ≤ 1000) (rv' : Row w w.heap.size va' (ints .i64 vz')) (h0 : (idle != idle') = true) :
    Calls Tryd.prog 14 #[.agg #[.int .i64 idle, .int .i64 data, .bool hg, .bool ho, .bool hr, .slice ga gm gc, .slice oa om oc, .slice ra rm rc, .int .i64 cho, .slice va vm vc], .agg #[.int .i64 idle', .int .i64 data', .bool hg', .bool ho', .bool hr', .slice ga' gm' gc', .slice oa' om' oc', .slice ra' rm' rc', .int .i64 cho', .slice va' vm' vc']] w fun e w' => e = .returned (.bool false) ∧ Below w.heap.size w w' := by
  obtain ⟨W0, hW0⟩ : ∃ W0, (w.alloc (.cells #[.int .i64 idle, .int .i64 data, .bool hg, .bool ho, .bool hr, .slice ga gm gc, .slice oa om oc, .slice ra rm rc, .int .i64 cho, .slice va vm vc] 27)).alloc (.cells #[.int .i64 idle', .int .i64 data', .bool hg', .bool ho', .bool hr', .slice ga' gm' gc', .slice oa' om' oc', .slice ra' rm' rc', .int .i64 cho', .slice va' vm' vc'] 25) = W0 := ⟨_, rfl⟩
  obtain ⟨g1, g2, b0⟩ := two_new w (.cells #[.int .i64 idle, .int .i64 data, .bool hg, .bool ho, .bool hr, .slice ga gm gc, .slice oa om oc, .slice ra rm rc, .int .i64 cho, .slice va vm vc] 27) (.cells #[.int .i64 idle', .int .i64 data', .bool hg', .bool ho', .bool hr', .slice ga' gm' gc', .slice oa' om' oc', .slice ra' rm' rc', .int .i64 cho', .slice va' vm' vc'] 25)
  have cA := cells10 g1
  have cB := cells10 g2
  rw [hW0] at b0 g1 g2
  have HB0 := Lib.hid b0; clear b0
  have G1 := Lib.hid g1; have G2 := Lib.hid g2; clear g1 g2
  have HW0 := Lib.hid hW0; clear hW0
  clear eg lg rg cg eo lo ro co er lr rr cr ev lv rv cv eg' lg' rg' cg' eo' lo' ro' co' er' lr' rr' cr' ev' lv' rv' cv'
  go_enter Tryd.func14, Tryd.ntmps14
  go_wp2
  go_ret
  rw [HW0.out]
  exact ⟨rfl, HB0.out⟩

set_option maxRecDepth 100000 in
set_option maxHeartbeats 4000000 in
theorem told_c1 (idle data cho : Int) (hg ho hr : Bool) (ga oa ra va : Option Addr) (gm om rm vm gc oc rc vc : Nat) (idle' data' cho' : Int) (hg' ho' hr' : Bool) (ga' oa' ra' va' : Option Addr) (gm' om' rm' vm' gc' oc' rc' vc' : Nat) (gz oz rz vz gz' oz' rz' vz' : List Int) (w : World) (cg : gm ≤ gc) (co : om ≤ oc) (cr : rm ≤ rc) (cv : vm ≤ vc) (cg' : gm' ≤ gc') (co' : om' ≤ oc') (cr' : rm' ≤ rc') (cv' : vm' ≤ vc') (eg : gz.length = gm) (lg : gm ≤ 1000) (rg : Row w w.heap.size ga (ints .u8 gz)) (eo : oz.length = om) (lo : om ≤ 1000) (ro : Row w w.heap.size oa (ints .u8 oz)) (er : rz.length = rm) (lr : rm ≤ 1000) (rr : Row w w.heap.size ra (ints .u8 rz)) (ev : vz.length = vm) (lv : vm ≤ 1000) (rv : Row w w.heap.size va (ints .i64 vz)) (eg' : gz'.length = gm') (lg' : gm' ≤ 1000) (rg' : Row w w.heap.size ga' (ints .u8 gz')) (eo' : oz'.length = om') (lo' : om' ≤ 1000) (ro' : Row w w.heap.size oa' (ints .u8 oz')) (er' : rz'.length = rm') (lr' : rm' ≤ 1000) (rr' : Row w w.heap.size ra' (ints .u8 rz')) (ev' : vz'.length = vm') (lv' : vm' ≤ 1000) (rv' : Row w w.heap.size va' (ints .i64 vz')) (h0 : (idle != idle') = false) (h1 : (data != data') = true) :
    Calls Tryd.prog 14 #[.agg #[.int .i64 idle, .int .i64 data, .bool hg, .bool ho, .bool hr, .slice ga gm gc, .slice oa om oc, .slice ra rm rc, .int .i64 cho, .slice va vm vc], .agg #[.int .i64 idle', .int .i64 data', .bool hg', .bool ho', .bool hr', .slice ga' gm' gc', .slice oa' om' oc', .slice ra' rm' rc', .int .i64 cho', .slice va' vm' vc']] w fun e w' => e = .returned (.bool false) ∧ Below w.heap.size w w' := by
  obtain ⟨W0, hW0⟩ : ∃ W0, (w.alloc (.cells #[.int .i64 idle, .int .i64 data, .bool hg, .bool ho, .bool hr, .slice ga gm gc, .slice oa om oc, .slice ra rm rc, .int .i64 cho, .slice va vm vc] 27)).alloc (.cells #[.int .i64 idle', .int .i64 data', .bool hg', .bool ho', .bool hr', .slice ga' gm' gc', .slice oa' om' oc', .slice ra' rm' rc', .int .i64 cho', .slice va' vm' vc'] 25) = W0 := ⟨_, rfl⟩
  obtain ⟨g1, g2, b0⟩ := two_new w (.cells #[.int .i64 idle, .int .i64 data, .bool hg, .bool ho, .bool hr, .slice ga gm gc, .slice oa om oc, .slice ra rm rc, .int .i64 cho, .slice va vm vc] 27) (.cells #[.int .i64 idle', .int .i64 data', .bool hg', .bool ho', .bool hr', .slice ga' gm' gc', .slice oa' om' oc', .slice ra' rm' rc', .int .i64 cho', .slice va' vm' vc'] 25)
  have cA := cells10 g1
  have cB := cells10 g2
  rw [hW0] at b0 g1 g2
  have HB0 := Lib.hid b0; clear b0
  have G1 := Lib.hid g1; have G2 := Lib.hid g2; clear g1 g2
  have HW0 := Lib.hid hW0; clear hW0
  clear eg lg rg cg eo lo ro co er lr rr cr ev lv rv cv eg' lg' rg' cg' eo' lo' ro' co' er' lr' rr' cr' ev' lv' rv' cv'
  go_enter Tryd.func14, Tryd.ntmps14
  go_wp2
  go_ret
  rw [HW0.out]
  exact ⟨rfl, HB0.out⟩

set_option maxRecDepth 100000 in
set_option maxHeartbeats 4000000 in
theorem told_c2t (idle data cho : Int) (hg ho hr : Bool) (ga oa ra va : Option Addr) (gm om rm vm gc oc rc vc : Nat) (idle' data' cho' : Int) (hg' ho' hr' : Bool) (ga' oa' ra' va' : Option Addr) (gm' om' rm' vm' gc' oc' rc' vc' : Nat) (gz oz rz vz gz' oz' rz' vz' : List Int) (w : World) (cg : gm ≤ gc) (co : om ≤ oc) (cr : rm ≤ rc) (cv : vm ≤ vc) (cg' : gm' ≤ gc') (co' : om' ≤ oc') (cr' : rm' ≤ rc') (cv' : vm' ≤ vc') (eg : gz.length = gm) (lg : gm ≤ 1000) (rg : Row w w.heap.size ga (ints .u8 gz)) (eo : oz.length = om) (lo : om ≤ 1000) (ro : Row w w.heap.size oa (ints .u8 oz)) (er : rz.length = rm) (lr : rm ≤ 1000) (rr : Row w w.heap.size ra (ints .u8 rz)) (ev : vz.length = vm) (lv : vm ≤ 1000) (rv : Row w w.heap.size va (ints .i64 vz)) (eg' : gz'.length = gm') (lg' : gm' ≤ 1000) (rg' : Row w w.heap.size ga' (ints .u8 gz')) (eo' : oz'.length = om') (lo' : om' ≤ 1000) (ro' : Row w w.heap.size oa' (ints .u8 oz')) (er' : rz'.length = rm') (lr' : rm' ≤ 1000) (rr' : Row w w.heap.size ra' (ints .u8 rz')) (ev' : vz'.length = vm') (lv' : vm' ≤ 1000) (rv' : Row w w.heap.size va' (ints .i64 vz')) (h0 : (idle != idle') = false) (h1 : (data != data') = false) (h2 : hg = true ∧ hg' = false) :
    Calls Tryd.prog 14 #[.agg #[.int .i64 idle, .int .i64 data, .bool hg, .bool ho, .bool hr, .slice ga gm gc, .slice oa om oc, .slice ra rm rc, .int .i64 cho, .slice va vm vc], .agg #[.int .i64 idle', .int .i64 data', .bool hg', .bool ho', .bool hr', .slice ga' gm' gc', .slice oa' om' oc', .slice ra' rm' rc', .int .i64 cho', .slice va' vm' vc']] w fun e w' => e = .returned (.bool false) ∧ Below w.heap.size w w' := by
  obtain ⟨rfl, rfl⟩ := h2
  obtain ⟨W0, hW0⟩ : ∃ W0, (w.alloc (.cells #[.int .i64 idle, .int .i64 data, .bool true, .bool ho, .bool hr, .slice ga gm gc, .slice oa om oc, .slice ra rm rc, .int .i64 cho, .slice va vm vc] 27)).alloc (.cells #[.int .i64 idle', .int .i64 data', .bool false, .bool ho', .bool hr', .slice ga' gm' gc', .slice oa' om' oc', .slice ra' rm' rc', .int .i64 cho', .slice va' vm' vc'] 25) = W0 := ⟨_, rfl⟩
  obtain ⟨g1, g2, b0⟩ := two_new w (.cells #[.int .i64 idle, .int .i64 data, .bool true, .bool ho, .bool hr, .slice ga gm gc, .slice oa om oc, .slice ra rm rc, .int .i64 cho, .slice va vm vc] 27) (.cells #[.int .i64 idle', .int .i64 data', .bool false, .bool ho', .bool hr', .slice ga' gm' gc', .slice oa' om' oc', .slice ra' rm' rc', .int .i64 cho', .slice va' vm' vc'] 25)
  have cA := cells10 g1
  have cB := cells10 g2
  rw [hW0] at b0 g1 g2
  have HB0 := Lib.hid b0; clear b0
  have G1 := Lib.hid g1; have G2 := Lib.hid g2; clear g1 g2
  have HW0 := Lib.hid hW0; clear hW0
  clear eg lg rg cg eo lo ro co er lr rr cr ev lv rv cv eg' lg' rg' cg' eo' lo' ro' co' er' lr' rr' cr' ev' lv' rv' cv'
  go_enter Tryd.func14, Tryd.ntmps14
  go_wp2
  go_ret
  rw [HW0.out]
  exact ⟨rfl, HB0.out⟩

set_option maxRecDepth 100000 in
set_option maxHeartbeats 4000000 in
theorem told_c2f (idle data cho : Int) (hg ho hr : Bool) (ga oa ra va : Option Addr) (gm om rm vm gc oc rc vc : Nat) (idle' data' cho' : Int) (hg' ho' hr' : Bool) (ga' oa' ra' va' : Option Addr) (gm' om' rm' vm' gc' oc' rc' vc' : Nat) (gz oz rz vz gz' oz' rz' vz' : List Int) (w : World) (cg : gm ≤ gc) (co : om ≤ oc) (cr : rm ≤ rc) (cv : vm ≤ vc) (cg' : gm' ≤ gc') (co' : om' ≤ oc') (cr' : rm' ≤ rc') (cv' : vm' ≤ vc') (eg : gz.length = gm) (lg : gm ≤ 1000) (rg : Row w w.heap.size ga (ints .u8 gz)) (eo : oz.length = om) (lo : om ≤ 1000) (ro : Row w w.heap.size oa (ints .u8 oz)) (er : rz.length = rm) (lr : rm ≤ 1000) (rr : Row w w.heap.size ra (ints .u8 rz)) (ev : vz.length = vm) (lv : vm ≤ 1000) (rv : Row w w.heap.size va (ints .i64 vz)) (eg' : gz'.length = gm') (lg' : gm' ≤ 1000) (rg' : Row w w.heap.size ga' (ints .u8 gz')) (eo' : oz'.length = om') (lo' : om' ≤ 1000) (ro' : Row w w.heap.size oa' (ints .u8 oz')) (er' : rz'.length = rm') (lr' : rm' ≤ 1000) (rr' : Row w w.heap.size ra' (ints .u8 rz')) (ev' : vz'.length = vm') (lv' : vm' ≤ 1000) (rv' : Row w w.heap.size va' (ints .i64 vz')) (h0 : (idle != idle') = false) (h1 : (data != data') = false) (h2 : hg = false ∧ hg' = true) :
    Calls Tryd.prog 14 #[.agg #[.int .i64 idle, .int .i64 data, .bool hg, .bool ho, .bool hr, .slice ga gm gc, .slice oa om oc, .slice ra rm rc, .int .i64 cho, .slice va vm vc], .agg #[.int .i64 idle', .int .i64 data', .bool hg', .bool ho', .bool hr', .slice ga' gm' gc', .slice oa' om' oc', .slice ra' rm' rc', .int .i64 cho', .slice va' vm' vc']] w fun e w' => e = .returned (.bool false) ∧ Below w.heap.size w w' := by
  obtain ⟨rfl, rfl⟩ := h2
  obtain ⟨W0, hW0⟩ : ∃ W0, (w.alloc (.cells #[.int .i64 idle, .int .i64 data, .bool false, .bool ho, .bool hr, .slice ga gm gc, .slice oa om oc, .slice ra rm rc, .int .i64 cho, .slice va vm vc] 27)).alloc (.cells #[.int .i64 idle', .int .i64 data', .bool true, .bool ho', .bool hr', .slice ga' gm' gc', .slice oa' om' oc', .slice ra' rm' rc', .int .i64 cho', .slice va' vm' vc'] 25) = W0 := ⟨_, rfl⟩
  obtain ⟨g1, g2, b0⟩ := two_new w (.cells #[.int .i64 idle, .int .i64 data, .bool false, .bool ho, .bool hr, .slice ga gm gc, .slice oa om oc, .slice ra rm rc, .int .i64 cho, .slice va vm vc] 27) (.cells #[.int .i64 idle', .int .i64 data', .bool true, .bool ho', .bool hr', .slice ga' gm' gc', .slice oa' om' oc', .slice ra' rm' rc', .int .i64 cho', .slice va' vm' vc'] 25)
  have cA := cells10 g1
  have cB := cells10 g2
  rw [hW0] at b0 g1 g2
  have HB0 := Lib.hid b0; clear b0
  have G1 := Lib.hid g1; have G2 := Lib.hid g2; clear g1 g2
  have HW0 := Lib.hid hW0; clear hW0
  clear eg lg rg cg eo lo ro co er lr rr cr ev lv rv cv eg' lg' rg' cg' eo' lo' ro' co' er' lr' rr' cr' ev' lv' rv' cv'
  go_enter Tryd.func14, Tryd.ntmps14
  go_wp2
  go_ret
  rw [HW0.out]
  exact ⟨rfl, HB0.out⟩

set_option maxRecDepth 100000 in
set_option maxHeartbeats 4000000 in
theorem told_c3t (idle data cho : Int) (hg ho hr : Bool) (ga oa ra va : Option Addr) (gm om rm vm gc oc rc vc : Nat) (idle' data' cho' : Int) (hg' ho' hr' : Bool) (ga' oa' ra' va' : Option Addr) (gm' om' rm' vm' gc' oc' rc' vc' : Nat) (gz oz rz vz gz' oz' rz' vz' : List Int) (w : World) (cg : gm ≤ gc) (co : om ≤ oc) (cr : rm ≤ rc) (cv : vm ≤ vc) (cg' : gm' ≤ gc') (co' : om' ≤ oc') (cr' : rm' ≤ rc') (cv' : vm' ≤ vc') (eg : gz.length = gm) (lg : gm ≤ 1000) (rg : Row w w.heap.size ga (ints .u8 gz)) (eo : oz.length = om) (lo : om ≤ 1000) (ro : Row w w.heap.size oa (ints .u8 oz)) (er : rz.length = rm) (lr : rm ≤ 1000) (rr : Row w w.heap.size ra (ints .u8 rz)) (ev : vz.length = vm) (lv : vm ≤ 1000) (rv : Row w w.heap.size va (ints .i64 vz)) (eg' : gz'.length = gm') (lg' : gm' ≤ 1000) (rg' : Row w w.heap.size ga' (ints .u8 gz')) (eo' : oz'.length = om') (lo' : om' ≤ 1000) (ro' : Row w w.heap.size oa' (ints .u8 oz')) (er' : rz'.length = rm') (lr' : rm' ≤ 1000) (rr' : Row w w.heap.size ra' (ints .u8 rz')) (ev' : vz'.length = vm') (lv' : vm' ≤ 1000) (rv' : Row w w.heap.size va' (ints .i64 vz')) (h0 : (idle != idle') = false) (h1 : (data != data') = false) (h2 : hg = hg') (h3 : ho = true ∧ ho' = false) :
    Calls Tryd.prog 14 #[.agg #[.int .i64 idle, .int .i64 data, .bool hg, .bool ho, .bool hr, .slice ga gm gc, .slice oa om oc, .slice ra rm rc, .int .i64 cho, .slice va vm vc], .agg #[.int .i64 idle', .int .i64 data', .bool hg', .bool ho', .bool hr', .slice ga' gm' gc', .slice oa' om' oc', .slice ra' rm' rc', .int .i64 cho', .slice va' vm' vc']] w fun e w' => e = .returned (.bool false) ∧ Below w.heap.size w w' := by
  subst h2
  obtain ⟨rfl, rfl⟩ := h3
  obtain ⟨W0, hW0⟩ : ∃ W0, (w.alloc (.cells #[.int .i64 idle, .int .i64 data, .bool hg, .bool true, .bool hr, .slice ga gm gc, .slice oa om oc, .slice ra rm rc, .int .i64 cho, .slice va vm vc] 27)).alloc (.cells #[.int .i64 idle', .int .i64 data', .bool hg, .bool false, .bool hr', .slice ga' gm' gc', .slice oa' om' oc', .slice ra' rm' rc', .int .i64 cho', .slice va' vm' vc'] 25) = W0 := ⟨_, rfl⟩
  obtain ⟨g1, g2, b0⟩ := two_new w (.cells #[.int .i64 idle, .int .i64 data, .bool hg, .bool true, .bool hr, .slice ga gm gc, .slice oa om oc, .slice ra rm rc, .int .i64 cho, .slice va vm vc] 27) (.cells #[.int .i64 idle', .int .i64 data', .bool hg, .bool false, .bool hr', .slice ga' gm' gc', .slice oa' om' oc', .slice ra' rm' rc', .int .i64 cho', .slice va' vm' vc'] 25)
  have cA := cells10 g1
  have cB := cells10 g2
  rw [hW0] at b0 g1 g2
  have HB0 := Lib.hid b0; clear b0
  have G1 := Lib.hid g1; have G2 := Lib.hid g2; clear g1 g2
  have HW0 := Lib.hid hW0; clear hW0
  clear eg lg rg cg eo lo ro co er lr rr cr ev lv rv cv eg' lg' rg' cg' eo' lo' ro' co' er' lr' rr' cr' ev' lv' rv' cv'
  go_enter Tryd.func14, Tryd.ntmps14
  go_wp2
  go_ret
  rw [HW0.out]
  exact ⟨rfl, HB0.out⟩

set_option maxRecDepth 100000 in
set_option maxHeartbeats 4000000 in
theorem told_c3f (idle data cho : Int) (hg ho hr : Bool) (ga oa ra va : Option Addr) (gm om rm vm gc oc rc vc : Nat) (idle' data' cho' : Int) (hg' ho' hr' : Bool) (ga' oa' ra' va' : Option Addr) (gm' om' rm' vm' gc' oc' rc' vc' : Nat) (gz oz rz vz gz' oz' rz' vz' : List Int) (w : World) (cg : gm ≤ gc) (co : om ≤ oc) (cr : rm ≤ rc) (cv : vm ≤ vc) (cg' : gm' ≤ gc') (co' : om' ≤ oc') (cr' : rm' ≤ rc') (cv' : vm' ≤ vc') (eg : gz.length = gm) (lg : gm ≤ 1000) (rg : Row w w.heap.size ga (ints .u8 gz)) (eo : oz.length = om) (lo : om ≤ 1000) (ro : Row w w.heap.size oa (ints .u8 oz)) (er : rz.length = rm) (lr : rm ≤ 1000) (rr : Row w w.heap.size ra (ints .u8 rz)) (ev : vz.length = vm) (lv : vm ≤ 1000) (rv : Row w w.heap.size va (ints .i64 vz)) (eg' : gz'.length = gm') (lg' : gm' ≤ 1000) (rg' : Row w w.heap.size ga' (ints .u8 gz')) (eo' : oz'.length = om') (lo' : om' ≤ 1000) (ro' : Row w w.heap.size oa' (ints .u8 oz')) (er' : rz'.length = rm') (lr' : rm' ≤ 1000) (rr' : Row w w.heap.size ra' (ints .u8 rz')) (ev' : vz'.length = vm') (lv' : vm' ≤ 1000) (rv' : Row w w.heap.size va' (ints .i64 vz')) (h0 : (idle != idle') = false) (h1 : (data != data') = false) (h2 : hg = hg') (h3 : ho = false ∧ ho' = true) :
    Calls Tryd.prog 14 #[.agg #[.int .i64 idle, .int .i64 data, .bool hg, .bool ho, .bool hr, .slice ga gm gc, .slice oa om oc, .slice ra rm rc, .int .i64 cho, .slice va vm vc], .agg #[.int .i64 idle', .int .i64 data', .bool hg', .bool ho', .bool hr', .slice ga' gm' gc', .slice oa' om' oc', .slice ra' rm' rc', .int .i64 cho', .slice va' vm' vc']] w fun e w' => e = .returned (.bool false) ∧ Below w.heap.size w w' := by
  subst h2
  obtain ⟨rfl, rfl⟩ := h3
  obtain ⟨W0, hW0⟩ : ∃ W0, (w.alloc (.cells #[.int .i64 idle, .int .i64 data, .bool hg, .bool false, .bool hr, .slice ga gm gc, .slice oa om oc, .slice ra rm rc, .int .i64 cho, .slice va vm vc] 27)).alloc (.cells #[.int .i64 idle', .int .i64 data', .bool hg, .bool true, .bool hr', .slice ga' gm' gc', .slice oa' om' oc', .slice ra' rm' rc', .int .i64 cho', .slice va' vm' vc'] 25) = W0 := ⟨_, rfl⟩
  obtain ⟨g1, g2, b0⟩ := two_new w (.cells #[.int .i64 idle, .int .i64 data, .bool hg, .bool false, .bool hr, .slice ga gm gc, .slice oa om oc, .slice ra rm rc, .int .i64 cho, .slice va vm vc] 27) (.cells #[.int .i64 idle', .int .i64 data', .bool hg, .bool true, .bool hr', .slice ga' gm' gc', .slice oa' om' oc', .slice ra' rm' rc', .int .i64 cho', .slice va' vm' vc'] 25)
  have cA := cells10 g1
  have cB := cells10 g2
  rw [hW0] at b0 g1 g2
  have HB0 := Lib.hid b0; clear b0
  have G1 := Lib.hid g1; have G2 := Lib.hid g2; clear g1 g2
  have HW0 := Lib.hid hW0; clear hW0
  clear eg lg rg cg eo lo ro co er lr rr cr ev lv rv cv eg' lg' rg' cg' eo' lo' ro' co' er' lr' rr' cr' ev' lv' rv' cv'
  go_enter Tryd.func14, Tryd.ntmps14
  go_wp2
  go_ret
  rw [HW0.out]
  exact ⟨rfl, HB0.out⟩

set_option maxRecDepth 100000 in
set_option maxHeartbeats 4000000 in
theorem told_c4t (idle data cho : Int) (hg ho hr : Bool) (ga oa ra va : Option Addr) (gm om rm vm gc oc rc vc : Nat) (idle' data' cho' : Int) (hg' ho' hr' : Bool) (ga' oa' ra' va' : Option Addr) (gm' om' rm' vm' gc' oc' rc' vc' : Nat) (gz oz rz vz gz' oz' rz' vz' : List Int) (w : World) (cg : gm ≤ gc) (co : om ≤ oc) (cr : rm ≤ rc) (cv : vm ≤ vc) (cg' : gm' ≤ gc') (co' : om' ≤ oc') (cr' : rm' ≤ rc') (cv' : vm' ≤ vc') (eg : gz.length = gm) (lg : gm ≤ 1000) (rg : Row w w.heap.size ga (ints .u8 gz)) (eo : oz.length = om) (lo : om ≤ 1000) (ro : Row w w.heap.size oa (ints .u8 oz)) (er : rz.length = rm) (lr : rm ≤ 1000) (rr : Row w w.heap.size ra (ints .u8 rz)) (ev : vz.length = vm) (lv : vm ≤ 1000) (rv : Row w w.heap.size va (ints .i64 vz)) (eg' : gz'.length = gm') (lg' : gm' ≤ 1000) (rg' : Row w w.heap.size ga' (ints .u8 gz')) (eo' : oz'.length = om') (lo' : om' ≤ 1000) (ro' : Row w w.heap.size oa' (ints .u8 oz')) (er' : rz'.length = rm') (lr' : rm' ≤ 1000) (rr' : Row w w.heap.size ra' (ints .u8 rz')) (ev' : vz'.length = vm') (lv' : vm' ≤ 1000) (rv' : Row w w.heap.size va' (ints .i64 vz')) (h0 : (idle != idle') = false) (h1 : (data != data') = false) (h2 : hg = hg') (h3 : ho = ho') (h4 : hr = true ∧ hr' = false) :
    Calls Tryd.prog 14 #[.agg #[.int .i64 idle, .int .i64 data, .bool hg, .bool ho, .bool hr, .slice ga gm gc, .slice oa om oc, .slice ra rm rc, .int .i64 cho, .slice va vm vc], .agg #[.int .i64 idle', .int .i64 data', .bool hg', .bool ho', .bool hr', .slice ga' gm' gc', .slice oa' om' oc', .slice ra' rm' rc', .int .i64 cho', .slice va' vm' vc']] w fun e w' => e = .returned (.bool false) ∧ Below w.heap.size w w' := by
  subst h2 h3
  obtain ⟨rfl, rfl⟩ := h4
  obtain ⟨W0, hW0⟩ : ∃ W0, (w.alloc (.cells #[.int .i64 idle, .int .i64 data, .bool hg, .bool ho, .bool true, .slice ga gm gc, .slice oa om oc, .slice ra rm rc, .int .i64 cho, .slice va vm vc] 27)).alloc (.cells #[.int .i64 idle', .int .i64 data', .bool hg, .bool ho, .bool false, .slice ga' gm' gc', .slice oa' om' oc', .slice ra' rm' rc', .int .i64 cho', .slice va' vm' vc'] 25) = W0 := ⟨_, rfl⟩
  obtain ⟨g1, g2, b0⟩ := two_new w (.cells #[.int .i64 idle, .int .i64 data, .bool hg, .bool ho, .bool true, .slice ga gm gc, .slice oa om oc, .slice ra rm rc, .int .i64 cho, .slice va vm vc] 27) (.cells #[.int .i64 idle', .int .i64 data', .bool hg, .bool ho, .bool false, .slice ga' gm' gc', .slice oa' om' oc', .slice ra' rm' rc', .int .i64 cho', .slice va' vm' vc'] 25)
  have cA := cells10 g1
  have cB := cells10 g2
  rw [hW0] at b0 g1 g2
  have HB0 := Lib.hid b0; clear b0
  have G1 := Lib.hid g1; have G2 := Lib.hid g2; clear g1 g2
  have HW0 := Lib.hid hW0; clear hW0
  clear eg lg rg cg eo lo ro co er lr rr cr ev lv rv cv eg' lg' rg' cg' eo' lo' ro' co' er' lr' rr' cr' ev' lv' rv' cv'
  go_enter Tryd.func14, Tryd.ntmps14
  go_wp2
  go_ret
  rw [HW0.out]
  exact ⟨rfl, HB0.out⟩

set_option maxRecDepth 100000 in
set_option maxHeartbeats 4000000 in
theorem told_c4f (idle data cho : Int) (hg ho hr : Bool) (ga oa ra va : Option Addr) (gm om rm vm gc oc rc vc : Nat) (idle' data' cho' : Int) (hg' ho' hr' : Bool) (ga' oa' ra' va' : Option Addr) (gm' om' rm' vm' gc' oc' rc' vc' : Nat) (gz oz rz vz gz' oz' rz' vz' : List Int) (w : World) (cg : gm ≤ gc) (co : om ≤ oc) (cr : rm ≤ rc) (cv : vm ≤ vc) (cg' : gm' ≤ gc') (co' : om' ≤ oc') (cr' : rm' ≤ rc') (cv' : vm' ≤ vc') (eg : gz.length = gm) (lg : gm ≤ 1000) (rg : Row w w.heap.size ga (ints .u8 gz)) (eo : oz.length = om) (lo : om ≤ 1000) (ro : Row w w.heap.size oa (ints .u8 oz)) (er : rz.length = rm) (lr : rm ≤ 1000) (rr : Row w w.heap.size ra (ints .u8 rz)) (ev : vz.length = vm) (lv : vm ≤ 1000) (rv : Row w w.heap.size va (ints .i64 vz)) (eg' : gz'.length = gm') (lg' : gm' ≤ 1000) (rg' : Row w w.heap.size ga' (ints .u8 gz')) (eo' : oz'.length = om') (lo' : om' ≤ 1000) (ro' : Row w w.heap.size oa' (ints .u8 oz')) (er' : rz'.length = rm') (lr' : rm' ≤ 1000) (rr' : Row w w.heap.size ra' (ints .u8 rz')) (ev' : vz'.length = vm') (lv' : vm' ≤ 1000) (rv' : Row w w.heap.size va' (ints .i64 vz')) (h0 : (idle != idle') = false) (h1 : (data != data') = false) (h2 : hg = hg') (h3 : ho = ho') (h4 : hr = false ∧ hr' = true) :
    Calls Tryd.prog 14 #[.agg #[.int .i64 idle, .int .i64 data, .bool hg, .bool ho, .bool hr, .slice ga gm gc, .slice oa om oc, .slice ra rm rc, .int .i64 cho, .slice va vm vc], .agg #[.int .i64 idle', .int .i64 data', .bool hg', .bool ho', .bool hr', .slice ga' gm' gc', .slice oa' om' oc', .slice ra' rm' rc', .int .i64 cho', .slice va' vm' vc']] w fun e w' => e = .returned (.bool false) ∧ Below w.heap.size w w' := by
  subst h2 h3
  obtain ⟨rfl, rfl⟩ := h4
  obtain ⟨W0, hW0⟩ : ∃ W0, (w.alloc (.cells #[.int .i64 idle, .int .i64 data, .bool hg, .bool ho, .bool false, .slice ga gm gc, .slice oa om oc, .slice ra rm rc, .int .i64 cho, .slice va vm vc] 27)).alloc (.cells #[.int .i64 idle', .int .i64 data', .bool hg, .bool ho, .bool true, .slice ga' gm' gc', .slice oa' om' oc', .slice ra' rm' rc', .int .i64 cho', .slice va' vm' vc'] 25) = W0 := ⟨_, rfl⟩
  obtain ⟨g1, g2, b0⟩ := two_new w (.cells #[.int .i64 idle, .int .i64 data, .bool hg, .bool ho, .bool false, .slice ga gm gc, .slice oa om oc, .slice ra rm rc, .int .i64 cho, .slice va vm vc] 27) (.cells #[.int .i64 idle', .int .i64 data', .bool hg, .bool ho, .bool true, .slice ga' gm' gc', .slice oa' om' oc', .slice ra' rm' rc', .int .i64 cho', .slice va' vm' vc'] 25)
  have cA := cells10 g1
  have cB := cells10 g2
  rw [hW0] at b0 g1 g2
  have HB0 := Lib.hid b0; clear b0
  have G1 := Lib.hid g1; have G2 := Lib.hid g2; clear g1 g2
  have HW0 := Lib.hid hW0; clear hW0
  clear eg lg rg cg eo lo ro co er lr rr cr ev lv rv cv eg' lg' rg' cg' eo' lo' ro' co' er' lr' rr' cr' ev' lv' rv' cv'
  go_enter Tryd.func14, Tryd.ntmps14
  go_wp2
  go_ret
  rw [HW0.out]
  exact ⟨rfl, HB0.out⟩

set_option maxRecDepth 100000 in
set_option maxHeartbeats 4000000 in
theorem told_c5 (idle data cho : Int) (hg ho hr : Bool) (ga oa ra va : Option Addr) (gm om rm vm gc oc rc vc : Nat) (idle' data' cho' : Int) (hg' ho' hr' : Bool) (ga' oa' ra' va' : Option Addr) (gm' om' rm' vm' gc' oc' rc' vc' : Nat) (gz oz rz vz gz' oz' rz' vz' : List Int) (w : World) (cg : gm ≤ gc) (co : om ≤ oc) (cr : rm ≤ rc) (cv : vm ≤ vc) (cg' : gm' ≤ gc') (co' : om' ≤ oc') (cr' : rm' ≤ rc') (cv' : vm' ≤ vc') (eg : gz.length = gm) (lg : gm ≤ 1000) (rg : Row w w.heap.size ga (ints .u8 gz)) (eo : oz.length = om) (lo : om ≤ 1000) (ro : Row w w.heap.size oa (ints .u8 oz)) (er : rz.length = rm) (lr : rm ≤ 1000) (rr : Row w w.heap.size ra (ints .u8 rz)) (ev : vz.length = vm) (lv : vm ≤ 1000) (rv : Row w w.heap.size va (ints .i64 vz)) (eg' : gz'.length = gm') (lg' : gm' ≤ 1000) (rg' : Row w w.heap.size ga' (ints .u8 gz')) (eo' : oz'.length = om') (lo' : om' ≤ 1000) (ro' : Row w w.heap.size oa' (ints .u8 oz')) (er' : rz'.length = rm') (lr' : rm' ≤ 1000) (rr' : Row w w.heap.size ra' (ints .u8 rz')) (ev' : vz'.length = vm') (lv' : vm' ≤ 1000) (rv' : Row w w.heap.size va' (ints .i64 vz')) (h0 : (idle != idle') = false) (h1 : (data != data') = false) (h2 : hg = hg') (h3 : ho = ho') (h4 : hr = hr') (h5 : decide (gz = gz') = false) :
    Calls Tryd.prog 14 #[.agg #[.int .i64 idle, .int .i64 data, .bool hg, .bool ho, .bool hr, .slice ga gm gc, .slice oa om oc, .slice ra rm rc, .int .i64 cho, .slice va vm vc], .agg #[.int .i64 idle', .int .i64 data', .bool hg', .bool ho', .bool hr', .slice ga' gm' gc', .slice oa' om' oc', .slice ra' rm' rc', .int .i64 cho', .slice va' vm' vc']] w fun e w' => e = .returned (.bool false) ∧ Below w.heap.size w w' := by
  subst h2 h3 h4
  obtain ⟨W0, hW0⟩ : ∃ W0, (w.alloc (.cells #[.int .i64 idle, .int .i64 data, .bool hg, .bool ho, .bool hr, .slice ga gm gc, .slice oa om oc, .slice ra rm rc, .int .i64 cho, .slice va vm vc] 27)).alloc (.cells #[.int .i64 idle', .int .i64 data', .bool hg, .bool ho, .bool hr, .slice ga' gm' gc', .slice oa' om' oc', .slice ra' rm' rc', .int .i64 cho', .slice va' vm' vc'] 25) = W0 := ⟨_, rfl⟩
  obtain ⟨g1, g2, b0⟩ := two_new w (.cells #[.int .i64 idle, .int .i64 data, .bool hg, .bool ho, .bool hr, .slice ga gm gc, .slice oa om oc, .slice ra rm rc, .int .i64 cho, .slice va vm vc] 27) (.cells #[.int .i64 idle', .int .i64 data', .bool hg, .bool ho, .bool hr, .slice ga' gm' gc', .slice oa' om' oc', .slice ra' rm' rc', .int .i64 cho', .slice va' vm' vc'] 25)
  have cA := cells10 g1
  have cB := cells10 g2
  rw [hW0] at b0 g1 g2
  have C5 := Lib.hid (fun (W : World) (hb : Below w.heap.size w W) => same_any ga ga' gz gz' gm gm' gc gc' w.heap.size W eg eg' cg cg' (by omega) (by omega) (rg.below hb) (rg'.below hb))
  rw [h5] at C5
  have HB0 := Lib.hid b0; clear b0
  have G1 := Lib.hid g1; have G2 := Lib.hid g2; clear g1 g2
  have HW0 := Lib.hid hW0; clear hW0
  clear eg lg rg cg eo lo ro co er lr rr cr ev lv rv cv eg' lg' rg' cg' eo' lo' ro' co' er' lr' rr' cr' ev' lv' rv' cv'
  go_enter Tryd.func14, Tryd.ntmps14
  go_wp2_with fail
  rw [HW0.out]
  refine (C5.out W0 HB0.out).mono ?_
  rintro e w1 ⟨rfl, hd⟩
  have B1 := Lib.hid ((HB0).out.trans (hd.below _))
  have D1 := Lib.hid (hd)
  clear hd cA cB C5
  have cA := cells10 (by have := G1.out; rw [← D1.out.heap] at this; exact this)
  have cB := cells10 (by have := G2.out; rw [← D1.out.heap] at this; exact this)
  go_wp2
  go_ret
  exact ⟨rfl, B1.out⟩

end Go.Proofs.YtaplndehoenghaaDoor
