/- params.Same and told: are all fields alike? (Printed by wip/gen/mk_psame.py.) -/
import Derived.Test.YtaplndehoenghaaDoorPLawA
import Derived.Test.YtaplndehoenghaaDoorShelf
namespace Go.Proofs.YtaplndehoenghaaDoor
open Go.RowKit
set_option linter.unusedVariables false

theorem bytesOf_inj {xs ys : List Int} (hx : ∀ z ∈ xs, 0 ≤ z ∧ z < 256) (hy : ∀ z ∈ ys, 0 ≤ z ∧ z < 256) : (Lib.bytesOf xs == Lib.bytesOf ys) = (xs == ys) := by
  have h : Lib.bytesOf xs = Lib.bytesOf ys ↔ xs = ys := by
    constructor
    · intro h
      induction xs generalizing ys with
      | nil => cases ys with
        | nil => rfl
        | cons y ys => simp [Lib.bytesOf] at h
      | cons x xs ih => cases ys with
        | nil => simp [Lib.bytesOf] at h
        | cons y ys =>
          simp only [Lib.bytesOf, List.map_cons, List.cons.injEq] at h
          have hx0 := hx x (by simp)
          have hy0 := hy y (by simp)
          have h2 := congrArg UInt8.toNat h.1
          simp only [UInt8.toNat_ofNat'] at h2
          have e : x = y := by omega
          rw [e, ih (fun z hz => hx z (by simp [hz])) (fun z hz => hy z (by simp [hz])) h.2]
    · intro h; rw [h]
  rw [Bool.eq_iff_iff, beq_iff_eq, beq_iff_eq, h]

theorem row_bytesIn {w : World} {B n : Nat} {p : Option Addr} {xs : List Int} (hx : xs.length = n) (h : Row w B p (ints .u8 xs)) : Lib.BytesIn w p n xs := fun hn => by
  obtain ⟨b, o, rfl, _, r⟩ := h.ints (by intro e; rw [e] at hx; simp at hx; omega)
  exact ⟨b, o, rfl, fun j hj => by rw [List.getD_eq_getElem?_getD]; exact r j (by omega)⟩

theorem bytesEqual_any (a b : Option Addr) (xs ys : List Int) (m k c d B : Nat) (w : World) (hm : xs.length = m) (hk : ys.length = k) (ha : Row w B a (ints .u8 xs)) (hb : Row w B b (ints .u8 ys)) (hx : ∀ z ∈ xs, 0 ≤ z ∧ z < 256) (hy : ∀ z ∈ ys, 0 ≤ z ∧ z < 256) :
    Calls Tryd.prog 32 #[.slice a m c, .slice b k d] w fun e w' => e = .returned (.bool (xs == ys)) ∧ w' = w := by
  rw [← bytesOf_inj hx hy]
  exact Tryd.bytes_Equal_all a b m c k d xs ys w hm hk (row_bytesIn hm ha) (row_bytesIn hk hb)

theorem slicesEqual_any (a b : Option Addr) (xs ys : List Int) (m k c d B : Nat) (w : World) (hm : xs.length = m) (hk : ys.length = k) (hl : m ≤ 1000000) (hl2 : k ≤ 1000000) (ha : Row w B a (ints .i64 xs)) (hb : Row w B b (ints .i64 ys)) :
    Calls Tryd.prog 33 #[.slice a m c, .slice b k d] w fun e w' => e = .returned (.bool (xs == ys)) ∧ Drawn w w' := by
  by_cases h0 : m = 0
  · subst h0
    obtain rfl : xs = [] := List.eq_nil_of_length_eq_zero hm
    refine (Tryd.slices_Equal_int_empty a b c k d w (by omega)).mono ?_
    rintro e w' ⟨rfl, rfl⟩
    refine ⟨?_, Drawn.refl _⟩
    congr 2
    rw [Bool.eq_iff_iff, decide_eq_true_eq, beq_iff_eq]
    constructor
    · intro h; subst h; exact (List.eq_nil_of_length_eq_zero hk).symm
    · intro h; rw [← hk, ← h]; rfl
  by_cases h1 : m = k
  · subst h1
    obtain ⟨b1, o1, rfl, _, r1⟩ := ha.ints (by intro e; rw [e] at hm; simp at hm; omega)
    obtain ⟨b2, o2, rfl, _, r2⟩ := hb.ints (by intro e; rw [e] at hk; simp at hk; omega)
    refine (Tryd.slices_Equal_int b1 o1 m c b2 o2 m d xs ys w (by omega) (by omega) (by omega) (by omega) (fun j hj => by rw [List.getD_eq_getElem?_getD]; exact r1 j hj) (fun j hj => by rw [List.getD_eq_getElem?_getD]; exact r2 j hj)).mono ?_
    rintro e w' ⟨rfl, q, rfl⟩
    refine ⟨?_, q, rfl⟩
    rw [List.take_of_length_le (by omega), List.take_of_length_le (by omega)]
  · refine (Tryd.slices_Equal_int_lens a b m c k d w h1).mono ?_
    rintro e w' ⟨rfl, rfl⟩
    refine ⟨?_, Drawn.refl _⟩
    congr 2
    symm
    rw [beq_eq_false_iff_ne]
    intro e
    exact h1 (by rw [← hm, ← hk, e])

/-- Are all fields alike? -/
def sameT (idle data cho : Int) (hg ho hr : Bool) (gz oz rz vz : List Int) (idle' data' cho' : Int) (hg' ho' hr' : Bool) (gz' oz' rz' vz' : List Int) : Bool := (idle == idle') && ((data == data') && ((hg == hg') && ((ho == ho') && ((hr == hr') && ((gz == gz') && ((oz == oz') && ((rz == rz') && ((cho == cho') && ((vz == vz'))))))))))

theorem sameT_comm (idle data cho : Int) (hg ho hr : Bool) (gz oz rz vz : List Int) (idle' data' cho' : Int) (hg' ho' hr' : Bool) (gz' oz' rz' vz' : List Int) : sameT idle' data' cho' hg' ho' hr' gz' oz' rz' vz' idle data cho hg ho hr gz oz rz vz = sameT idle data cho hg ho hr gz oz rz vz idle' data' cho' hg' ho' hr' gz' oz' rz' vz' := by
  unfold sameT
  rw [BEq.comm (a := idle') (b := idle), BEq.comm (a := data') (b := data), Bool.beq_comm (a := hg') (b := hg), Bool.beq_comm (a := ho') (b := ho), Bool.beq_comm (a := hr') (b := hr), BEq.comm (a := gz') (b := gz), BEq.comm (a := oz') (b := oz), BEq.comm (a := rz') (b := rz), BEq.comm (a := cho') (b := cho), BEq.comm (a := vz') (b := vz)]

theorem sameT_self (idle data cho : Int) (hg ho hr : Bool) (gz oz rz vz : List Int) : sameT idle data cho hg ho hr gz oz rz vz idle data cho hg ho hr gz oz rz vz = true := by
  unfold sameT
  simp

set_option maxRecDepth 100000 in
set_option maxHeartbeats 4000000 in
theorem same_c0 (idle data cho : Int) (hg ho hr : Bool) (ga oa ra va : Option Addr) (gm om rm vm gc oc rc vc : Nat) (idle' data' cho' : Int) (hg' ho' hr' : Bool) (ga' oa' ra' va' : Option Addr) (gm' om' rm' vm' gc' oc' rc' vc' : Nat) (gz oz rz vz gz' oz' rz' vz' : List Int) (w : World) (eg : gz.length = gm) (lg : gm ≤ 1000) (rg : Row w w.heap.size ga (ints .u8 gz)) (eo : oz.length = om) (lo : om ≤ 1000) (ro : Row w w.heap.size oa (ints .u8 oz)) (er : rz.length = rm) (lr : rm ≤ 1000) (rr : Row w w.heap.size ra (ints .u8 rz)) (ev : vz.length = vm) (lv : vm ≤ 1000) (rv : Row w w.heap.size va (ints .i64 vz)) (eg' : gz'.length = gm') (lg' : gm' ≤ 1000) (rg' : Row w w.heap.size ga' (ints .u8 gz')) (eo' : oz'.length = om') (lo' : om' ≤ 1000) (ro' : Row w w.heap.size oa' (ints .u8 oz')) (er' : rz'.length = rm') (lr' : rm' ≤ 1000) (rr' : Row w w.heap.size ra' (ints .u8 rz')) (ev' : vz'.length = vm') (lv' : vm' ≤ 1000) (rv' : Row w w.heap.size va' (ints .i64 vz')) (ug : ∀ z ∈ gz, 0 ≤ z ∧ z < 256) (uo : ∀ z ∈ oz, 0 ≤ z ∧ z < 256) (ur : ∀ z ∈ rz, 0 ≤ z ∧ z < 256) (ug' : ∀ z ∈ gz', 0 ≤ z ∧ z < 256) (uo' : ∀ z ∈ oz', 0 ≤ z ∧ z < 256) (ur' : ∀ z ∈ rz', 0 ≤ z ∧ z < 256) (h0 : (idle == idle') = false) :
    Calls Tryd.prog 13 #[.agg #[.int .i64 idle, .int .i64 data, .bool hg, .bool ho, .bool hr, .slice ga gm gc, .slice oa om oc, .slice ra rm rc, .int .i64 cho, .slice va vm vc], .agg #[.int .i64 idle', .int .i64 data', .bool hg', .bool ho', .bool hr', .slice ga' gm' gc', .slice oa' om' oc', .slice ra' rm' rc', .int .i64 cho', .slice va' vm' vc']] w fun e w' => e = .returned (.bool false) ∧ Below w.heap.size w w' := by
  obtain ⟨W0, hW0⟩ : ∃ W0, (w.alloc (.cells #[.int .i64 idle, .int .i64 data, .bool hg, .bool ho, .bool hr, .slice ga gm gc, .slice oa om oc, .slice ra rm rc, .int .i64 cho, .slice va vm vc] 27)).alloc (.cells #[.int .i64 idle', .int .i64 data', .bool hg', .bool ho', .bool hr', .slice ga' gm' gc', .slice oa' om' oc', .slice ra' rm' rc', .int .i64 cho', .slice va' vm' vc'] 27) = W0 := ⟨_, rfl⟩
  obtain ⟨g1, g2, b0⟩ := two_new w (.cells #[.int .i64 idle, .int .i64 data, .bool hg, .bool ho, .bool hr, .slice ga gm gc, .slice oa om oc, .slice ra rm rc, .int .i64 cho, .slice va vm vc] 27) (.cells #[.int .i64 idle', .int .i64 data', .bool hg', .bool ho', .bool hr', .slice ga' gm' gc', .slice oa' om' oc', .slice ra' rm' rc', .int .i64 cho', .slice va' vm' vc'] 27)
  have cA := cells10 g1
  have cB := cells10 g2
  rw [hW0] at b0
  have HB0 := Lib.hid b0; clear b0 g1 g2
  have HW0 := Lib.hid hW0; clear hW0
  clear eg lg rg eo lo ro er lr rr ev lv rv eg' lg' rg' eo' lo' ro' er' lr' rr' ev' lv' rv' ug uo ur ug' uo' ur'
  go_enter Tryd.func13, Tryd.ntmps13
  go_wp2
  go_ret
  rw [HW0.out]
  exact ⟨rfl, HB0.out⟩

set_option maxRecDepth 100000 in
set_option maxHeartbeats 4000000 in
theorem same_c1 (idle data cho : Int) (hg ho hr : Bool) (ga oa ra va : Option Addr) (gm om rm vm gc oc rc vc : Nat) (idle' data' cho' : Int) (hg' ho' hr' : Bool) (ga' oa' ra' va' : Option Addr) (gm' om' rm' vm' gc' oc' rc' vc' : Nat) (gz oz rz vz gz' oz' rz' vz' : List Int) (w : World) (eg : gz.length = gm) (lg : gm ≤ 1000) (rg : Row w w.heap.size ga (ints .u8 gz)) (eo : oz.length = om) (lo : om ≤ 1000) (ro : Row w w.heap.size oa (ints .u8 oz)) (er : rz.length = rm) (lr : rm ≤ 1000) (rr : Row w w.heap.size ra (ints .u8 rz)) (ev : vz.length = vm) (lv : vm ≤ 1000) (rv : Row w w.heap.size va (ints .i64 vz)) (eg' : gz'.length = gm') (lg' : gm' ≤ 1000) (rg' : Row w w.heap.size ga' (ints .u8 gz')) (eo' : oz'.length = om') (lo' : om' ≤ 1000) (ro' : Row w w.heap.size oa' (ints .u8 oz')) (er' : rz'.length = rm') (lr' : rm' ≤ 1000) (rr' : Row w w.heap.size ra' (ints .u8 rz')) (ev' : vz'.length = vm') (lv' : vm' ≤ 1000) (rv' : Row w w.heap.size va' (ints .i64 vz')) (ug : ∀ z ∈ gz, 0 ≤ z ∧ z < 256) (uo : ∀ z ∈ oz, 0 ≤ z ∧ z < 256) (ur : ∀ z ∈ rz, 0 ≤ z ∧ z < 256) (ug' : ∀ z ∈ gz', 0 ≤ z ∧ z < 256) (uo' : ∀ z ∈ oz', 0 ≤ z ∧ z < 256) (ur' : ∀ z ∈ rz', 0 ≤ z ∧ z < 256) (h0 : (idle == idle') = true) (h1 : (data == data') = false) :
    Calls Tryd.prog 13 #[.agg #[.int .i64 idle, .int .i64 data, .bool hg, .bool ho, .bool hr, .slice ga gm gc, .slice oa om oc, .slice ra rm rc, .int .i64 cho, .slice va vm vc], .agg #[.int .i64 idle', .int .i64 data', .bool hg', .bool ho', .bool hr', .slice ga' gm' gc', .slice oa' om' oc', .slice ra' rm' rc', .int .i64 cho', .slice va' vm' vc']] w fun e w' => e = .returned (.bool false) ∧ Below w.heap.size w w' := by
  obtain ⟨W0, hW0⟩ : ∃ W0, (w.alloc (.cells #[.int .i64 idle, .int .i64 data, .bool hg, .bool ho, .bool hr, .slice ga gm gc, .slice oa om oc, .slice ra rm rc, .int .i64 cho, .slice va vm vc] 27)).alloc (.cells #[.int .i64 idle', .int .i64 data', .bool hg', .bool ho', .bool hr', .slice ga' gm' gc', .slice oa' om' oc', .slice ra' rm' rc', .int .i64 cho', .slice va' vm' vc'] 27) = W0 := ⟨_, rfl⟩
  obtain ⟨g1, g2, b0⟩ := two_new w (.cells #[.int .i64 idle, .int .i64 data, .bool hg, .bool ho, .bool hr, .slice ga gm gc, .slice oa om oc, .slice ra rm rc, .int .i64 cho, .slice va vm vc] 27) (.cells #[.int .i64 idle', .int .i64 data', .bool hg', .bool ho', .bool hr', .slice ga' gm' gc', .slice oa' om' oc', .slice ra' rm' rc', .int .i64 cho', .slice va' vm' vc'] 27)
  have cA := cells10 g1
  have cB := cells10 g2
  rw [hW0] at b0
  have HB0 := Lib.hid b0; clear b0 g1 g2
  have HW0 := Lib.hid hW0; clear hW0
  clear eg lg rg eo lo ro er lr rr ev lv rv eg' lg' rg' eo' lo' ro' er' lr' rr' ev' lv' rv' ug uo ur ug' uo' ur'
  go_enter Tryd.func13, Tryd.ntmps13
  go_wp2
  go_ret
  rw [HW0.out]
  exact ⟨rfl, HB0.out⟩

set_option maxRecDepth 100000 in
set_option maxHeartbeats 4000000 in
theorem same_c2 (idle data cho : Int) (hg ho hr : Bool) (ga oa ra va : Option Addr) (gm om rm vm gc oc rc vc : Nat) (idle' data' cho' : Int) (hg' ho' hr' : Bool) (ga' oa' ra' va' : Option Addr) (gm' om' rm' vm' gc' oc' rc' vc' : Nat) (gz oz rz vz gz' oz' rz' vz' : List Int) (w : World) (eg : gz.length = gm) (lg : gm ≤ 1000) (rg : Row w w.heap.size ga (ints .u8 gz)) (eo : oz.length = om) (lo : om ≤ 1000) (ro : Row w w.heap.size oa (ints .u8 oz)) (er : rz.length = rm) (lr : rm ≤ 1000) (rr : Row w w.heap.size ra (ints .u8 rz)) (ev : vz.length = vm) (lv : vm ≤ 1000) (rv : Row w w.heap.size va (ints .i64 vz)) (eg' : gz'.length = gm') (lg' : gm' ≤ 1000) (rg' : Row w w.heap.size ga' (ints .u8 gz')) (eo' : oz'.length = om') (lo' : om' ≤ 1000) (ro' : Row w w.heap.size oa' (ints .u8 oz')) (er' : rz'.length = rm') (lr' : rm' ≤ 1000) (rr' : Row w w.heap.size ra' (ints .u8 rz')) (ev' : vz'.length = vm') (lv' : vm' ≤ 1000) (rv' : Row w w.heap.size va' (ints .i64 vz')) (ug : ∀ z ∈ gz, 0 ≤ z ∧ z < 256) (uo : ∀ z ∈ oz, 0 ≤ z ∧ z < 256) (ur : ∀ z ∈ rz, 0 ≤ z ∧ z < 256) (ug' : ∀ z ∈ gz', 0 ≤ z ∧ z < 256) (uo' : ∀ z ∈ oz', 0 ≤ z ∧ z < 256) (ur' : ∀ z ∈ rz', 0 ≤ z ∧ z < 256) (h0 : (idle == idle') = true) (h1 : (data == data') = true) (h2 : (hg == hg') = false) :
    Calls Tryd.prog 13 #[.agg #[.int .i64 idle, .int .i64 data, .bool hg, .bool ho, .bool hr, .slice ga gm gc, .slice oa om oc, .slice ra rm rc, .int .i64 cho, .slice va vm vc], .agg #[.int .i64 idle', .int .i64 data', .bool hg', .bool ho', .bool hr', .slice ga' gm' gc', .slice oa' om' oc', .slice ra' rm' rc', .int .i64 cho', .slice va' vm' vc']] w fun e w' => e = .returned (.bool false) ∧ Below w.heap.size w w' := by
  obtain ⟨W0, hW0⟩ : ∃ W0, (w.alloc (.cells #[.int .i64 idle, .int .i64 data, .bool hg, .bool ho, .bool hr, .slice ga gm gc, .slice oa om oc, .slice ra rm rc, .int .i64 cho, .slice va vm vc] 27)).alloc (.cells #[.int .i64 idle', .int .i64 data', .bool hg', .bool ho', .bool hr', .slice ga' gm' gc', .slice oa' om' oc', .slice ra' rm' rc', .int .i64 cho', .slice va' vm' vc'] 27) = W0 := ⟨_, rfl⟩
  obtain ⟨g1, g2, b0⟩ := two_new w (.cells #[.int .i64 idle, .int .i64 data, .bool hg, .bool ho, .bool hr, .slice ga gm gc, .slice oa om oc, .slice ra rm rc, .int .i64 cho, .slice va vm vc] 27) (.cells #[.int .i64 idle', .int .i64 data', .bool hg', .bool ho', .bool hr', .slice ga' gm' gc', .slice oa' om' oc', .slice ra' rm' rc', .int .i64 cho', .slice va' vm' vc'] 27)
  have cA := cells10 g1
  have cB := cells10 g2
  rw [hW0] at b0
  have HB0 := Lib.hid b0; clear b0 g1 g2
  have HW0 := Lib.hid hW0; clear hW0
  clear eg lg rg eo lo ro er lr rr ev lv rv eg' lg' rg' eo' lo' ro' er' lr' rr' ev' lv' rv' ug uo ur ug' uo' ur'
  go_enter Tryd.func13, Tryd.ntmps13
  go_wp2
  go_ret
  rw [HW0.out]
  exact ⟨rfl, HB0.out⟩

set_option maxRecDepth 100000 in
set_option maxHeartbeats 4000000 in
theorem same_c3 (idle data cho : Int) (hg ho hr : Bool) (ga oa ra va : Option Addr) (gm om rm vm gc oc rc vc : Nat) (idle' data' cho' : Int) (hg' ho' hr' : Bool) (ga' oa' ra' va' : Option Addr) (gm' om' rm' vm' gc' oc' rc' vc' : Nat) (gz oz rz vz gz' oz' rz' vz' : List Int) (w : World) (eg : gz.length = gm) (lg : gm ≤ 1000) (rg : Row w w.heap.size ga (ints .u8 gz)) (eo : oz.length = om) (lo : om ≤ 1000) (ro : Row w w.heap.size oa (ints .u8 oz)) (er : rz.length = rm) (lr : rm ≤ 1000) (rr : Row w w.heap.size ra (ints .u8 rz)) (ev : vz.length = vm) (lv : vm ≤ 1000) (rv : Row w w.heap.size va (ints .i64 vz)) (eg' : gz'.length = gm') (lg' : gm' ≤ 1000) (rg' : Row w w.heap.size ga' (ints .u8 gz')) (eo' : oz'.length = om') (lo' : om' ≤ 1000) (ro' : Row w w.heap.size oa' (ints .u8 oz')) (er' : rz'.length = rm') (lr' : rm' ≤ 1000) (rr' : Row w w.heap.size ra' (ints .u8 rz')) (ev' : vz'.length = vm') (lv' : vm' ≤ 1000) (rv' : Row w w.heap.size va' (ints .i64 vz')) (ug : ∀ z ∈ gz, 0 ≤ z ∧ z < 256) (uo : ∀ z ∈ oz, 0 ≤ z ∧ z < 256) (ur : ∀ z ∈ rz, 0 ≤ z ∧ z < 256) (ug' : ∀ z ∈ gz', 0 ≤ z ∧ z < 256) (uo' : ∀ z ∈ oz', 0 ≤ z ∧ z < 256) (ur' : ∀ z ∈ rz', 0 ≤ z ∧ z < 256) (h0 : (idle == idle') = true) (h1 : (data == data') = true) (h2 : (hg == hg') = true) (h3 : (ho == ho') = false) :
    Calls Tryd.prog 13 #[.agg #[.int .i64 idle, .int .i64 data, .bool hg, .bool ho, .bool hr, .slice ga gm gc, .slice oa om oc, .slice ra rm rc, .int .i64 cho, .slice va vm vc], .agg #[.int .i64 idle', .int .i64 data', .bool hg', .bool ho', .bool hr', .slice ga' gm' gc', .slice oa' om' oc', .slice ra' rm' rc', .int .i64 cho', .slice va' vm' vc']] w fun e w' => e = .returned (.bool false) ∧ Below w.heap.size w w' := by
  obtain ⟨W0, hW0⟩ : ∃ W0, (w.alloc (.cells #[.int .i64 idle, .int .i64 data, .bool hg, .bool ho, .bool hr, .slice ga gm gc, .slice oa om oc, .slice ra rm rc, .int .i64 cho, .slice va vm vc] 27)).alloc (.cells #[.int .i64 idle', .int .i64 data', .bool hg', .bool ho', .bool hr', .slice ga' gm' gc', .slice oa' om' oc', .slice ra' rm' rc', .int .i64 cho', .slice va' vm' vc'] 27) = W0 := ⟨_, rfl⟩
  obtain ⟨g1, g2, b0⟩ := two_new w (.cells #[.int .i64 idle, .int .i64 data, .bool hg, .bool ho, .bool hr, .slice ga gm gc, .slice oa om oc, .slice ra rm rc, .int .i64 cho, .slice va vm vc] 27) (.cells #[.int .i64 idle', .int .i64 data', .bool hg', .bool ho', .bool hr', .slice ga' gm' gc', .slice oa' om' oc', .slice ra' rm' rc', .int .i64 cho', .slice va' vm' vc'] 27)
  have cA := cells10 g1
  have cB := cells10 g2
  rw [hW0] at b0
  have HB0 := Lib.hid b0; clear b0 g1 g2
  have HW0 := Lib.hid hW0; clear hW0
  clear eg lg rg eo lo ro er lr rr ev lv rv eg' lg' rg' eo' lo' ro' er' lr' rr' ev' lv' rv' ug uo ur ug' uo' ur'
  go_enter Tryd.func13, Tryd.ntmps13
  go_wp2
  go_ret
  rw [HW0.out]
  exact ⟨rfl, HB0.out⟩

set_option maxRecDepth 100000 in
set_option maxHeartbeats 4000000 in
theorem same_c4 (idle data cho : Int) (hg ho hr : Bool) (ga oa ra va : Option Addr) (gm om rm vm gc oc rc vc : Nat) (idle' data' cho' : Int) (hg' ho' hr' : Bool) (ga' oa' ra' va' : Option Addr) (gm' om' rm' vm' gc' oc' rc' vc' : Nat) (gz oz rz vz gz' oz' rz' vz' : List Int) (w : World) (eg : gz.length = gm) (lg : gm ≤ 1000) (rg : Row w w.heap.size ga (ints .u8 gz)) (eo : oz.length = om) (lo : om ≤ 1000) (ro : Row w w.heap.size oa (ints .u8 oz)) (er : rz.length = rm) (lr : rm ≤ 1000) (rr : Row w w.heap.size ra (ints .u8 rz)) (ev : vz.length = vm) (lv : vm ≤ 1000) (rv : Row w w.heap.size va (ints .i64 vz)) (eg' : gz'.length = gm') (lg' : gm' ≤ 1000) (rg' : Row w w.heap.size ga' (ints .u8 gz')) (eo' : oz'.length = om') (lo' : om' ≤ 1000) (ro' : Row w w.heap.size oa' (ints .u8 oz')) (er' : rz'.length = rm') (lr' : rm' ≤ 1000) (rr' : Row w w.heap.size ra' (ints .u8 rz')) (ev' : vz'.length = vm') (lv' : vm' ≤ 1000) (rv' : Row w w.heap.size va' (ints .i64 vz')) (ug : ∀ z ∈ gz, 0 ≤ z ∧ z < 256) (uo : ∀ z ∈ oz, 0 ≤ z ∧ z < 256) (ur : ∀ z ∈ rz, 0 ≤ z ∧ z < 256) (ug' : ∀ z ∈ gz', 0 ≤ z ∧ z < 256) (uo' : ∀ z ∈ oz', 0 ≤ z ∧ z < 256) (ur' : ∀ z ∈ rz', 0 ≤ z ∧ z < 256) (h0 : (idle == idle') = true) (h1 : (data == data') = true) (h2 : (hg == hg') = true) (h3 : (ho == ho') = true) (h4 : (hr == hr') = false) :
    Calls Tryd.prog 13 #[.agg #[.int .i64 idle, .int .i64 data, .bool hg, .bool ho, .bool hr, .slice ga gm gc, .slice oa om oc, .slice ra rm rc, .int .i64 cho, .slice va vm vc], .agg #[.int .i64 idle', .int .i64 data', .bool hg', .bool ho', .bool hr', .slice ga' gm' gc', .slice oa' om' oc', .slice ra' rm' rc', .int .i64 cho', .slice va' vm' vc']] w fun e w' => e = .returned (.bool false) ∧ Below w.heap.size w w' := by
  obtain ⟨W0, hW0⟩ : ∃ W0, (w.alloc (.cells #[.int .i64 idle, .int .i64 data, .bool hg, .bool ho, .bool hr, .slice ga gm gc, .slice oa om oc, .slice ra rm rc, .int .i64 cho, .slice va vm vc] 27)).alloc (.cells #[.int .i64 idle', .int .i64 data', .bool hg', .bool ho', .bool hr', .slice ga' gm' gc', .slice oa' om' oc', .slice ra' rm' rc', .int .i64 cho', .slice va' vm' vc'] 27) = W0 := ⟨_, rfl⟩
  obtain ⟨g1, g2, b0⟩ := two_new w (.cells #[.int .i64 idle, .int .i64 data, .bool hg, .bool ho, .bool hr, .slice ga gm gc, .slice oa om oc, .slice ra rm rc, .int .i64 cho, .slice va vm vc] 27) (.cells #[.int .i64 idle', .int .i64 data', .bool hg', .bool ho', .bool hr', .slice ga' gm' gc', .slice oa' om' oc', .slice ra' rm' rc', .int .i64 cho', .slice va' vm' vc'] 27)
  have cA := cells10 g1
  have cB := cells10 g2
  rw [hW0] at b0
  have HB0 := Lib.hid b0; clear b0 g1 g2
  have HW0 := Lib.hid hW0; clear hW0
  clear eg lg rg eo lo ro er lr rr ev lv rv eg' lg' rg' eo' lo' ro' er' lr' rr' ev' lv' rv' ug uo ur ug' uo' ur'
  go_enter Tryd.func13, Tryd.ntmps13
  go_wp2
  go_ret
  rw [HW0.out]
  exact ⟨rfl, HB0.out⟩

set_option maxRecDepth 100000 in
set_option maxHeartbeats 4000000 in
theorem same_c5 (idle data cho : Int) (hg ho hr : Bool) (ga oa ra va : Option Addr) (gm om rm vm gc oc rc vc : Nat) (idle' data' cho' : Int) (hg' ho' hr' : Bool) (ga' oa' ra' va' : Option Addr) (gm' om' rm' vm' gc' oc' rc' vc' : Nat) (gz oz rz vz gz' oz' rz' vz' : List Int) (w : World) (eg : gz.length = gm) (lg : gm ≤ 1000) (rg : Row w w.heap.size ga (ints .u8 gz)) (eo : oz.length = om) (lo : om ≤ 1000) (ro : Row w w.heap.size oa (ints .u8 oz)) (er : rz.length = rm) (lr : rm ≤ 1000) (rr : Row w w.heap.size ra (ints .u8 rz)) (ev : vz.length = vm) (lv : vm ≤ 1000) (rv : Row w w.heap.size va (ints .i64 vz)) (eg' : gz'.length = gm') (lg' : gm' ≤ 1000) (rg' : Row w w.heap.size ga' (ints .u8 gz')) (eo' : oz'.length = om') (lo' : om' ≤ 1000) (ro' : Row w w.heap.size oa' (ints .u8 oz')) (er' : rz'.length = rm') (lr' : rm' ≤ 1000) (rr' : Row w w.heap.size ra' (ints .u8 rz')) (ev' : vz'.length = vm') (lv' : vm' ≤ 1000) (rv' : Row w w.heap.size va' (ints .i64 vz')) (ug : ∀ z ∈ gz, 0 ≤ z ∧ z < 256) (uo : ∀ z ∈ oz, 0 ≤ z ∧ z < 256) (ur : ∀ z ∈ rz, 0 ≤ z ∧ z < 256) (ug' : ∀ z ∈ gz', 0 ≤ z ∧ z < 256) (uo' : ∀ z ∈ oz', 0 ≤ z ∧ z < 256) (ur' : ∀ z ∈ rz', 0 ≤ z ∧ z < 256) (h0 : (idle == idle') = true) (h1 : (data == data') = true) (h2 : (hg == hg') = true) (h3 : (ho == ho') = true) (h4 : (hr == hr') = true) (h5 : (gz == gz') = false) :
    Calls Tryd.prog 13 #[.agg #[.int .i64 idle, .int .i64 data, .bool hg, .bool ho, .bool hr, .slice ga gm gc, .slice oa om oc, .slice ra rm rc, .int .i64 cho, .slice va vm vc], .agg #[.int .i64 idle', .int .i64 data', .bool hg', .bool ho', .bool hr', .slice ga' gm' gc', .slice oa' om' oc', .slice ra' rm' rc', .int .i64 cho', .slice va' vm' vc']] w fun e w' => e = .returned (.bool false) ∧ Below w.heap.size w w' := by
  obtain ⟨W0, hW0⟩ : ∃ W0, (w.alloc (.cells #[.int .i64 idle, .int .i64 data, .bool hg, .bool ho, .bool hr, .slice ga gm gc, .slice oa om oc, .slice ra rm rc, .int .i64 cho, .slice va vm vc] 27)).alloc (.cells #[.int .i64 idle', .int .i64 data', .bool hg', .bool ho', .bool hr', .slice ga' gm' gc', .slice oa' om' oc', .slice ra' rm' rc', .int .i64 cho', .slice va' vm' vc'] 27) = W0 := ⟨_, rfl⟩
  obtain ⟨g1, g2, b0⟩ := two_new w (.cells #[.int .i64 idle, .int .i64 data, .bool hg, .bool ho, .bool hr, .slice ga gm gc, .slice oa om oc, .slice ra rm rc, .int .i64 cho, .slice va vm vc] 27) (.cells #[.int .i64 idle', .int .i64 data', .bool hg', .bool ho', .bool hr', .slice ga' gm' gc', .slice oa' om' oc', .slice ra' rm' rc', .int .i64 cho', .slice va' vm' vc'] 27)
  have cA := cells10 g1
  have cB := cells10 g2
  rw [hW0] at b0
  have C5 := Lib.hid (fun (W : World) (hb : Below w.heap.size w W) => bytesEqual_any ga ga' gz gz' gm gm' gc gc' w.heap.size W eg eg' (rg.below hb) (rg'.below hb) ug ug')
  rw [h5] at C5
  have HB0 := Lib.hid b0; clear b0 g1 g2
  have HW0 := Lib.hid hW0; clear hW0
  clear eg lg rg eo lo ro er lr rr ev lv rv eg' lg' rg' eo' lo' ro' er' lr' rr' ev' lv' rv' ug uo ur ug' uo' ur'
  go_enter Tryd.func13, Tryd.ntmps13
  go_wp2_with fail
  refine (C5.out _ (by rw [HW0.out]; exact HB0.out)).mono ?_
  rintro e w1 ⟨rfl, rfl⟩
  go_wp2
  go_ret
  rw [HW0.out]
  exact ⟨rfl, HB0.out⟩

set_option maxRecDepth 100000 in
set_option maxHeartbeats 4000000 in
theorem same_c6 (idle data cho : Int) (hg ho hr : Bool) (ga oa ra va : Option Addr) (gm om rm vm gc oc rc vc : Nat) (idle' data' cho' : Int) (hg' ho' hr' : Bool) (ga' oa' ra' va' : Option Addr) (gm' om' rm' vm' gc' oc' rc' vc' : Nat) (gz oz rz vz gz' oz' rz' vz' : List Int) (w : World) (eg : gz.length = gm) (lg : gm ≤ 1000) (rg : Row w w.heap.size ga (ints .u8 gz)) (eo : oz.length = om) (lo : om ≤ 1000) (ro : Row w w.heap.size oa (ints .u8 oz)) (er : rz.length = rm) (lr : rm ≤ 1000) (rr : Row w w.heap.size ra (ints .u8 rz)) (ev : vz.length = vm) (lv : vm ≤ 1000) (rv : Row w w.heap.size va (ints .i64 vz)) (eg' : gz'.length = gm') (lg' : gm' ≤ 1000) (rg' : Row w w.heap.size ga' (ints .u8 gz')) (eo' : oz'.length = om') (lo' : om' ≤ 1000) (ro' : Row w w.heap.size oa' (ints .u8 oz')) (er' : rz'.length = rm') (lr' : rm' ≤ 1000) (rr' : Row w w.heap.size ra' (ints .u8 rz')) (ev' : vz'.length = vm') (lv' : vm' ≤ 1000) (rv' : Row w w.heap.size va' (ints .i64 vz')) (ug : ∀ z ∈ gz, 0 ≤ z ∧ z < 256) (uo : ∀ z ∈ oz, 0 ≤ z ∧ z < 256) (ur : ∀ z ∈ rz, 0 ≤ z ∧ z < 256) (ug' : ∀ z ∈ gz', 0 ≤ z ∧ z < 256) (uo' : ∀ z ∈ oz', 0 ≤ z ∧ z < 256) (ur' : ∀ z ∈ rz', 0 ≤ z ∧ z < 256) (h0 : (idle == idle') = true) (h1 : (data == data') = true) (h2 : (hg == hg') = true) (h3 : (ho == ho') = true) (h4 : (hr == hr') = true) (h5 : (gz == gz') = true) (h6 : (oz == oz') = false) :
    Calls Tryd.prog 13 #[.agg #[.int .i64 idle, .int .i64 data, .bool hg, .bool ho, .bool hr, .slice ga gm gc, .slice oa om oc, .slice ra rm rc, .int .i64 cho, .slice va vm vc], .agg #[.int .i64 idle', .int .i64 data', .bool hg', .bool ho', .bool hr', .slice ga' gm' gc', .slice oa' om' oc', .slice ra' rm' rc', .int .i64 cho', .slice va' vm' vc']] w fun e w' => e = .returned (.bool false) ∧ Below w.heap.size w w' := by
  obtain ⟨W0, hW0⟩ : ∃ W0, (w.alloc (.cells #[.int .i64 idle, .int .i64 data, .bool hg, .bool ho, .bool hr, .slice ga gm gc, .slice oa om oc, .slice ra rm rc, .int .i64 cho, .slice va vm vc] 27)).alloc (.cells #[.int .i64 idle', .int .i64 data', .bool hg', .bool ho', .bool hr', .slice ga' gm' gc', .slice oa' om' oc', .slice ra' rm' rc', .int .i64 cho', .slice va' vm' vc'] 27) = W0 := ⟨_, rfl⟩
  obtain ⟨g1, g2, b0⟩ := two_new w (.cells #[.int .i64 idle, .int .i64 data, .bool hg, .bool ho, .bool hr, .slice ga gm gc, .slice oa om oc, .slice ra rm rc, .int .i64 cho, .slice va vm vc] 27) (.cells #[.int .i64 idle', .int .i64 data', .bool hg', .bool ho', .bool hr', .slice ga' gm' gc', .slice oa' om' oc', .slice ra' rm' rc', .int .i64 cho', .slice va' vm' vc'] 27)
  have cA := cells10 g1
  have cB := cells10 g2
  rw [hW0] at b0
  have C5 := Lib.hid (fun (W : World) (hb : Below w.heap.size w W) => bytesEqual_any ga ga' gz gz' gm gm' gc gc' w.heap.size W eg eg' (rg.below hb) (rg'.below hb) ug ug')
  rw [h5] at C5
  have C6 := Lib.hid (fun (W : World) (hb : Below w.heap.size w W) => bytesEqual_any oa oa' oz oz' om om' oc oc' w.heap.size W eo eo' (ro.below hb) (ro'.below hb) uo uo')
  rw [h6] at C6
  have HB0 := Lib.hid b0; clear b0 g1 g2
  have HW0 := Lib.hid hW0; clear hW0
  clear eg lg rg eo lo ro er lr rr ev lv rv eg' lg' rg' eo' lo' ro' er' lr' rr' ev' lv' rv' ug uo ur ug' uo' ur'
  go_enter Tryd.func13, Tryd.ntmps13
  go_wp2_with fail
  refine (C5.out _ (by rw [HW0.out]; exact HB0.out)).mono ?_
  rintro e w1 ⟨rfl, rfl⟩
  go_wp2_with fail
  refine (C6.out _ (by rw [HW0.out]; exact HB0.out)).mono ?_
  rintro e w1 ⟨rfl, rfl⟩
  go_wp2
  go_ret
  rw [HW0.out]
  exact ⟨rfl, HB0.out⟩

set_option maxRecDepth 100000 in
set_option maxHeartbeats 4000000 in
theorem same_c7 (idle data cho : Int) (hg ho hr : Bool) (ga oa ra va : Option Addr) (gm om rm vm gc oc rc vc : Nat) (idle' data' cho' : Int) (hg' ho' hr' : Bool) (ga' oa' ra' va' : Option Addr) (gm' om' rm' vm' gc' oc' rc' vc' : Nat) (gz oz rz vz gz' oz' rz' vz' : List Int) (w : World) (eg : gz.length = gm) (lg : gm ≤ 1000) (rg : Row w w.heap.size ga (ints .u8 gz)) (eo : oz.length = om) (lo : om ≤ 1000) (ro : Row w w.heap.size oa (ints .u8 oz)) (er : rz.length = rm) (lr : rm ≤ 1000) (rr : Row w w.heap.size ra (ints .u8 rz)) (ev : vz.length = vm) (lv : vm ≤ 1000) (rv : Row w w.heap.size va (ints .i64 vz)) (eg' : gz'.length = gm') (lg' : gm' ≤ 1000) (rg' : Row w w.heap.size ga' (ints .u8 gz')) (eo' : oz'.length = om') (lo' : om' ≤ 1000) (ro' : Row w w.heap.size oa' (ints .u8 oz')) (er' : rz'.length = rm') (lr' : rm' ≤ 1000) (rr' : Row w w.heap.size ra' (ints .u8 rz')) (ev' : vz'.length = vm') (lv' : vm' ≤ 1000) (rv' : Row w w.heap.size va' (ints .i64 vz')) (ug : ∀ z ∈ gz, 0 ≤ z ∧ z < 256) (uo : ∀ z ∈ oz, 0 ≤ z ∧ z < 256) (ur : ∀ z ∈ rz, 0 ≤ z ∧ z < 256) (ug' : ∀ z ∈ gz', 0 ≤ z ∧ z < 256) (uo' : ∀ z ∈ oz', 0 ≤ z ∧ z < 256) (ur' : ∀ z ∈ rz', 0 ≤ z ∧ z < 256) (h0 : (idle == idle') = true) (h1 : (data == data') = true) (h2 : (hg == hg') = true) (h3 : (ho == ho') = true) (h4 : (hr == hr') = true) (h5 : (gz == gz') = true) (h6 : (oz == oz') = true) (h7 : (rz == rz') = false) :
    Calls Tryd.prog 13 #[.agg #[.int .i64 idle, .int .i64 data, .bool hg, .bool ho, .bool hr, .slice ga gm gc, .slice oa om oc, .slice ra rm rc, .int .i64 cho, .slice va vm vc], .agg #[.int .i64 idle', .int .i64 data', .bool hg', .bool ho', .bool hr', .slice ga' gm' gc', .slice oa' om' oc', .slice ra' rm' rc', .int .i64 cho', .slice va' vm' vc']] w fun e w' => e = .returned (.bool false) ∧ Below w.heap.size w w' := by
  obtain ⟨W0, hW0⟩ : ∃ W0, (w.alloc (.cells #[.int .i64 idle, .int .i64 data, .bool hg, .bool ho, .bool hr, .slice ga gm gc, .slice oa om oc, .slice ra rm rc, .int .i64 cho, .slice va vm vc] 27)).alloc (.cells #[.int .i64 idle', .int .i64 data', .bool hg', .bool ho', .bool hr', .slice ga' gm' gc', .slice oa' om' oc', .slice ra' rm' rc', .int .i64 cho', .slice va' vm' vc'] 27) = W0 := ⟨_, rfl⟩
  obtain ⟨g1, g2, b0⟩ := two_new w (.cells #[.int .i64 idle, .int .i64 data, .bool hg, .bool ho, .bool hr, .slice ga gm gc, .slice oa om oc, .slice ra rm rc, .int .i64 cho, .slice va vm vc] 27) (.cells #[.int .i64 idle', .int .i64 data', .bool hg', .bool ho', .bool hr', .slice ga' gm' gc', .slice oa' om' oc', .slice ra' rm' rc', .int .i64 cho', .slice va' vm' vc'] 27)
  have cA := cells10 g1
  have cB := cells10 g2
  rw [hW0] at b0
  have C5 := Lib.hid (fun (W : World) (hb : Below w.heap.size w W) => bytesEqual_any ga ga' gz gz' gm gm' gc gc' w.heap.size W eg eg' (rg.below hb) (rg'.below hb) ug ug')
  rw [h5] at C5
  have C6 := Lib.hid (fun (W : World) (hb : Below w.heap.size w W) => bytesEqual_any oa oa' oz oz' om om' oc oc' w.heap.size W eo eo' (ro.below hb) (ro'.below hb) uo uo')
  rw [h6] at C6
  have C7 := Lib.hid (fun (W : World) (hb : Below w.heap.size w W) => bytesEqual_any ra ra' rz rz' rm rm' rc rc' w.heap.size W er er' (rr.below hb) (rr'.below hb) ur ur')
  rw [h7] at C7
  have HB0 := Lib.hid b0; clear b0 g1 g2
  have HW0 := Lib.hid hW0; clear hW0
  clear eg lg rg eo lo ro er lr rr ev lv rv eg' lg' rg' eo' lo' ro' er' lr' rr' ev' lv' rv' ug uo ur ug' uo' ur'
  go_enter Tryd.func13, Tryd.ntmps13
  go_wp2_with fail
  refine (C5.out _ (by rw [HW0.out]; exact HB0.out)).mono ?_
  rintro e w1 ⟨rfl, rfl⟩
  go_wp2_with fail
  refine (C6.out _ (by rw [HW0.out]; exact HB0.out)).mono ?_
  rintro e w1 ⟨rfl, rfl⟩
  go_wp2_with fail
  refine (C7.out _ (by rw [HW0.out]; exact HB0.out)).mono ?_
  rintro e w1 ⟨rfl, rfl⟩
  go_wp2
  go_ret
  rw [HW0.out]
  exact ⟨rfl, HB0.out⟩

set_option maxRecDepth 100000 in
set_option maxHeartbeats 4000000 in
theorem same_c8 (idle data cho : Int) (hg ho hr : Bool) (ga oa ra va : Option Addr) (gm om rm vm gc oc rc vc : Nat) (idle' data' cho' : Int) (hg' ho' hr' : Bool) (ga' oa' ra' va' : Option Addr) (gm' om' rm' vm' gc' oc' rc' vc' : Nat) (gz oz rz vz gz' oz' rz' vz' : List Int) (w : World) (eg : gz.length = gm) (lg : gm ≤ 1000) (rg : Row w w.heap.size ga (ints .u8 gz)) (eo : oz.length = om) (lo : om ≤ 1000) (ro : Row w w.heap.size oa (ints .u8 oz)) (er : rz.length = rm) (lr : rm ≤ 1000) (rr : Row w w.heap.size ra (ints .u8 rz)) (ev : vz.length = vm) (lv : vm ≤ 1000) (rv : Row w w.heap.size va (ints .i64 vz)) (eg' : gz'.length = gm') (lg' : gm' ≤ 1000) (rg' : Row w w.heap.size ga' (ints .u8 gz')) (eo' : oz'.length = om') (lo' : om' ≤ 1000) (ro' : Row w w.heap.size oa' (ints .u8 oz')) (er' : rz'.length = rm') (lr' : rm' ≤ 1000) (rr' : Row w w.heap.size ra' (ints .u8 rz')) (ev' : vz'.length = vm') (lv' : vm' ≤ 1000) (rv' : Row w w.heap.size va' (ints .i64 vz')) (ug : ∀ z ∈ gz, 0 ≤ z ∧ z < 256) (uo : ∀ z ∈ oz, 0 ≤ z ∧ z < 256) (ur : ∀ z ∈ rz, 0 ≤ z ∧ z < 256) (ug' : ∀ z ∈ gz', 0 ≤ z ∧ z < 256) (uo' : ∀ z ∈ oz', 0 ≤ z ∧ z < 256) (ur' : ∀ z ∈ rz', 0 ≤ z ∧ z < 256) (h0 : (idle == idle') = true) (h1 : (data == data') = true) (h2 : (hg == hg') = true) (h3 : (ho == ho') = true) (h4 : (hr == hr') = true) (h5 : (gz == gz') = true) (h6 : (oz == oz') = true) (h7 : (rz == rz') = true) (h8 : (cho == cho') = false) :
    Calls Tryd.prog 13 #[.agg #[.int .i64 idle, .int .i64 data, .bool hg, .bool ho, .bool hr, .slice ga gm gc, .slice oa om oc, .slice ra rm rc, .int .i64 cho, .slice va vm vc], .agg #[.int .i64 idle', .int .i64 data', .bool hg', .bool ho', .bool hr', .slice ga' gm' gc', .slice oa' om' oc', .slice ra' rm' rc', .int .i64 cho', .slice va' vm' vc']] w fun e w' => e = .returned (.bool false) ∧ Below w.heap.size w w' := by
  obtain ⟨W0, hW0⟩ : ∃ W0, (w.alloc (.cells #[.int .i64 idle, .int .i64 data, .bool hg, .bool ho, .bool hr, .slice ga gm gc, .slice oa om oc, .slice ra rm rc, .int .i64 cho, .slice va vm vc] 27)).alloc (.cells #[.int .i64 idle', .int .i64 data', .bool hg', .bool ho', .bool hr', .slice ga' gm' gc', .slice oa' om' oc', .slice ra' rm' rc', .int .i64 cho', .slice va' vm' vc'] 27) = W0 := ⟨_, rfl⟩
  obtain ⟨g1, g2, b0⟩ := two_new w (.cells #[.int .i64 idle, .int .i64 data, .bool hg, .bool ho, .bool hr, .slice ga gm gc, .slice oa om oc, .slice ra rm rc, .int .i64 cho, .slice va vm vc] 27) (.cells #[.int .i64 idle', .int .i64 data', .bool hg', .bool ho', .bool hr', .slice ga' gm' gc', .slice oa' om' oc', .slice ra' rm' rc', .int .i64 cho', .slice va' vm' vc'] 27)
  have cA := cells10 g1
  have cB := cells10 g2
  rw [hW0] at b0
  have C5 := Lib.hid (fun (W : World) (hb : Below w.heap.size w W) => bytesEqual_any ga ga' gz gz' gm gm' gc gc' w.heap.size W eg eg' (rg.below hb) (rg'.below hb) ug ug')
  rw [h5] at C5
  have C6 := Lib.hid (fun (W : World) (hb : Below w.heap.size w W) => bytesEqual_any oa oa' oz oz' om om' oc oc' w.heap.size W eo eo' (ro.below hb) (ro'.below hb) uo uo')
  rw [h6] at C6
  have C7 := Lib.hid (fun (W : World) (hb : Below w.heap.size w W) => bytesEqual_any ra ra' rz rz' rm rm' rc rc' w.heap.size W er er' (rr.below hb) (rr'.below hb) ur ur')
  rw [h7] at C7
  have HB0 := Lib.hid b0; clear b0 g1 g2
  have HW0 := Lib.hid hW0; clear hW0
  clear eg lg rg eo lo ro er lr rr ev lv rv eg' lg' rg' eo' lo' ro' er' lr' rr' ev' lv' rv' ug uo ur ug' uo' ur'
  go_enter Tryd.func13, Tryd.ntmps13
  go_wp2_with fail
  refine (C5.out _ (by rw [HW0.out]; exact HB0.out)).mono ?_
  rintro e w1 ⟨rfl, rfl⟩
  go_wp2_with fail
  refine (C6.out _ (by rw [HW0.out]; exact HB0.out)).mono ?_
  rintro e w1 ⟨rfl, rfl⟩
  go_wp2_with fail
  refine (C7.out _ (by rw [HW0.out]; exact HB0.out)).mono ?_
  rintro e w1 ⟨rfl, rfl⟩
  go_wp2
  go_ret
  rw [HW0.out]
  exact ⟨rfl, HB0.out⟩

set_option maxRecDepth 100000 in
set_option maxHeartbeats 4000000 in
theorem same_c9 (idle data cho : Int) (hg ho hr : Bool) (ga oa ra va : Option Addr) (gm om rm vm gc oc rc vc : Nat) (idle' data' cho' : Int) (hg' ho' hr' : Bool) (ga' oa' ra' va' : Option Addr) (gm' om' rm' vm' gc' oc' rc' vc' : Nat) (gz oz rz vz gz' oz' rz' vz' : List Int) (w : World) (eg : gz.length = gm) (lg : gm ≤ 1000) (rg : Row w w.heap.size ga (ints .u8 gz)) (eo : oz.length = om) (lo : om ≤ 1000) (ro : Row w w.heap.size oa (ints .u8 oz)) (er : rz.length = rm) (lr : rm ≤ 1000) (rr : Row w w.heap.size ra (ints .u8 rz)) (ev : vz.length = vm) (lv : vm ≤ 1000) (rv : Row w w.heap.size va (ints .i64 vz)) (eg' : gz'.length = gm') (lg' : gm' ≤ 1000) (rg' : Row w w.heap.size ga' (ints .u8 gz')) (eo' : oz'.length = om') (lo' : om' ≤ 1000) (ro' : Row w w.heap.size oa' (ints .u8 oz')) (er' : rz'.length = rm') (lr' : rm' ≤ 1000) (rr' : Row w w.heap.size ra' (ints .u8 rz')) (ev' : vz'.length = vm') (lv' : vm' ≤ 1000) (rv' : Row w w.heap.size va' (ints .i64 vz')) (ug : ∀ z ∈ gz, 0 ≤ z ∧ z < 256) (uo : ∀ z ∈ oz, 0 ≤ z ∧ z < 256) (ur : ∀ z ∈ rz, 0 ≤ z ∧ z < 256) (ug' : ∀ z ∈ gz', 0 ≤ z ∧ z < 256) (uo' : ∀ z ∈ oz', 0 ≤ z ∧ z < 256) (ur' : ∀ z ∈ rz', 0 ≤ z ∧ z < 256) (h0 : (idle == idle') = true) (h1 : (data == data') = true) (h2 : (hg == hg') = true) (h3 : (ho == ho') = true) (h4 : (hr == hr') = true) (h5 : (gz == gz') = true) (h6 : (oz == oz') = true) (h7 : (rz == rz') = true) (h8 : (cho == cho') = true) (h9 : (vz == vz') = false) :
    Calls Tryd.prog 13 #[.agg #[.int .i64 idle, .int .i64 data, .bool hg, .bool ho, .bool hr, .slice ga gm gc, .slice oa om oc, .slice ra rm rc, .int .i64 cho, .slice va vm vc], .agg #[.int .i64 idle', .int .i64 data', .bool hg', .bool ho', .bool hr', .slice ga' gm' gc', .slice oa' om' oc', .slice ra' rm' rc', .int .i64 cho', .slice va' vm' vc']] w fun e w' => e = .returned (.bool false) ∧ Below w.heap.size w w' := by
  obtain ⟨W0, hW0⟩ : ∃ W0, (w.alloc (.cells #[.int .i64 idle, .int .i64 data, .bool hg, .bool ho, .bool hr, .slice ga gm gc, .slice oa om oc, .slice ra rm rc, .int .i64 cho, .slice va vm vc] 27)).alloc (.cells #[.int .i64 idle', .int .i64 data', .bool hg', .bool ho', .bool hr', .slice ga' gm' gc', .slice oa' om' oc', .slice ra' rm' rc', .int .i64 cho', .slice va' vm' vc'] 27) = W0 := ⟨_, rfl⟩
  obtain ⟨g1, g2, b0⟩ := two_new w (.cells #[.int .i64 idle, .int .i64 data, .bool hg, .bool ho, .bool hr, .slice ga gm gc, .slice oa om oc, .slice ra rm rc, .int .i64 cho, .slice va vm vc] 27) (.cells #[.int .i64 idle', .int .i64 data', .bool hg', .bool ho', .bool hr', .slice ga' gm' gc', .slice oa' om' oc', .slice ra' rm' rc', .int .i64 cho', .slice va' vm' vc'] 27)
  have cA := cells10 g1
  have cB := cells10 g2
  rw [hW0] at b0
  have C5 := Lib.hid (fun (W : World) (hb : Below w.heap.size w W) => bytesEqual_any ga ga' gz gz' gm gm' gc gc' w.heap.size W eg eg' (rg.below hb) (rg'.below hb) ug ug')
  rw [h5] at C5
  have C6 := Lib.hid (fun (W : World) (hb : Below w.heap.size w W) => bytesEqual_any oa oa' oz oz' om om' oc oc' w.heap.size W eo eo' (ro.below hb) (ro'.below hb) uo uo')
  rw [h6] at C6
  have C7 := Lib.hid (fun (W : World) (hb : Below w.heap.size w W) => bytesEqual_any ra ra' rz rz' rm rm' rc rc' w.heap.size W er er' (rr.below hb) (rr'.below hb) ur ur')
  rw [h7] at C7
  have C9 := Lib.hid (fun (W : World) (hb : Below w.heap.size w W) => slicesEqual_any va va' vz vz' vm vm' vc vc' w.heap.size W ev ev' (by omega) (by omega) (rv.below hb) (rv'.below hb))
  rw [h9] at C9
  have HB0 := Lib.hid b0; clear b0 g1 g2
  have HW0 := Lib.hid hW0; clear hW0
  clear eg lg rg eo lo ro er lr rr ev lv rv eg' lg' rg' eo' lo' ro' er' lr' rr' ev' lv' rv' ug uo ur ug' uo' ur'
  go_enter Tryd.func13, Tryd.ntmps13
  go_wp2_with fail
  refine (C5.out _ (by rw [HW0.out]; exact HB0.out)).mono ?_
  rintro e w1 ⟨rfl, rfl⟩
  go_wp2_with fail
  refine (C6.out _ (by rw [HW0.out]; exact HB0.out)).mono ?_
  rintro e w1 ⟨rfl, rfl⟩
  go_wp2_with fail
  refine (C7.out _ (by rw [HW0.out]; exact HB0.out)).mono ?_
  rintro e w1 ⟨rfl, rfl⟩
  go_wp2_with fail
  refine (C9.out _ (by rw [HW0.out]; exact HB0.out)).mono ?_
  rintro e w1 ⟨rfl, hd⟩
  have HD := Lib.hid (HB0.out.trans (by rw [← HW0.out]; exact (hd.below _)))
  clear hd
  go_wp2
  go_ret
  exact ⟨rfl, HD.out⟩

set_option maxRecDepth 100000 in
set_option maxHeartbeats 4000000 in
theorem same_c10 (idle data cho : Int) (hg ho hr : Bool) (ga oa ra va : Option Addr) (gm om rm vm gc oc rc vc : Nat) (idle' data' cho' : Int) (hg' ho' hr' : Bool) (ga' oa' ra' va' : Option Addr) (gm' om' rm' vm' gc' oc' rc' vc' : Nat) (gz oz rz vz gz' oz' rz' vz' : List Int) (w : World) (eg : gz.length = gm) (lg : gm ≤ 1000) (rg : Row w w.heap.size ga (ints .u8 gz)) (eo : oz.length = om) (lo : om ≤ 1000) (ro : Row w w.heap.size oa (ints .u8 oz)) (er : rz.length = rm) (lr : rm ≤ 1000) (rr : Row w w.heap.size ra (ints .u8 rz)) (ev : vz.length = vm) (lv : vm ≤ 1000) (rv : Row w w.heap.size va (ints .i64 vz)) (eg' : gz'.length = gm') (lg' : gm' ≤ 1000) (rg' : Row w w.heap.size ga' (ints .u8 gz')) (eo' : oz'.length = om') (lo' : om' ≤ 1000) (ro' : Row w w.heap.size oa' (ints .u8 oz')) (er' : rz'.length = rm') (lr' : rm' ≤ 1000) (rr' : Row w w.heap.size ra' (ints .u8 rz')) (ev' : vz'.length = vm') (lv' : vm' ≤ 1000) (rv' : Row w w.heap.size va' (ints .i64 vz')) (ug : ∀ z ∈ gz, 0 ≤ z ∧ z < 256) (uo : ∀ z ∈ oz, 0 ≤ z ∧ z < 256) (ur : ∀ z ∈ rz, 0 ≤ z ∧ z < 256) (ug' : ∀ z ∈ gz', 0 ≤ z ∧ z < 256) (uo' : ∀ z ∈ oz', 0 ≤ z ∧ z < 256) (ur' : ∀ z ∈ rz', 0 ≤ z ∧ z < 256) (h0 : (idle == idle') = true) (h1 : (data == data') = true) (h2 : (hg == hg') = true) (h3 : (ho == ho') = true) (h4 : (hr == hr') = true) (h5 : (gz == gz') = true) (h6 : (oz == oz') = true) (h7 : (rz == rz') = true) (h8 : (cho == cho') = true) (h9 : (vz == vz') = true) :
    Calls Tryd.prog 13 #[.agg #[.int .i64 idle, .int .i64 data, .bool hg, .bool ho, .bool hr, .slice ga gm gc, .slice oa om oc, .slice ra rm rc, .int .i64 cho, .slice va vm vc], .agg #[.int .i64 idle', .int .i64 data', .bool hg', .bool ho', .bool hr', .slice ga' gm' gc', .slice oa' om' oc', .slice ra' rm' rc', .int .i64 cho', .slice va' vm' vc']] w fun e w' => e = .returned (.bool true) ∧ Below w.heap.size w w' := by
  obtain ⟨W0, hW0⟩ : ∃ W0, (w.alloc (.cells #[.int .i64 idle, .int .i64 data, .bool hg, .bool ho, .bool hr, .slice ga gm gc, .slice oa om oc, .slice ra rm rc, .int .i64 cho, .slice va vm vc] 27)).alloc (.cells #[.int .i64 idle', .int .i64 data', .bool hg', .bool ho', .bool hr', .slice ga' gm' gc', .slice oa' om' oc', .slice ra' rm' rc', .int .i64 cho', .slice va' vm' vc'] 27) = W0 := ⟨_, rfl⟩
  obtain ⟨g1, g2, b0⟩ := two_new w (.cells #[.int .i64 idle, .int .i64 data, .bool hg, .bool ho, .bool hr, .slice ga gm gc, .slice oa om oc, .slice ra rm rc, .int .i64 cho, .slice va vm vc] 27) (.cells #[.int .i64 idle', .int .i64 data', .bool hg', .bool ho', .bool hr', .slice ga' gm' gc', .slice oa' om' oc', .slice ra' rm' rc', .int .i64 cho', .slice va' vm' vc'] 27)
  have cA := cells10 g1
  have cB := cells10 g2
  rw [hW0] at b0
  have C5 := Lib.hid (fun (W : World) (hb : Below w.heap.size w W) => bytesEqual_any ga ga' gz gz' gm gm' gc gc' w.heap.size W eg eg' (rg.below hb) (rg'.below hb) ug ug')
  rw [h5] at C5
  have C6 := Lib.hid (fun (W : World) (hb : Below w.heap.size w W) => bytesEqual_any oa oa' oz oz' om om' oc oc' w.heap.size W eo eo' (ro.below hb) (ro'.below hb) uo uo')
  rw [h6] at C6
  have C7 := Lib.hid (fun (W : World) (hb : Below w.heap.size w W) => bytesEqual_any ra ra' rz rz' rm rm' rc rc' w.heap.size W er er' (rr.below hb) (rr'.below hb) ur ur')
  rw [h7] at C7
  have C9 := Lib.hid (fun (W : World) (hb : Below w.heap.size w W) => slicesEqual_any va va' vz vz' vm vm' vc vc' w.heap.size W ev ev' (by omega) (by omega) (rv.below hb) (rv'.below hb))
  rw [h9] at C9
  have HB0 := Lib.hid b0; clear b0 g1 g2
  have HW0 := Lib.hid hW0; clear hW0
  clear eg lg rg eo lo ro er lr rr ev lv rv eg' lg' rg' eo' lo' ro' er' lr' rr' ev' lv' rv' ug uo ur ug' uo' ur'
  go_enter Tryd.func13, Tryd.ntmps13
  go_wp2_with fail
  refine (C5.out _ (by rw [HW0.out]; exact HB0.out)).mono ?_
  rintro e w1 ⟨rfl, rfl⟩
  go_wp2_with fail
  refine (C6.out _ (by rw [HW0.out]; exact HB0.out)).mono ?_
  rintro e w1 ⟨rfl, rfl⟩
  go_wp2_with fail
  refine (C7.out _ (by rw [HW0.out]; exact HB0.out)).mono ?_
  rintro e w1 ⟨rfl, rfl⟩
  go_wp2_with fail
  refine (C9.out _ (by rw [HW0.out]; exact HB0.out)).mono ?_
  rintro e w1 ⟨rfl, hd⟩
  have HD := Lib.hid (HB0.out.trans (by rw [← HW0.out]; exact (hd.below _)))
  clear hd
  go_wp2
  go_ret
  exact ⟨rfl, HD.out⟩

theorem sameP_any (idle data cho : Int) (hg ho hr : Bool) (ga oa ra va : Option Addr) (gm om rm vm gc oc rc vc : Nat) (idle' data' cho' : Int) (hg' ho' hr' : Bool) (ga' oa' ra' va' : Option Addr) (gm' om' rm' vm' gc' oc' rc' vc' : Nat) (gz oz rz vz gz' oz' rz' vz' : List Int) (w : World) (eg : gz.length = gm) (lg : gm ≤ 1000) (rg : Row w w.heap.size ga (ints .u8 gz)) (eo : oz.length = om) (lo : om ≤ 1000) (ro : Row w w.heap.size oa (ints .u8 oz)) (er : rz.length = rm) (lr : rm ≤ 1000) (rr : Row w w.heap.size ra (ints .u8 rz)) (ev : vz.length = vm) (lv : vm ≤ 1000) (rv : Row w w.heap.size va (ints .i64 vz)) (eg' : gz'.length = gm') (lg' : gm' ≤ 1000) (rg' : Row w w.heap.size ga' (ints .u8 gz')) (eo' : oz'.length = om') (lo' : om' ≤ 1000) (ro' : Row w w.heap.size oa' (ints .u8 oz')) (er' : rz'.length = rm') (lr' : rm' ≤ 1000) (rr' : Row w w.heap.size ra' (ints .u8 rz')) (ev' : vz'.length = vm') (lv' : vm' ≤ 1000) (rv' : Row w w.heap.size va' (ints .i64 vz')) (ug : ∀ z ∈ gz, 0 ≤ z ∧ z < 256) (uo : ∀ z ∈ oz, 0 ≤ z ∧ z < 256) (ur : ∀ z ∈ rz, 0 ≤ z ∧ z < 256) (ug' : ∀ z ∈ gz', 0 ≤ z ∧ z < 256) (uo' : ∀ z ∈ oz', 0 ≤ z ∧ z < 256) (ur' : ∀ z ∈ rz', 0 ≤ z ∧ z < 256) :
    Calls Tryd.prog 13 #[.agg #[.int .i64 idle, .int .i64 data, .bool hg, .bool ho, .bool hr, .slice ga gm gc, .slice oa om oc, .slice ra rm rc, .int .i64 cho, .slice va vm vc], .agg #[.int .i64 idle', .int .i64 data', .bool hg', .bool ho', .bool hr', .slice ga' gm' gc', .slice oa' om' oc', .slice ra' rm' rc', .int .i64 cho', .slice va' vm' vc']] w fun e w' => e = .returned (.bool (sameT idle data cho hg ho hr gz oz rz vz idle' data' cho' hg' ho' hr' gz' oz' rz' vz')) ∧ Below w.heap.size w w' := by
  by_cases h0 : (idle == idle') = false
  · have e : sameT idle data cho hg ho hr gz oz rz vz idle' data' cho' hg' ho' hr' gz' oz' rz' vz' = false := by unfold sameT; simp only [h0, Bool.and_false, Bool.false_and]
    rw [e]
    exact same_c0 idle data cho hg ho hr ga oa ra va gm om rm vm gc oc rc vc idle' data' cho' hg' ho' hr' ga' oa' ra' va' gm' om' rm' vm' gc' oc' rc' vc' gz oz rz vz gz' oz' rz' vz' w eg lg rg eo lo ro er lr rr ev lv rv eg' lg' rg' eo' lo' ro' er' lr' rr' ev' lv' rv' ug uo ur ug' uo' ur'  h0
  replace h0 : (idle == idle') = true := by simpa using h0
  by_cases h1 : (data == data') = false
  · have e : sameT idle data cho hg ho hr gz oz rz vz idle' data' cho' hg' ho' hr' gz' oz' rz' vz' = false := by unfold sameT; simp only [h0, h1, Bool.and_false, Bool.false_and]
    rw [e]
    exact same_c1 idle data cho hg ho hr ga oa ra va gm om rm vm gc oc rc vc idle' data' cho' hg' ho' hr' ga' oa' ra' va' gm' om' rm' vm' gc' oc' rc' vc' gz oz rz vz gz' oz' rz' vz' w eg lg rg eo lo ro er lr rr ev lv rv eg' lg' rg' eo' lo' ro' er' lr' rr' ev' lv' rv' ug uo ur ug' uo' ur' h0 h1
  replace h1 : (data == data') = true := by simpa using h1
  by_cases h2 : (hg == hg') = false
  · have e : sameT idle data cho hg ho hr gz oz rz vz idle' data' cho' hg' ho' hr' gz' oz' rz' vz' = false := by unfold sameT; simp only [h0, h1, h2, Bool.and_false, Bool.false_and]
    rw [e]
    exact same_c2 idle data cho hg ho hr ga oa ra va gm om rm vm gc oc rc vc idle' data' cho' hg' ho' hr' ga' oa' ra' va' gm' om' rm' vm' gc' oc' rc' vc' gz oz rz vz gz' oz' rz' vz' w eg lg rg eo lo ro er lr rr ev lv rv eg' lg' rg' eo' lo' ro' er' lr' rr' ev' lv' rv' ug uo ur ug' uo' ur' h0 h1 h2
  replace h2 : (hg == hg') = true := by simpa using h2
  by_cases h3 : (ho == ho') = false
  · have e : sameT idle data cho hg ho hr gz oz rz vz idle' data' cho' hg' ho' hr' gz' oz' rz' vz' = false := by unfold sameT; simp only [h0, h1, h2, h3, Bool.and_false, Bool.false_and]
    rw [e]
    exact same_c3 idle data cho hg ho hr ga oa ra va gm om rm vm gc oc rc vc idle' data' cho' hg' ho' hr' ga' oa' ra' va' gm' om' rm' vm' gc' oc' rc' vc' gz oz rz vz gz' oz' rz' vz' w eg lg rg eo lo ro er lr rr ev lv rv eg' lg' rg' eo' lo' ro' er' lr' rr' ev' lv' rv' ug uo ur ug' uo' ur' h0 h1 h2 h3
  replace h3 : (ho == ho') = true := by simpa using h3
  by_cases h4 : (hr == hr') = false
  · have e : sameT idle data cho hg ho hr gz oz rz vz idle' data' cho' hg' ho' hr' gz' oz' rz' vz' = false := by unfold sameT; simp only [h0, h1, h2, h3, h4, Bool.and_false, Bool.false_and]
    rw [e]
    exact same_c4 idle data cho hg ho hr ga oa ra va gm om rm vm gc oc rc vc idle' data' cho' hg' ho' hr' ga' oa' ra' va' gm' om' rm' vm' gc' oc' rc' vc' gz oz rz vz gz' oz' rz' vz' w eg lg rg eo lo ro er lr rr ev lv rv eg' lg' rg' eo' lo' ro' er' lr' rr' ev' lv' rv' ug uo ur ug' uo' ur' h0 h1 h2 h3 h4
  replace h4 : (hr == hr') = true := by simpa using h4
  by_cases h5 : (gz == gz') = false
  · have e : sameT idle data cho hg ho hr gz oz rz vz idle' data' cho' hg' ho' hr' gz' oz' rz' vz' = false := by unfold sameT; simp only [h0, h1, h2, h3, h4, h5, Bool.and_false, Bool.false_and]
    rw [e]
    exact same_c5 idle data cho hg ho hr ga oa ra va gm om rm vm gc oc rc vc idle' data' cho' hg' ho' hr' ga' oa' ra' va' gm' om' rm' vm' gc' oc' rc' vc' gz oz rz vz gz' oz' rz' vz' w eg lg rg eo lo ro er lr rr ev lv rv eg' lg' rg' eo' lo' ro' er' lr' rr' ev' lv' rv' ug uo ur ug' uo' ur' h0 h1 h2 h3 h4 h5
  replace h5 : (gz == gz') = true := by simpa using h5
  by_cases h6 : (oz == oz') = false
  · have e : sameT idle data cho hg ho hr gz oz rz vz idle' data' cho' hg' ho' hr' gz' oz' rz' vz' = false := by unfold sameT; simp only [h0, h1, h2, h3, h4, h5, h6, Bool.and_false, Bool.false_and]
    rw [e]
    exact same_c6 idle data cho hg ho hr ga oa ra va gm om rm vm gc oc rc vc idle' data' cho' hg' ho' hr' ga' oa' ra' va' gm' om' rm' vm' gc' oc' rc' vc' gz oz rz vz gz' oz' rz' vz' w eg lg rg eo lo ro er lr rr ev lv rv eg' lg' rg' eo' lo' ro' er' lr' rr' ev' lv' rv' ug uo ur ug' uo' ur' h0 h1 h2 h3 h4 h5 h6
  replace h6 : (oz == oz') = true := by simpa using h6
  by_cases h7 : (rz == rz') = false
  · have e : sameT idle data cho hg ho hr gz oz rz vz idle' data' cho' hg' ho' hr' gz' oz' rz' vz' = false := by unfold sameT; simp only [h0, h1, h2, h3, h4, h5, h6, h7, Bool.and_false, Bool.false_and]
    rw [e]
    exact same_c7 idle data cho hg ho hr ga oa ra va gm om rm vm gc oc rc vc idle' data' cho' hg' ho' hr' ga' oa' ra' va' gm' om' rm' vm' gc' oc' rc' vc' gz oz rz vz gz' oz' rz' vz' w eg lg rg eo lo ro er lr rr ev lv rv eg' lg' rg' eo' lo' ro' er' lr' rr' ev' lv' rv' ug uo ur ug' uo' ur' h0 h1 h2 h3 h4 h5 h6 h7
  replace h7 : (rz == rz') = true := by simpa using h7
  by_cases h8 : (cho == cho') = false
  · have e : sameT idle data cho hg ho hr gz oz rz vz idle' data' cho' hg' ho' hr' gz' oz' rz' vz' = false := by unfold sameT; simp only [h0, h1, h2, h3, h4, h5, h6, h7, h8, Bool.and_false, Bool.false_and]
    rw [e]
    exact same_c8 idle data cho hg ho hr ga oa ra va gm om rm vm gc oc rc vc idle' data' cho' hg' ho' hr' ga' oa' ra' va' gm' om' rm' vm' gc' oc' rc' vc' gz oz rz vz gz' oz' rz' vz' w eg lg rg eo lo ro er lr rr ev lv rv eg' lg' rg' eo' lo' ro' er' lr' rr' ev' lv' rv' ug uo ur ug' uo' ur' h0 h1 h2 h3 h4 h5 h6 h7 h8
  replace h8 : (cho == cho') = true := by simpa using h8
  by_cases h9 : (vz == vz') = false
  · have e : sameT idle data cho hg ho hr gz oz rz vz idle' data' cho' hg' ho' hr' gz' oz' rz' vz' = false := by unfold sameT; simp only [h0, h1, h2, h3, h4, h5, h6, h7, h8, h9, Bool.and_false, Bool.false_and]
    rw [e]
    exact same_c9 idle data cho hg ho hr ga oa ra va gm om rm vm gc oc rc vc idle' data' cho' hg' ho' hr' ga' oa' ra' va' gm' om' rm' vm' gc' oc' rc' vc' gz oz rz vz gz' oz' rz' vz' w eg lg rg eo lo ro er lr rr ev lv rv eg' lg' rg' eo' lo' ro' er' lr' rr' ev' lv' rv' ug uo ur ug' uo' ur' h0 h1 h2 h3 h4 h5 h6 h7 h8 h9
  replace h9 : (vz == vz') = true := by simpa using h9
  have e : sameT idle data cho hg ho hr gz oz rz vz idle' data' cho' hg' ho' hr' gz' oz' rz' vz' = true := by unfold sameT; simp only [h0, h1, h2, h3, h4, h5, h6, h7, h8, h9, Bool.and_true]
  rw [e]
  exact same_c10 idle data cho hg ho hr ga oa ra va gm om rm vm gc oc rc vc idle' data' cho' hg' ho' hr' ga' oa' ra' va' gm' om' rm' vm' gc' oc' rc' vc' gz oz rz vz gz' oz' rz' vz' w eg lg rg eo lo ro er lr rr ev lv rv eg' lg' rg' eo' lo' ro' er' lr' rr' ev' lv' rv' ug uo ur ug' uo' ur' h0 h1 h2 h3 h4 h5 h6 h7 h8 h9

end Go.Proofs.YtaplndehoenghaaDoor
