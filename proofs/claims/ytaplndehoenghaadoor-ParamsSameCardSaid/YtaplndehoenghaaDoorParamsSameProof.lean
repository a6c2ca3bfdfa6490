/-
  ParamsSame returns true for every input, and changes nothing that was there: params are the same just if all their fields are. No condition; the library's table of math/bits is tied to the program's text by the given tie.
  (The frame of this text follows the guide's worked card; the walk is mine.)
-/
import Derived.Test.YtaplndehoenghaaDoorCards
import Derived.Test.YtaplndehoenghaaDoorTie
import Derived.Test.YtaplndehoenghaaDoorPSLaw
import Derived.Test.YtaplndehoenghaaDoorParamsFrame
import Derived.SevenTiedAt
namespace Go.Proofs.YtaplndehoenghaaDoor.paramsSame
open Go.ChangeShapes Go.WideShapes Go.ChangeAt Go.RowKit Go.Deep
set_option linter.unusedVariables false

theorem walk (idle data cho : Int) (hg ho hr : Bool) (ga oa ra va : Option Addr) (gm om rm vm gc oc rc vc : Nat) (idle' data' cho' : Int) (hg' ho' hr' : Bool) (ga' oa' ra' va' : Option Addr) (gm' om' rm' vm' gc' oc' rc' vc' : Nat) (gz oz rz vz gz' oz' rz' vz' : List Int) (w : World) (eg : gz.length = gm) (cg : gm ≤ gc) (rg : Row w w.heap.size ga (ints .u8 gz)) (eo : oz.length = om) (co : om ≤ oc) (ro : Row w w.heap.size oa (ints .u8 oz)) (er : rz.length = rm) (cr : rm ≤ rc) (rr : Row w w.heap.size ra (ints .u8 rz)) (ev : vz.length = vm) (cv : vm ≤ vc) (rv : Row w w.heap.size va (ints .i64 vz)) (eg' : gz'.length = gm') (cg' : gm' ≤ gc') (rg' : Row w w.heap.size ga' (ints .u8 gz')) (eo' : oz'.length = om') (co' : om' ≤ oc') (ro' : Row w w.heap.size oa' (ints .u8 oz')) (er' : rz'.length = rm') (cr' : rm' ≤ rc') (rr' : Row w w.heap.size ra' (ints .u8 rz')) (ev' : vz'.length = vm') (cv' : vm' ≤ vc') (rv' : Row w w.heap.size va' (ints .i64 vz')) (ug : ∀ z ∈ gz, 0 ≤ z ∧ z < 256) (uo : ∀ z ∈ oz, 0 ≤ z ∧ z < 256) (ur : ∀ z ∈ rz, 0 ≤ z ∧ z < 256) (ug' : ∀ z ∈ gz', 0 ≤ z ∧ z < 256) (uo' : ∀ z ∈ oz', 0 ≤ z ∧ z < 256) (ur' : ∀ z ∈ rz', 0 ≤ z ∧ z < 256) (hT : TabOk w) :
    Calls Tryd.prog 4 #[.agg #[.int .i64 idle, .int .i64 data, .bool hg, .bool ho, .bool hr, .slice ga gm gc, .slice oa om oc, .slice ra rm rc, .int .i64 cho, .slice va vm vc], .agg #[.int .i64 idle', .int .i64 data', .bool hg', .bool ho', .bool hr', .slice ga' gm' gc', .slice oa' om' oc', .slice ra' rm' rc', .int .i64 cho', .slice va' vm' vc']] w fun e w' => e = .returned (.bool true) ∧ Below w.heap.size w w' := by
  by_cases hl : lightT gm om rm vm = true
  · by_cases hl' : lightT gm' om' rm' vm' = true
    · have h := hl
      have h' := hl'
      simp only [lightT, Bool.and_eq_true, decide_eq_true_eq] at h h'
      exact paramsSame_small idle data cho hg ho hr ga oa ra va gm om rm vm gc oc rc vc idle' data' cho' hg' ho' hr' ga' oa' ra' va' gm' om' rm' vm' gc' oc' rc' vc' gz oz rz vz gz' oz' rz' vz' w eg h.1 cg rg eo h.2.1 co ro er h.2.2.1 cr rr ev h.2.2.2 cv rv eg' h'.1 cg' rg' eo' h'.2.1 co' ro' er' h'.2.2.1 cr' rr' ev' h'.2.2.2 cv' rv' ug uo ur ug' uo' ur' hT hl hl'
    · exact paramsSame_bigB idle data cho hg ho hr ga oa ra va gm om rm vm gc oc rc vc idle' data' cho' hg' ho' hr' ga' oa' ra' va' gm' om' rm' vm' gc' oc' rc' vc' w hl (by simpa using hl')
  · exact paramsSame_bigA idle data cho hg ho hr ga oa ra va gm om rm vm gc oc rc vc idle' data' cho' hg' ho' hr' ga' oa' ra' va' gm' om' rm' vm' gc' oc' rc' vc' w (by simpa using hl)

set_option maxRecDepth 100000 in
theorem lifted (os : Os) (started : os.Started) (H : Type) (enc : TypeId × Value → H) :
    ReturnsInHanded {} Tryd.checked os 4 .any (fun w args => (Rows.paramsSameSpec.pre enc Tryd.prog Tryd.f4 [] false w args ∧ laidMetH Tryd.prog laidP w) ∧ sizedMet enc Tryd.prog Tryd.f4 (OpenSpec.ofChange Rows.paramsSameSpec) false w args)
      (Rows.paramsSameSpec.post enc Tryd.prog Tryd.f4 false true false false) := by
  refine returnsInHanded_of_change_and (C := Tryd.checked) (X := fun w _ => laidMetH Tryd.prog laidP w) (fun _ _ _ hh h => h.of_heap hh) own started (by kernel_rfl) Tryd.func4
    (ChangeSpec.witness_shaped (enc := enc) (C := Tryd.checked) (os := os) (X := fun w _ => laidMetH Tryd.prog laidP w) false (World.doorLaid Tryd.prog 400 os) #[.agg #[.int .i64 0, .int .i64 0, .bool false, .bool false, .bool false, .slice none 0 0, .slice none 0 0, .slice none 0 0, .int .i64 0, .slice none 0 0], .agg #[.int .i64 0, .int .i64 0, .bool false, .bool false, .bool false, .slice none 0 0, .slice none 0 0, .slice none 0 0, .int .i64 0, .slice none 0 0]] 8 rfl (World.shaped_of_RefB (by kernel_rfl) (by kernel_rfl)) (by kernel_rfl) (by kernel_rfl) (by kernel_rfl) (door_met os _)) ?_
  intro W base args ds gs before hval0 hW _ _ hL _
  have hval : ∀ (j : Nat) t v, Tryd.f4.params[j]? = some t → args[j]? = some v → Value.okWide Tryd.prog W .any base t v := hval0
  have hW' := hW
  obtain ⟨p, q, hA0, hV, rfl, hfz, hnd⟩ := hW
  have hA : DataW.TrodAll enc Tryd.prog W 0 (fun _ => true) true Tryd.f4.params.toList args.toList ds p := hA0
  rw [Tryd.params4] at hA hval
  obtain ⟨v0, vs0, d0, ds0, p0, q0, hargs, rfl, rfl, h0, r0⟩ := trodAll_cons hA
  obtain ⟨v1, vs1, d1, ds1, p1, q1, rfl, rfl, rfl, h1, r1⟩ := trodAll_cons r0
  obtain ⟨rfl, rfl, rfl⟩ := trodAll_nil r1
  obtain rfl : args = #[v0, v1] := by cases args; simp_all
  obtain ⟨rfl, rfl⟩ := trodVars_none hV
  have k0 := h0
  have k1 := h1
  have lt0 : ∀ x ∈ p0, x.block < W.heap.size := by obtain ⟨m, hm⟩ := k0; exact DataW.trod_lt m _ _ _ hm
  have lt1 : ∀ x ∈ p1, x.block < W.heap.size := by obtain ⟨m, hm⟩ := k1; exact DataW.trod_lt m _ _ _ hm
  have hT := of_laid hL
  obtain ⟨cs0, rfl, hcs0, hf0⟩ := open_fields Tryd.underlying25 (by kernel_rfl) (by kernel_rfl) (hval 0 25 v0 rfl rfl) h0
  obtain ⟨c0_0, y0_0, n0_0, g0_0, t0_0⟩ := hf0 0 _ rfl
  obtain ⟨c1_0, y1_0, n1_0, g1_0, t1_0⟩ := hf0 1 _ rfl
  obtain ⟨c2_0, y2_0, n2_0, g2_0, t2_0⟩ := hf0 2 _ rfl
  obtain ⟨c3_0, y3_0, n3_0, g3_0, t3_0⟩ := hf0 3 _ rfl
  obtain ⟨c4_0, y4_0, n4_0, g4_0, t4_0⟩ := hf0 4 _ rfl
  obtain ⟨c5_0, y5_0, n5_0, g5_0, t5_0⟩ := hf0 5 _ rfl
  obtain ⟨c6_0, y6_0, n6_0, g6_0, t6_0⟩ := hf0 6 _ rfl
  obtain ⟨c7_0, y7_0, n7_0, g7_0, t7_0⟩ := hf0 7 _ rfl
  obtain ⟨c8_0, y8_0, n8_0, g8_0, t8_0⟩ := hf0 8 _ rfl
  obtain ⟨c9_0, y9_0, n9_0, g9_0, t9_0⟩ := hf0 9 _ rfl
  obtain ⟨idle, rfl, _⟩ := field_int Tryd.underlying3 t0_0
  obtain ⟨data, rfl, _⟩ := field_int Tryd.underlying3 t1_0
  obtain ⟨hg, rfl⟩ := field_bool Tryd.underlying4 t2_0
  obtain ⟨ho, rfl⟩ := field_bool Tryd.underlying4 t3_0
  obtain ⟨hr, rfl⟩ := field_bool Tryd.underlying4 t4_0
  obtain ⟨ga, gm, gc, gz, rfl, eg, egc, rg, wg⟩ := open_ints_row Tryd.underlying22 Tryd.underlying5 (by kernel_rfl) t5_0
  obtain ⟨oa, om, oc, oz, rfl, eo, eoc, ro, wo⟩ := open_ints_row Tryd.underlying22 Tryd.underlying5 (by kernel_rfl) t6_0
  obtain ⟨ra, rm, rc, rz, rfl, er, erc, rr, wr⟩ := open_ints_row Tryd.underlying22 Tryd.underlying5 (by kernel_rfl) t7_0
  obtain ⟨cho, rfl, _⟩ := field_int Tryd.underlying3 t8_0
  obtain ⟨va, vm, vc, vz, rfl, ev, evc, rv, wv⟩ := open_ints_row Tryd.underlying23 Tryd.underlying3 (by kernel_rfl) t9_0
  obtain rfl := arr10 hcs0 g0_0 g1_0 g2_0 g3_0 g4_0 g5_0 g6_0 g7_0 g8_0 g9_0
  obtain ⟨cs1, rfl, hcs1, hf1⟩ := open_fields Tryd.underlying25 (by kernel_rfl) (by kernel_rfl) (hval 1 25 v1 rfl rfl) h1
  obtain ⟨c0_1, y0_1, n0_1, g0_1, t0_1⟩ := hf1 0 _ rfl
  obtain ⟨c1_1, y1_1, n1_1, g1_1, t1_1⟩ := hf1 1 _ rfl
  obtain ⟨c2_1, y2_1, n2_1, g2_1, t2_1⟩ := hf1 2 _ rfl
  obtain ⟨c3_1, y3_1, n3_1, g3_1, t3_1⟩ := hf1 3 _ rfl
  obtain ⟨c4_1, y4_1, n4_1, g4_1, t4_1⟩ := hf1 4 _ rfl
  obtain ⟨c5_1, y5_1, n5_1, g5_1, t5_1⟩ := hf1 5 _ rfl
  obtain ⟨c6_1, y6_1, n6_1, g6_1, t6_1⟩ := hf1 6 _ rfl
  obtain ⟨c7_1, y7_1, n7_1, g7_1, t7_1⟩ := hf1 7 _ rfl
  obtain ⟨c8_1, y8_1, n8_1, g8_1, t8_1⟩ := hf1 8 _ rfl
  obtain ⟨c9_1, y9_1, n9_1, g9_1, t9_1⟩ := hf1 9 _ rfl
  obtain ⟨idle', rfl, _⟩ := field_int Tryd.underlying3 t0_1
  obtain ⟨data', rfl, _⟩ := field_int Tryd.underlying3 t1_1
  obtain ⟨hg', rfl⟩ := field_bool Tryd.underlying4 t2_1
  obtain ⟨ho', rfl⟩ := field_bool Tryd.underlying4 t3_1
  obtain ⟨hr', rfl⟩ := field_bool Tryd.underlying4 t4_1
  obtain ⟨ga', gm', gc', gz', rfl, eg', egc', rg', wg'⟩ := open_ints_row Tryd.underlying22 Tryd.underlying5 (by kernel_rfl) t5_1
  obtain ⟨oa', om', oc', oz', rfl, eo', eoc', ro', wo'⟩ := open_ints_row Tryd.underlying22 Tryd.underlying5 (by kernel_rfl) t6_1
  obtain ⟨ra', rm', rc', rz', rfl, er', erc', rr', wr'⟩ := open_ints_row Tryd.underlying22 Tryd.underlying5 (by kernel_rfl) t7_1
  obtain ⟨cho', rfl, _⟩ := field_int Tryd.underlying3 t8_1
  obtain ⟨va', vm', vc', vz', rfl, ev', evc', rv', wv'⟩ := open_ints_row Tryd.underlying23 Tryd.underlying3 (by kernel_rfl) t9_1
  obtain rfl := arr10 hcs1 g0_1 g1_1 g2_1 g3_1 g4_1 g5_1 g6_1 g7_1 g8_1 g9_1
  clear hA0 hval0
  refine (walk idle data cho hg ho hr ga oa ra va gm om rm vm gc oc rc vc idle' data' cho' hg' ho' hr' ga' oa' ra' va' gm' om' rm' vm' gc' oc' rc' vc' gz oz rz vz gz' oz' rz' vz' W eg egc rg eo eoc ro er erc rr ev evc rv eg' egc' rg' eo' eoc' ro' er' erc' rr' ev' evc' rv' (fun z hz => is_u8 (wg z hz)) (fun z hz => is_u8 (wo z hz)) (fun z hz => is_u8 (wr z hz)) (fun z hz => is_u8 (wg' z hz)) (fun z hz => is_u8 (wo' z hz)) (fun z hz => is_u8 (wr' z hz)) hT).mono fun e W' ⟨he, bel⟩ => ?_
  subst he
  exact ⟨_, rfl, _, _, _, [], _, [], hW', trodAll_mk1 (shut_bool Tryd.underlying4 _), (trodAll_cons_mk (Below.trod laidOut (by kernel_rfl) (of_decide_eq_true (by kernel_rfl)) k0 bel lt0) (trodAll_cons_mk (Below.trod laidOut (by kernel_rfl) (of_decide_eq_true (by kernel_rfl)) k1 bel lt1) trodAll_mk0)), rfl, bel.frame _, fun h => by cases h⟩

theorem row_holds : Rows.ParamsSameSaid :=
  OpenClaim.holds_of_wide 4 Tryd.f4 rfl rfl rfl rfl rfl rfl rfl ⟨rfl, rfl, rfl, rfl, rfl⟩ rfl rfl rfl rfl rfl (by kernel_rfl) Tryd.func4 (by kernel_rfl)
    (of_decide_eq_true (by kernel_rfl)) (by unfold Func.isWrapper; first | (rw [if_pos (by decide +kernel)]; kernel_rfl) | (rw [if_neg (by decide +kernel)]; exact ⟨rfl, rfl⟩))
    (fun os started H enc _ => lifted os started H enc)

/-- The statement: the tied card. -/
theorem proved : Rows.ParamsSameCardSaid :=
  Claim7.holds_tied_plain_at .later [] [.data, .data] true (true, "cc6927b9d6a93ac3bb74d019ba219f47511f56506e9c674278fb3e965f14066b") false
    row_holds (fun _ h => by cases h) (by kernel_rfl) (fun _ h => by cases h) paramsSame_row_tie rfl ⟨rfl, rfl⟩ (by kernel_rfl) rfl
    (fun f fn hf hfn => by
      obtain rfl : f = 4 := Option.some.inj ((show Tryd.prog.funcNamed "shibboleth/shibbolethlaw07.ParamsSame" = some 4 by kernel_rfl).symm.trans hf) |>.symm
      obtain rfl : fn = Tryd.f4 := (Option.some.inj (Tryd.func4.symm.trans hfn)).symm
      exact ⟨by kernel_rfl, fun j t ht => by
        rw [Tryd.params4] at ht
        have hm : t ∈ [25, 25] := by simpa using Array.mem_of_getElem? ht
        have hall : ([25, 25].all fun u => !Tryd.prog.wantsStandIn u) = true := by kernel_rfl
        exact (show Tryd.prog.wantsStandIn t = false by simpa using List.all_eq_true.1 hall t hm)⟩)
    (by kernel_rfl)
#print axioms proved
end Go.Proofs.YtaplndehoenghaaDoor.paramsSame
