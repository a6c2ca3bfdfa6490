/-
  ParamsWrite returns true for every input, and changes nothing that was there: whether any params may be, and their bytes. No condition; the library's table of math/bits is tied to the program's text by the given tie.
  (The frame of this text follows the guide's worked card; the walk is mine.)
-/
import Derived.Test.YtaplndehoenghaaDoorCards
import Derived.Test.YtaplndehoenghaaDoorTie
import Derived.Test.YtaplndehoenghaaDoorPLawW
import Derived.Test.YtaplndehoenghaaDoorParamsFrame
import Derived.SevenTiedAt
namespace Go.Proofs.YtaplndehoenghaaDoor.paramsWrite
open Go.ChangeShapes Go.WideShapes Go.ChangeAt Go.RowKit Go.Deep
set_option linter.unusedVariables false

theorem walk (idle data cho : Int) (hg ho hr : Bool) (ga oa ra va : Option Addr) (gm om rm vm gc oc rc vc : Nat) (gz oz rz vz : List Int) (w : World) (eg : gz.length = gm) (eo : oz.length = om) (er : rz.length = rm) (hv : vz.length = vm) (hvc : vm ≤ vc)
    (rg : Row w w.heap.size ga (ints .u8 gz)) (ro : Row w w.heap.size oa (ints .u8 oz)) (rr : Row w w.heap.size ra (ints .u8 rz)) (hrow : Row w w.heap.size va (ints .i64 vz)) (hT : TabOk w) (hc0 : -9223372036854775808 ≤ cho ∧ cho ≤ 9223372036854775807) :
    Calls Tryd.prog 3 #[.agg #[.int .i64 idle, .int .i64 data, .bool hg, .bool ho, .bool hr, .slice ga gm gc, .slice oa om oc, .slice ra rm rc, .int .i64 cho, .slice va vm vc]] w fun e w' => e = .returned (.bool true) ∧ Below w.heap.size w w' := by
  by_cases hl : lightT gm om rm vm = true
  · have h := hl
    simp only [lightT, Bool.and_eq_true, decide_eq_true_eq] at h
    exact paramsWrite_small idle data cho hg ho hr ga oa ra va gm om rm vm gc oc rc vc gz oz rz vz w eg eo er hv hvc hl h.1 h.2.1 h.2.2.1 h.2.2.2 rg ro rr hrow hT hc0
  · exact paramsWrite_big idle data cho hg ho hr ga oa ra va gm om rm vm gc oc rc vc w (by simpa using hl)

set_option maxRecDepth 100000 in
theorem lifted (os : Os) (started : os.Started) (H : Type) (enc : TypeId × Value → H) :
    ReturnsInHanded {} Tryd.checked os 3 .any (fun w args => (Rows.paramsWriteSpec.pre enc Tryd.prog Tryd.f3 [] false w args ∧ laidMetH Tryd.prog laidP w) ∧ sizedMet enc Tryd.prog Tryd.f3 (OpenSpec.ofChange Rows.paramsWriteSpec) false w args)
      (Rows.paramsWriteSpec.post enc Tryd.prog Tryd.f3 false true false false) := by
  refine returnsInHanded_of_change_and (C := Tryd.checked) (X := fun w _ => laidMetH Tryd.prog laidP w) (fun _ _ _ hh h => h.of_heap hh) own started (by kernel_rfl) Tryd.func3
    (ChangeSpec.witness_shaped (enc := enc) (C := Tryd.checked) (os := os) (X := fun w _ => laidMetH Tryd.prog laidP w) false (World.doorLaid Tryd.prog 400 os) #[.agg #[.int .i64 0, .int .i64 0, .bool false, .bool false, .bool false, .slice none 0 0, .slice none 0 0, .slice none 0 0, .int .i64 0, .slice none 0 0]] 8 rfl (World.shaped_of_RefB (by kernel_rfl) (by kernel_rfl)) (by kernel_rfl) (by kernel_rfl) (by kernel_rfl) (door_met os _)) ?_
  intro W base args ds gs before hval0 hW _ _ hL _
  have hval : ∀ (j : Nat) t v, Tryd.f3.params[j]? = some t → args[j]? = some v → Value.okWide Tryd.prog W .any base t v := hval0
  have hW' := hW
  obtain ⟨p, q, hA0, hV, rfl, hfz, hnd⟩ := hW
  have hA : DataW.TrodAll enc Tryd.prog W 0 (fun _ => true) true Tryd.f3.params.toList args.toList ds p := hA0
  rw [Tryd.params3] at hA hval
  obtain ⟨v0, vs0, d0, ds0, p0, q0, hargs, rfl, rfl, h0, r0⟩ := trodAll_cons hA
  obtain ⟨rfl, rfl, rfl⟩ := trodAll_nil r0
  obtain rfl : args = #[v0] := by cases args; simp_all
  obtain ⟨rfl, rfl⟩ := trodVars_none hV
  have k0 := h0
  have lt0 : ∀ x ∈ p0, x.block < W.heap.size := by obtain ⟨m, hm⟩ := k0; exact DataW.trod_lt m _ _ _ hm
  have hT := of_laid hL
  obtain ⟨cs, rfl, hcs, hf0⟩ := open_fields Tryd.underlying25 (by kernel_rfl) (by kernel_rfl) (hval 0 25 v0 rfl rfl) h0
  obtain ⟨c0, y0, n0, g0, t0⟩ := hf0 0 _ rfl
  obtain ⟨c1, y1, n1, g1, t1⟩ := hf0 1 _ rfl
  obtain ⟨c2, y2, n2, g2, t2⟩ := hf0 2 _ rfl
  obtain ⟨c3, y3, n3, g3, t3⟩ := hf0 3 _ rfl
  obtain ⟨c4, y4, n4, g4, t4⟩ := hf0 4 _ rfl
  obtain ⟨c5, y5, n5, g5, t5⟩ := hf0 5 _ rfl
  obtain ⟨c6, y6, n6, g6, t6⟩ := hf0 6 _ rfl
  obtain ⟨c7, y7, n7, g7, t7⟩ := hf0 7 _ rfl
  obtain ⟨c8, y8, n8, g8, t8⟩ := hf0 8 _ rfl
  obtain ⟨c9, y9, n9, g9, t9⟩ := hf0 9 _ rfl
  obtain ⟨idle, rfl, widle⟩ := field_int Tryd.underlying3 t0
  obtain ⟨data, rfl, wdata⟩ := field_int Tryd.underlying3 t1
  obtain ⟨hg, rfl⟩ := field_bool Tryd.underlying4 t2
  obtain ⟨ho, rfl⟩ := field_bool Tryd.underlying4 t3
  obtain ⟨hr, rfl⟩ := field_bool Tryd.underlying4 t4
  obtain ⟨ga, gm, gc, gz, rfl, eg, egc, rg, wg⟩ := open_ints_row Tryd.underlying22 Tryd.underlying5 (by kernel_rfl) t5
  obtain ⟨oa, om, oc, oz, rfl, eo, eoc, ro, wo⟩ := open_ints_row Tryd.underlying22 Tryd.underlying5 (by kernel_rfl) t6
  obtain ⟨ra, rm, rc, rz, rfl, er, erc, rr, wr⟩ := open_ints_row Tryd.underlying22 Tryd.underlying5 (by kernel_rfl) t7
  obtain ⟨cho, rfl, wc⟩ := field_int Tryd.underlying3 t8
  obtain ⟨va, vm, vc, vz, rfl, ev, evc, rv, wv⟩ := open_ints_row Tryd.underlying23 Tryd.underlying3 (by kernel_rfl) t9
  obtain rfl := arr10 hcs g0 g1 g2 g3 g4 g5 g6 g7 g8 g9
  clear hA0 hval0
  refine (walk idle data cho hg ho hr ga oa ra va gm om rm vm gc oc rc vc gz oz rz vz W eg eo er ev evc rg ro rr rv hT (is_i64 wc)).mono fun e W' ⟨he, bel⟩ => ?_
  subst he
  exact ⟨_, rfl, _, _, _, [], _, [], hW', trodAll_mk1 (shut_bool Tryd.underlying4 _), (trodAll_cons_mk (Below.trod laidOut (by kernel_rfl) (of_decide_eq_true (by kernel_rfl)) k0 bel lt0) trodAll_mk0), rfl, bel.frame _, fun h => by cases h⟩

theorem row_holds : Rows.ParamsWriteSaid :=
  OpenClaim.holds_of_wide 3 Tryd.f3 rfl rfl rfl rfl rfl rfl rfl ⟨rfl, rfl, rfl, rfl, rfl⟩ rfl rfl rfl rfl rfl (by kernel_rfl) Tryd.func3 (by kernel_rfl)
    (of_decide_eq_true (by kernel_rfl)) (by unfold Func.isWrapper; first | (rw [if_pos (by decide +kernel)]; kernel_rfl) | (rw [if_neg (by decide +kernel)]; exact ⟨rfl, rfl⟩))
    (fun os started H enc _ => lifted os started H enc)

/-- The statement: the tied card. -/
theorem proved : Rows.ParamsWriteCardSaid :=
  Claim7.holds_tied_plain_at .later [] [.data, .data] true (true, "cc6927b9d6a93ac3bb74d019ba219f47511f56506e9c674278fb3e965f14066b") false
    row_holds (fun _ h => by cases h) (by kernel_rfl) (fun _ h => by cases h) paramsWrite_row_tie rfl ⟨rfl, rfl⟩ (by kernel_rfl) rfl
    (fun f fn hf hfn => by
      obtain rfl : f = 3 := Option.some.inj ((show Tryd.prog.funcNamed "shibboleth/shibbolethlaw07.ParamsWrite" = some 3 by kernel_rfl).symm.trans hf) |>.symm
      obtain rfl : fn = Tryd.f3 := (Option.some.inj (Tryd.func3.symm.trans hfn)).symm
      exact ⟨by kernel_rfl, fun j t ht => by
        rw [Tryd.params3] at ht
        have hm : t ∈ [25] := by simpa using Array.mem_of_getElem? ht
        have hall : ([25].all fun u => !Tryd.prog.wantsStandIn u) = true := by kernel_rfl
        exact (show Tryd.prog.wantsStandIn t = false by simpa using List.all_eq_true.1 hall t hm)⟩)
    (by kernel_rfl)
#print axioms proved
end Go.Proofs.YtaplndehoenghaaDoor.paramsWrite
