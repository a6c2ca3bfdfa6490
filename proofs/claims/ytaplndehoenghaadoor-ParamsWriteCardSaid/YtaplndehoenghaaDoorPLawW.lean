/- The law ParamsWrite, walked. -/
import Derived.Test.YtaplndehoenghaaDoorPLawA
namespace Go.Proofs.YtaplndehoenghaaDoor
open Go.RowKit
set_option linter.unusedVariables false

theorem writeT_len (idle data cho : Int) (hg ho hr : Bool) (gz oz rz vz : List Int) (h1 : gz.length ≤ 50) (h2 : oz.length ≤ 50) (h3 : rz.length ≤ 50) (h4 : vz.length ≤ 30) : (writeT idle data cho hg ho hr gz oz rz vz).length ≤ 1000 := by
  have a1 := fieldT_len 0 gz
  have a2 := fieldT_len 1 (bytesT idle)
  have a3 := fieldT_len 4 (bytesT data)
  have a4 := fieldT_len 15 oz
  have a5 := fieldT_len 16 rz
  have a6 := fieldT_len 17 (four cho ++ vz.flatMap four)
  have b1 := bytesT_len8 idle
  have b2 := bytesT_len8 data
  have b3 : (four cho ++ vz.flatMap four).length = 4 + 4 * vz.length := by
    rw [List.length_append, four_len]
    clear h4 a6
    induction vz with
    | nil => rfl
    | cons v vs ih => simp [List.flatMap_cons, four_len] at ih ⊢; omega
  unfold writeT optT
  split <;> split <;> split <;> simp only [List.length_append, List.length_nil] <;> omega

set_option maxRecDepth 100000 in
set_option maxHeartbeats 4000000 in
theorem paramsWrite_big (idle data cho : Int) (hg ho hr : Bool) (ga oa ra va : Option Addr) (gm om rm vm gc oc rc vc : Nat) (w : World) (h : lightT gm om rm vm = false) :
    Calls Tryd.prog 3 #[.agg #[.int .i64 idle, .int .i64 data, .bool hg, .bool ho, .bool hr, .slice ga gm gc, .slice oa om oc, .slice ra rm rc, .int .i64 cho, .slice va vm vc]] w fun e w' => e = .returned (.bool true) ∧ Below w.heap.size w w' := by
  obtain ⟨g1, nb⟩ := one_new w (.cells #[.int .i64 idle, .int .i64 data, .bool hg, .bool ho, .bool hr, .slice ga gm gc, .slice oa om oc, .slice ra rm rc, .int .i64 cho, .slice va vm vc] 25)
  have cA := cells10 g1
  have C := Lib.hid (light_any idle data cho hg ho hr ga oa ra va gm om rm vm gc oc rc vc (w.alloc (.cells #[.int .i64 idle, .int .i64 data, .bool hg, .bool ho, .bool hr, .slice ga gm gc, .slice oa om oc, .slice ra rm rc, .int .i64 cho, .slice va vm vc] 25)))
  rw [h] at C
  have NB := Lib.hid nb
  clear g1 nb h
  go_enter Tryd.func3, Tryd.ntmps3
  go_wp2_with fail
  refine C.out.mono ?_
  rintro e w2 ⟨rfl, hb⟩
  have B2 := Lib.hid (NB.out.trans (hb.mono NB.out.size))
  clear hb cA C
  go_wp2
  go_ret
  exact ⟨rfl, B2.out⟩

set_option maxRecDepth 100000 in
set_option maxHeartbeats 4000000 in
theorem paramsWrite_small (idle data cho : Int) (hg ho hr : Bool) (ga oa ra va : Option Addr) (gm om rm vm gc oc rc vc : Nat) (gz oz rz vz : List Int) (w : World) (eg : gz.length = gm) (eo : oz.length = om) (er : rz.length = rm) (hv : vz.length = vm) (hvc : vm ≤ vc) (hl : lightT gm om rm vm = true) (lg : gm ≤ 50) (lo : om ≤ 50) (lr : rm ≤ 50) (lv : vm ≤ 30)
    (rg : Row w w.heap.size ga (ints .u8 gz)) (ro : Row w w.heap.size oa (ints .u8 oz)) (rr : Row w w.heap.size ra (ints .u8 rz)) (hrow : Row w w.heap.size va (ints .i64 vz)) (hT : TabOk w) (hc0 : -9223372036854775808 ≤ cho ∧ cho ≤ 9223372036854775807) :
    Calls Tryd.prog 3 #[.agg #[.int .i64 idle, .int .i64 data, .bool hg, .bool ho, .bool hr, .slice ga gm gc, .slice oa om oc, .slice ra rm rc, .int .i64 cho, .slice va vm vc]] w fun e w' => e = .returned (.bool true) ∧ Below w.heap.size w w' := by
  obtain ⟨g1, nb⟩ := one_new w (.cells #[.int .i64 idle, .int .i64 data, .bool hg, .bool ho, .bool hr, .slice ga gm gc, .slice oa om oc, .slice ra rm rc, .int .i64 cho, .slice va vm vc] 25)
  have cA := cells10 g1
  have C := Lib.hid (light_any idle data cho hg ho hr ga oa ra va gm om rm vm gc oc rc vc (w.alloc (.cells #[.int .i64 idle, .int .i64 data, .bool hg, .bool ho, .bool hr, .slice ga gm gc, .slice oa om oc, .slice ra rm rc, .int .i64 cho, .slice va vm vc] 25)))
  rw [hl] at C
  have EG := Lib.hid eg; have EO := Lib.hid eo; have ER := Lib.hid er; have HV := Lib.hid hv
  have RG := Lib.hid (fun (W : World) (hb : Below w.heap.size w W) => And.intro ((rg.below hb).more hb.size) (And.intro ((ro.below hb).more hb.size) (And.intro ((rr.below hb).more hb.size) ((hrow.below hb).more hb.size))))
  have TB := Lib.hid (fun (W : World) (hb : Below w.heap.size w W) => hT.below hb)
  have ZW := Lib.hid (show w.heap.size < (w.alloc (.cells #[.int .i64 idle, .int .i64 data, .bool hg, .bool ho, .bool hr, .slice ga gm gc, .slice oa om oc, .slice ra rm rc, .int .i64 cho, .slice va vm vc] 25)).heap.size by simp)
  have G1 := Lib.hid g1
  have NB := Lib.hid nb
  have WL := Lib.hid (writeT_len idle data cho hg ho hr gz oz rz vz (by omega) (by omega) (by omega) (by omega))
  clear g1 nb hl rg ro rr hrow eg eo er hv hT
  go_enter Tryd.func3, Tryd.ntmps3
  go_wp2_with fail
  refine C.out.mono ?_
  rintro e W2 ⟨rfl, hb⟩
  have B2 := Lib.hid (NB.out.trans (hb.mono NB.out.size))
  have G2 := Lib.hid ((hb.block _ ZW.out).trans G1.out)
  have Z2 := Lib.hid (Nat.lt_of_lt_of_le ZW.out hb.size)
  clear hb cA C NB G1 ZW
  have cA := cells10 G2.out
  go_wp2_with fail
  refine (of_any idle data hg ho hr ga gz gm gc oa oz om oc ra rz rm rc cho va vz vm vc W2 EG.out (by omega) (RG.out _ B2.out).1 EO.out (by omega) (RG.out _ B2.out).2.1 ER.out (by omega) (RG.out _ B2.out).2.2.1 HV.out (by omega) (RG.out _ B2.out).2.2.2).mono ?_
  rintro e W3 ⟨ga', gc', oa', oc', ra', rc', va', vc', rfl, rg, lg', ro, lo', rr, lr', rv, lv', hb⟩
  obtain ⟨W4, hW4⟩ : ∃ W4, W3.alloc (.cells #[.int .i64 idle, .int .i64 data, .bool hg, .bool ho, .bool hr, .slice ga' gm gc', .slice oa' om oc', .slice ra' rm rc', .int .i64 cho, .slice va' vm vc'] 27) = W4 := ⟨_, rfl⟩
  have hn4 := heap_alloc_new W3 (.cells #[.int .i64 idle, .int .i64 data, .bool hg, .bool ho, .bool hr, .slice ga' gm gc', .slice oa' om oc', .slice ra' rm rc', .int .i64 cho, .slice va' vm vc'] 27)
  have b34 : Below W3.heap.size W3 W4 := by rw [← hW4]; exact (Below.refl _ _).alloc (Nat.le_refl _) _
  have z4 : W3.heap.size < W4.heap.size := by rw [← hW4]; simp
  rw [hW4] at hn4
  have B4 := Lib.hid (B2.out.trans ((hb.trans (b34.mono hb.size)).mono B2.out.size))
  have GX := Lib.hid hn4
  have GP := Lib.hid ((b34.block _ (Nat.lt_of_lt_of_le Z2.out hb.size)).trans ((hb.block _ Z2.out).trans G2.out))
  have RX := Lib.hid (And.intro ((rg.below b34).more b34.size) (And.intro ((ro.below b34).more b34.size) (And.intro ((rr.below b34).more b34.size) ((rv.below b34).more b34.size))))
  have Z4 := Lib.hid z4
  have ZP := Lib.hid (show w.heap.size < W4.heap.size by have := Z2.out; have := hb.size; omega)
  have cX := cells10 hn4
  rw [← hW4] at cX
  have HW4 := Lib.hid hW4
  clear rg ro rr rv hb hn4 b34 z4 hW4 cA G2 Z2 B2 lg' lo' lr'
  by_cases hR : rightT idle data cho hg ho hr gm om rm vz = false
  · have C1 := Lib.hid (write_no idle data cho hg ho hr ga' oa' ra' va' gm om rm vm gc' oc' rc' vc' vz W4 HV.out (by omega) (by omega) (by omega) (by omega) RX.out.2.2.2 hR)
    have C2 := Lib.hid (fun (W : World) (hb : Below w.heap.size w W) => refRight_any idle data cho hg ho hr ga oa ra va gm om rm vm gc oc rc vc vz W HV.out hvc (by omega) (by omega) (by omega) (by omega) (RG.out W hb).2.2.2)
    have C3 := Lib.hid (fun (W : World) (hb : Below W4.heap.size W4 W) => right_any idle data cho hg ho hr ga' oa' ra' va' gm om rm vm gc' oc' rc' vc' vz W HV.out (by omega) (by omega) (by omega) (by omega) ((RX.out.2.2.2.below hb).more hb.size))
    rw [hR] at C2 C3
    clear hR
    go_wp2_with fail
    rw [HW4.out]
    refine C1.out.mono ?_
    rintro e W5 ⟨rfl, hb5⟩
    have K5 := Lib.hid hb5
    have B5 := Lib.hid (B4.out.trans (hb5.mono B4.out.size))
    have cP := cells10 ((hb5.block _ ZP.out).trans GP.out)
    clear hb5 cX
    go_wp2_with fail
    refine (C2.out W5 B5.out).mono ?_
    rintro e W6 ⟨rfl, hb6⟩
    have K6 := Lib.hid (K5.out.trans (hb6.mono K5.out.size))
    have B6 := Lib.hid (B5.out.trans (hb6.mono B5.out.size))
    have cX := cells10 ((K6.out.block _ Z4.out).trans GX.out)
    clear hb6 cP
    go_wp2_with fail
    refine (C3.out W6 K6.out).mono ?_
    rintro e W7 ⟨rfl, hb7⟩
    have B7 := Lib.hid (B6.out.trans (hb7.mono B6.out.size))
    clear hb7 cX
    go_wp2_with fail
    refine (awake_true W7 (TB.out _ B7.out)).mono ?_
    rintro e W8 ⟨rfl, hb8⟩
    have B8 := Lib.hid (B7.out.trans (hb8.mono B7.out.size))
    clear hb8
    go_wp2
    go_ret
    exact ⟨rfl, B8.out⟩
  · have hR : rightT idle data cho hg ho hr gm om rm vz = true := by simpa using hR
    have hf : (1 ≤ cho ∧ cho < 4294967296) ∧ vz.length ≤ 16 ∧ (∀ z ∈ vz, 1 ≤ z ∧ z < 4294967296) := by
      unfold rightT at hR
      simp only [Bool.and_eq_true, decide_eq_true_eq] at hR
      exact ⟨hR.2.2.1, hR.2.2.2.2.2.2.1, hR.2.2.2.2.2.2.2.1⟩
    have C1 := Lib.hid (write_yes idle data cho hg ho hr ga' oa' ra' va' gm om rm vm gc' oc' rc' vc' gz oz rz vz W4 EG.out EO.out ER.out HV.out (by omega) (by omega) (by omega) (by rw [← HV.out]; exact hf.2.1) RX.out.1 RX.out.2.1 RX.out.2.2.1 RX.out.2.2.2 (TB.out _ B4.out) hR hc0 (fun z hz => by have := hf.2.2 z hz; omega))
    have C2 := Lib.hid (fun (W : World) (hb : Below w.heap.size w W) => refRight_any idle data cho hg ho hr ga oa ra va gm om rm vm gc oc rc vc vz W HV.out hvc (by omega) (by omega) (by omega) (by omega) (RG.out W hb).2.2.2)
    have C3 := Lib.hid (fun (W : World) (hb : Below W4.heap.size W4 W) => right_any idle data cho hg ho hr ga' oa' ra' va' gm om rm vm gc' oc' rc' vc' vz W HV.out (by omega) (by omega) (by omega) (by omega) ((RX.out.2.2.2.below hb).more hb.size))
    have C4 := Lib.hid (fun (W : World) (hb : Below w.heap.size w W) => refWrite_any idle data cho hg ho hr ga oa ra va gm om rm vm gc oc rc vc gz oz rz vz W EG.out EO.out ER.out HV.out hvc (by omega) (by omega) (by omega) (by rw [← HV.out]; exact hf.2.1) (RG.out W hb).1 (RG.out W hb).2.1 (RG.out W hb).2.2.1 (RG.out W hb).2.2.2 (by omega) (fun z hz => by have := hf.2.2 z hz; omega))
    rw [hR] at C2 C3
    clear hR hf
    obtain ⟨T, hT⟩ : ∃ T, writeT idle data cho hg ho hr gz oz rz vz = T := ⟨_, rfl⟩
    rw [hT] at C1 C4 WL
    obtain ⟨L, hL⟩ : ∃ L, T.length = L := ⟨_, rfl⟩
    rw [hL] at C1 C4 WL
    have HL := Lib.hid hL
    clear hT hL
    go_wp2_with fail
    rw [HW4.out]
    refine C1.out.mono ?_
    rintro e W5 ⟨v5, rfl, hc5, hb5⟩
    obtain ⟨p5, q5, rfl, hq5, ho5⟩ := hc5
    have O5 := Lib.hid (Row.of_own ho5)
    have K5 := Lib.hid hb5
    have B5 := Lib.hid (B4.out.trans (hb5.mono B4.out.size))
    have cP := cells10 ((hb5.block _ ZP.out).trans GP.out)
    have HQ5 := Lib.hid hq5
    clear hb5 cX ho5 hq5
    go_wp2_with fail
    refine (C2.out W5 B5.out).mono ?_
    rintro e W6 ⟨rfl, hb6⟩
    have K56 := Lib.hid hb6
    have K6 := Lib.hid (K5.out.trans (hb6.mono K5.out.size))
    have B6 := Lib.hid (B5.out.trans (hb6.mono B5.out.size))
    have cX := cells10 ((K6.out.block _ Z4.out).trans GX.out)
    clear hb6 cP
    go_wp2_with fail
    refine (C3.out W6 K6.out).mono ?_
    rintro e W7 ⟨rfl, hb7⟩
    have K57 := Lib.hid (K56.out.trans (hb7.mono K56.out.size))
    have K7 := Lib.hid (K6.out.trans (hb7.mono K6.out.size))
    have B7 := Lib.hid (B6.out.trans (hb7.mono B6.out.size))
    have cP := cells10 ((K7.out.block _ ZP.out).trans GP.out)
    clear hb7 cX
    go_wp2_with fail
    refine (C4.out W7 B7.out).mono ?_
    rintro e W8 ⟨v8, rfl, hc8, hb8⟩
    obtain ⟨p8, q8, rfl, hq8, ho8⟩ := hc8
    have O8 := Lib.hid (Row.of_own ho8)
    have K58 := Lib.hid (K57.out.trans (hb8.mono K57.out.size))
    have B8 := Lib.hid (B7.out.trans (hb8.mono B7.out.size))
    have HQ8 := Lib.hid hq8
    clear hb8 cP ho8 hq8
    go_wp2_with fail
    refine (same_any p5 p8 T T L L q5 q8 W8.heap.size W8 HL.out HL.out HQ5.out HQ8.out (by have := WL.out; omega) (by have := WL.out; omega) ((O5.out.below K58.out).more K58.out.size) O8.out).mono ?_
    rintro e W9 ⟨rfl, hd9⟩
    have B9 := Lib.hid (B8.out.trans (hd9.below _))
    clear hd9
    simp only [decide_true]
    go_wp2_with fail
    refine (awake_true W9 (TB.out _ B9.out)).mono ?_
    rintro e Wa ⟨rfl, hba⟩
    have Ba := Lib.hid (B9.out.trans (hba.mono B9.out.size))
    clear hba
    go_wp2
    go_ret
    exact ⟨rfl, Ba.out⟩
end Go.Proofs.YtaplndehoenghaaDoor
