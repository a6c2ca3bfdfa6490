/- The reference's Write. (Printed in part by wip/gen/mk_prefw.py.) -/
import Derived.Test.YtaplndehoenghaaDoorPWrite
namespace Go.Proofs.YtaplndehoenghaaDoor
open Go.RowKit
set_option linter.unusedVariables false
attribute [local go_sem ↓] app_hide

/-- An owned copy of at most B bytes. -/
def CopyB (n0 : Nat) (zs : List Int) (v : Value) (w : World) (B : Nat) : Prop := ∃ N, IsCopy n0 5 .u8 N zs v w ∧ N ≤ B

/-- append of new bytes onto such a copy; the block X, below n0, is as it was. -/
theorem copyB_app {W0 W W1 : World} {n0 B X M Q F q : Nat} {zs ys : List Int} {v : Value} {p : Option Addr} {o : Obj} (h : CopyB n0 zs v W B) (hw : Below W0.heap.size W0 W) (hb : Below W.heap.size W W1) (hn : n0 ≤ W.heap.size) (hx : X < n0) (hw0 : W0.heap.size ≤ n0) (hX : W.heap[X]? = some o)
    (hc : IsCopy Q 5 .u8 M ys (.slice p M q) W1) (hM : M ≤ F) (hB : B + F ≤ 100000) :
    ∃ v2 W2, (appSem #[22, 22] 22 #[v, .slice p M q]).run Tryd.prog W1 = .ok v2 W2 ∧ CopyB n0 (zs ++ ys) v2 W2 (B + F) ∧ Below W0.heap.size W0 W2 ∧ W2.heap[X]? = some o ∧ n0 ≤ W2.heap.size := by
  obtain ⟨N, h1, h2⟩ := h
  have h1' := h1.below hb
  have hs := hb.size
  obtain ⟨v2, W2, hrun, hc2, hk2⟩ := app_copy (c := q) Tryd.underlying22 info_u8 (by omega) h1' (by omega) hc.len (Row.of_own hc.own) (by omega)
  have hs2 := hk2.size
  refine ⟨v2, W2, hrun, ⟨_, hc2, by omega⟩, kept_below (hw.trans (hb.mono hw.size)) hk2 (fun k hk => Nat.le_trans hw0 (h1'.low k hk)), ?_, by omega⟩
  have hlt : X < W.heap.size := (Array.getElem?_eq_some_iff.1 hX).1
  exact (hk2.block X (by omega) (fun hk => by have := h1'.low _ hk; omega)).trans ((hb.block X hlt).trans hX)

set_option maxRecDepth 100000 in
set_option maxHeartbeats 8000000 in
theorem refWrite_000 (idle data cho : Int) (ga oa ra va : Option Addr) (gm om rm vm gc oc rc vc : Nat) (gz oz rz vz : List Int) (w : World) (eg : gz.length = gm) (eo : oz.length = om) (er : rz.length = rm) (hv : vz.length = vm) (hvc : vm ≤ vc) (lg : gm ≤ 1000) (lo : om ≤ 1000) (lr : rm ≤ 1000) (lv : vm ≤ 16)
    (rg : Row w w.heap.size ga (ints .u8 gz)) (ro : Row w w.heap.size oa (ints .u8 oz)) (rr : Row w w.heap.size ra (ints .u8 rz)) (hrow : Row w w.heap.size va (ints .i64 vz)) (hc0 : 0 ≤ cho ∧ cho ≤ 9223372036854775807) (hvb : ∀ x ∈ vz, 0 ≤ x ∧ x < 4294967296) :
    Calls Tryd.prog 12 #[.agg #[.int .i64 idle, .int .i64 data, .bool false, .bool false, .bool false, .slice ga gm gc, .slice oa om oc, .slice ra rm rc, .int .i64 cho, .slice va vm vc]] w
      fun e w' => ∃ v, e = .returned v ∧ IsCopy w.heap.size 5 .u8 (writeT idle data cho false false false gz oz rz vz).length (writeT idle data cho false false false gz oz rz vz) v w' ∧ Below w.heap.size w w' := by
  obtain ⟨g1, nb⟩ := one_new w (.cells #[.int .i64 idle, .int .i64 data, .bool false, .bool false, .bool false, .slice ga gm gc, .slice oa om oc, .slice ra rm rc, .int .i64 cho, .slice va vm vc] 25)
  obtain ⟨W, hW⟩ : ∃ W, w.alloc (.cells #[.int .i64 idle, .int .i64 data, .bool false, .bool false, .bool false, .slice ga gm gc, .slice oa om oc, .slice ra rm rc, .int .i64 cho, .slice va vm vc] 25) = W := ⟨_, rfl⟩
  rw [hW] at g1 nb
  have cA := cells10 g1
  rw [← hW] at cA
  have ZW := Lib.hid (show w.heap.size + 1 ≤ W.heap.size by rw [← hW]; simp)
  have HW := Lib.hid hW; clear hW
  have BW := Lib.hid nb; clear nb
  have BX := Lib.hid g1; clear g1
  have EG := Lib.hid eg; have EO := Lib.hid eo; have ER := Lib.hid er; have HV := Lib.hid hv
  have RG := Lib.hid (fun (W : World) (hb : Below w.heap.size w W) => And.intro ((rg.below hb).more hb.size) (And.intro ((ro.below hb).more hb.size) (And.intro ((rr.below hb).more hb.size) ((hrow.below hb).more hb.size))))
  have HVB := Lib.hid hvb
  have HC := Lib.hid (show CopyB (w.heap.size + 1) [] (.slice none 0 0) W 0 from ⟨0, copy_none _ _ _ _, Nat.le_refl _⟩)
  obtain ⟨T, hT⟩ : ∃ T, writeT idle data cho false false false gz oz rz vz = T := ⟨_, rfl⟩
  rw [hT]
  have HT := Lib.hid hT
  clear rg ro rr hrow hvb eg eo er hv hT
  go_enter Tryd.func12, Tryd.ntmps12
  go_wp2_with fail
  first | rw [HW.out] | skip
  refine (refBytes_any idle _).mono ?_
  rintro e W0 ⟨v0, rfl, hc0, hb0⟩
  have l8 := bytesT_len8 idle
  obtain ⟨K0, hK0⟩ : ∃ n, (bytesT idle).length = n := ⟨_, rfl⟩
  rw [hK0] at hc0 l8
  obtain ⟨p0, q0, rfl, hq0, ho0⟩ := hc0
  have HK0 := Lib.hid hK0; clear hK0
  have HO0 := Lib.hid (Row.of_own ho0); clear ho0
  have HB0 := Lib.hid hb0; clear hb0
  go_wp2_with fail
  refine (refField_any p0 (bytesT idle) 1 K0 q0 _ HK0.out HO0.out (by omega)).mono ?_
  rintro e W1 ⟨v1, rfl, hc1, hb1⟩
  have hf := fieldT_len 1 (bytesT idle)
  obtain ⟨p1, q1, hv1, hq1, ho1⟩ := id hc1
  obtain ⟨M1, hM1⟩ : ∃ n, (fieldT 1 (bytesT idle)).length = n := ⟨_, rfl⟩
  rw [hM1] at hc1 hv1 hf
  subst hv1
  obtain ⟨v2, W2, hrun, hc2, hbw, hbx, hzw⟩ := copyB_app (F := 24) HC.out BW.out (HB0.out.trans (hb1.mono HB0.out.size)) ZW.out (Nat.lt_succ_self _) (Nat.le_succ _) BX.out hc1 (by have := HK0.out; omega) (by omega)
  have HC := Lib.hid hc2
  have BW := Lib.hid hbw
  have BX := Lib.hid hbx
  have ZW := Lib.hid hzw
  have cA := cells10 hbx
  clear hc2 hbw hbx hzw hc1 ho1 hb1 hM1
  go_wp2_with fail
  first | rw [HW.out] | skip
  refine (refBytes_any data _).mono ?_
  rintro e W0 ⟨v0, rfl, hc0, hb0⟩
  have l8 := bytesT_len8 data
  obtain ⟨K0, hK0⟩ : ∃ n, (bytesT data).length = n := ⟨_, rfl⟩
  rw [hK0] at hc0 l8
  obtain ⟨p0, q0, rfl, hq0, ho0⟩ := hc0
  have HK0 := Lib.hid hK0; clear hK0
  have HO0 := Lib.hid (Row.of_own ho0); clear ho0
  have HB0 := Lib.hid hb0; clear hb0
  go_wp2_with fail
  refine (refField_any p0 (bytesT data) 4 K0 q0 _ HK0.out HO0.out (by omega)).mono ?_
  rintro e W1 ⟨v1, rfl, hc1, hb1⟩
  have hf := fieldT_len 4 (bytesT data)
  obtain ⟨p1, q1, hv1, hq1, ho1⟩ := id hc1
  obtain ⟨M1, hM1⟩ : ∃ n, (fieldT 4 (bytesT data)).length = n := ⟨_, rfl⟩
  rw [hM1] at hc1 hv1 hf
  subst hv1
  obtain ⟨v2, W2, hrun, hc2, hbw, hbx, hzw⟩ := copyB_app (F := 24) HC.out BW.out (HB0.out.trans (hb1.mono HB0.out.size)) ZW.out (Nat.lt_succ_self _) (Nat.le_succ _) BX.out hc1 (by have := HK0.out; omega) (by omega)
  have HC := Lib.hid hc2
  have BW := Lib.hid hbw
  have BX := Lib.hid hbx
  have ZW := Lib.hid hzw
  have cA := cells10 hbx
  clear hc2 hbw hbx hzw hc1 ho1 hb1 hM1
  go_wp2_with fail
  refine (refBig_any cho _ hc0.1 hc0.2).mono ?_
  rintro e W3 ⟨v3, rfl, hc3, hb3⟩
  have BXL := Lib.hid ((hb3.block _ (by have := ZW.out; omega)).trans BX.out)
  have BWL := Lib.hid (BW.out.trans (hb3.mono BW.out.size))
  have HB3 := Lib.hid hb3
  have C3 := Lib.hid hc3
  clear hc3 hb3 cA
  have cA := cells10 BXL.out
  obtain ⟨WB, hWB⟩ : ∃ WB, WB = W2 := ⟨_, rfl⟩
  go_wp2
  go_loopw [4, 5] (fun v i wr => ∃ k : Nat, k ≤ vm ∧ i = .int .i64 k ∧ IsCopy W2.heap.size 5 .u8 (4 + 4 * k) (four cho ++ (vz.take k).flatMap four) v wr ∧ Below W2.heap.size W2 wr) (fun _ i _ => vm - (intOf i).toNat)
  case atStart => exact ⟨0, Nat.zero_le _, rfl, by simpa using C3.out, HB3.out⟩
  case round =>
    obtain ⟨k, hk, rfl, hc, hb⟩ := hrel
    have HC2 := Lib.hid hc; clear hc
    have HB2 := Lib.hid hb; clear hb
    clear cA
    have hbw := BW.out.trans (HB2.out.mono BW.out.size)
    have cA := cells10 ((HB2.out.block _ (by have := ZW.out; omega)).trans BX.out)
    by_cases hlt : k < vm
    · obtain ⟨z, hz⟩ : ∃ z, vz[k]? = some z := ⟨_, List.getElem?_eq_getElem (by have := HV.out; omega)⟩
      obtain ⟨b1, o1, rfl, _, r1⟩ := (RG.out _ hbw).2.2.2.ints (by intro e; have := HV.out; rw [e] at this; simp at this; omega)
      have x1 : wr.cell? ⟨b1, o1 + k, none⟩ = some (.int .i64 z) := by
        have := r1 k (by have := HV.out; omega)
        rwa [hz] at this
      have hzt : vz.take (k + 1) = vz.take k ++ [z] := by rw [List.take_add_one, hz]; rfl
      have zb := HVB.out z (List.mem_of_getElem? hz)
      have i1 : (k : Int) < (vm : Int) := by omega
      have i2 : (vm : Int) ≤ (vc : Int) := by omega
      have HZT := Lib.hid hzt; clear hzt
      have HZB := Lib.hid zb; clear zb
      clear r1 hbw hz
      go_wp2_with fail
      refine (refBig_any z _ (by have := HZB.out; omega) (by have := HZB.out; omega)).mono ?_
      rintro e w3 ⟨v5, rfl, hc5, hb5⟩
      have hb3 : Below W2.heap.size W2 w3 := HB2.out.trans (hb5.mono HB2.out.size)
      have ho4 := HC2.out.below hb5
      obtain ⟨p5, q5, rfl, hq5, ho5⟩ := hc5
      obtain ⟨v', wz, hrun, hoz, hkz⟩ := app_copy (c := q5) Tryd.underlying22 info_u8 (by omega) ho4 hb3.size (four_len z) (Row.of_own ho5) (by omega)
      have HOZ := Lib.hid hoz
      have HBZ := Lib.hid (kept_below hb3 hkz (fun k h => ho4.low k h))
      clear ho5 ho4 hb3 hoz hkz hb5
      go_wp2
      go_roundw
      case rel =>
        refine ⟨k + 1, by omega, by simp, ?_, HBZ.out⟩
        have := HOZ.out
        rw [show 4 + 4 * (k + 1) = 4 + 4 * k + 4 by omega, HZT.out, List.flatMap_append, ← List.append_assoc]
        simpa using this
      case measure => simp [intOf]; omega
    · have i1 : ¬ (k : Int) < (vm : Int) := by omega
      have hkN : vz.take k = vz := List.take_of_length_le (by have := HV.out; omega)
      rw [hkN] at HC2
      have hLL : (four cho ++ vz.flatMap four).length = 4 + 4 * k := HC2.out.len
      obtain ⟨pl, ql, rfl, hql, hol⟩ := HC2.out
      have HOL := Lib.hid (Row.of_own hol)
      have HLL := Lib.hid hLL
      have HBW := Lib.hid hbw
      have BXF := Lib.hid ((HB2.out.block _ (by have := ZW.out; omega)).trans BX.out)
      have HCF := Lib.hid (show CopyB (w.heap.size + 1) _ v2 wr _ from by obtain ⟨N, h1, h2⟩ := HC.out; exact ⟨N, h1.below HB2.out, h2⟩)
      have ZWF := Lib.hid (Nat.le_trans ZW.out HB2.out.size)
      clear hol hLL hkN hql hbw
      go_wp2_with fail
      refine (refField_any pl (four cho ++ vz.flatMap four) 17 (4 + 4 * k) ql wr HLL.out HOL.out (by omega)).mono ?_
      rintro e W1 ⟨v1, rfl, hc1, hb1⟩
      have hf := fieldT_len 17 (four cho ++ vz.flatMap four)
      obtain ⟨p1, q1, hv1, hq1, ho1⟩ := id hc1
      obtain ⟨M1, hM1⟩ : ∃ n, (fieldT 17 (four cho ++ vz.flatMap four)).length = n := ⟨_, rfl⟩
      rw [hM1] at hc1 hv1 hf
      subst hv1
      obtain ⟨v9, W9, hrun, hc9, hbw, hbx, hzw⟩ := copyB_app (F := 5000) HCF.out HBW.out hb1 ZWF.out (Nat.lt_succ_self _) (Nat.le_succ _) BXF.out hc1 (by have := HLL.out; omega) (by omega)
      have HC9 := Lib.hid hc9
      have HBW9 := Lib.hid hbw
      clear hc9 hbw hbx hzw hc1 ho1 hb1 hM1 cA
      go_wp2
      go_ret
      refine ⟨v9, rfl, ?_, HBW9.out⟩
      obtain ⟨N, h1, h2⟩ := HC9.out
      have e9 : T = _ := HT.out.symm.trans (show writeT _ _ _ _ _ _ _ _ _ _ = _ by simp only [writeT, optT, if_true, if_false, Bool.false_eq_true]; rfl)
      rw [e9]
      have hl := h1.len
      rw [hl]
      exact h1.base (by omega)

set_option maxRecDepth 100000 in
set_option maxHeartbeats 8000000 in
theorem refWrite_001 (idle data cho : Int) (ga oa ra va : Option Addr) (gm om rm vm gc oc rc vc : Nat) (gz oz rz vz : List Int) (w : World) (eg : gz.length = gm) (eo : oz.length = om) (er : rz.length = rm) (hv : vz.length = vm) (hvc : vm ≤ vc) (lg : gm ≤ 1000) (lo : om ≤ 1000) (lr : rm ≤ 1000) (lv : vm ≤ 16)
    (rg : Row w w.heap.size ga (ints .u8 gz)) (ro : Row w w.heap.size oa (ints .u8 oz)) (rr : Row w w.heap.size ra (ints .u8 rz)) (hrow : Row w w.heap.size va (ints .i64 vz)) (hc0 : 0 ≤ cho ∧ cho ≤ 9223372036854775807) (hvb : ∀ x ∈ vz, 0 ≤ x ∧ x < 4294967296) :
    Calls Tryd.prog 12 #[.agg #[.int .i64 idle, .int .i64 data, .bool false, .bool false, .bool true, .slice ga gm gc, .slice oa om oc, .slice ra rm rc, .int .i64 cho, .slice va vm vc]] w
      fun e w' => ∃ v, e = .returned v ∧ IsCopy w.heap.size 5 .u8 (writeT idle data cho false false true gz oz rz vz).length (writeT idle data cho false false true gz oz rz vz) v w' ∧ Below w.heap.size w w' := by
  obtain ⟨g1, nb⟩ := one_new w (.cells #[.int .i64 idle, .int .i64 data, .bool false, .bool false, .bool true, .slice ga gm gc, .slice oa om oc, .slice ra rm rc, .int .i64 cho, .slice va vm vc] 25)
  obtain ⟨W, hW⟩ : ∃ W, w.alloc (.cells #[.int .i64 idle, .int .i64 data, .bool false, .bool false, .bool true, .slice ga gm gc, .slice oa om oc, .slice ra rm rc, .int .i64 cho, .slice va vm vc] 25) = W := ⟨_, rfl⟩
  rw [hW] at g1 nb
  have cA := cells10 g1
  rw [← hW] at cA
  have ZW := Lib.hid (show w.heap.size + 1 ≤ W.heap.size by rw [← hW]; simp)
  have HW := Lib.hid hW; clear hW
  have BW := Lib.hid nb; clear nb
  have BX := Lib.hid g1; clear g1
  have EG := Lib.hid eg; have EO := Lib.hid eo; have ER := Lib.hid er; have HV := Lib.hid hv
  have RG := Lib.hid (fun (W : World) (hb : Below w.heap.size w W) => And.intro ((rg.below hb).more hb.size) (And.intro ((ro.below hb).more hb.size) (And.intro ((rr.below hb).more hb.size) ((hrow.below hb).more hb.size))))
  have HVB := Lib.hid hvb
  have HC := Lib.hid (show CopyB (w.heap.size + 1) [] (.slice none 0 0) W 0 from ⟨0, copy_none _ _ _ _, Nat.le_refl _⟩)
  obtain ⟨T, hT⟩ : ∃ T, writeT idle data cho false false true gz oz rz vz = T := ⟨_, rfl⟩
  rw [hT]
  have HT := Lib.hid hT
  clear rg ro rr hrow hvb eg eo er hv hT
  go_enter Tryd.func12, Tryd.ntmps12
  go_wp2_with fail
  first | rw [HW.out] | skip
  refine (refBytes_any idle _).mono ?_
  rintro e W0 ⟨v0, rfl, hc0, hb0⟩
  have l8 := bytesT_len8 idle
  obtain ⟨K0, hK0⟩ : ∃ n, (bytesT idle).length = n := ⟨_, rfl⟩
  rw [hK0] at hc0 l8
  obtain ⟨p0, q0, rfl, hq0, ho0⟩ := hc0
  have HK0 := Lib.hid hK0; clear hK0
  have HO0 := Lib.hid (Row.of_own ho0); clear ho0
  have HB0 := Lib.hid hb0; clear hb0
  go_wp2_with fail
  refine (refField_any p0 (bytesT idle) 1 K0 q0 _ HK0.out HO0.out (by omega)).mono ?_
  rintro e W1 ⟨v1, rfl, hc1, hb1⟩
  have hf := fieldT_len 1 (bytesT idle)
  obtain ⟨p1, q1, hv1, hq1, ho1⟩ := id hc1
  obtain ⟨M1, hM1⟩ : ∃ n, (fieldT 1 (bytesT idle)).length = n := ⟨_, rfl⟩
  rw [hM1] at hc1 hv1 hf
  subst hv1
  obtain ⟨v2, W2, hrun, hc2, hbw, hbx, hzw⟩ := copyB_app (F := 24) HC.out BW.out (HB0.out.trans (hb1.mono HB0.out.size)) ZW.out (Nat.lt_succ_self _) (Nat.le_succ _) BX.out hc1 (by have := HK0.out; omega) (by omega)
  have HC := Lib.hid hc2
  have BW := Lib.hid hbw
  have BX := Lib.hid hbx
  have ZW := Lib.hid hzw
  have cA := cells10 hbx
  clear hc2 hbw hbx hzw hc1 ho1 hb1 hM1
  go_wp2_with fail
  first | rw [HW.out] | skip
  refine (refBytes_any data _).mono ?_
  rintro e W0 ⟨v0, rfl, hc0, hb0⟩
  have l8 := bytesT_len8 data
  obtain ⟨K0, hK0⟩ : ∃ n, (bytesT data).length = n := ⟨_, rfl⟩
  rw [hK0] at hc0 l8
  obtain ⟨p0, q0, rfl, hq0, ho0⟩ := hc0
  have HK0 := Lib.hid hK0; clear hK0
  have HO0 := Lib.hid (Row.of_own ho0); clear ho0
  have HB0 := Lib.hid hb0; clear hb0
  go_wp2_with fail
  refine (refField_any p0 (bytesT data) 4 K0 q0 _ HK0.out HO0.out (by omega)).mono ?_
  rintro e W1 ⟨v1, rfl, hc1, hb1⟩
  have hf := fieldT_len 4 (bytesT data)
  obtain ⟨p1, q1, hv1, hq1, ho1⟩ := id hc1
  obtain ⟨M1, hM1⟩ : ∃ n, (fieldT 4 (bytesT data)).length = n := ⟨_, rfl⟩
  rw [hM1] at hc1 hv1 hf
  subst hv1
  obtain ⟨v2, W2, hrun, hc2, hbw, hbx, hzw⟩ := copyB_app (F := 24) HC.out BW.out (HB0.out.trans (hb1.mono HB0.out.size)) ZW.out (Nat.lt_succ_self _) (Nat.le_succ _) BX.out hc1 (by have := HK0.out; omega) (by omega)
  have HC := Lib.hid hc2
  have BW := Lib.hid hbw
  have BX := Lib.hid hbx
  have ZW := Lib.hid hzw
  have cA := cells10 hbx
  clear hc2 hbw hbx hzw hc1 ho1 hb1 hM1
  go_wp2_with fail
  first | rw [HW.out] | skip
  refine (refField_any ra rz 16 rm rc _ ER.out (RG.out _ BW.out).2.2.1 (by omega)).mono ?_
  rintro e W1 ⟨v1, rfl, hc1, hb1⟩
  have hf := fieldT_len 16 rz
  obtain ⟨p1, q1, hv1, hq1, ho1⟩ := id hc1
  obtain ⟨M1, hM1⟩ : ∃ n, (fieldT 16 rz).length = n := ⟨_, rfl⟩
  rw [hM1] at hc1 hv1 hf
  subst hv1
  obtain ⟨v2, W2, hrun, hc2, hbw, hbx, hzw⟩ := copyB_app (F := 1016) HC.out BW.out hb1 ZW.out (Nat.lt_succ_self _) (Nat.le_succ _) BX.out hc1 (by have := ER.out; omega) (by omega)
  have HC := Lib.hid hc2
  have BW := Lib.hid hbw
  have BX := Lib.hid hbx
  have ZW := Lib.hid hzw
  have cA := cells10 hbx
  clear hc2 hbw hbx hzw hc1 ho1 hb1 hM1
  clear hf; skip
  go_wp2_with fail
  refine (refBig_any cho _ hc0.1 hc0.2).mono ?_
  rintro e W3 ⟨v3, rfl, hc3, hb3⟩
  have BXL := Lib.hid ((hb3.block _ (by have := ZW.out; omega)).trans BX.out)
  have BWL := Lib.hid (BW.out.trans (hb3.mono BW.out.size))
  have HB3 := Lib.hid hb3
  have C3 := Lib.hid hc3
  clear hc3 hb3 cA
  have cA := cells10 BXL.out
  obtain ⟨WB, hWB⟩ : ∃ WB, WB = W2 := ⟨_, rfl⟩
  go_wp2
  go_loopw [4, 5] (fun v i wr => ∃ k : Nat, k ≤ vm ∧ i = .int .i64 k ∧ IsCopy W2.heap.size 5 .u8 (4 + 4 * k) (four cho ++ (vz.take k).flatMap four) v wr ∧ Below W2.heap.size W2 wr) (fun _ i _ => vm - (intOf i).toNat)
  case atStart => exact ⟨0, Nat.zero_le _, rfl, by simpa using C3.out, HB3.out⟩
  case round =>
    obtain ⟨k, hk, rfl, hc, hb⟩ := hrel
    have HC2 := Lib.hid hc; clear hc
    have HB2 := Lib.hid hb; clear hb
    clear cA
    have hbw := BW.out.trans (HB2.out.mono BW.out.size)
    have cA := cells10 ((HB2.out.block _ (by have := ZW.out; omega)).trans BX.out)
    by_cases hlt : k < vm
    · obtain ⟨z, hz⟩ : ∃ z, vz[k]? = some z := ⟨_, List.getElem?_eq_getElem (by have := HV.out; omega)⟩
      obtain ⟨b1, o1, rfl, _, r1⟩ := (RG.out _ hbw).2.2.2.ints (by intro e; have := HV.out; rw [e] at this; simp at this; omega)
      have x1 : wr.cell? ⟨b1, o1 + k, none⟩ = some (.int .i64 z) := by
        have := r1 k (by have := HV.out; omega)
        rwa [hz] at this
      have hzt : vz.take (k + 1) = vz.take k ++ [z] := by rw [List.take_add_one, hz]; rfl
      have zb := HVB.out z (List.mem_of_getElem? hz)
      have i1 : (k : Int) < (vm : Int) := by omega
      have i2 : (vm : Int) ≤ (vc : Int) := by omega
      have HZT := Lib.hid hzt; clear hzt
      have HZB := Lib.hid zb; clear zb
      clear r1 hbw hz
      go_wp2_with fail
      refine (refBig_any z _ (by have := HZB.out; omega) (by have := HZB.out; omega)).mono ?_
      rintro e w3 ⟨v5, rfl, hc5, hb5⟩
      have hb3 : Below W2.heap.size W2 w3 := HB2.out.trans (hb5.mono HB2.out.size)
      have ho4 := HC2.out.below hb5
      obtain ⟨p5, q5, rfl, hq5, ho5⟩ := hc5
      obtain ⟨v', wz, hrun, hoz, hkz⟩ := app_copy (c := q5) Tryd.underlying22 info_u8 (by omega) ho4 hb3.size (four_len z) (Row.of_own ho5) (by omega)
      have HOZ := Lib.hid hoz
      have HBZ := Lib.hid (kept_below hb3 hkz (fun k h => ho4.low k h))
      clear ho5 ho4 hb3 hoz hkz hb5
      go_wp2
      go_roundw
      case rel =>
        refine ⟨k + 1, by omega, by simp, ?_, HBZ.out⟩
        have := HOZ.out
        rw [show 4 + 4 * (k + 1) = 4 + 4 * k + 4 by omega, HZT.out, List.flatMap_append, ← List.append_assoc]
        simpa using this
      case measure => simp [intOf]; omega
    · have i1 : ¬ (k : Int) < (vm : Int) := by omega
      have hkN : vz.take k = vz := List.take_of_length_le (by have := HV.out; omega)
      rw [hkN] at HC2
      have hLL : (four cho ++ vz.flatMap four).length = 4 + 4 * k := HC2.out.len
      obtain ⟨pl, ql, rfl, hql, hol⟩ := HC2.out
      have HOL := Lib.hid (Row.of_own hol)
      have HLL := Lib.hid hLL
      have HBW := Lib.hid hbw
      have BXF := Lib.hid ((HB2.out.block _ (by have := ZW.out; omega)).trans BX.out)
      have HCF := Lib.hid (show CopyB (w.heap.size + 1) _ v2 wr _ from by obtain ⟨N, h1, h2⟩ := HC.out; exact ⟨N, h1.below HB2.out, h2⟩)
      have ZWF := Lib.hid (Nat.le_trans ZW.out HB2.out.size)
      clear hol hLL hkN hql hbw
      go_wp2_with fail
      refine (refField_any pl (four cho ++ vz.flatMap four) 17 (4 + 4 * k) ql wr HLL.out HOL.out (by omega)).mono ?_
      rintro e W1 ⟨v1, rfl, hc1, hb1⟩
      have hf := fieldT_len 17 (four cho ++ vz.flatMap four)
      obtain ⟨p1, q1, hv1, hq1, ho1⟩ := id hc1
      obtain ⟨M1, hM1⟩ : ∃ n, (fieldT 17 (four cho ++ vz.flatMap four)).length = n := ⟨_, rfl⟩
      rw [hM1] at hc1 hv1 hf
      subst hv1
      obtain ⟨v9, W9, hrun, hc9, hbw, hbx, hzw⟩ := copyB_app (F := 5000) HCF.out HBW.out hb1 ZWF.out (Nat.lt_succ_self _) (Nat.le_succ _) BXF.out hc1 (by have := HLL.out; omega) (by omega)
      have HC9 := Lib.hid hc9
      have HBW9 := Lib.hid hbw
      clear hc9 hbw hbx hzw hc1 ho1 hb1 hM1 cA
      go_wp2
      go_ret
      refine ⟨v9, rfl, ?_, HBW9.out⟩
      obtain ⟨N, h1, h2⟩ := HC9.out
      have e9 : T = _ := HT.out.symm.trans (show writeT _ _ _ _ _ _ _ _ _ _ = _ by simp only [writeT, optT, if_true, if_false, Bool.false_eq_true]; rfl)
      rw [e9]
      have hl := h1.len
      rw [hl]
      exact h1.base (by omega)

set_option maxRecDepth 100000 in
set_option maxHeartbeats 8000000 in
theorem refWrite_010 (idle data cho : Int) (ga oa ra va : Option Addr) (gm om rm vm gc oc rc vc : Nat) (gz oz rz vz : List Int) (w : World) (eg : gz.length = gm) (eo : oz.length = om) (er : rz.length = rm) (hv : vz.length = vm) (hvc : vm ≤ vc) (lg : gm ≤ 1000) (lo : om ≤ 1000) (lr : rm ≤ 1000) (lv : vm ≤ 16)
    (rg : Row w w.heap.size ga (ints .u8 gz)) (ro : Row w w.heap.size oa (ints .u8 oz)) (rr : Row w w.heap.size ra (ints .u8 rz)) (hrow : Row w w.heap.size va (ints .i64 vz)) (hc0 : 0 ≤ cho ∧ cho ≤ 9223372036854775807) (hvb : ∀ x ∈ vz, 0 ≤ x ∧ x < 4294967296) :
    Calls Tryd.prog 12 #[.agg #[.int .i64 idle, .int .i64 data, .bool false, .bool true, .bool false, .slice ga gm gc, .slice oa om oc, .slice ra rm rc, .int .i64 cho, .slice va vm vc]] w
      fun e w' => ∃ v, e = .returned v ∧ IsCopy w.heap.size 5 .u8 (writeT idle data cho false true false gz oz rz vz).length (writeT idle data cho false true false gz oz rz vz) v w' ∧ Below w.heap.size w w' := by
  obtain ⟨g1, nb⟩ := one_new w (.cells #[.int .i64 idle, .int .i64 data, .bool false, .bool true, .bool false, .slice ga gm gc, .slice oa om oc, .slice ra rm rc, .int .i64 cho, .slice va vm vc] 25)
  obtain ⟨W, hW⟩ : ∃ W, w.alloc (.cells #[.int .i64 idle, .int .i64 data, .bool false, .bool true, .bool false, .slice ga gm gc, .slice oa om oc, .slice ra rm rc, .int .i64 cho, .slice va vm vc] 25) = W := ⟨_, rfl⟩
  rw [hW] at g1 nb
  have cA := cells10 g1
  rw [← hW] at cA
  have ZW := Lib.hid (show w.heap.size + 1 ≤ W.heap.size by rw [← hW]; simp)
  have HW := Lib.hid hW; clear hW
  have BW := Lib.hid nb; clear nb
  have BX := Lib.hid g1; clear g1
  have EG := Lib.hid eg; have EO := Lib.hid eo; have ER := Lib.hid er; have HV := Lib.hid hv
  have RG := Lib.hid (fun (W : World) (hb : Below w.heap.size w W) => And.intro ((rg.below hb).more hb.size) (And.intro ((ro.below hb).more hb.size) (And.intro ((rr.below hb).more hb.size) ((hrow.below hb).more hb.size))))
  have HVB := Lib.hid hvb
  have HC := Lib.hid (show CopyB (w.heap.size + 1) [] (.slice none 0 0) W 0 from ⟨0, copy_none _ _ _ _, Nat.le_refl _⟩)
  obtain ⟨T, hT⟩ : ∃ T, writeT idle data cho false true false gz oz rz vz = T := ⟨_, rfl⟩
  rw [hT]
  have HT := Lib.hid hT
  clear rg ro rr hrow hvb eg eo er hv hT
  go_enter Tryd.func12, Tryd.ntmps12
  go_wp2_with fail
  first | rw [HW.out] | skip
  refine (refBytes_any idle _).mono ?_
  rintro e W0 ⟨v0, rfl, hc0, hb0⟩
  have l8 := bytesT_len8 idle
  obtain ⟨K0, hK0⟩ : ∃ n, (bytesT idle).length = n := ⟨_, rfl⟩
  rw [hK0] at hc0 l8
  obtain ⟨p0, q0, rfl, hq0, ho0⟩ := hc0
  have HK0 := Lib.hid hK0; clear hK0
  have HO0 := Lib.hid (Row.of_own ho0); clear ho0
  have HB0 := Lib.hid hb0; clear hb0
  go_wp2_with fail
  refine (refField_any p0 (bytesT idle) 1 K0 q0 _ HK0.out HO0.out (by omega)).mono ?_
  rintro e W1 ⟨v1, rfl, hc1, hb1⟩
  have hf := fieldT_len 1 (bytesT idle)
  obtain ⟨p1, q1, hv1, hq1, ho1⟩ := id hc1
  obtain ⟨M1, hM1⟩ : ∃ n, (fieldT 1 (bytesT idle)).length = n := ⟨_, rfl⟩
  rw [hM1] at hc1 hv1 hf
  subst hv1
  obtain ⟨v2, W2, hrun, hc2, hbw, hbx, hzw⟩ := copyB_app (F := 24) HC.out BW.out (HB0.out.trans (hb1.mono HB0.out.size)) ZW.out (Nat.lt_succ_self _) (Nat.le_succ _) BX.out hc1 (by have := HK0.out; omega) (by omega)
  have HC := Lib.hid hc2
  have BW := Lib.hid hbw
  have BX := Lib.hid hbx
  have ZW := Lib.hid hzw
  have cA := cells10 hbx
  clear hc2 hbw hbx hzw hc1 ho1 hb1 hM1
  go_wp2_with fail
  first | rw [HW.out] | skip
  refine (refBytes_any data _).mono ?_
  rintro e W0 ⟨v0, rfl, hc0, hb0⟩
  have l8 := bytesT_len8 data
  obtain ⟨K0, hK0⟩ : ∃ n, (bytesT data).length = n := ⟨_, rfl⟩
  rw [hK0] at hc0 l8
  obtain ⟨p0, q0, rfl, hq0, ho0⟩ := hc0
  have HK0 := Lib.hid hK0; clear hK0
  have HO0 := Lib.hid (Row.of_own ho0); clear ho0
  have HB0 := Lib.hid hb0; clear hb0
  go_wp2_with fail
  refine (refField_any p0 (bytesT data) 4 K0 q0 _ HK0.out HO0.out (by omega)).mono ?_
  rintro e W1 ⟨v1, rfl, hc1, hb1⟩
  have hf := fieldT_len 4 (bytesT data)
  obtain ⟨p1, q1, hv1, hq1, ho1⟩ := id hc1
  obtain ⟨M1, hM1⟩ : ∃ n, (fieldT 4 (bytesT data)).length = n := ⟨_, rfl⟩
  rw [hM1] at hc1 hv1 hf
  subst hv1
  obtain ⟨v2, W2, hrun, hc2, hbw, hbx, hzw⟩ := copyB_app (F := 24) HC.out BW.out (HB0.out.trans (hb1.mono HB0.out.size)) ZW.out (Nat.lt_succ_self _) (Nat.le_succ _) BX.out hc1 (by have := HK0.out; omega) (by omega)
  have HC := Lib.hid hc2
  have BW := Lib.hid hbw
  have BX := Lib.hid hbx
  have ZW := Lib.hid hzw
  have cA := cells10 hbx
  clear hc2 hbw hbx hzw hc1 ho1 hb1 hM1
  go_wp2_with fail
  first | rw [HW.out] | skip
  refine (refField_any oa oz 15 om oc _ EO.out (RG.out _ BW.out).2.1 (by omega)).mono ?_
  rintro e W1 ⟨v1, rfl, hc1, hb1⟩
  have hf := fieldT_len 15 oz
  obtain ⟨p1, q1, hv1, hq1, ho1⟩ := id hc1
  obtain ⟨M1, hM1⟩ : ∃ n, (fieldT 15 oz).length = n := ⟨_, rfl⟩
  rw [hM1] at hc1 hv1 hf
  subst hv1
  obtain ⟨v2, W2, hrun, hc2, hbw, hbx, hzw⟩ := copyB_app (F := 1016) HC.out BW.out hb1 ZW.out (Nat.lt_succ_self _) (Nat.le_succ _) BX.out hc1 (by have := EO.out; omega) (by omega)
  have HC := Lib.hid hc2
  have BW := Lib.hid hbw
  have BX := Lib.hid hbx
  have ZW := Lib.hid hzw
  have cA := cells10 hbx
  clear hc2 hbw hbx hzw hc1 ho1 hb1 hM1
  clear hf; skip
  go_wp2_with fail
  refine (refBig_any cho _ hc0.1 hc0.2).mono ?_
  rintro e W3 ⟨v3, rfl, hc3, hb3⟩
  have BXL := Lib.hid ((hb3.block _ (by have := ZW.out; omega)).trans BX.out)
  have BWL := Lib.hid (BW.out.trans (hb3.mono BW.out.size))
  have HB3 := Lib.hid hb3
  have C3 := Lib.hid hc3
  clear hc3 hb3 cA
  have cA := cells10 BXL.out
  obtain ⟨WB, hWB⟩ : ∃ WB, WB = W2 := ⟨_, rfl⟩
  go_wp2
  go_loopw [4, 5] (fun v i wr => ∃ k : Nat, k ≤ vm ∧ i = .int .i64 k ∧ IsCopy W2.heap.size 5 .u8 (4 + 4 * k) (four cho ++ (vz.take k).flatMap four) v wr ∧ Below W2.heap.size W2 wr) (fun _ i _ => vm - (intOf i).toNat)
  case atStart => exact ⟨0, Nat.zero_le _, rfl, by simpa using C3.out, HB3.out⟩
  case round =>
    obtain ⟨k, hk, rfl, hc, hb⟩ := hrel
    have HC2 := Lib.hid hc; clear hc
    have HB2 := Lib.hid hb; clear hb
    clear cA
    have hbw := BW.out.trans (HB2.out.mono BW.out.size)
    have cA := cells10 ((HB2.out.block _ (by have := ZW.out; omega)).trans BX.out)
    by_cases hlt : k < vm
    · obtain ⟨z, hz⟩ : ∃ z, vz[k]? = some z := ⟨_, List.getElem?_eq_getElem (by have := HV.out; omega)⟩
      obtain ⟨b1, o1, rfl, _, r1⟩ := (RG.out _ hbw).2.2.2.ints (by intro e; have := HV.out; rw [e] at this; simp at this; omega)
      have x1 : wr.cell? ⟨b1, o1 + k, none⟩ = some (.int .i64 z) := by
        have := r1 k (by have := HV.out; omega)
        rwa [hz] at this
      have hzt : vz.take (k + 1) = vz.take k ++ [z] := by rw [List.take_add_one, hz]; rfl
      have zb := HVB.out z (List.mem_of_getElem? hz)
      have i1 : (k : Int) < (vm : Int) := by omega
      have i2 : (vm : Int) ≤ (vc : Int) := by omega
      have HZT := Lib.hid hzt; clear hzt
      have HZB := Lib.hid zb; clear zb
      clear r1 hbw hz
      go_wp2_with fail
      refine (refBig_any z _ (by have := HZB.out; omega) (by have := HZB.out; omega)).mono ?_
      rintro e w3 ⟨v5, rfl, hc5, hb5⟩
      have hb3 : Below W2.heap.size W2 w3 := HB2.out.trans (hb5.mono HB2.out.size)
      have ho4 := HC2.out.below hb5
      obtain ⟨p5, q5, rfl, hq5, ho5⟩ := hc5
      obtain ⟨v', wz, hrun, hoz, hkz⟩ := app_copy (c := q5) Tryd.underlying22 info_u8 (by omega) ho4 hb3.size (four_len z) (Row.of_own ho5) (by omega)
      have HOZ := Lib.hid hoz
      have HBZ := Lib.hid (kept_below hb3 hkz (fun k h => ho4.low k h))
      clear ho5 ho4 hb3 hoz hkz hb5
      go_wp2
      go_roundw
      case rel =>
        refine ⟨k + 1, by omega, by simp, ?_, HBZ.out⟩
        have := HOZ.out
        rw [show 4 + 4 * (k + 1) = 4 + 4 * k + 4 by omega, HZT.out, List.flatMap_append, ← List.append_assoc]
        simpa using this
      case measure => simp [intOf]; omega
    · have i1 : ¬ (k : Int) < (vm : Int) := by omega
      have hkN : vz.take k = vz := List.take_of_length_le (by have := HV.out; omega)
      rw [hkN] at HC2
      have hLL : (four cho ++ vz.flatMap four).length = 4 + 4 * k := HC2.out.len
      obtain ⟨pl, ql, rfl, hql, hol⟩ := HC2.out
      have HOL := Lib.hid (Row.of_own hol)
      have HLL := Lib.hid hLL
      have HBW := Lib.hid hbw
      have BXF := Lib.hid ((HB2.out.block _ (by have := ZW.out; omega)).trans BX.out)
      have HCF := Lib.hid (show CopyB (w.heap.size + 1) _ v2 wr _ from by obtain ⟨N, h1, h2⟩ := HC.out; exact ⟨N, h1.below HB2.out, h2⟩)
      have ZWF := Lib.hid (Nat.le_trans ZW.out HB2.out.size)
      clear hol hLL hkN hql hbw
      go_wp2_with fail
      refine (refField_any pl (four cho ++ vz.flatMap four) 17 (4 + 4 * k) ql wr HLL.out HOL.out (by omega)).mono ?_
      rintro e W1 ⟨v1, rfl, hc1, hb1⟩
      have hf := fieldT_len 17 (four cho ++ vz.flatMap four)
      obtain ⟨p1, q1, hv1, hq1, ho1⟩ := id hc1
      obtain ⟨M1, hM1⟩ : ∃ n, (fieldT 17 (four cho ++ vz.flatMap four)).length = n := ⟨_, rfl⟩
      rw [hM1] at hc1 hv1 hf
      subst hv1
      obtain ⟨v9, W9, hrun, hc9, hbw, hbx, hzw⟩ := copyB_app (F := 5000) HCF.out HBW.out hb1 ZWF.out (Nat.lt_succ_self _) (Nat.le_succ _) BXF.out hc1 (by have := HLL.out; omega) (by omega)
      have HC9 := Lib.hid hc9
      have HBW9 := Lib.hid hbw
      clear hc9 hbw hbx hzw hc1 ho1 hb1 hM1 cA
      go_wp2
      go_ret
      refine ⟨v9, rfl, ?_, HBW9.out⟩
      obtain ⟨N, h1, h2⟩ := HC9.out
      have e9 : T = _ := HT.out.symm.trans (show writeT _ _ _ _ _ _ _ _ _ _ = _ by simp only [writeT, optT, if_true, if_false, Bool.false_eq_true]; rfl)
      rw [e9]
      have hl := h1.len
      rw [hl]
      exact h1.base (by omega)

set_option maxRecDepth 100000 in
set_option maxHeartbeats 8000000 in
theorem refWrite_011 (idle data cho : Int) (ga oa ra va : Option Addr) (gm om rm vm gc oc rc vc : Nat) (gz oz rz vz : List Int) (w : World) (eg : gz.length = gm) (eo : oz.length = om) (er : rz.length = rm) (hv : vz.length = vm) (hvc : vm ≤ vc) (lg : gm ≤ 1000) (lo : om ≤ 1000) (lr : rm ≤ 1000) (lv : vm ≤ 16)
    (rg : Row w w.heap.size ga (ints .u8 gz)) (ro : Row w w.heap.size oa (ints .u8 oz)) (rr : Row w w.heap.size ra (ints .u8 rz)) (hrow : Row w w.heap.size va (ints .i64 vz)) (hc0 : 0 ≤ cho ∧ cho ≤ 9223372036854775807) (hvb : ∀ x ∈ vz, 0 ≤ x ∧ x < 4294967296) :
    Calls Tryd.prog 12 #[.agg #[.int .i64 idle, .int .i64 data, .bool false, .bool true, .bool true, .slice ga gm gc, .slice oa om oc, .slice ra rm rc, .int .i64 cho, .slice va vm vc]] w
      fun e w' => ∃ v, e = .returned v ∧ IsCopy w.heap.size 5 .u8 (writeT idle data cho false true true gz oz rz vz).length (writeT idle data cho false true true gz oz rz vz) v w' ∧ Below w.heap.size w w' := by
  obtain ⟨g1, nb⟩ := one_new w (.cells #[.int .i64 idle, .int .i64 data, .bool false, .bool true, .bool true, .slice ga gm gc, .slice oa om oc, .slice ra rm rc, .int .i64 cho, .slice va vm vc] 25)
  obtain ⟨W, hW⟩ : ∃ W, w.alloc (.cells #[.int .i64 idle, .int .i64 data, .bool false, .bool true, .bool true, .slice ga gm gc, .slice oa om oc, .slice ra rm rc, .int .i64 cho, .slice va vm vc] 25) = W := ⟨_, rfl⟩
  rw [hW] at g1 nb
  have cA := cells10 g1
  rw [← hW] at cA
  have ZW := Lib.hid (show w.heap.size + 1 ≤ W.heap.size by rw [← hW]; simp)
  have HW := Lib.hid hW; clear hW
  have BW := Lib.hid nb; clear nb
  have BX := Lib.hid g1; clear g1
  have EG := Lib.hid eg; have EO := Lib.hid eo; have ER := Lib.hid er; have HV := Lib.hid hv
  have RG := Lib.hid (fun (W : World) (hb : Below w.heap.size w W) => And.intro ((rg.below hb).more hb.size) (And.intro ((ro.below hb).more hb.size) (And.intro ((rr.below hb).more hb.size) ((hrow.below hb).more hb.size))))
  have HVB := Lib.hid hvb
  have HC := Lib.hid (show CopyB (w.heap.size + 1) [] (.slice none 0 0) W 0 from ⟨0, copy_none _ _ _ _, Nat.le_refl _⟩)
  obtain ⟨T, hT⟩ : ∃ T, writeT idle data cho false true true gz oz rz vz = T := ⟨_, rfl⟩
  rw [hT]
  have HT := Lib.hid hT
  clear rg ro rr hrow hvb eg eo er hv hT
  go_enter Tryd.func12, Tryd.ntmps12
  go_wp2_with fail
  first | rw [HW.out] | skip
  refine (refBytes_any idle _).mono ?_
  rintro e W0 ⟨v0, rfl, hc0, hb0⟩
  have l8 := bytesT_len8 idle
  obtain ⟨K0, hK0⟩ : ∃ n, (bytesT idle).length = n := ⟨_, rfl⟩
  rw [hK0] at hc0 l8
  obtain ⟨p0, q0, rfl, hq0, ho0⟩ := hc0
  have HK0 := Lib.hid hK0; clear hK0
  have HO0 := Lib.hid (Row.of_own ho0); clear ho0
  have HB0 := Lib.hid hb0; clear hb0
  go_wp2_with fail
  refine (refField_any p0 (bytesT idle) 1 K0 q0 _ HK0.out HO0.out (by omega)).mono ?_
  rintro e W1 ⟨v1, rfl, hc1, hb1⟩
  have hf := fieldT_len 1 (bytesT idle)
  obtain ⟨p1, q1, hv1, hq1, ho1⟩ := id hc1
  obtain ⟨M1, hM1⟩ : ∃ n, (fieldT 1 (bytesT idle)).length = n := ⟨_, rfl⟩
  rw [hM1] at hc1 hv1 hf
  subst hv1
  obtain ⟨v2, W2, hrun, hc2, hbw, hbx, hzw⟩ := copyB_app (F := 24) HC.out BW.out (HB0.out.trans (hb1.mono HB0.out.size)) ZW.out (Nat.lt_succ_self _) (Nat.le_succ _) BX.out hc1 (by have := HK0.out; omega) (by omega)
  have HC := Lib.hid hc2
  have BW := Lib.hid hbw
  have BX := Lib.hid hbx
  have ZW := Lib.hid hzw
  have cA := cells10 hbx
  clear hc2 hbw hbx hzw hc1 ho1 hb1 hM1
  go_wp2_with fail
  first | rw [HW.out] | skip
  refine (refBytes_any data _).mono ?_
  rintro e W0 ⟨v0, rfl, hc0, hb0⟩
  have l8 := bytesT_len8 data
  obtain ⟨K0, hK0⟩ : ∃ n, (bytesT data).length = n := ⟨_, rfl⟩
  rw [hK0] at hc0 l8
  obtain ⟨p0, q0, rfl, hq0, ho0⟩ := hc0
  have HK0 := Lib.hid hK0; clear hK0
  have HO0 := Lib.hid (Row.of_own ho0); clear ho0
  have HB0 := Lib.hid hb0; clear hb0
  go_wp2_with fail
  refine (refField_any p0 (bytesT data) 4 K0 q0 _ HK0.out HO0.out (by omega)).mono ?_
  rintro e W1 ⟨v1, rfl, hc1, hb1⟩
  have hf := fieldT_len 4 (bytesT data)
  obtain ⟨p1, q1, hv1, hq1, ho1⟩ := id hc1
  obtain ⟨M1, hM1⟩ : ∃ n, (fieldT 4 (bytesT data)).length = n := ⟨_, rfl⟩
  rw [hM1] at hc1 hv1 hf
  subst hv1
  obtain ⟨v2, W2, hrun, hc2, hbw, hbx, hzw⟩ := copyB_app (F := 24) HC.out BW.out (HB0.out.trans (hb1.mono HB0.out.size)) ZW.out (Nat.lt_succ_self _) (Nat.le_succ _) BX.out hc1 (by have := HK0.out; omega) (by omega)
  have HC := Lib.hid hc2
  have BW := Lib.hid hbw
  have BX := Lib.hid hbx
  have ZW := Lib.hid hzw
  have cA := cells10 hbx
  clear hc2 hbw hbx hzw hc1 ho1 hb1 hM1
  go_wp2_with fail
  first | rw [HW.out] | skip
  refine (refField_any oa oz 15 om oc _ EO.out (RG.out _ BW.out).2.1 (by omega)).mono ?_
  rintro e W1 ⟨v1, rfl, hc1, hb1⟩
  have hf := fieldT_len 15 oz
  obtain ⟨p1, q1, hv1, hq1, ho1⟩ := id hc1
  obtain ⟨M1, hM1⟩ : ∃ n, (fieldT 15 oz).length = n := ⟨_, rfl⟩
  rw [hM1] at hc1 hv1 hf
  subst hv1
  obtain ⟨v2, W2, hrun, hc2, hbw, hbx, hzw⟩ := copyB_app (F := 1016) HC.out BW.out hb1 ZW.out (Nat.lt_succ_self _) (Nat.le_succ _) BX.out hc1 (by have := EO.out; omega) (by omega)
  have HC := Lib.hid hc2
  have BW := Lib.hid hbw
  have BX := Lib.hid hbx
  have ZW := Lib.hid hzw
  have cA := cells10 hbx
  clear hc2 hbw hbx hzw hc1 ho1 hb1 hM1
  clear hf; skip
  go_wp2_with fail
  first | rw [HW.out] | skip
  refine (refField_any ra rz 16 rm rc _ ER.out (RG.out _ BW.out).2.2.1 (by omega)).mono ?_
  rintro e W1 ⟨v1, rfl, hc1, hb1⟩
  have hf := fieldT_len 16 rz
  obtain ⟨p1, q1, hv1, hq1, ho1⟩ := id hc1
  obtain ⟨M1, hM1⟩ : ∃ n, (fieldT 16 rz).length = n := ⟨_, rfl⟩
  rw [hM1] at hc1 hv1 hf
  subst hv1
  obtain ⟨v2, W2, hrun, hc2, hbw, hbx, hzw⟩ := copyB_app (F := 1016) HC.out BW.out hb1 ZW.out (Nat.lt_succ_self _) (Nat.le_succ _) BX.out hc1 (by have := ER.out; omega) (by omega)
  have HC := Lib.hid hc2
  have BW := Lib.hid hbw
  have BX := Lib.hid hbx
  have ZW := Lib.hid hzw
  have cA := cells10 hbx
  clear hc2 hbw hbx hzw hc1 ho1 hb1 hM1
  clear hf; skip
  go_wp2_with fail
  refine (refBig_any cho _ hc0.1 hc0.2).mono ?_
  rintro e W3 ⟨v3, rfl, hc3, hb3⟩
  have BXL := Lib.hid ((hb3.block _ (by have := ZW.out; omega)).trans BX.out)
  have BWL := Lib.hid (BW.out.trans (hb3.mono BW.out.size))
  have HB3 := Lib.hid hb3
  have C3 := Lib.hid hc3
  clear hc3 hb3 cA
  have cA := cells10 BXL.out
  obtain ⟨WB, hWB⟩ : ∃ WB, WB = W2 := ⟨_, rfl⟩
  go_wp2
  go_loopw [4, 5] (fun v i wr => ∃ k : Nat, k ≤ vm ∧ i = .int .i64 k ∧ IsCopy W2.heap.size 5 .u8 (4 + 4 * k) (four cho ++ (vz.take k).flatMap four) v wr ∧ Below W2.heap.size W2 wr) (fun _ i _ => vm - (intOf i).toNat)
  case atStart => exact ⟨0, Nat.zero_le _, rfl, by simpa using C3.out, HB3.out⟩
  case round =>
    obtain ⟨k, hk, rfl, hc, hb⟩ := hrel
    have HC2 := Lib.hid hc; clear hc
    have HB2 := Lib.hid hb; clear hb
    clear cA
    have hbw := BW.out.trans (HB2.out.mono BW.out.size)
    have cA := cells10 ((HB2.out.block _ (by have := ZW.out; omega)).trans BX.out)
    by_cases hlt : k < vm
    · obtain ⟨z, hz⟩ : ∃ z, vz[k]? = some z := ⟨_, List.getElem?_eq_getElem (by have := HV.out; omega)⟩
      obtain ⟨b1, o1, rfl, _, r1⟩ := (RG.out _ hbw).2.2.2.ints (by intro e; have := HV.out; rw [e] at this; simp at this; omega)
      have x1 : wr.cell? ⟨b1, o1 + k, none⟩ = some (.int .i64 z) := by
        have := r1 k (by have := HV.out; omega)
        rwa [hz] at this
      have hzt : vz.take (k + 1) = vz.take k ++ [z] := by rw [List.take_add_one, hz]; rfl
      have zb := HVB.out z (List.mem_of_getElem? hz)
      have i1 : (k : Int) < (vm : Int) := by omega
      have i2 : (vm : Int) ≤ (vc : Int) := by omega
      have HZT := Lib.hid hzt; clear hzt
      have HZB := Lib.hid zb; clear zb
      clear r1 hbw hz
      go_wp2_with fail
      refine (refBig_any z _ (by have := HZB.out; omega) (by have := HZB.out; omega)).mono ?_
      rintro e w3 ⟨v5, rfl, hc5, hb5⟩
      have hb3 : Below W2.heap.size W2 w3 := HB2.out.trans (hb5.mono HB2.out.size)
      have ho4 := HC2.out.below hb5
      obtain ⟨p5, q5, rfl, hq5, ho5⟩ := hc5
      obtain ⟨v', wz, hrun, hoz, hkz⟩ := app_copy (c := q5) Tryd.underlying22 info_u8 (by omega) ho4 hb3.size (four_len z) (Row.of_own ho5) (by omega)
      have HOZ := Lib.hid hoz
      have HBZ := Lib.hid (kept_below hb3 hkz (fun k h => ho4.low k h))
      clear ho5 ho4 hb3 hoz hkz hb5
      go_wp2
      go_roundw
      case rel =>
        refine ⟨k + 1, by omega, by simp, ?_, HBZ.out⟩
        have := HOZ.out
        rw [show 4 + 4 * (k + 1) = 4 + 4 * k + 4 by omega, HZT.out, List.flatMap_append, ← List.append_assoc]
        simpa using this
      case measure => simp [intOf]; omega
    · have i1 : ¬ (k : Int) < (vm : Int) := by omega
      have hkN : vz.take k = vz := List.take_of_length_le (by have := HV.out; omega)
      rw [hkN] at HC2
      have hLL : (four cho ++ vz.flatMap four).length = 4 + 4 * k := HC2.out.len
      obtain ⟨pl, ql, rfl, hql, hol⟩ := HC2.out
      have HOL := Lib.hid (Row.of_own hol)
      have HLL := Lib.hid hLL
      have HBW := Lib.hid hbw
      have BXF := Lib.hid ((HB2.out.block _ (by have := ZW.out; omega)).trans BX.out)
      have HCF := Lib.hid (show CopyB (w.heap.size + 1) _ v2 wr _ from by obtain ⟨N, h1, h2⟩ := HC.out; exact ⟨N, h1.below HB2.out, h2⟩)
      have ZWF := Lib.hid (Nat.le_trans ZW.out HB2.out.size)
      clear hol hLL hkN hql hbw
      go_wp2_with fail
      refine (refField_any pl (four cho ++ vz.flatMap four) 17 (4 + 4 * k) ql wr HLL.out HOL.out (by omega)).mono ?_
      rintro e W1 ⟨v1, rfl, hc1, hb1⟩
      have hf := fieldT_len 17 (four cho ++ vz.flatMap four)
      obtain ⟨p1, q1, hv1, hq1, ho1⟩ := id hc1
      obtain ⟨M1, hM1⟩ : ∃ n, (fieldT 17 (four cho ++ vz.flatMap four)).length = n := ⟨_, rfl⟩
      rw [hM1] at hc1 hv1 hf
      subst hv1
      obtain ⟨v9, W9, hrun, hc9, hbw, hbx, hzw⟩ := copyB_app (F := 5000) HCF.out HBW.out hb1 ZWF.out (Nat.lt_succ_self _) (Nat.le_succ _) BXF.out hc1 (by have := HLL.out; omega) (by omega)
      have HC9 := Lib.hid hc9
      have HBW9 := Lib.hid hbw
      clear hc9 hbw hbx hzw hc1 ho1 hb1 hM1 cA
      go_wp2
      go_ret
      refine ⟨v9, rfl, ?_, HBW9.out⟩
      obtain ⟨N, h1, h2⟩ := HC9.out
      have e9 : T = _ := HT.out.symm.trans (show writeT _ _ _ _ _ _ _ _ _ _ = _ by simp only [writeT, optT, if_true, if_false, Bool.false_eq_true]; rfl)
      rw [e9]
      have hl := h1.len
      rw [hl]
      exact h1.base (by omega)

set_option maxRecDepth 100000 in
set_option maxHeartbeats 8000000 in
theorem refWrite_100 (idle data cho : Int) (ga oa ra va : Option Addr) (gm om rm vm gc oc rc vc : Nat) (gz oz rz vz : List Int) (w : World) (eg : gz.length = gm) (eo : oz.length = om) (er : rz.length = rm) (hv : vz.length = vm) (hvc : vm ≤ vc) (lg : gm ≤ 1000) (lo : om ≤ 1000) (lr : rm ≤ 1000) (lv : vm ≤ 16)
    (rg : Row w w.heap.size ga (ints .u8 gz)) (ro : Row w w.heap.size oa (ints .u8 oz)) (rr : Row w w.heap.size ra (ints .u8 rz)) (hrow : Row w w.heap.size va (ints .i64 vz)) (hc0 : 0 ≤ cho ∧ cho ≤ 9223372036854775807) (hvb : ∀ x ∈ vz, 0 ≤ x ∧ x < 4294967296) :
    Calls Tryd.prog 12 #[.agg #[.int .i64 idle, .int .i64 data, .bool true, .bool false, .bool false, .slice ga gm gc, .slice oa om oc, .slice ra rm rc, .int .i64 cho, .slice va vm vc]] w
      fun e w' => ∃ v, e = .returned v ∧ IsCopy w.heap.size 5 .u8 (writeT idle data cho true false false gz oz rz vz).length (writeT idle data cho true false false gz oz rz vz) v w' ∧ Below w.heap.size w w' := by
  obtain ⟨g1, nb⟩ := one_new w (.cells #[.int .i64 idle, .int .i64 data, .bool true, .bool false, .bool false, .slice ga gm gc, .slice oa om oc, .slice ra rm rc, .int .i64 cho, .slice va vm vc] 25)
  obtain ⟨W, hW⟩ : ∃ W, w.alloc (.cells #[.int .i64 idle, .int .i64 data, .bool true, .bool false, .bool false, .slice ga gm gc, .slice oa om oc, .slice ra rm rc, .int .i64 cho, .slice va vm vc] 25) = W := ⟨_, rfl⟩
  rw [hW] at g1 nb
  have cA := cells10 g1
  rw [← hW] at cA
  have ZW := Lib.hid (show w.heap.size + 1 ≤ W.heap.size by rw [← hW]; simp)
  have HW := Lib.hid hW; clear hW
  have BW := Lib.hid nb; clear nb
  have BX := Lib.hid g1; clear g1
  have EG := Lib.hid eg; have EO := Lib.hid eo; have ER := Lib.hid er; have HV := Lib.hid hv
  have RG := Lib.hid (fun (W : World) (hb : Below w.heap.size w W) => And.intro ((rg.below hb).more hb.size) (And.intro ((ro.below hb).more hb.size) (And.intro ((rr.below hb).more hb.size) ((hrow.below hb).more hb.size))))
  have HVB := Lib.hid hvb
  have HC := Lib.hid (show CopyB (w.heap.size + 1) [] (.slice none 0 0) W 0 from ⟨0, copy_none _ _ _ _, Nat.le_refl _⟩)
  obtain ⟨T, hT⟩ : ∃ T, writeT idle data cho true false false gz oz rz vz = T := ⟨_, rfl⟩
  rw [hT]
  have HT := Lib.hid hT
  clear rg ro rr hrow hvb eg eo er hv hT
  go_enter Tryd.func12, Tryd.ntmps12
  go_wp2_with fail
  first | rw [HW.out] | skip
  refine (refField_any ga gz 0 gm gc _ EG.out (RG.out _ BW.out).1 (by omega)).mono ?_
  rintro e W1 ⟨v1, rfl, hc1, hb1⟩
  have hf := fieldT_len 0 gz
  obtain ⟨p1, q1, hv1, hq1, ho1⟩ := id hc1
  obtain ⟨M1, hM1⟩ : ∃ n, (fieldT 0 gz).length = n := ⟨_, rfl⟩
  rw [hM1] at hc1 hv1 hf
  subst hv1
  obtain ⟨v2, W2, hrun, hc2, hbw, hbx, hzw⟩ := copyB_app (F := 1016) HC.out BW.out hb1 ZW.out (Nat.lt_succ_self _) (Nat.le_succ _) BX.out hc1 (by have := EG.out; omega) (by omega)
  have HC := Lib.hid hc2
  have BW := Lib.hid hbw
  have BX := Lib.hid hbx
  have ZW := Lib.hid hzw
  have cA := cells10 hbx
  clear hc2 hbw hbx hzw hc1 ho1 hb1 hM1
  clear hf; skip
  go_wp2_with fail
  first | rw [HW.out] | skip
  refine (refBytes_any idle _).mono ?_
  rintro e W0 ⟨v0, rfl, hc0, hb0⟩
  have l8 := bytesT_len8 idle
  obtain ⟨K0, hK0⟩ : ∃ n, (bytesT idle).length = n := ⟨_, rfl⟩
  rw [hK0] at hc0 l8
  obtain ⟨p0, q0, rfl, hq0, ho0⟩ := hc0
  have HK0 := Lib.hid hK0; clear hK0
  have HO0 := Lib.hid (Row.of_own ho0); clear ho0
  have HB0 := Lib.hid hb0; clear hb0
  go_wp2_with fail
  refine (refField_any p0 (bytesT idle) 1 K0 q0 _ HK0.out HO0.out (by omega)).mono ?_
  rintro e W1 ⟨v1, rfl, hc1, hb1⟩
  have hf := fieldT_len 1 (bytesT idle)
  obtain ⟨p1, q1, hv1, hq1, ho1⟩ := id hc1
  obtain ⟨M1, hM1⟩ : ∃ n, (fieldT 1 (bytesT idle)).length = n := ⟨_, rfl⟩
  rw [hM1] at hc1 hv1 hf
  subst hv1
  obtain ⟨v2, W2, hrun, hc2, hbw, hbx, hzw⟩ := copyB_app (F := 24) HC.out BW.out (HB0.out.trans (hb1.mono HB0.out.size)) ZW.out (Nat.lt_succ_self _) (Nat.le_succ _) BX.out hc1 (by have := HK0.out; omega) (by omega)
  have HC := Lib.hid hc2
  have BW := Lib.hid hbw
  have BX := Lib.hid hbx
  have ZW := Lib.hid hzw
  have cA := cells10 hbx
  clear hc2 hbw hbx hzw hc1 ho1 hb1 hM1
  go_wp2_with fail
  first | rw [HW.out] | skip
  refine (refBytes_any data _).mono ?_
  rintro e W0 ⟨v0, rfl, hc0, hb0⟩
  have l8 := bytesT_len8 data
  obtain ⟨K0, hK0⟩ : ∃ n, (bytesT data).length = n := ⟨_, rfl⟩
  rw [hK0] at hc0 l8
  obtain ⟨p0, q0, rfl, hq0, ho0⟩ := hc0
  have HK0 := Lib.hid hK0; clear hK0
  have HO0 := Lib.hid (Row.of_own ho0); clear ho0
  have HB0 := Lib.hid hb0; clear hb0
  go_wp2_with fail
  refine (refField_any p0 (bytesT data) 4 K0 q0 _ HK0.out HO0.out (by omega)).mono ?_
  rintro e W1 ⟨v1, rfl, hc1, hb1⟩
  have hf := fieldT_len 4 (bytesT data)
  obtain ⟨p1, q1, hv1, hq1, ho1⟩ := id hc1
  obtain ⟨M1, hM1⟩ : ∃ n, (fieldT 4 (bytesT data)).length = n := ⟨_, rfl⟩
  rw [hM1] at hc1 hv1 hf
  subst hv1
  obtain ⟨v2, W2, hrun, hc2, hbw, hbx, hzw⟩ := copyB_app (F := 24) HC.out BW.out (HB0.out.trans (hb1.mono HB0.out.size)) ZW.out (Nat.lt_succ_self _) (Nat.le_succ _) BX.out hc1 (by have := HK0.out; omega) (by omega)
  have HC := Lib.hid hc2
  have BW := Lib.hid hbw
  have BX := Lib.hid hbx
  have ZW := Lib.hid hzw
  have cA := cells10 hbx
  clear hc2 hbw hbx hzw hc1 ho1 hb1 hM1
  go_wp2_with fail
  refine (refBig_any cho _ hc0.1 hc0.2).mono ?_
  rintro e W3 ⟨v3, rfl, hc3, hb3⟩
  have BXL := Lib.hid ((hb3.block _ (by have := ZW.out; omega)).trans BX.out)
  have BWL := Lib.hid (BW.out.trans (hb3.mono BW.out.size))
  have HB3 := Lib.hid hb3
  have C3 := Lib.hid hc3
  clear hc3 hb3 cA
  have cA := cells10 BXL.out
  obtain ⟨WB, hWB⟩ : ∃ WB, WB = W2 := ⟨_, rfl⟩
  go_wp2
  go_loopw [4, 5] (fun v i wr => ∃ k : Nat, k ≤ vm ∧ i = .int .i64 k ∧ IsCopy W2.heap.size 5 .u8 (4 + 4 * k) (four cho ++ (vz.take k).flatMap four) v wr ∧ Below W2.heap.size W2 wr) (fun _ i _ => vm - (intOf i).toNat)
  case atStart => exact ⟨0, Nat.zero_le _, rfl, by simpa using C3.out, HB3.out⟩
  case round =>
    obtain ⟨k, hk, rfl, hc, hb⟩ := hrel
    have HC2 := Lib.hid hc; clear hc
    have HB2 := Lib.hid hb; clear hb
    clear cA
    have hbw := BW.out.trans (HB2.out.mono BW.out.size)
    have cA := cells10 ((HB2.out.block _ (by have := ZW.out; omega)).trans BX.out)
    by_cases hlt : k < vm
    · obtain ⟨z, hz⟩ : ∃ z, vz[k]? = some z := ⟨_, List.getElem?_eq_getElem (by have := HV.out; omega)⟩
      obtain ⟨b1, o1, rfl, _, r1⟩ := (RG.out _ hbw).2.2.2.ints (by intro e; have := HV.out; rw [e] at this; simp at this; omega)
      have x1 : wr.cell? ⟨b1, o1 + k, none⟩ = some (.int .i64 z) := by
        have := r1 k (by have := HV.out; omega)
        rwa [hz] at this
      have hzt : vz.take (k + 1) = vz.take k ++ [z] := by rw [List.take_add_one, hz]; rfl
      have zb := HVB.out z (List.mem_of_getElem? hz)
      have i1 : (k : Int) < (vm : Int) := by omega
      have i2 : (vm : Int) ≤ (vc : Int) := by omega
      have HZT := Lib.hid hzt; clear hzt
      have HZB := Lib.hid zb; clear zb
      clear r1 hbw hz
      go_wp2_with fail
      refine (refBig_any z _ (by have := HZB.out; omega) (by have := HZB.out; omega)).mono ?_
      rintro e w3 ⟨v5, rfl, hc5, hb5⟩
      have hb3 : Below W2.heap.size W2 w3 := HB2.out.trans (hb5.mono HB2.out.size)
      have ho4 := HC2.out.below hb5
      obtain ⟨p5, q5, rfl, hq5, ho5⟩ := hc5
      obtain ⟨v', wz, hrun, hoz, hkz⟩ := app_copy (c := q5) Tryd.underlying22 info_u8 (by omega) ho4 hb3.size (four_len z) (Row.of_own ho5) (by omega)
      have HOZ := Lib.hid hoz
      have HBZ := Lib.hid (kept_below hb3 hkz (fun k h => ho4.low k h))
      clear ho5 ho4 hb3 hoz hkz hb5
      go_wp2
      go_roundw
      case rel =>
        refine ⟨k + 1, by omega, by simp, ?_, HBZ.out⟩
        have := HOZ.out
        rw [show 4 + 4 * (k + 1) = 4 + 4 * k + 4 by omega, HZT.out, List.flatMap_append, ← List.append_assoc]
        simpa using this
      case measure => simp [intOf]; omega
    · have i1 : ¬ (k : Int) < (vm : Int) := by omega
      have hkN : vz.take k = vz := List.take_of_length_le (by have := HV.out; omega)
      rw [hkN] at HC2
      have hLL : (four cho ++ vz.flatMap four).length = 4 + 4 * k := HC2.out.len
      obtain ⟨pl, ql, rfl, hql, hol⟩ := HC2.out
      have HOL := Lib.hid (Row.of_own hol)
      have HLL := Lib.hid hLL
      have HBW := Lib.hid hbw
      have BXF := Lib.hid ((HB2.out.block _ (by have := ZW.out; omega)).trans BX.out)
      have HCF := Lib.hid (show CopyB (w.heap.size + 1) _ v2 wr _ from by obtain ⟨N, h1, h2⟩ := HC.out; exact ⟨N, h1.below HB2.out, h2⟩)
      have ZWF := Lib.hid (Nat.le_trans ZW.out HB2.out.size)
      clear hol hLL hkN hql hbw
      go_wp2_with fail
      refine (refField_any pl (four cho ++ vz.flatMap four) 17 (4 + 4 * k) ql wr HLL.out HOL.out (by omega)).mono ?_
      rintro e W1 ⟨v1, rfl, hc1, hb1⟩
      have hf := fieldT_len 17 (four cho ++ vz.flatMap four)
      obtain ⟨p1, q1, hv1, hq1, ho1⟩ := id hc1
      obtain ⟨M1, hM1⟩ : ∃ n, (fieldT 17 (four cho ++ vz.flatMap four)).length = n := ⟨_, rfl⟩
      rw [hM1] at hc1 hv1 hf
      subst hv1
      obtain ⟨v9, W9, hrun, hc9, hbw, hbx, hzw⟩ := copyB_app (F := 5000) HCF.out HBW.out hb1 ZWF.out (Nat.lt_succ_self _) (Nat.le_succ _) BXF.out hc1 (by have := HLL.out; omega) (by omega)
      have HC9 := Lib.hid hc9
      have HBW9 := Lib.hid hbw
      clear hc9 hbw hbx hzw hc1 ho1 hb1 hM1 cA
      go_wp2
      go_ret
      refine ⟨v9, rfl, ?_, HBW9.out⟩
      obtain ⟨N, h1, h2⟩ := HC9.out
      have e9 : T = _ := HT.out.symm.trans (show writeT _ _ _ _ _ _ _ _ _ _ = _ by simp only [writeT, optT, if_true, if_false, Bool.false_eq_true]; rfl)
      rw [e9]
      have hl := h1.len
      rw [hl]
      exact h1.base (by omega)

set_option maxRecDepth 100000 in
set_option maxHeartbeats 8000000 in
theorem refWrite_101 (idle data cho : Int) (ga oa ra va : Option Addr) (gm om rm vm gc oc rc vc : Nat) (gz oz rz vz : List Int) (w : World) (eg : gz.length = gm) (eo : oz.length = om) (er : rz.length = rm) (hv : vz.length = vm) (hvc : vm ≤ vc) (lg : gm ≤ 1000) (lo : om ≤ 1000) (lr : rm ≤ 1000) (lv : vm ≤ 16)
    (rg : Row w w.heap.size ga (ints .u8 gz)) (ro : Row w w.heap.size oa (ints .u8 oz)) (rr : Row w w.heap.size ra (ints .u8 rz)) (hrow : Row w w.heap.size va (ints .i64 vz)) (hc0 : 0 ≤ cho ∧ cho ≤ 9223372036854775807) (hvb : ∀ x ∈ vz, 0 ≤ x ∧ x < 4294967296) :
    Calls Tryd.prog 12 #[.agg #[.int .i64 idle, .int .i64 data, .bool true, .bool false, .bool true, .slice ga gm gc, .slice oa om oc, .slice ra rm rc, .int .i64 cho, .slice va vm vc]] w
      fun e w' => ∃ v, e = .returned v ∧ IsCopy w.heap.size 5 .u8 (writeT idle data cho true false true gz oz rz vz).length (writeT idle data cho true false true gz oz rz vz) v w' ∧ Below w.heap.size w w' := by
  obtain ⟨g1, nb⟩ := one_new w (.cells #[.int .i64 idle, .int .i64 data, .bool true, .bool false, .bool true, .slice ga gm gc, .slice oa om oc, .slice ra rm rc, .int .i64 cho, .slice va vm vc] 25)
  obtain ⟨W, hW⟩ : ∃ W, w.alloc (.cells #[.int .i64 idle, .int .i64 data, .bool true, .bool false, .bool true, .slice ga gm gc, .slice oa om oc, .slice ra rm rc, .int .i64 cho, .slice va vm vc] 25) = W := ⟨_, rfl⟩
  rw [hW] at g1 nb
  have cA := cells10 g1
  rw [← hW] at cA
  have ZW := Lib.hid (show w.heap.size + 1 ≤ W.heap.size by rw [← hW]; simp)
  have HW := Lib.hid hW; clear hW
  have BW := Lib.hid nb; clear nb
  have BX := Lib.hid g1; clear g1
  have EG := Lib.hid eg; have EO := Lib.hid eo; have ER := Lib.hid er; have HV := Lib.hid hv
  have RG := Lib.hid (fun (W : World) (hb : Below w.heap.size w W) => And.intro ((rg.below hb).more hb.size) (And.intro ((ro.below hb).more hb.size) (And.intro ((rr.below hb).more hb.size) ((hrow.below hb).more hb.size))))
  have HVB := Lib.hid hvb
  have HC := Lib.hid (show CopyB (w.heap.size + 1) [] (.slice none 0 0) W 0 from ⟨0, copy_none _ _ _ _, Nat.le_refl _⟩)
  obtain ⟨T, hT⟩ : ∃ T, writeT idle data cho true false true gz oz rz vz = T := ⟨_, rfl⟩
  rw [hT]
  have HT := Lib.hid hT
  clear rg ro rr hrow hvb eg eo er hv hT
  go_enter Tryd.func12, Tryd.ntmps12
  go_wp2_with fail
  first | rw [HW.out] | skip
  refine (refField_any ga gz 0 gm gc _ EG.out (RG.out _ BW.out).1 (by omega)).mono ?_
  rintro e W1 ⟨v1, rfl, hc1, hb1⟩
  have hf := fieldT_len 0 gz
  obtain ⟨p1, q1, hv1, hq1, ho1⟩ := id hc1
  obtain ⟨M1, hM1⟩ : ∃ n, (fieldT 0 gz).length = n := ⟨_, rfl⟩
  rw [hM1] at hc1 hv1 hf
  subst hv1
  obtain ⟨v2, W2, hrun, hc2, hbw, hbx, hzw⟩ := copyB_app (F := 1016) HC.out BW.out hb1 ZW.out (Nat.lt_succ_self _) (Nat.le_succ _) BX.out hc1 (by have := EG.out; omega) (by omega)
  have HC := Lib.hid hc2
  have BW := Lib.hid hbw
  have BX := Lib.hid hbx
  have ZW := Lib.hid hzw
  have cA := cells10 hbx
  clear hc2 hbw hbx hzw hc1 ho1 hb1 hM1
  clear hf; skip
  go_wp2_with fail
  first | rw [HW.out] | skip
  refine (refBytes_any idle _).mono ?_
  rintro e W0 ⟨v0, rfl, hc0, hb0⟩
  have l8 := bytesT_len8 idle
  obtain ⟨K0, hK0⟩ : ∃ n, (bytesT idle).length = n := ⟨_, rfl⟩
  rw [hK0] at hc0 l8
  obtain ⟨p0, q0, rfl, hq0, ho0⟩ := hc0
  have HK0 := Lib.hid hK0; clear hK0
  have HO0 := Lib.hid (Row.of_own ho0); clear ho0
  have HB0 := Lib.hid hb0; clear hb0
  go_wp2_with fail
  refine (refField_any p0 (bytesT idle) 1 K0 q0 _ HK0.out HO0.out (by omega)).mono ?_
  rintro e W1 ⟨v1, rfl, hc1, hb1⟩
  have hf := fieldT_len 1 (bytesT idle)
  obtain ⟨p1, q1, hv1, hq1, ho1⟩ := id hc1
  obtain ⟨M1, hM1⟩ : ∃ n, (fieldT 1 (bytesT idle)).length = n := ⟨_, rfl⟩
  rw [hM1] at hc1 hv1 hf
  subst hv1
  obtain ⟨v2, W2, hrun, hc2, hbw, hbx, hzw⟩ := copyB_app (F := 24) HC.out BW.out (HB0.out.trans (hb1.mono HB0.out.size)) ZW.out (Nat.lt_succ_self _) (Nat.le_succ _) BX.out hc1 (by have := HK0.out; omega) (by omega)
  have HC := Lib.hid hc2
  have BW := Lib.hid hbw
  have BX := Lib.hid hbx
  have ZW := Lib.hid hzw
  have cA := cells10 hbx
  clear hc2 hbw hbx hzw hc1 ho1 hb1 hM1
  go_wp2_with fail
  first | rw [HW.out] | skip
  refine (refBytes_any data _).mono ?_
  rintro e W0 ⟨v0, rfl, hc0, hb0⟩
  have l8 := bytesT_len8 data
  obtain ⟨K0, hK0⟩ : ∃ n, (bytesT data).length = n := ⟨_, rfl⟩
  rw [hK0] at hc0 l8
  obtain ⟨p0, q0, rfl, hq0, ho0⟩ := hc0
  have HK0 := Lib.hid hK0; clear hK0
  have HO0 := Lib.hid (Row.of_own ho0); clear ho0
  have HB0 := Lib.hid hb0; clear hb0
  go_wp2_with fail
  refine (refField_any p0 (bytesT data) 4 K0 q0 _ HK0.out HO0.out (by omega)).mono ?_
  rintro e W1 ⟨v1, rfl, hc1, hb1⟩
  have hf := fieldT_len 4 (bytesT data)
  obtain ⟨p1, q1, hv1, hq1, ho1⟩ := id hc1
  obtain ⟨M1, hM1⟩ : ∃ n, (fieldT 4 (bytesT data)).length = n := ⟨_, rfl⟩
  rw [hM1] at hc1 hv1 hf
  subst hv1
  obtain ⟨v2, W2, hrun, hc2, hbw, hbx, hzw⟩ := copyB_app (F := 24) HC.out BW.out (HB0.out.trans (hb1.mono HB0.out.size)) ZW.out (Nat.lt_succ_self _) (Nat.le_succ _) BX.out hc1 (by have := HK0.out; omega) (by omega)
  have HC := Lib.hid hc2
  have BW := Lib.hid hbw
  have BX := Lib.hid hbx
  have ZW := Lib.hid hzw
  have cA := cells10 hbx
  clear hc2 hbw hbx hzw hc1 ho1 hb1 hM1
  go_wp2_with fail
  first | rw [HW.out] | skip
  refine (refField_any ra rz 16 rm rc _ ER.out (RG.out _ BW.out).2.2.1 (by omega)).mono ?_
  rintro e W1 ⟨v1, rfl, hc1, hb1⟩
  have hf := fieldT_len 16 rz
  obtain ⟨p1, q1, hv1, hq1, ho1⟩ := id hc1
  obtain ⟨M1, hM1⟩ : ∃ n, (fieldT 16 rz).length = n := ⟨_, rfl⟩
  rw [hM1] at hc1 hv1 hf
  subst hv1
  obtain ⟨v2, W2, hrun, hc2, hbw, hbx, hzw⟩ := copyB_app (F := 1016) HC.out BW.out hb1 ZW.out (Nat.lt_succ_self _) (Nat.le_succ _) BX.out hc1 (by have := ER.out; omega) (by omega)
  have HC := Lib.hid hc2
  have BW := Lib.hid hbw
  have BX := Lib.hid hbx
  have ZW := Lib.hid hzw
  have cA := cells10 hbx
  clear hc2 hbw hbx hzw hc1 ho1 hb1 hM1
  clear hf; skip
  go_wp2_with fail
  refine (refBig_any cho _ hc0.1 hc0.2).mono ?_
  rintro e W3 ⟨v3, rfl, hc3, hb3⟩
  have BXL := Lib.hid ((hb3.block _ (by have := ZW.out; omega)).trans BX.out)
  have BWL := Lib.hid (BW.out.trans (hb3.mono BW.out.size))
  have HB3 := Lib.hid hb3
  have C3 := Lib.hid hc3
  clear hc3 hb3 cA
  have cA := cells10 BXL.out
  obtain ⟨WB, hWB⟩ : ∃ WB, WB = W2 := ⟨_, rfl⟩
  go_wp2
  go_loopw [4, 5] (fun v i wr => ∃ k : Nat, k ≤ vm ∧ i = .int .i64 k ∧ IsCopy W2.heap.size 5 .u8 (4 + 4 * k) (four cho ++ (vz.take k).flatMap four) v wr ∧ Below W2.heap.size W2 wr) (fun _ i _ => vm - (intOf i).toNat)
  case atStart => exact ⟨0, Nat.zero_le _, rfl, by simpa using C3.out, HB3.out⟩
  case round =>
    obtain ⟨k, hk, rfl, hc, hb⟩ := hrel
    have HC2 := Lib.hid hc; clear hc
    have HB2 := Lib.hid hb; clear hb
    clear cA
    have hbw := BW.out.trans (HB2.out.mono BW.out.size)
    have cA := cells10 ((HB2.out.block _ (by have := ZW.out; omega)).trans BX.out)
    by_cases hlt : k < vm
    · obtain ⟨z, hz⟩ : ∃ z, vz[k]? = some z := ⟨_, List.getElem?_eq_getElem (by have := HV.out; omega)⟩
      obtain ⟨b1, o1, rfl, _, r1⟩ := (RG.out _ hbw).2.2.2.ints (by intro e; have := HV.out; rw [e] at this; simp at this; omega)
      have x1 : wr.cell? ⟨b1, o1 + k, none⟩ = some (.int .i64 z) := by
        have := r1 k (by have := HV.out; omega)
        rwa [hz] at this
      have hzt : vz.take (k + 1) = vz.take k ++ [z] := by rw [List.take_add_one, hz]; rfl
      have zb := HVB.out z (List.mem_of_getElem? hz)
      have i1 : (k : Int) < (vm : Int) := by omega
      have i2 : (vm : Int) ≤ (vc : Int) := by omega
      have HZT := Lib.hid hzt; clear hzt
      have HZB := Lib.hid zb; clear zb
      clear r1 hbw hz
      go_wp2_with fail
      refine (refBig_any z _ (by have := HZB.out; omega) (by have := HZB.out; omega)).mono ?_
      rintro e w3 ⟨v5, rfl, hc5, hb5⟩
      have hb3 : Below W2.heap.size W2 w3 := HB2.out.trans (hb5.mono HB2.out.size)
      have ho4 := HC2.out.below hb5
      obtain ⟨p5, q5, rfl, hq5, ho5⟩ := hc5
      obtain ⟨v', wz, hrun, hoz, hkz⟩ := app_copy (c := q5) Tryd.underlying22 info_u8 (by omega) ho4 hb3.size (four_len z) (Row.of_own ho5) (by omega)
      have HOZ := Lib.hid hoz
      have HBZ := Lib.hid (kept_below hb3 hkz (fun k h => ho4.low k h))
      clear ho5 ho4 hb3 hoz hkz hb5
      go_wp2
      go_roundw
      case rel =>
        refine ⟨k + 1, by omega, by simp, ?_, HBZ.out⟩
        have := HOZ.out
        rw [show 4 + 4 * (k + 1) = 4 + 4 * k + 4 by omega, HZT.out, List.flatMap_append, ← List.append_assoc]
        simpa using this
      case measure => simp [intOf]; omega
    · have i1 : ¬ (k : Int) < (vm : Int) := by omega
      have hkN : vz.take k = vz := List.take_of_length_le (by have := HV.out; omega)
      rw [hkN] at HC2
      have hLL : (four cho ++ vz.flatMap four).length = 4 + 4 * k := HC2.out.len
      obtain ⟨pl, ql, rfl, hql, hol⟩ := HC2.out
      have HOL := Lib.hid (Row.of_own hol)
      have HLL := Lib.hid hLL
      have HBW := Lib.hid hbw
      have BXF := Lib.hid ((HB2.out.block _ (by have := ZW.out; omega)).trans BX.out)
      have HCF := Lib.hid (show CopyB (w.heap.size + 1) _ v2 wr _ from by obtain ⟨N, h1, h2⟩ := HC.out; exact ⟨N, h1.below HB2.out, h2⟩)
      have ZWF := Lib.hid (Nat.le_trans ZW.out HB2.out.size)
      clear hol hLL hkN hql hbw
      go_wp2_with fail
      refine (refField_any pl (four cho ++ vz.flatMap four) 17 (4 + 4 * k) ql wr HLL.out HOL.out (by omega)).mono ?_
      rintro e W1 ⟨v1, rfl, hc1, hb1⟩
      have hf := fieldT_len 17 (four cho ++ vz.flatMap four)
      obtain ⟨p1, q1, hv1, hq1, ho1⟩ := id hc1
      obtain ⟨M1, hM1⟩ : ∃ n, (fieldT 17 (four cho ++ vz.flatMap four)).length = n := ⟨_, rfl⟩
      rw [hM1] at hc1 hv1 hf
      subst hv1
      obtain ⟨v9, W9, hrun, hc9, hbw, hbx, hzw⟩ := copyB_app (F := 5000) HCF.out HBW.out hb1 ZWF.out (Nat.lt_succ_self _) (Nat.le_succ _) BXF.out hc1 (by have := HLL.out; omega) (by omega)
      have HC9 := Lib.hid hc9
      have HBW9 := Lib.hid hbw
      clear hc9 hbw hbx hzw hc1 ho1 hb1 hM1 cA
      go_wp2
      go_ret
      refine ⟨v9, rfl, ?_, HBW9.out⟩
      obtain ⟨N, h1, h2⟩ := HC9.out
      have e9 : T = _ := HT.out.symm.trans (show writeT _ _ _ _ _ _ _ _ _ _ = _ by simp only [writeT, optT, if_true, if_false, Bool.false_eq_true]; rfl)
      rw [e9]
      have hl := h1.len
      rw [hl]
      exact h1.base (by omega)

set_option maxRecDepth 100000 in
set_option maxHeartbeats 8000000 in
theorem refWrite_110 (idle data cho : Int) (ga oa ra va : Option Addr) (gm om rm vm gc oc rc vc : Nat) (gz oz rz vz : List Int) (w : World) (eg : gz.length = gm) (eo : oz.length = om) (er : rz.length = rm) (hv : vz.length = vm) (hvc : vm ≤ vc) (lg : gm ≤ 1000) (lo : om ≤ 1000) (lr : rm ≤ 1000) (lv : vm ≤ 16)
    (rg : Row w w.heap.size ga (ints .u8 gz)) (ro : Row w w.heap.size oa (ints .u8 oz)) (rr : Row w w.heap.size ra (ints .u8 rz)) (hrow : Row w w.heap.size va (ints .i64 vz)) (hc0 : 0 ≤ cho ∧ cho ≤ 9223372036854775807) (hvb : ∀ x ∈ vz, 0 ≤ x ∧ x < 4294967296) :
    Calls Tryd.prog 12 #[.agg #[.int .i64 idle, .int .i64 data, .bool true, .bool true, .bool false, .slice ga gm gc, .slice oa om oc, .slice ra rm rc, .int .i64 cho, .slice va vm vc]] w
      fun e w' => ∃ v, e = .returned v ∧ IsCopy w.heap.size 5 .u8 (writeT idle data cho true true false gz oz rz vz).length (writeT idle data cho true true false gz oz rz vz) v w' ∧ Below w.heap.size w w' := by
  obtain ⟨g1, nb⟩ := one_new w (.cells #[.int .i64 idle, .int .i64 data, .bool true, .bool true, .bool false, .slice ga gm gc, .slice oa om oc, .slice ra rm rc, .int .i64 cho, .slice va vm vc] 25)
  obtain ⟨W, hW⟩ : ∃ W, w.alloc (.cells #[.int .i64 idle, .int .i64 data, .bool true, .bool true, .bool false, .slice ga gm gc, .slice oa om oc, .slice ra rm rc, .int .i64 cho, .slice va vm vc] 25) = W := ⟨_, rfl⟩
  rw [hW] at g1 nb
  have cA := cells10 g1
  rw [← hW] at cA
  have ZW := Lib.hid (show w.heap.size + 1 ≤ W.heap.size by rw [← hW]; simp)
  have HW := Lib.hid hW; clear hW
  have BW := Lib.hid nb; clear nb
  have BX := Lib.hid g1; clear g1
  have EG := Lib.hid eg; have EO := Lib.hid eo; have ER := Lib.hid er; have HV := Lib.hid hv
  have RG := Lib.hid (fun (W : World) (hb : Below w.heap.size w W) => And.intro ((rg.below hb).more hb.size) (And.intro ((ro.below hb).more hb.size) (And.intro ((rr.below hb).more hb.size) ((hrow.below hb).more hb.size))))
  have HVB := Lib.hid hvb
  have HC := Lib.hid (show CopyB (w.heap.size + 1) [] (.slice none 0 0) W 0 from ⟨0, copy_none _ _ _ _, Nat.le_refl _⟩)
  obtain ⟨T, hT⟩ : ∃ T, writeT idle data cho true true false gz oz rz vz = T := ⟨_, rfl⟩
  rw [hT]
  have HT := Lib.hid hT
  clear rg ro rr hrow hvb eg eo er hv hT
  go_enter Tryd.func12, Tryd.ntmps12
  go_wp2_with fail
  first | rw [HW.out] | skip
  refine (refField_any ga gz 0 gm gc _ EG.out (RG.out _ BW.out).1 (by omega)).mono ?_
  rintro e W1 ⟨v1, rfl, hc1, hb1⟩
  have hf := fieldT_len 0 gz
  obtain ⟨p1, q1, hv1, hq1, ho1⟩ := id hc1
  obtain ⟨M1, hM1⟩ : ∃ n, (fieldT 0 gz).length = n := ⟨_, rfl⟩
  rw [hM1] at hc1 hv1 hf
  subst hv1
  obtain ⟨v2, W2, hrun, hc2, hbw, hbx, hzw⟩ := copyB_app (F := 1016) HC.out BW.out hb1 ZW.out (Nat.lt_succ_self _) (Nat.le_succ _) BX.out hc1 (by have := EG.out; omega) (by omega)
  have HC := Lib.hid hc2
  have BW := Lib.hid hbw
  have BX := Lib.hid hbx
  have ZW := Lib.hid hzw
  have cA := cells10 hbx
  clear hc2 hbw hbx hzw hc1 ho1 hb1 hM1
  clear hf; skip
  go_wp2_with fail
  first | rw [HW.out] | skip
  refine (refBytes_any idle _).mono ?_
  rintro e W0 ⟨v0, rfl, hc0, hb0⟩
  have l8 := bytesT_len8 idle
  obtain ⟨K0, hK0⟩ : ∃ n, (bytesT idle).length = n := ⟨_, rfl⟩
  rw [hK0] at hc0 l8
  obtain ⟨p0, q0, rfl, hq0, ho0⟩ := hc0
  have HK0 := Lib.hid hK0; clear hK0
  have HO0 := Lib.hid (Row.of_own ho0); clear ho0
  have HB0 := Lib.hid hb0; clear hb0
  go_wp2_with fail
  refine (refField_any p0 (bytesT idle) 1 K0 q0 _ HK0.out HO0.out (by omega)).mono ?_
  rintro e W1 ⟨v1, rfl, hc1, hb1⟩
  have hf := fieldT_len 1 (bytesT idle)
  obtain ⟨p1, q1, hv1, hq1, ho1⟩ := id hc1
  obtain ⟨M1, hM1⟩ : ∃ n, (fieldT 1 (bytesT idle)).length = n := ⟨_, rfl⟩
  rw [hM1] at hc1 hv1 hf
  subst hv1
  obtain ⟨v2, W2, hrun, hc2, hbw, hbx, hzw⟩ := copyB_app (F := 24) HC.out BW.out (HB0.out.trans (hb1.mono HB0.out.size)) ZW.out (Nat.lt_succ_self _) (Nat.le_succ _) BX.out hc1 (by have := HK0.out; omega) (by omega)
  have HC := Lib.hid hc2
  have BW := Lib.hid hbw
  have BX := Lib.hid hbx
  have ZW := Lib.hid hzw
  have cA := cells10 hbx
  clear hc2 hbw hbx hzw hc1 ho1 hb1 hM1
  go_wp2_with fail
  first | rw [HW.out] | skip
  refine (refBytes_any data _).mono ?_
  rintro e W0 ⟨v0, rfl, hc0, hb0⟩
  have l8 := bytesT_len8 data
  obtain ⟨K0, hK0⟩ : ∃ n, (bytesT data).length = n := ⟨_, rfl⟩
  rw [hK0] at hc0 l8
  obtain ⟨p0, q0, rfl, hq0, ho0⟩ := hc0
  have HK0 := Lib.hid hK0; clear hK0
  have HO0 := Lib.hid (Row.of_own ho0); clear ho0
  have HB0 := Lib.hid hb0; clear hb0
  go_wp2_with fail
  refine (refField_any p0 (bytesT data) 4 K0 q0 _ HK0.out HO0.out (by omega)).mono ?_
  rintro e W1 ⟨v1, rfl, hc1, hb1⟩
  have hf := fieldT_len 4 (bytesT data)
  obtain ⟨p1, q1, hv1, hq1, ho1⟩ := id hc1
  obtain ⟨M1, hM1⟩ : ∃ n, (fieldT 4 (bytesT data)).length = n := ⟨_, rfl⟩
  rw [hM1] at hc1 hv1 hf
  subst hv1
  obtain ⟨v2, W2, hrun, hc2, hbw, hbx, hzw⟩ := copyB_app (F := 24) HC.out BW.out (HB0.out.trans (hb1.mono HB0.out.size)) ZW.out (Nat.lt_succ_self _) (Nat.le_succ _) BX.out hc1 (by have := HK0.out; omega) (by omega)
  have HC := Lib.hid hc2
  have BW := Lib.hid hbw
  have BX := Lib.hid hbx
  have ZW := Lib.hid hzw
  have cA := cells10 hbx
  clear hc2 hbw hbx hzw hc1 ho1 hb1 hM1
  go_wp2_with fail
  first | rw [HW.out] | skip
  refine (refField_any oa oz 15 om oc _ EO.out (RG.out _ BW.out).2.1 (by omega)).mono ?_
  rintro e W1 ⟨v1, rfl, hc1, hb1⟩
  have hf := fieldT_len 15 oz
  obtain ⟨p1, q1, hv1, hq1, ho1⟩ := id hc1
  obtain ⟨M1, hM1⟩ : ∃ n, (fieldT 15 oz).length = n := ⟨_, rfl⟩
  rw [hM1] at hc1 hv1 hf
  subst hv1
  obtain ⟨v2, W2, hrun, hc2, hbw, hbx, hzw⟩ := copyB_app (F := 1016) HC.out BW.out hb1 ZW.out (Nat.lt_succ_self _) (Nat.le_succ _) BX.out hc1 (by have := EO.out; omega) (by omega)
  have HC := Lib.hid hc2
  have BW := Lib.hid hbw
  have BX := Lib.hid hbx
  have ZW := Lib.hid hzw
  have cA := cells10 hbx
  clear hc2 hbw hbx hzw hc1 ho1 hb1 hM1
  clear hf; skip
  go_wp2_with fail
  refine (refBig_any cho _ hc0.1 hc0.2).mono ?_
  rintro e W3 ⟨v3, rfl, hc3, hb3⟩
  have BXL := Lib.hid ((hb3.block _ (by have := ZW.out; omega)).trans BX.out)
  have BWL := Lib.hid (BW.out.trans (hb3.mono BW.out.size))
  have HB3 := Lib.hid hb3
  have C3 := Lib.hid hc3
  clear hc3 hb3 cA
  have cA := cells10 BXL.out
  obtain ⟨WB, hWB⟩ : ∃ WB, WB = W2 := ⟨_, rfl⟩
  go_wp2
  go_loopw [4, 5] (fun v i wr => ∃ k : Nat, k ≤ vm ∧ i = .int .i64 k ∧ IsCopy W2.heap.size 5 .u8 (4 + 4 * k) (four cho ++ (vz.take k).flatMap four) v wr ∧ Below W2.heap.size W2 wr) (fun _ i _ => vm - (intOf i).toNat)
  case atStart => exact ⟨0, Nat.zero_le _, rfl, by simpa using C3.out, HB3.out⟩
  case round =>
    obtain ⟨k, hk, rfl, hc, hb⟩ := hrel
    have HC2 := Lib.hid hc; clear hc
    have HB2 := Lib.hid hb; clear hb
    clear cA
    have hbw := BW.out.trans (HB2.out.mono BW.out.size)
    have cA := cells10 ((HB2.out.block _ (by have := ZW.out; omega)).trans BX.out)
    by_cases hlt : k < vm
    · obtain ⟨z, hz⟩ : ∃ z, vz[k]? = some z := ⟨_, List.getElem?_eq_getElem (by have := HV.out; omega)⟩
      obtain ⟨b1, o1, rfl, _, r1⟩ := (RG.out _ hbw).2.2.2.ints (by intro e; have := HV.out; rw [e] at this; simp at this; omega)
      have x1 : wr.cell? ⟨b1, o1 + k, none⟩ = some (.int .i64 z) := by
        have := r1 k (by have := HV.out; omega)
        rwa [hz] at this
      have hzt : vz.take (k + 1) = vz.take k ++ [z] := by rw [List.take_add_one, hz]; rfl
      have zb := HVB.out z (List.mem_of_getElem? hz)
      have i1 : (k : Int) < (vm : Int) := by omega
      have i2 : (vm : Int) ≤ (vc : Int) := by omega
      have HZT := Lib.hid hzt; clear hzt
      have HZB := Lib.hid zb; clear zb
      clear r1 hbw hz
      go_wp2_with fail
      refine (refBig_any z _ (by have := HZB.out; omega) (by have := HZB.out; omega)).mono ?_
      rintro e w3 ⟨v5, rfl, hc5, hb5⟩
      have hb3 : Below W2.heap.size W2 w3 := HB2.out.trans (hb5.mono HB2.out.size)
      have ho4 := HC2.out.below hb5
      obtain ⟨p5, q5, rfl, hq5, ho5⟩ := hc5
      obtain ⟨v', wz, hrun, hoz, hkz⟩ := app_copy (c := q5) Tryd.underlying22 info_u8 (by omega) ho4 hb3.size (four_len z) (Row.of_own ho5) (by omega)
      have HOZ := Lib.hid hoz
      have HBZ := Lib.hid (kept_below hb3 hkz (fun k h => ho4.low k h))
      clear ho5 ho4 hb3 hoz hkz hb5
      go_wp2
      go_roundw
      case rel =>
        refine ⟨k + 1, by omega, by simp, ?_, HBZ.out⟩
        have := HOZ.out
        rw [show 4 + 4 * (k + 1) = 4 + 4 * k + 4 by omega, HZT.out, List.flatMap_append, ← List.append_assoc]
        simpa using this
      case measure => simp [intOf]; omega
    · have i1 : ¬ (k : Int) < (vm : Int) := by omega
      have hkN : vz.take k = vz := List.take_of_length_le (by have := HV.out; omega)
      rw [hkN] at HC2
      have hLL : (four cho ++ vz.flatMap four).length = 4 + 4 * k := HC2.out.len
      obtain ⟨pl, ql, rfl, hql, hol⟩ := HC2.out
      have HOL := Lib.hid (Row.of_own hol)
      have HLL := Lib.hid hLL
      have HBW := Lib.hid hbw
      have BXF := Lib.hid ((HB2.out.block _ (by have := ZW.out; omega)).trans BX.out)
      have HCF := Lib.hid (show CopyB (w.heap.size + 1) _ v2 wr _ from by obtain ⟨N, h1, h2⟩ := HC.out; exact ⟨N, h1.below HB2.out, h2⟩)
      have ZWF := Lib.hid (Nat.le_trans ZW.out HB2.out.size)
      clear hol hLL hkN hql hbw
      go_wp2_with fail
      refine (refField_any pl (four cho ++ vz.flatMap four) 17 (4 + 4 * k) ql wr HLL.out HOL.out (by omega)).mono ?_
      rintro e W1 ⟨v1, rfl, hc1, hb1⟩
      have hf := fieldT_len 17 (four cho ++ vz.flatMap four)
      obtain ⟨p1, q1, hv1, hq1, ho1⟩ := id hc1
      obtain ⟨M1, hM1⟩ : ∃ n, (fieldT 17 (four cho ++ vz.flatMap four)).length = n := ⟨_, rfl⟩
      rw [hM1] at hc1 hv1 hf
      subst hv1
      obtain ⟨v9, W9, hrun, hc9, hbw, hbx, hzw⟩ := copyB_app (F := 5000) HCF.out HBW.out hb1 ZWF.out (Nat.lt_succ_self _) (Nat.le_succ _) BXF.out hc1 (by have := HLL.out; omega) (by omega)
      have HC9 := Lib.hid hc9
      have HBW9 := Lib.hid hbw
      clear hc9 hbw hbx hzw hc1 ho1 hb1 hM1 cA
      go_wp2
      go_ret
      refine ⟨v9, rfl, ?_, HBW9.out⟩
      obtain ⟨N, h1, h2⟩ := HC9.out
      have e9 : T = _ := HT.out.symm.trans (show writeT _ _ _ _ _ _ _ _ _ _ = _ by simp only [writeT, optT, if_true, if_false, Bool.false_eq_true]; rfl)
      rw [e9]
      have hl := h1.len
      rw [hl]
      exact h1.base (by omega)

set_option maxRecDepth 100000 in
set_option maxHeartbeats 8000000 in
theorem refWrite_111 (idle data cho : Int) (ga oa ra va : Option Addr) (gm om rm vm gc oc rc vc : Nat) (gz oz rz vz : List Int) (w : World) (eg : gz.length = gm) (eo : oz.length = om) (er : rz.length = rm) (hv : vz.length = vm) (hvc : vm ≤ vc) (lg : gm ≤ 1000) (lo : om ≤ 1000) (lr : rm ≤ 1000) (lv : vm ≤ 16)
    (rg : Row w w.heap.size ga (ints .u8 gz)) (ro : Row w w.heap.size oa (ints .u8 oz)) (rr : Row w w.heap.size ra (ints .u8 rz)) (hrow : Row w w.heap.size va (ints .i64 vz)) (hc0 : 0 ≤ cho ∧ cho ≤ 9223372036854775807) (hvb : ∀ x ∈ vz, 0 ≤ x ∧ x < 4294967296) :
    Calls Tryd.prog 12 #[.agg #[.int .i64 idle, .int .i64 data, .bool true, .bool true, .bool true, .slice ga gm gc, .slice oa om oc, .slice ra rm rc, .int .i64 cho, .slice va vm vc]] w
      fun e w' => ∃ v, e = .returned v ∧ IsCopy w.heap.size 5 .u8 (writeT idle data cho true true true gz oz rz vz).length (writeT idle data cho true true true gz oz rz vz) v w' ∧ Below w.heap.size w w' := by
  obtain ⟨g1, nb⟩ := one_new w (.cells #[.int .i64 idle, .int .i64 data, .bool true, .bool true, .bool true, .slice ga gm gc, .slice oa om oc, .slice ra rm rc, .int .i64 cho, .slice va vm vc] 25)
  obtain ⟨W, hW⟩ : ∃ W, w.alloc (.cells #[.int .i64 idle, .int .i64 data, .bool true, .bool true, .bool true, .slice ga gm gc, .slice oa om oc, .slice ra rm rc, .int .i64 cho, .slice va vm vc] 25) = W := ⟨_, rfl⟩
  rw [hW] at g1 nb
  have cA := cells10 g1
  rw [← hW] at cA
  have ZW := Lib.hid (show w.heap.size + 1 ≤ W.heap.size by rw [← hW]; simp)
  have HW := Lib.hid hW; clear hW
  have BW := Lib.hid nb; clear nb
  have BX := Lib.hid g1; clear g1
  have EG := Lib.hid eg; have EO := Lib.hid eo; have ER := Lib.hid er; have HV := Lib.hid hv
  have RG := Lib.hid (fun (W : World) (hb : Below w.heap.size w W) => And.intro ((rg.below hb).more hb.size) (And.intro ((ro.below hb).more hb.size) (And.intro ((rr.below hb).more hb.size) ((hrow.below hb).more hb.size))))
  have HVB := Lib.hid hvb
  have HC := Lib.hid (show CopyB (w.heap.size + 1) [] (.slice none 0 0) W 0 from ⟨0, copy_none _ _ _ _, Nat.le_refl _⟩)
  obtain ⟨T, hT⟩ : ∃ T, writeT idle data cho true true true gz oz rz vz = T := ⟨_, rfl⟩
  rw [hT]
  have HT := Lib.hid hT
  clear rg ro rr hrow hvb eg eo er hv hT
  go_enter Tryd.func12, Tryd.ntmps12
  go_wp2_with fail
  first | rw [HW.out] | skip
  refine (refField_any ga gz 0 gm gc _ EG.out (RG.out _ BW.out).1 (by omega)).mono ?_
  rintro e W1 ⟨v1, rfl, hc1, hb1⟩
  have hf := fieldT_len 0 gz
  obtain ⟨p1, q1, hv1, hq1, ho1⟩ := id hc1
  obtain ⟨M1, hM1⟩ : ∃ n, (fieldT 0 gz).length = n := ⟨_, rfl⟩
  rw [hM1] at hc1 hv1 hf
  subst hv1
  obtain ⟨v2, W2, hrun, hc2, hbw, hbx, hzw⟩ := copyB_app (F := 1016) HC.out BW.out hb1 ZW.out (Nat.lt_succ_self _) (Nat.le_succ _) BX.out hc1 (by have := EG.out; omega) (by omega)
  have HC := Lib.hid hc2
  have BW := Lib.hid hbw
  have BX := Lib.hid hbx
  have ZW := Lib.hid hzw
  have cA := cells10 hbx
  clear hc2 hbw hbx hzw hc1 ho1 hb1 hM1
  clear hf; skip
  go_wp2_with fail
  first | rw [HW.out] | skip
  refine (refBytes_any idle _).mono ?_
  rintro e W0 ⟨v0, rfl, hc0, hb0⟩
  have l8 := bytesT_len8 idle
  obtain ⟨K0, hK0⟩ : ∃ n, (bytesT idle).length = n := ⟨_, rfl⟩
  rw [hK0] at hc0 l8
  obtain ⟨p0, q0, rfl, hq0, ho0⟩ := hc0
  have HK0 := Lib.hid hK0; clear hK0
  have HO0 := Lib.hid (Row.of_own ho0); clear ho0
  have HB0 := Lib.hid hb0; clear hb0
  go_wp2_with fail
  refine (refField_any p0 (bytesT idle) 1 K0 q0 _ HK0.out HO0.out (by omega)).mono ?_
  rintro e W1 ⟨v1, rfl, hc1, hb1⟩
  have hf := fieldT_len 1 (bytesT idle)
  obtain ⟨p1, q1, hv1, hq1, ho1⟩ := id hc1
  obtain ⟨M1, hM1⟩ : ∃ n, (fieldT 1 (bytesT idle)).length = n := ⟨_, rfl⟩
  rw [hM1] at hc1 hv1 hf
  subst hv1
  obtain ⟨v2, W2, hrun, hc2, hbw, hbx, hzw⟩ := copyB_app (F := 24) HC.out BW.out (HB0.out.trans (hb1.mono HB0.out.size)) ZW.out (Nat.lt_succ_self _) (Nat.le_succ _) BX.out hc1 (by have := HK0.out; omega) (by omega)
  have HC := Lib.hid hc2
  have BW := Lib.hid hbw
  have BX := Lib.hid hbx
  have ZW := Lib.hid hzw
  have cA := cells10 hbx
  clear hc2 hbw hbx hzw hc1 ho1 hb1 hM1
  go_wp2_with fail
  first | rw [HW.out] | skip
  refine (refBytes_any data _).mono ?_
  rintro e W0 ⟨v0, rfl, hc0, hb0⟩
  have l8 := bytesT_len8 data
  obtain ⟨K0, hK0⟩ : ∃ n, (bytesT data).length = n := ⟨_, rfl⟩
  rw [hK0] at hc0 l8
  obtain ⟨p0, q0, rfl, hq0, ho0⟩ := hc0
  have HK0 := Lib.hid hK0; clear hK0
  have HO0 := Lib.hid (Row.of_own ho0); clear ho0
  have HB0 := Lib.hid hb0; clear hb0
  go_wp2_with fail
  refine (refField_any p0 (bytesT data) 4 K0 q0 _ HK0.out HO0.out (by omega)).mono ?_
  rintro e W1 ⟨v1, rfl, hc1, hb1⟩
  have hf := fieldT_len 4 (bytesT data)
  obtain ⟨p1, q1, hv1, hq1, ho1⟩ := id hc1
  obtain ⟨M1, hM1⟩ : ∃ n, (fieldT 4 (bytesT data)).length = n := ⟨_, rfl⟩
  rw [hM1] at hc1 hv1 hf
  subst hv1
  obtain ⟨v2, W2, hrun, hc2, hbw, hbx, hzw⟩ := copyB_app (F := 24) HC.out BW.out (HB0.out.trans (hb1.mono HB0.out.size)) ZW.out (Nat.lt_succ_self _) (Nat.le_succ _) BX.out hc1 (by have := HK0.out; omega) (by omega)
  have HC := Lib.hid hc2
  have BW := Lib.hid hbw
  have BX := Lib.hid hbx
  have ZW := Lib.hid hzw
  have cA := cells10 hbx
  clear hc2 hbw hbx hzw hc1 ho1 hb1 hM1
  go_wp2_with fail
  first | rw [HW.out] | skip
  refine (refField_any oa oz 15 om oc _ EO.out (RG.out _ BW.out).2.1 (by omega)).mono ?_
  rintro e W1 ⟨v1, rfl, hc1, hb1⟩
  have hf := fieldT_len 15 oz
  obtain ⟨p1, q1, hv1, hq1, ho1⟩ := id hc1
  obtain ⟨M1, hM1⟩ : ∃ n, (fieldT 15 oz).length = n := ⟨_, rfl⟩
  rw [hM1] at hc1 hv1 hf
  subst hv1
  obtain ⟨v2, W2, hrun, hc2, hbw, hbx, hzw⟩ := copyB_app (F := 1016) HC.out BW.out hb1 ZW.out (Nat.lt_succ_self _) (Nat.le_succ _) BX.out hc1 (by have := EO.out; omega) (by omega)
  have HC := Lib.hid hc2
  have BW := Lib.hid hbw
  have BX := Lib.hid hbx
  have ZW := Lib.hid hzw
  have cA := cells10 hbx
  clear hc2 hbw hbx hzw hc1 ho1 hb1 hM1
  clear hf; skip
  go_wp2_with fail
  first | rw [HW.out] | skip
  refine (refField_any ra rz 16 rm rc _ ER.out (RG.out _ BW.out).2.2.1 (by omega)).mono ?_
  rintro e W1 ⟨v1, rfl, hc1, hb1⟩
  have hf := fieldT_len 16 rz
  obtain ⟨p1, q1, hv1, hq1, ho1⟩ := id hc1
  obtain ⟨M1, hM1⟩ : ∃ n, (fieldT 16 rz).length = n := ⟨_, rfl⟩
  rw [hM1] at hc1 hv1 hf
  subst hv1
  obtain ⟨v2, W2, hrun, hc2, hbw, hbx, hzw⟩ := copyB_app (F := 1016) HC.out BW.out hb1 ZW.out (Nat.lt_succ_self _) (Nat.le_succ _) BX.out hc1 (by have := ER.out; omega) (by omega)
  have HC := Lib.hid hc2
  have BW := Lib.hid hbw
  have BX := Lib.hid hbx
  have ZW := Lib.hid hzw
  have cA := cells10 hbx
  clear hc2 hbw hbx hzw hc1 ho1 hb1 hM1
  clear hf; skip
  go_wp2_with fail
  refine (refBig_any cho _ hc0.1 hc0.2).mono ?_
  rintro e W3 ⟨v3, rfl, hc3, hb3⟩
  have BXL := Lib.hid ((hb3.block _ (by have := ZW.out; omega)).trans BX.out)
  have BWL := Lib.hid (BW.out.trans (hb3.mono BW.out.size))
  have HB3 := Lib.hid hb3
  have C3 := Lib.hid hc3
  clear hc3 hb3 cA
  have cA := cells10 BXL.out
  obtain ⟨WB, hWB⟩ : ∃ WB, WB = W2 := ⟨_, rfl⟩
  go_wp2
  go_loopw [4, 5] (fun v i wr => ∃ k : Nat, k ≤ vm ∧ i = .int .i64 k ∧ IsCopy W2.heap.size 5 .u8 (4 + 4 * k) (four cho ++ (vz.take k).flatMap four) v wr ∧ Below W2.heap.size W2 wr) (fun _ i _ => vm - (intOf i).toNat)
  case atStart => exact ⟨0, Nat.zero_le _, rfl, by simpa using C3.out, HB3.out⟩
  case round =>
    obtain ⟨k, hk, rfl, hc, hb⟩ := hrel
    have HC2 := Lib.hid hc; clear hc
    have HB2 := Lib.hid hb; clear hb
    clear cA
    have hbw := BW.out.trans (HB2.out.mono BW.out.size)
    have cA := cells10 ((HB2.out.block _ (by have := ZW.out; omega)).trans BX.out)
    by_cases hlt : k < vm
    · obtain ⟨z, hz⟩ : ∃ z, vz[k]? = some z := ⟨_, List.getElem?_eq_getElem (by have := HV.out; omega)⟩
      obtain ⟨b1, o1, rfl, _, r1⟩ := (RG.out _ hbw).2.2.2.ints (by intro e; have := HV.out; rw [e] at this; simp at this; omega)
      have x1 : wr.cell? ⟨b1, o1 + k, none⟩ = some (.int .i64 z) := by
        have := r1 k (by have := HV.out; omega)
        rwa [hz] at this
      have hzt : vz.take (k + 1) = vz.take k ++ [z] := by rw [List.take_add_one, hz]; rfl
      have zb := HVB.out z (List.mem_of_getElem? hz)
      have i1 : (k : Int) < (vm : Int) := by omega
      have i2 : (vm : Int) ≤ (vc : Int) := by omega
      have HZT := Lib.hid hzt; clear hzt
      have HZB := Lib.hid zb; clear zb
      clear r1 hbw hz
      go_wp2_with fail
      refine (refBig_any z _ (by have := HZB.out; omega) (by have := HZB.out; omega)).mono ?_
      rintro e w3 ⟨v5, rfl, hc5, hb5⟩
      have hb3 : Below W2.heap.size W2 w3 := HB2.out.trans (hb5.mono HB2.out.size)
      have ho4 := HC2.out.below hb5
      obtain ⟨p5, q5, rfl, hq5, ho5⟩ := hc5
      obtain ⟨v', wz, hrun, hoz, hkz⟩ := app_copy (c := q5) Tryd.underlying22 info_u8 (by omega) ho4 hb3.size (four_len z) (Row.of_own ho5) (by omega)
      have HOZ := Lib.hid hoz
      have HBZ := Lib.hid (kept_below hb3 hkz (fun k h => ho4.low k h))
      clear ho5 ho4 hb3 hoz hkz hb5
      go_wp2
      go_roundw
      case rel =>
        refine ⟨k + 1, by omega, by simp, ?_, HBZ.out⟩
        have := HOZ.out
        rw [show 4 + 4 * (k + 1) = 4 + 4 * k + 4 by omega, HZT.out, List.flatMap_append, ← List.append_assoc]
        simpa using this
      case measure => simp [intOf]; omega
    · have i1 : ¬ (k : Int) < (vm : Int) := by omega
      have hkN : vz.take k = vz := List.take_of_length_le (by have := HV.out; omega)
      rw [hkN] at HC2
      have hLL : (four cho ++ vz.flatMap four).length = 4 + 4 * k := HC2.out.len
      obtain ⟨pl, ql, rfl, hql, hol⟩ := HC2.out
      have HOL := Lib.hid (Row.of_own hol)
      have HLL := Lib.hid hLL
      have HBW := Lib.hid hbw
      have BXF := Lib.hid ((HB2.out.block _ (by have := ZW.out; omega)).trans BX.out)
      have HCF := Lib.hid (show CopyB (w.heap.size + 1) _ v2 wr _ from by obtain ⟨N, h1, h2⟩ := HC.out; exact ⟨N, h1.below HB2.out, h2⟩)
      have ZWF := Lib.hid (Nat.le_trans ZW.out HB2.out.size)
      clear hol hLL hkN hql hbw
      go_wp2_with fail
      refine (refField_any pl (four cho ++ vz.flatMap four) 17 (4 + 4 * k) ql wr HLL.out HOL.out (by omega)).mono ?_
      rintro e W1 ⟨v1, rfl, hc1, hb1⟩
      have hf := fieldT_len 17 (four cho ++ vz.flatMap four)
      obtain ⟨p1, q1, hv1, hq1, ho1⟩ := id hc1
      obtain ⟨M1, hM1⟩ : ∃ n, (fieldT 17 (four cho ++ vz.flatMap four)).length = n := ⟨_, rfl⟩
      rw [hM1] at hc1 hv1 hf
      subst hv1
      obtain ⟨v9, W9, hrun, hc9, hbw, hbx, hzw⟩ := copyB_app (F := 5000) HCF.out HBW.out hb1 ZWF.out (Nat.lt_succ_self _) (Nat.le_succ _) BXF.out hc1 (by have := HLL.out; omega) (by omega)
      have HC9 := Lib.hid hc9
      have HBW9 := Lib.hid hbw
      clear hc9 hbw hbx hzw hc1 ho1 hb1 hM1 cA
      go_wp2
      go_ret
      refine ⟨v9, rfl, ?_, HBW9.out⟩
      obtain ⟨N, h1, h2⟩ := HC9.out
      have e9 : T = _ := HT.out.symm.trans (show writeT _ _ _ _ _ _ _ _ _ _ = _ by simp only [writeT, optT, if_true, if_false, Bool.false_eq_true]; rfl)
      rw [e9]
      have hl := h1.len
      rw [hl]
      exact h1.base (by omega)

theorem refWrite_any (idle data cho : Int) (hg ho hr : Bool) (ga oa ra va : Option Addr) (gm om rm vm gc oc rc vc : Nat) (gz oz rz vz : List Int) (w : World) (eg : gz.length = gm) (eo : oz.length = om) (er : rz.length = rm) (hv : vz.length = vm) (hvc : vm ≤ vc) (lg : gm ≤ 1000) (lo : om ≤ 1000) (lr : rm ≤ 1000) (lv : vm ≤ 16)
    (rg : Row w w.heap.size ga (ints .u8 gz)) (ro : Row w w.heap.size oa (ints .u8 oz)) (rr : Row w w.heap.size ra (ints .u8 rz)) (hrow : Row w w.heap.size va (ints .i64 vz)) (hc0 : 0 ≤ cho ∧ cho ≤ 9223372036854775807) (hvb : ∀ x ∈ vz, 0 ≤ x ∧ x < 4294967296) :
    Calls Tryd.prog 12 #[.agg #[.int .i64 idle, .int .i64 data, .bool hg, .bool ho, .bool hr, .slice ga gm gc, .slice oa om oc, .slice ra rm rc, .int .i64 cho, .slice va vm vc]] w
      fun e w' => ∃ v, e = .returned v ∧ IsCopy w.heap.size 5 .u8 (writeT idle data cho hg ho hr gz oz rz vz).length (writeT idle data cho hg ho hr gz oz rz vz) v w' ∧ Below w.heap.size w w' := by
  cases hg <;> cases ho <;> cases hr
  · exact refWrite_000 idle data cho ga oa ra va gm om rm vm gc oc rc vc gz oz rz vz w eg eo er hv hvc lg lo lr lv rg ro rr hrow hc0 hvb
  · exact refWrite_001 idle data cho ga oa ra va gm om rm vm gc oc rc vc gz oz rz vz w eg eo er hv hvc lg lo lr lv rg ro rr hrow hc0 hvb
  · exact refWrite_010 idle data cho ga oa ra va gm om rm vm gc oc rc vc gz oz rz vz w eg eo er hv hvc lg lo lr lv rg ro rr hrow hc0 hvb
  · exact refWrite_011 idle data cho ga oa ra va gm om rm vm gc oc rc vc gz oz rz vz w eg eo er hv hvc lg lo lr lv rg ro rr hrow hc0 hvb
  · exact refWrite_100 idle data cho ga oa ra va gm om rm vm gc oc rc vc gz oz rz vz w eg eo er hv hvc lg lo lr lv rg ro rr hrow hc0 hvb
  · exact refWrite_101 idle data cho ga oa ra va gm om rm vm gc oc rc vc gz oz rz vz w eg eo er hv hvc lg lo lr lv rg ro rr hrow hc0 hvb
  · exact refWrite_110 idle data cho ga oa ra va gm om rm vm gc oc rc vc gz oz rz vz w eg eo er hv hvc lg lo lr lv rg ro rr hrow hc0 hvb
  · exact refWrite_111 idle data cho ga oa ra va gm om rm vm gc oc rc vc gz oz rz vz w eg eo er hv hvc lg lo lr lv rg ro rr hrow hc0 hvb
end Go.Proofs.YtaplndehoenghaaDoor
