/- The reference's Right. -/
import Derived.Test.YtaplndehoenghaaDoorPRight
import Derived.Test.YtaplndehoenghaaDoorVRef
namespace Go.Proofs.YtaplndehoenghaaDoor
open Go.RowKit
set_option linter.unusedVariables false

theorem refName_any (there : Bool) (b : Option Addr) (m c : Nat) (w : World) (hm : m ≤ 1000000) : Calls Tryd.prog 20 #[.bool there, .slice b m c] w fun e w' => e = .returned (.bool (namedT there m)) ∧ w = w' := by
  by_cases h : m ≤ 20
  · have i1 : (m : Int) ≤ 20 := by omega
    cases there
    · by_cases h0 : m = 0
      · subst h0
        go_enter Tryd.func20, Tryd.ntmps20
        go_wp2
        go_ret
        exact ⟨rfl, rfl⟩
      · have d0 : ((m : Int) == 0) = false := beq_eq_false_iff_ne.2 (by omega)
        have e : namedT false m = false := by simp [namedT, h0]
        rw [e]
        clear e
        go_enter Tryd.func20, Tryd.ntmps20
        go_wp2
        go_ret
        exact ⟨rfl, rfl⟩
    · have e : namedT true m = true := by simp [namedT, h]
      rw [e]
      clear e
      go_enter Tryd.func20, Tryd.ntmps20
      go_wp2
      go_ret
      exact ⟨rfl, rfl⟩
  · have i1 : decide ((m : Int) ≤ 20) = false := by simp; omega
    have e : namedT there m = false := by simp [namedT, h]
    rw [e]
    clear e
    go_enter Tryd.func20, Tryd.ntmps20
    go_wp2
    go_ret
    exact ⟨rfl, rfl⟩

set_option maxRecDepth 100000 in
set_option maxHeartbeats 4000000 in
theorem refRight_any (idle data cho : Int) (hg ho hr : Bool) (ga oa ra va : Option Addr) (gm om rm vm gc oc rc vc : Nat) (vz : List Int) (w : World) (hv : vz.length = vm) (hvc : vm ≤ vc) (lg : gm ≤ 1000) (lo : om ≤ 1000) (lr : rm ≤ 1000) (lv : vm ≤ 1000)
    (hrow : Row w w.heap.size va (ints .i64 vz)) :
    Calls Tryd.prog 8 #[.agg #[.int .i64 idle, .int .i64 data, .bool hg, .bool ho, .bool hr, .slice ga gm gc, .slice oa om oc, .slice ra rm rc, .int .i64 cho, .slice va vm vc]] w
      fun e w' => e = .returned (.bool (rightT idle data cho hg ho hr gm om rm vz)) ∧ Below w.heap.size w w' := by
  obtain ⟨g1, nb⟩ := one_new w (.cells #[.int .i64 idle, .int .i64 data, .bool hg, .bool ho, .bool hr, .slice ga gm gc, .slice oa om oc, .slice ra rm rc, .int .i64 cho, .slice va vm vc] 25)
  have f1 : sizeT idle = 0 → rightT idle data cho hg ho hr gm om rm vz = false := fun h => by simp [rightT, h]
  have f2 : sizeT data = 0 → rightT idle data cho hg ho hr gm om rm vz = false := fun h => by simp [rightT, h]
  have f3 : ¬ (1 ≤ cho ∧ cho < 4294967296) → rightT idle data cho hg ho hr gm om rm vz = false := fun h => by
    unfold rightT; rw [decide_eq_false h]; simp
  have f4 : namedT hg gm = false → rightT idle data cho hg ho hr gm om rm vz = false := fun h => by simp [rightT, h]
  have f5 : namedT ho om = false → rightT idle data cho hg ho hr gm om rm vz = false := fun h => by simp [rightT, h]
  have f6 : namedT hr rm = false → rightT idle data cho hg ho hr gm om rm vz = false := fun h => by simp [rightT, h]
  have f7 : ¬ vz.length ≤ 16 → rightT idle data cho hg ho hr gm om rm vz = false := fun h => by simp [rightT, h]
  have f8 : ¬ (∀ z ∈ vz, 1 ≤ z ∧ z < 4294967296) → rightT idle data cho hg ho hr gm om rm vz = false := fun h => by
    unfold rightT; rw [decide_eq_false h]; simp
  have f9 : ¬ vz.Nodup → rightT idle data cho hg ho hr gm om rm vz = false := fun h => by
    unfold rightT; rw [decide_eq_false h]; simp
  have f0 : sizeT idle ≠ 0 → sizeT data ≠ 0 → (1 ≤ cho ∧ cho < 4294967296) → namedT hg gm = true → namedT ho om = true → namedT hr rm = true → vz.length ≤ 16 → (∀ z ∈ vz, 1 ≤ z ∧ z < 4294967296) → vz.Nodup →
      rightT idle data cho hg ho hr gm om rm vz = true := fun a b c d e f g h i => by
    unfold rightT; rw [decide_eq_true c, decide_eq_true h, decide_eq_true i]; simp [a, b, d, e, f, g]
  obtain ⟨R, hR⟩ : ∃ R, rightT idle data cho hg ho hr gm om rm vz = R := ⟨_, rfl⟩
  rw [hR] at f1 f2 f3 f4 f5 f6 f7 f8 f9 f0 ⊢
  clear hR
  have F1 := Lib.hid f1; clear f1
  have F2 := Lib.hid f2; clear f2
  have F3 := Lib.hid f3; clear f3
  have F4 := Lib.hid f4; clear f4
  have F5 := Lib.hid f5; clear f5
  have F6 := Lib.hid f6; clear f6
  have F7 := Lib.hid f7; clear f7
  have F8 := Lib.hid f8; clear f8
  have F9 := Lib.hid f9; clear f9
  have F0 := Lib.hid f0; clear f0
  have HV := Lib.hid hv; clear hv
  have HR := Lib.hid ((hrow.below nb).more nb.size); clear hrow
  obtain ⟨W0, hW0⟩ : ∃ W0, w.alloc (.cells #[.int .i64 idle, .int .i64 data, .bool hg, .bool ho, .bool hr, .slice ga gm gc, .slice oa om oc, .slice ra rm rc, .int .i64 cho, .slice va vm vc] 25) = W0 := ⟨_, rfl⟩
  rw [hW0] at g1 nb HR
  have HW0 := Lib.hid hW0; clear hW0
  have NB := Lib.hid nb; clear nb
  have G1 := Lib.hid g1; clear g1
  have cA := cells10 G1.out
  rw [← HW0.out] at cA
  go_enter Tryd.func8, Tryd.ntmps8
  go_wp2_with fail
  rw [HW0.out] at cA ⊢
  refine (refSize_any idle _).mono ?_
  rintro e w' ⟨rfl, rfl⟩
  obtain ⟨s1, hs1⟩ : ∃ s, sizeT idle = s := ⟨_, rfl⟩
  rw [hs1] at F1 F0 ⊢
  clear hs1
  by_cases z1 : s1 = 0
  · subst z1
    obtain rfl : R = false := F1.out rfl
    go_wp2
    go_ret
    exact ⟨rfl, NB.out⟩
  have z1b : (s1 == 0) = false := beq_eq_false_iff_ne.2 z1
  have Z1 := Lib.hid z1; clear z1
  go_wp2_with fail
  refine (refSize_any data _).mono ?_
  rintro e w' ⟨rfl, rfl⟩
  obtain ⟨s2, hs2⟩ : ∃ s, sizeT data = s := ⟨_, rfl⟩
  rw [hs2] at F2 F0 ⊢
  clear hs2
  by_cases z2 : s2 = 0
  · subst z2
    obtain rfl : R = false := F2.out rfl
    go_wp2
    go_ret
    exact ⟨rfl, NB.out⟩
  have z2b : (s2 == 0) = false := beq_eq_false_iff_ne.2 z2
  have Z2 := Lib.hid z2; clear z2
  by_cases z3 : ¬ 1 ≤ cho
  · obtain rfl : R = false := F3.out (fun h => z3 h.1)
    have d3 : decide (cho < 1) = true := by simp; omega
    clear z3
    go_wp2
    go_ret
    exact ⟨rfl, NB.out⟩
  have d3 : decide (cho < 1) = false := by simp; omega
  by_cases z4 : ¬ cho < 4294967296
  · obtain rfl : R = false := F3.out (fun h => z4 h.2)
    have d4 : decide (4294967295 < cho) = true := by simp; omega
    clear z3 z4
    go_wp2
    go_ret
    exact ⟨rfl, NB.out⟩
  have d4 : decide (4294967295 < cho) = false := by simp; omega
  have Z3 := Lib.hid (show 1 ≤ cho ∧ cho < 4294967296 by omega)
  clear z3 z4
  by_cases z7 : ¬ vm ≤ 16
  · obtain rfl : R = false := F7.out (by rw [HV.out]; exact z7)
    have d7 : decide (16 < (vm : Int)) = true := by simp; omega
    clear z7
    go_wp2
    go_ret
    exact ⟨rfl, NB.out⟩
  have d7 : decide (16 < (vm : Int)) = false := by simp; omega
  replace z7 := Decidable.not_not.1 z7
  go_wp2
  go_loopw [3, 4] (fun i _ wr => ∃ k : Nat, k ≤ vm ∧ i = .int .i64 k ∧ (∀ z ∈ vz.take k, 1 ≤ z ∧ z < 4294967296) ∧ (vz.take k).Nodup ∧ Drawn W0 wr) (fun i _ _ => vm - (intOf i).toNat)
  case atStart => exact ⟨0, Nat.zero_le _, rfl, by simp, by simp, Drawn.refl _⟩
  case round =>
    obtain ⟨k, hk, rfl, hall, hnd, hd⟩ := hrel
    have HA := Lib.hid hall; clear hall
    have HN := Lib.hid hnd; clear hnd
    have HD := Lib.hid hd; clear hd
    clear cA
    have hgw : wr.heap[w.heap.size]? = some (.cells #[.int .i64 idle, .int .i64 data, .bool hg, .bool ho, .bool hr, .slice ga gm gc, .slice oa om oc, .slice ra rm rc, .int .i64 cho, .slice va vm vc] 25 (0, 0)) := by rw [HD.out.heap]; exact G1.out
    have cB := cells10 hgw
    clear hgw
    by_cases hlt : k < vm
    · obtain ⟨b1, o1, rfl, _, r1⟩ := (HR.out.drawn HD.out).ints (by intro e; have := HV.out; rw [e] at this; simp at this; omega)
      obtain ⟨z, hz⟩ : ∃ z, vz[k]? = some z := ⟨_, List.getElem?_eq_getElem (by have := HV.out; omega)⟩
      have x1 : wr.cell? ⟨b1, o1 + k, none⟩ = some (.int .i64 z) := by
        have := r1 k (by have := HV.out; omega)
        rwa [hz] at this
      have hmem : z ∈ vz := List.mem_of_getElem? hz
      have hzt : vz.take (k + 1) = vz.take k ++ [z] := by rw [List.take_add_one, hz]; rfl
      have i1 : (k : Int) < (vm : Int) := by omega
      have i2 : (vm : Int) ≤ (vc : Int) := by omega
      have HZT := Lib.hid hzt; clear hzt
      have HZ := Lib.hid hz; clear hz
      have R1 := Lib.hid r1; clear r1
      by_cases q1 : ¬ 1 ≤ z
      · obtain rfl : R = false := F8.out (fun h => q1 (h z hmem).1)
        have e1 : decide (z < 1) = true := by simp; omega
        clear q1 hmem
        go_wp2
        go_ret
        exact ⟨rfl, NB.out.trans (HD.out.below _)⟩
      have e1 : decide (z < 1) = false := by simp; omega
      by_cases q2 : ¬ z < 4294967296
      · obtain rfl : R = false := F8.out (fun h => q2 (h z hmem).2)
        have e2 : decide (4294967295 < z) = true := by simp; omega
        clear q1 q2 hmem
        go_wp2
        go_ret
        exact ⟨rfl, NB.out.trans (HD.out.below _)⟩
      have e2 : decide (4294967295 < z) = false := by simp; omega
      have ZB := Lib.hid (show 1 ≤ z ∧ z < 4294967296 by omega)
      clear q1 q2 hmem
      obtain ⟨wo, hwo⟩ : ∃ wo : World, wo = wr := ⟨_, rfl⟩
      subst hwo
      go_wp2
      go_loopw [4] (fun j wr2 => ∃ n : Nat, n ≤ k ∧ j = .int .i64 n ∧ (∀ x ∈ vz.take n, x ≠ z) ∧ Drawn W0 wr2) (fun j _ => k - (intOf j).toNat)
      case atStart => exact ⟨0, Nat.zero_le _, rfl, by simp, HD.out⟩
      case round =>
        obtain ⟨n, hn, rfl, hne, hd2⟩ := hrel
        have HNE := Lib.hid hne; clear hne
        have HD2 := Lib.hid hd2; clear hd2
        have hgw : wr.heap[w.heap.size]? = some (.cells #[.int .i64 idle, .int .i64 data, .bool hg, .bool ho, .bool hr, .slice ga gm gc, .slice oa om oc, .slice ra rm rc, .int .i64 cho, .slice (some ⟨b1, o1, none⟩) vm vc] 25 (0, 0)) := by rw [HD2.out.heap]; exact G1.out
        have cC := cells10 hgw
        clear hgw cB
        have y1 : wr.cell? ⟨b1, o1 + k, none⟩ = some (.int .i64 z) := by rw [HD2.out.cell, ← HD.out.cell]; exact x1
        clear x1
        by_cases hln : n < k
        · obtain ⟨x, hx⟩ : ∃ x, vz[n]? = some x := ⟨_, List.getElem?_eq_getElem (by have := HV.out; omega)⟩
          have y2 : wr.cell? ⟨b1, o1 + n, none⟩ = some (.int .i64 x) := by
            have := R1.out n (by have := HV.out; omega)
            rw [hx] at this
            rw [HD2.out.cell, ← HD.out.cell]
            exact this
          have hxt : vz.take (n + 1) = vz.take n ++ [x] := by rw [List.take_add_one, hx]; rfl
          have HXT := Lib.hid hxt; clear hxt
          have HX := Lib.hid hx; clear hx
          have i3 : (n : Int) < (k : Int) := by omega
          have i4 : (n : Int) < (vm : Int) := by omega
          have i5 : (0 : Int) ≤ (n : Int) := by omega
          have i6 : (0 : Int) ≤ (k : Int) := by omega
          by_cases hxz : x = z
          · subst hxz
            have hnn : ¬ vz.Nodup := fun h => by
              have h1 := HX.out
              have h2 := HZ.out
              obtain ⟨l1, g1⟩ := List.getElem?_eq_some_iff.1 h1
              obtain ⟨l2, g2⟩ := List.getElem?_eq_some_iff.1 h2
              exact (List.pairwise_iff_getElem.1 (List.nodup_iff_pairwise_ne.1 h)) n k l1 l2 hln (g1.trans g2.symm)
            obtain rfl : R = false := F9.out hnn
            have e3 : ((x : Int) == x) = true := beq_iff_eq.2 rfl
            clear hnn
            go_wp2
            go_quiet (fail)
            go_wp2
            go_ret
            exact ⟨rfl, NB.out.trans ((HD2.out.drewN _).below _)⟩
          · have e3 : ((x : Int) == z) = false := beq_eq_false_iff_ne.2 hxz
            have HXZ := Lib.hid hxz; clear hxz
            go_wp2
            go_quiet (fail)
            go_wp2
            go_roundw
            case rel =>
              refine ⟨n + 1, by omega, by simp, ?_, HD2.out.drewN _⟩
              intro t ht
              rw [HXT.out] at ht
              rcases List.mem_append.1 ht with ht | ht
              · exact HNE.out t ht
              · rw [List.mem_singleton.1 ht]; exact HXZ.out
            case measure => simp [intOf]; omega
        · have i3 : ¬ (n : Int) < (k : Int) := by omega
          have hnk : n = k := by omega
          go_wp2
          go_roundw
          case rel =>
            refine ⟨k + 1, by omega, by simp, ?_, ?_, HD2.out⟩
            · intro t ht
              rw [HZT.out] at ht
              rcases List.mem_append.1 ht with ht | ht
              · exact HA.out t ht
              · rw [List.mem_singleton.1 ht]; exact ZB.out
            · rw [HZT.out, List.nodup_append]
              refine ⟨HN.out, by simp, ?_⟩
              intro t ht u hu
              rw [List.mem_singleton.1 hu]
              exact HNE.out t (by rw [hnk]; exact ht)
          case measure => simp [intOf]; omega
    · have i1 : ¬ (k : Int) < (vm : Int) := by omega
      have hkN : vz.take k = vz := List.take_of_length_le (by have := HV.out; omega)
      rw [hkN] at HA HN
      go_wp2_with fail
      refine (refName_any hg ga gm gc _ (by omega)).mono ?_
      rintro e w' ⟨rfl, rfl⟩
      obtain ⟨n1, hn1⟩ : ∃ s, namedT hg gm = s := ⟨_, rfl⟩
      rw [hn1] at F4 F0 ⊢
      clear hn1
      cases n1
      · obtain rfl : R = false := F4.out rfl
        go_wp2
        go_ret
        exact ⟨rfl, NB.out.trans (HD.out.below _)⟩
      go_wp2_with fail
      refine (refName_any ho oa om oc _ (by omega)).mono ?_
      rintro e w' ⟨rfl, rfl⟩
      obtain ⟨n2, hn2⟩ : ∃ s, namedT ho om = s := ⟨_, rfl⟩
      rw [hn2] at F5 F0 ⊢
      clear hn2
      cases n2
      · obtain rfl : R = false := F5.out rfl
        go_wp2
        go_ret
        exact ⟨rfl, NB.out.trans (HD.out.below _)⟩
      go_wp2_with fail
      refine (refName_any hr ra rm rc _ (by omega)).mono ?_
      rintro e w' ⟨rfl, rfl⟩
      obtain ⟨n3, hn3⟩ : ∃ s, namedT hr rm = s := ⟨_, rfl⟩
      rw [hn3] at F6 F0 ⊢
      clear hn3
      have hRn : R = n3 := by
        cases n3
        · exact F6.out rfl
        · exact F0.out Z1.out Z2.out Z3.out (by trivial) (by trivial) (by trivial) (by rw [HV.out]; exact z7) HA.out HN.out
      subst hRn
      clear F0 F6
      go_wp2
      go_ret
      exact ⟨rfl, NB.out.trans (HD.out.below _)⟩
end Go.Proofs.YtaplndehoenghaaDoor
