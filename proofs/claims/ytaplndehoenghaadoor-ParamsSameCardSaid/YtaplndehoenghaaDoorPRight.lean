/- params.Right. -/
import Derived.Test.YtaplndehoenghaaDoorPLib
import Derived.Test.YtaplndehoenghaaDoorVInt
import Derived.Deep.RegionLaw
import Derived.Deep.RegionWith
import Derived.Deep.DrawnRows
namespace Go.Proofs.YtaplndehoenghaaDoor
open Go.RowKit
set_option linter.unusedVariables false
attribute [local go_sem ↓] Go.wp_at_zero Go.wp_at_succ

def namedT (there : Bool) (m : Nat) : Bool := decide (m ≤ 20) && (there || decide (m = 0))
/-- May params be? -/
def rightT (idle data cho : Int) (hg ho hr : Bool) (gm om rm : Nat) (vz : List Int) : Bool :=
  !decide (sizeT idle = 0) && (!decide (sizeT data = 0) && (decide (1 ≤ cho ∧ cho < 4294967296) && (namedT hg gm && (namedT ho om && (namedT hr rm && (decide (vz.length ≤ 16) && (decide (∀ z ∈ vz, 1 ≤ z ∧ z < 4294967296) && decide vz.Nodup)))))))

theorem named_any (there : Bool) (b : Option Addr) (m c : Nat) (w : World) (hm : m ≤ 1000000) : Calls Tryd.prog 25 #[.bool there, .slice b m c] w fun e w' => e = .returned (.bool (namedT there m)) ∧ w = w' := by
  by_cases h : m ≤ 20
  · have i1 : (m : Int) ≤ 20 := by omega
    cases there
    · by_cases h0 : m = 0
      · subst h0
        go_enter Tryd.func25, Tryd.ntmps25
        go_wp2
        go_ret
        exact ⟨rfl, rfl⟩
      · have d0 : ((m : Int) == 0) = false := beq_eq_false_iff_ne.2 (by omega)
        have e : namedT false m = false := by simp [namedT, h0]
        rw [e]
        clear e
        go_enter Tryd.func25, Tryd.ntmps25
        go_wp2
        go_ret
        exact ⟨rfl, rfl⟩
    · have e : namedT true m = true := by simp [namedT, h]
      rw [e]
      clear e
      go_enter Tryd.func25, Tryd.ntmps25
      go_wp2
      go_ret
      exact ⟨rfl, rfl⟩
  · have i1 : decide ((m : Int) ≤ 20) = false := by simp; omega
    have e : namedT there m = false := by simp [namedT, h]
    rw [e]
    clear e
    go_enter Tryd.func25, Tryd.ntmps25
    go_wp2
    go_ret
    exact ⟨rfl, rfl⟩

abbrev Aggs (idle data cho : Int) (hg ho hr : Bool) (ga oa ra va : Option Addr) (gm om rm vm gc oc rc vc : Nat) : Array Value :=
  #[.int .i64 idle, .int .i64 data, .bool hg, .bool ho, .bool hr, .slice ga gm gc, .slice oa om oc, .slice ra rm rc, .int .i64 cho, .slice va vm vc]

set_option maxRecDepth 100000 in
set_option maxHeartbeats 2000000 in
theorem right_any (idle data cho : Int) (hg ho hr : Bool) (ga oa ra va : Option Addr) (gm om rm vm gc oc rc vc : Nat) (vz : List Int) (w : World) (hv : vz.length = vm) (lg : gm ≤ 1000) (lo : om ≤ 1000) (lr : rm ≤ 1000) (lv : vm ≤ 1000)
    (hrow : Row w w.heap.size va (ints .i64 vz)) :
    Calls Tryd.prog 9 #[.agg #[.int .i64 idle, .int .i64 data, .bool hg, .bool ho, .bool hr, .slice ga gm gc, .slice oa om oc, .slice ra rm rc, .int .i64 cho, .slice va vm vc]] w
      fun e w' => e = .returned (.bool (rightT idle data cho hg ho hr gm om rm vz)) ∧ Below w.heap.size w w' := by
  obtain ⟨g1, nb⟩ := one_new w (.cells #[.int .i64 idle, .int .i64 data, .bool hg, .bool ho, .bool hr, .slice ga gm gc, .slice oa om oc, .slice ra rm rc, .int .i64 cho, .slice va vm vc] 27)
  have f1 : sizeT idle = 0 → rightT idle data cho hg ho hr gm om rm vz = false := fun h => by simp [rightT, h]
  have f2 : sizeT data = 0 → rightT idle data cho hg ho hr gm om rm vz = false := fun h => by simp [rightT, h]
  have f3 : ¬ (1 ≤ cho ∧ cho < 4294967296) → rightT idle data cho hg ho hr gm om rm vz = false := fun h => by
    unfold rightT; rw [decide_eq_false h]; simp
  have f4 : namedT hg gm = false → rightT idle data cho hg ho hr gm om rm vz = false := fun h => by simp [rightT, h]
  have f5 : namedT ho om = false → rightT idle data cho hg ho hr gm om rm vz = false := fun h => by simp [rightT, h]
  have f6 : namedT hr rm = false → rightT idle data cho hg ho hr gm om rm vz = false := fun h => by simp [rightT, h]
  have f7 : ¬ vz.length ≤ 16 → rightT idle data cho hg ho hr gm om rm vz = false := fun h => by simp [rightT, h]
  have f8 : ¬ (∀ z ∈ vz, 1 ≤ z ∧ z < 4294967296) → rightT idle data cho hg ho hr gm om rm vz = false := fun h => by
    unfold rightT; rw [decide_eq_false h]; simp
  have f9 : ¬ vz.Nodup → rightT idle data cho hg ho hr gm om rm vz = false := fun h => by
    unfold rightT; rw [decide_eq_false h]; simp
  have f0 : sizeT idle ≠ 0 → sizeT data ≠ 0 → (1 ≤ cho ∧ cho < 4294967296) → namedT hg gm = true → namedT ho om = true → namedT hr rm = true → vz.length ≤ 16 → (∀ z ∈ vz, 1 ≤ z ∧ z < 4294967296) → vz.Nodup →
      rightT idle data cho hg ho hr gm om rm vz = true := fun a b c d e f g h i => by
    unfold rightT; rw [decide_eq_true c, decide_eq_true h, decide_eq_true i]; simp [a, b, d, e, f, g]
  obtain ⟨R, hR⟩ : ∃ R, rightT idle data cho hg ho hr gm om rm vz = R := ⟨_, rfl⟩
  rw [hR] at f1 f2 f3 f4 f5 f6 f7 f8 f9 f0 ⊢
  clear hR
  have F1 := Lib.hid f1; clear f1
  have F2 := Lib.hid f2; clear f2
  have F3 := Lib.hid f3; clear f3
  have F4 := Lib.hid f4; clear f4
  have F5 := Lib.hid f5; clear f5
  have F6 := Lib.hid f6; clear f6
  have F7 := Lib.hid f7; clear f7
  have F8 := Lib.hid f8; clear f8
  have F9 := Lib.hid f9; clear f9
  have F0 := Lib.hid f0; clear f0
  have HV := Lib.hid hv; clear hv
  have HR := Lib.hid hrow; clear hrow
  have NB := Lib.hid nb; clear nb
  have G1 := Lib.hid g1; clear g1
  have cA := cells10 G1.out
  go_enter Tryd.func9, Tryd.ntmps9
  go_wp2_with fail
  refine (clone_i64 va vz vm vc _ HV.out ((HR.out.below NB.out).more (by simp)) (by omega)).mono ?_
  rintro e w2 ⟨v3, rfl, hc, hb⟩
  have g2 : w2.heap[w.heap.size]? = some (.cells #[.int .i64 idle, .int .i64 data, .bool hg, .bool ho, .bool hr, .slice ga gm gc, .slice oa om oc, .slice ra rm rc, .int .i64 cho, .slice va vm vc] 27 (0, 0)) := (hb.block _ (by simp)).trans G1.out
  have B2 := Lib.hid (NB.out.trans (hb.mono (by simp)))
  have G2 := Lib.hid g2; clear g2
  have HC := Lib.hid (hc.base (n1 := w.heap.size + 1) (by simp)); clear hc hb cA
  go_wp2_with fail
  refine (sort_copy vz vm _ v3 w2 HV.out (by omega) HC.out).mono ?_
  rintro e w3 ⟨rfl, hc, hk⟩
  have hlow : ∀ k, v3.ownBlock = some k → w.heap.size + 1 ≤ k := HC.out.low
  have g3 : w3.heap[w.heap.size]? = some (.cells #[.int .i64 idle, .int .i64 data, .bool hg, .bool ho, .bool hr, .slice ga gm gc, .slice oa om oc, .slice ra rm rc, .int .i64 cho, .slice va vm vc] 27 (0, 0)) :=
    (hk.block _ (Array.getElem?_eq_some_iff.1 G2.out).1 (fun h => by have := hlow _ h; omega)).trans G2.out
  have B3 := Lib.hid (kept_below B2.out hk (fun k h => by have := hlow k h; omega))
  have cA := cells10 g3
  have G3 := Lib.hid g3; clear g3
  have HC3 := Lib.hid hc; clear hc
  have HL := Lib.hid hlow; clear hlow
  clear hk B2 G2 HC NB G1
  go_wp2_with fail
  refine (size_any idle _).mono ?_
  rintro e w' ⟨rfl, rfl⟩
  obtain ⟨s1, hs1⟩ : ∃ s, sizeT idle = s := ⟨_, rfl⟩
  rw [hs1] at F1 F0 ⊢
  clear hs1
  by_cases z1 : s1 = 0
  · subst z1
    obtain rfl : R = false := F1.out rfl
    go_wp2
    go_ret
    exact ⟨rfl, B3.out⟩
  have z1b : (s1 == 0) = false := beq_eq_false_iff_ne.2 z1
  have Z1 := Lib.hid z1; clear z1
  go_wp2_with fail
  refine (size_any data _).mono ?_
  rintro e w' ⟨rfl, rfl⟩
  obtain ⟨s2, hs2⟩ : ∃ s, sizeT data = s := ⟨_, rfl⟩
  rw [hs2] at F2 F0 ⊢
  clear hs2
  by_cases z2 : s2 = 0
  · subst z2
    obtain rfl : R = false := F2.out rfl
    go_wp2
    go_ret
    exact ⟨rfl, B3.out⟩
  have z2b : (s2 == 0) = false := beq_eq_false_iff_ne.2 z2
  have Z2 := Lib.hid z2; clear z2
  go_wp2_with fail
  refine (version_any cho _).mono ?_
  rintro e w' ⟨rfl, rfl⟩
  by_cases z3 : ¬ (1 ≤ cho ∧ cho < 4294967296)
  · rw [decide_eq_false z3]
    obtain rfl : R = false := F3.out z3
    clear z3
    go_wp2
    go_ret
    exact ⟨rfl, B3.out⟩
  replace z3 := Decidable.not_not.1 z3
  rw [decide_eq_true z3]
  have Z3 := Lib.hid z3; clear z3
  go_wp2_with fail
  refine (named_any hg ga gm gc _ (by omega)).mono ?_
  rintro e w' ⟨rfl, rfl⟩
  obtain ⟨n1, hn1⟩ : ∃ s, namedT hg gm = s := ⟨_, rfl⟩
  rw [hn1] at F4 F0 ⊢
  clear hn1
  cases n1
  · obtain rfl : R = false := F4.out rfl
    go_wp2
    go_ret
    exact ⟨rfl, B3.out⟩
  go_wp2_with fail
  refine (named_any ho oa om oc _ (by omega)).mono ?_
  rintro e w' ⟨rfl, rfl⟩
  obtain ⟨n2, hn2⟩ : ∃ s, namedT ho om = s := ⟨_, rfl⟩
  rw [hn2] at F5 F0 ⊢
  clear hn2
  cases n2
  · obtain rfl : R = false := F5.out rfl
    go_wp2
    go_ret
    exact ⟨rfl, B3.out⟩
  go_wp2_with fail
  refine (named_any hr ra rm rc _ (by omega)).mono ?_
  rintro e w' ⟨rfl, rfl⟩
  obtain ⟨n3, hn3⟩ : ∃ s, namedT hr rm = s := ⟨_, rfl⟩
  rw [hn3] at F6 F0 ⊢
  clear hn3
  cases n3
  · obtain rfl : R = false := F6.out rfl
    go_wp2
    go_ret
    exact ⟨rfl, B3.out⟩
  obtain ⟨p3, q3, rfl, l3, o3⟩ := HC3.out
  have O3 := Lib.hid o3; clear o3
  go_wp2_with fail
  by_cases z7 : ¬ vm ≤ 16
  · obtain rfl : R = false := F7.out (by rw [HV.out]; exact z7)
    have d7 : decide ((vm : Int) ≤ 16) = false := by simp; omega
    go_quiet (fail)
    go_wp2
    go_ret
    exact ⟨rfl, B3.out.trans (((Drawn.refl _).drewN _).below _)⟩
  replace z7 := Decidable.not_not.1 z7
  have i7 : (vm : Int) ≤ 16 := by omega
  have hin : ∀ x, x ∈ sorted vz ↔ x ∈ vz := fun x => (sorted_perm vz).mem_iff
  have e8 : decide (∀ z ∈ sorted vz, 1 ≤ z ∧ z < 4294967296) = decide (∀ z ∈ vz, 1 ≤ z ∧ z < 4294967296) := by
    apply Bool.eq_iff_iff.2
    simp only [decide_eq_true_eq]
    exact ⟨fun h z hz => h z ((hin z).2 hz), fun h z hz => h z ((hin z).1 hz)⟩
  have hsl : (sorted vz).length = vm := by rw [sorted_len]; exact HV.out
  have C8 := Lib.hid (fun (W : World) (hr : Row W (W.heap.size) p3 (ints .i64 (sorted vz))) => contains_any (sorted vz) p3 vm q3 W.heap.size W hsl (by omega) hr)
  have HS := Lib.hid hsl
  rw [e8] at C8
  clear hin e8 hsl
  by_cases z8 : ¬ (∀ z ∈ vz, 1 ≤ z ∧ z < 4294967296)
  · obtain rfl : R = false := F8.out z8
    rw [decide_eq_false z8] at C8
    clear z8
    have C9 := Lib.hid (C8.out w3.drew (Row.of_own (own_drawn O3.out (Drawn.refl _).drew)))
    (first | go_region_with (go_at_call 26; refine C9.out.mono ?_; rintro e w4 ⟨rfl, rfl⟩) | fail "no")
    all_goals
      go_wp2
      go_ret
      exact ⟨rfl, B3.out.trans (((Drawn.refl _).drew).below _)⟩
  replace z8 := Decidable.not_not.1 z8
  rw [decide_eq_true z8] at C8
  have C9 := Lib.hid (C8.out w3.drew (Row.of_own (own_drawn O3.out (Drawn.refl _).drew)))
  have C10 := Lib.hid (compact_copy (sorted vz) vm _ _ w3.drew HS.out (by omega) ⟨p3, q3, rfl, l3, own_drawn O3.out (Drawn.refl _).drew⟩)
  have cl := compact_len (sorted vz) (sorted_le vz)
  rw [HS.out, (sorted_perm vz).nodup_iff] at cl
  obtain ⟨L, hL⟩ : ∃ L, (Go.Lib.compact (sorted vz)).length = L := ⟨_, rfl⟩
  rw [hL] at C10 cl
  have hgl : ∀ k, (Value.slice p3 vm q3).ownBlock = some k → w.heap.size < k := fun k h => (O3.out.lt k h).1
  have K4 := Lib.hid (fun (w4 : World) (hk : Kept (fun k => (Value.slice p3 vm q3).ownBlock = some k) w3.drew w4) => And.intro (cells10 ((hk.block w.heap.size (Array.getElem?_eq_some_iff.1 G3.out).1 (fun h => absurd (hgl _ h) (by omega))).trans G3.out)) (kept_below (B3.out.trans (((Drawn.refl _).drew).below _)) hk (fun k h => Nat.le_of_lt (hgl k h))))
  have HCL := Lib.hid cl
  have fin : (L = vm → R = true) ∧ (L ≠ vm → R = false) := ⟨fun h => F0.out Z1.out Z2.out Z3.out trivial trivial trivial (by rw [HV.out]; exact z7) z8 (cl.1 h), fun h => F9.out fun hn => h (cl.2 hn)⟩
  have F := Lib.hid fin
  clear hL hgl cl z8 fin F0 F1 F2 F3 F4 F5 F6 F7 F8 F9 C8 HS HC3 HL HR Z1 Z2 Z3 z1b z2b l3
  by_cases z9 : L = vm
  · subst z9
    obtain rfl : R = true := F.out.1 rfl
    have d9 : ((L : Int) == (L : Int)) = true := beq_iff_eq.2 rfl
    (first | go_region_with (first | (go_at_call 26; refine C9.out.mono ?_; rintro e w4 ⟨rfl, rfl⟩) | (go_at_call 28; refine C10.out.mono ?_; rintro e w4 ⟨a, c, rfl, hk⟩; have c4 := (K4.out w4 hk).1; have B4 := Lib.hid (K4.out w4 hk).2; clear hk)) | fail "no")
    all_goals
      go_wp2
      go_ret
      exact ⟨rfl, B4.out⟩
  · obtain rfl : R = false := F.out.2 z9
    have d9 : ((L : Int) == (vm : Int)) = false := beq_eq_false_iff_ne.2 (by omega)
    clear z9
    (first | go_region_with (first | (go_at_call 26; refine C9.out.mono ?_; rintro e w4 ⟨rfl, rfl⟩) | (go_at_call 28; refine C10.out.mono ?_; rintro e w4 ⟨a, c, rfl, hk⟩; have c4 := (K4.out w4 hk).1; have B4 := Lib.hid (K4.out w4 hk).2; clear hk)) | fail "no")
    all_goals
      go_wp2
      go_ret
      exact ⟨rfl, B4.out⟩
end Go.Proofs.YtaplndehoenghaaDoor
