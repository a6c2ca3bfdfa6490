/- Four bytes of a number, the program's and the reference's; field. (Printed in part by wip/gen/mk_pbig.py.) -/
import Derived.Test.YtaplndehoenghaaDoorVRef
namespace Go.Proofs.YtaplndehoenghaaDoor
open Go.RowKit
set_option linter.unusedVariables false
attribute [local go_sem ↓] app_hide

/-- The four bytes of a number. -/
def four (n : Int) : List Int := [n / 16777216 % 256, n / 65536 % 256, n / 256 % 256, n % 256]
theorem four_len (n : Int) : (four n).length = 4 := rfl
theorem four_u8 (n : Int) : IsU8 (four n) := by
  intro z hz
  simp [four] at hz
  omega

theorem big_any (n : Int) (w : World) (h0 : -9223372036854775808 ≤ n) (h1 : n ≤ 9223372036854775807) :
    Calls Tryd.prog 18 #[.int .i64 n] w fun e w' => e = .returned (.slice (some ⟨w.heap.size, 0, none⟩) 4 4) ∧ w.alloc (.cells (ints .u8 (four n)).toArray 5) = w' := by
  go_enter Tryd.func18, Tryd.ntmps18
  go_wp2
  go_ret
  exact ⟨rfl, rfl⟩

theorem power_0 (w : World) : Calls Tryd.prog 41 #[.int .i64 0] w fun e w' => e = .returned (.int .i64 1) ∧ w = w' := by
  go_enter Tryd.func41, Tryd.ntmps41
  go_wp2
  go_rounds 1
  go_ret
  exact ⟨rfl, rfl⟩
theorem power_1 (w : World) : Calls Tryd.prog 41 #[.int .i64 1] w fun e w' => e = .returned (.int .i64 256) ∧ w = w' := by
  go_enter Tryd.func41, Tryd.ntmps41
  go_wp2
  go_rounds 2
  go_ret
  exact ⟨rfl, rfl⟩
theorem power_2 (w : World) : Calls Tryd.prog 41 #[.int .i64 2] w fun e w' => e = .returned (.int .i64 65536) ∧ w = w' := by
  go_enter Tryd.func41, Tryd.ntmps41
  go_wp2
  go_rounds 3
  go_ret
  exact ⟨rfl, rfl⟩
theorem power_3 (w : World) : Calls Tryd.prog 41 #[.int .i64 3] w fun e w' => e = .returned (.int .i64 16777216) ∧ w = w' := by
  go_enter Tryd.func41, Tryd.ntmps41
  go_wp2
  go_rounds 4
  go_ret
  exact ⟨rfl, rfl⟩

set_option maxRecDepth 100000 in
set_option maxHeartbeats 2000000 in
theorem refBig_any (n : Int) (w : World) (h0 : 0 ≤ n) (h1 : n ≤ 9223372036854775807) :
    Calls Tryd.prog 31 #[.int .i64 n, .int .i64 4] w fun e w' => ∃ v, e = .returned v ∧ IsCopy w.heap.size 5 .u8 4 (four n) v w' ∧ Below w.heap.size w w' := by
  go_enter Tryd.func31, Tryd.ntmps31
  go_wp2
  go_loopw [5, 6] (fun v i wr => ∃ k : Nat, k ≤ 4 ∧ i = .int .i64 ((k : Int) - 1) ∧ IsCopy w.heap.size 5 .u8 (4 - k) ((four n).take (4 - k)) v wr ∧ Below w.heap.size w wr) (fun _ i _ => (intOf i + 1).toNat)
  case atStart => exact ⟨4, Nat.le_refl _, rfl, copy_none _ _ _ _, Below.refl _ _⟩
  case round =>
    obtain ⟨k, hk, rfl, hc, hb⟩ := hrel
    have HC2 := Lib.hid hc; clear hc
    have HB2 := Lib.hid hb; clear hb
    obtain rfl | hk1 : k = 0 ∨ 1 ≤ k := by omega
    · go_wp2
      go_ret
      exact ⟨_, rfl, HC2.out, HB2.out⟩
    · obtain rfl | rfl | rfl | rfl : k = 1 ∨ k = 2 ∨ k = 3 ∨ k = 4 := by omega
      · obtain ⟨p, q, rfl, hq, ho⟩ := HC2.out
        have ho : wr.ownsRow w.heap.size 5 1 (.slice p 3 q) 3 (ints .u8 ((four n).take 3)) := ho
        obtain ⟨g, cap, wz, hrun, hoz, hkz⟩ := app_elem 22 5 1 (.int .u8 0) (.int .u8 (n % 256)) Tryd.underlying22 info_u8 rfl (by omega) rfl ho (by omega) HB2.out.size
        have HOZ := Lib.hid hoz
        have HBZ := Lib.hid (kept_below HB2.out hkz (fun k hk => (ho.lt k hk).1))
        clear hoz hkz ho
        go_wp2_with fail
        refine (power_0 _).mono ?_
        rintro e w' ⟨rfl, rfl⟩
        go_wp2
        go_roundw
        case rel =>
          refine ⟨0, by omega, rfl, ?_, HBZ.out⟩
          have := HOZ.out
          refine copy_own' (n0 := w.heap.size) (m := 4) ?_
          simpa [ints, four] using this
        case measure => simp [intOf]
      · obtain ⟨p, q, rfl, hq, ho⟩ := HC2.out
        have ho : wr.ownsRow w.heap.size 5 1 (.slice p 2 q) 2 (ints .u8 ((four n).take 2)) := ho
        obtain ⟨g, cap, wz, hrun, hoz, hkz⟩ := app_elem 22 5 1 (.int .u8 0) (.int .u8 (n / 256 % 256)) Tryd.underlying22 info_u8 rfl (by omega) rfl ho (by omega) HB2.out.size
        have HOZ := Lib.hid hoz
        have HBZ := Lib.hid (kept_below HB2.out hkz (fun k hk => (ho.lt k hk).1))
        clear hoz hkz ho
        go_wp2_with fail
        refine (power_1 _).mono ?_
        rintro e w' ⟨rfl, rfl⟩
        go_wp2
        go_roundw
        case rel =>
          refine ⟨1, by omega, rfl, ?_, HBZ.out⟩
          have := HOZ.out
          refine copy_own' (n0 := w.heap.size) (m := 3) ?_
          simpa [ints, four] using this
        case measure => simp [intOf]
      · obtain ⟨p, q, rfl, hq, ho⟩ := HC2.out
        have ho : wr.ownsRow w.heap.size 5 1 (.slice p 1 q) 1 (ints .u8 ((four n).take 1)) := ho
        obtain ⟨g, cap, wz, hrun, hoz, hkz⟩ := app_elem 22 5 1 (.int .u8 0) (.int .u8 (n / 65536 % 256)) Tryd.underlying22 info_u8 rfl (by omega) rfl ho (by omega) HB2.out.size
        have HOZ := Lib.hid hoz
        have HBZ := Lib.hid (kept_below HB2.out hkz (fun k hk => (ho.lt k hk).1))
        clear hoz hkz ho
        go_wp2_with fail
        refine (power_2 _).mono ?_
        rintro e w' ⟨rfl, rfl⟩
        go_wp2
        go_roundw
        case rel =>
          refine ⟨2, by omega, rfl, ?_, HBZ.out⟩
          have := HOZ.out
          refine copy_own' (n0 := w.heap.size) (m := 2) ?_
          simpa [ints, four] using this
        case measure => simp [intOf]
      · obtain ⟨p, q, rfl, hq, ho⟩ := HC2.out
        have ho : wr.ownsRow w.heap.size 5 1 (.slice p 0 q) 0 (ints .u8 ((four n).take 0)) := ho
        obtain ⟨g, cap, wz, hrun, hoz, hkz⟩ := app_elem 22 5 1 (.int .u8 0) (.int .u8 (n / 16777216 % 256)) Tryd.underlying22 info_u8 rfl (by omega) rfl ho (by omega) HB2.out.size
        have HOZ := Lib.hid hoz
        have HBZ := Lib.hid (kept_below HB2.out hkz (fun k hk => (ho.lt k hk).1))
        clear hoz hkz ho
        go_wp2_with fail
        refine (power_3 _).mono ?_
        rintro e w' ⟨rfl, rfl⟩
        go_wp2
        go_roundw
        case rel =>
          refine ⟨3, by omega, rfl, ?_, HBZ.out⟩
          have := HOZ.out
          refine copy_own' (n0 := w.heap.size) (m := 1) ?_
          simpa [ints, four] using this
        case measure => simp [intOf]

/-- One field's bytes. -/
def fieldT (n : Int) (ys : List Int) : List Int := bytesT n ++ (bytesT ys.length ++ ys)
theorem fieldT_len (n : Int) (ys : List Int) : (fieldT n ys).length ≤ ys.length + 16 := by
  have h1 := bytesT_len8 n
  have h2 := bytesT_len8 (ys.length : Int)
  simp only [fieldT, List.length_append]
  omega

theorem field_any (a b : Option Addr) (xs ys : List Int) (n : Int) (m k c d : Nat) (w : World) (hm : xs.length = m) (hk : ys.length = k) (h : Row w w.heap.size a (ints .u8 xs)) (h2 : Row w w.heap.size b (ints .u8 ys)) (hl : m ≤ 50000) (hl2 : k ≤ 50000) (hT : TabOk w) :
    Calls Tryd.prog 16 #[.slice a m c, .int .i64 n, .slice b k d] w fun e w' => ∃ v, e = .returned v ∧ IsCopy w.heap.size 5 .u8 (xs ++ fieldT n ys).length (xs ++ fieldT n ys) v w' ∧ Below w.heap.size w w' := by
  have HM := Lib.hid hm; clear hm
  have HK := Lib.hid hk; clear hk
  have HX := Lib.hid h; clear h
  have HY := Lib.hid h2; clear h2
  have HT := Lib.hid hT; clear hT
  have hlen : (xs ++ bytesT n).length ≤ m + 8 := by have := bytesT_len8 n; rw [List.length_append, HM.out]; omega
  go_enter Tryd.func16, Tryd.ntmps16
  go_wp2_with fail
  refine (append_any a xs m c n w HM.out HX.out (by omega) HT.out).mono ?_
  rintro e w1 ⟨v1, rfl, hc, hb⟩
  obtain ⟨L, hL⟩ : ∃ L, (xs ++ bytesT n).length = L := ⟨_, rfl⟩
  rw [hL] at hc hlen
  obtain ⟨p, q, rfl, hq, ho⟩ := hc
  have HL := Lib.hid hL
  have HR := Lib.hid (Row.of_own ho)
  have HB := Lib.hid hb
  clear hL ho hb
  go_wp2_with fail
  refine (give_any p b (xs ++ bytesT n) ys L k q d w1 HL.out HK.out HR.out ((HY.out.below HB.out).more HB.out.size) (by omega) (by omega) (HT.out.below HB.out)).mono ?_
  rintro e w2 ⟨v2, rfl, hc, hb⟩
  have e1 : xs ++ bytesT n ++ bytesT (k : Int) ++ ys = xs ++ fieldT n ys := by
    have := HK.out
    subst this
    simp [fieldT]
  rw [e1] at hc
  have HC := Lib.hid (hc.base (n1 := w.heap.size) HB.out.size)
  have HB2 := Lib.hid (HB.out.trans (hb.mono HB.out.size))
  clear hc hb e1
  go_wp2
  go_ret
  exact ⟨v2, rfl, HC.out, HB2.out⟩

theorem refField_any (b : Option Addr) (ys : List Int) (n : Int) (k d : Nat) (w : World) (hk : ys.length = k) (h2 : Row w w.heap.size b (ints .u8 ys)) (hl2 : k ≤ 50000) :
    Calls Tryd.prog 29 #[.int .i64 n, .slice b k d] w fun e w' => ∃ v, e = .returned v ∧ IsCopy w.heap.size 5 .u8 (fieldT n ys).length (fieldT n ys) v w' ∧ Below w.heap.size w w' := by
  have HK := Lib.hid hk; clear hk
  have HY := Lib.hid h2; clear h2
  have hlen := bytesT_len8 n
  have hlen2 : (bytesT (k : Int) ++ ys).length ≤ k + 8 := by have := bytesT_len8 (k : Int); rw [List.length_append, HK.out]; omega
  go_enter Tryd.func29, Tryd.ntmps29
  go_wp2_with fail
  refine (refBytes_any n w).mono ?_
  rintro e w1 ⟨v1, rfl, hc, hb⟩
  obtain ⟨L, hL⟩ : ∃ L, (bytesT n).length = L := ⟨_, rfl⟩
  rw [hL] at hc hlen
  obtain ⟨p, q, rfl, hq, ho⟩ := hc
  have HL := Lib.hid hL
  have HO := Lib.hid ho
  have HB := Lib.hid hb
  clear hL ho hb
  go_wp2_with fail
  refine (refGive_any b ys k d w1 HK.out ((HY.out.below HB.out).more HB.out.size) (by omega)).mono ?_
  rintro e w2 ⟨v2, rfl, hc, hb⟩
  obtain ⟨M, hM⟩ : ∃ M, (bytesT (k : Int) ++ ys).length = M := ⟨_, rfl⟩
  rw [hM] at hc hlen2
  obtain ⟨p2, q2, rfl, hq2, ho2⟩ := hc
  have hb2 := HB.out.trans (hb.mono HB.out.size)
  have hc1 : IsCopy w.heap.size 5 .u8 L (bytesT n) (.slice p L q) w2 := (copy_own' HO.out).below hb
  obtain ⟨v3, wz, hrun, hc3, hk3⟩ := app_copy (c := q2) Tryd.underlying22 info_u8 (by omega) hc1 hb2.size hM (Row.of_own ho2) (by omega)
  have HC3 := Lib.hid hc3
  have HBZ := Lib.hid (kept_below hb2 hk3 (fun k h => hc1.low k h))
  have HMM := Lib.hid hM
  clear hc3 hb2 hk3 hc1 ho2 hM hb
  go_wp2
  go_ret
  refine ⟨v3, rfl, ?_, HBZ.out⟩
  have e1 : fieldT n ys = bytesT n ++ (bytesT (k : Int) ++ ys) := by
    have := HK.out
    subst this
    rfl
  rw [e1, List.length_append, HL.out, HMM.out]
  exact HC3.out
end Go.Proofs.YtaplndehoenghaaDoor
