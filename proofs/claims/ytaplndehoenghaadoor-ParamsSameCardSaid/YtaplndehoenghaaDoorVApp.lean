/- varint.Append: a number's bytes behind others. (The four sizes are printed by wip/gen/mk_vapp.py.) -/
import Derived.Test.YtaplndehoenghaaDoorVInt
import Derived.Laws.BitsAllLaws
namespace Go.Proofs.YtaplndehoenghaaDoor
open Go.RowKit
set_option linter.unusedVariables false
attribute [local go_sem ↓] app_hide

/-- The first j of a number's s digits to 256. -/
def digs (v : Int) (s j : Nat) : List Int := (List.range j).map fun i => v / 256 ^ (s - 1 - i) % 256
theorem digs_len (v : Int) (s j : Nat) : (digs v s j).length = j := by simp [digs]
theorem digs_succ (v : Int) (s j : Nat) : digs v s (j + 1) = digs v s j ++ [v / 256 ^ (s - 1 - j) % 256] := by simp [digs, List.range_succ]
theorem digs_u8 (v : Int) (s j : Nat) : IsU8 (digs v s j) := by
  intro z hz
  simp only [digs, List.mem_map] at hz
  obtain ⟨i, _, rfl⟩ := hz
  omega

/-- What marks a size. -/
def markT (s : Int) : Int := if s = 2 then 16384 else if s = 4 then 2147483648 else if s = 8 then 13835058055282163712 else 0
/-- A number's bytes; none: it is none. -/
def bytesT (n : Int) : List Int := digs (n + markT (sizeT n)) (sizeT n).toNat (sizeT n).toNat

theorem bytesT_len (n : Int) : (bytesT n).length = (sizeT n).toNat := digs_len _ _ _
theorem sizeT_cases (n : Int) : (sizeT n = 0 ∧ (n < 0 ∨ 4611686018427387903 < n)) ∨ (sizeT n = 1 ∧ 0 ≤ n ∧ n < 64) ∨ (sizeT n = 2 ∧ 64 ≤ n ∧ n < 16384) ∨ (sizeT n = 4 ∧ 16384 ≤ n ∧ n < 1073741824) ∨ (sizeT n = 8 ∧ 1073741824 ≤ n ∧ n ≤ 4611686018427387903) := by
  unfold sizeT
  split
  · exact .inl ⟨rfl, by assumption⟩
  · split
    · exact .inr (.inl ⟨rfl, by omega, by assumption⟩)
    · split
      · exact .inr (.inr (.inl ⟨rfl, by omega, by assumption⟩))
      · split
        · exact .inr (.inr (.inr (.inl ⟨rfl, by omega, by assumption⟩)))
        · exact .inr (.inr (.inr (.inr ⟨rfl, by omega, by omega⟩)))
theorem bytesT_len8 (n : Int) : (bytesT n).length ≤ 8 := by
  rw [bytesT_len]
  rcases sizeT_cases n with ⟨h, _⟩ | ⟨h, _⟩ | ⟨h, _⟩ | ⟨h, _⟩ | ⟨h, _⟩ <;> rw [h] <;> decide
theorem bytesT_u8 (n : Int) : IsU8 (bytesT n) := digs_u8 _ _ _

theorem or_mark (k : Nat) (x y : Int) (hx : 0 ≤ x) (hy : 0 ≤ y) (hk : x < 2 ^ k) (hs : y * 2 ^ k < 18446744073709551616) (hx' : x < 18446744073709551616) : bits .or .u64 x (y * 2 ^ k) = x + y * 2 ^ k := by
  obtain ⟨a, rfl⟩ := Int.eq_ofNat_of_zero_le hx
  obtain ⟨b, rfl⟩ := Int.eq_ofNat_of_zero_le hy
  have h1 : ((b : Int) * 2 ^ k) = ((b * 2 ^ k : Nat) : Int) := by simp
  have h2 : a < 2 ^ k := by exact_mod_cast hk
  rw [h1] at hs ⊢
  rw [u64_or_nat _ _ (by omega) (by omega)]
  rw [Nat.mul_comm b, Nat.or_comm, ← Nat.two_pow_add_eq_or_of_lt h2]
  simp
  omega

theorem append_none (a : Option Addr) (xs : List Int) (m c : Nat) (n : Int) (w : World) (hm : xs.length = m) (h : Row w w.heap.size a (ints .u8 xs)) (hl : m ≤ 100000) (hz : sizeT n = 0) :
    Calls Tryd.prog 17 #[.slice a m c, .int .i64 n] w fun e w' => ∃ v, e = .returned v ∧ IsCopy w.heap.size 5 .u8 m xs v w' ∧ Below w.heap.size w w' := by
  have HZ := Lib.hid hz; clear hz
  have HM := Lib.hid hm; clear hm
  have HR := Lib.hid h; clear h
  go_enter Tryd.func17, Tryd.ntmps17
  go_wp2_with fail
  refine (clone_u8 a xs m c w HM.out HR.out (by omega)).mono ?_
  rintro e w1 ⟨v1, rfl, hc, hb⟩
  have HC := Lib.hid hc; clear hc
  have HB := Lib.hid hb; clear hb
  go_wp2_with fail
  refine (size_any n _).mono ?_
  rintro e w2 ⟨rfl, rfl⟩
  rw [HZ.out]
  go_wp2
  go_ret
  exact ⟨v1, rfl, HC.out, HB.out⟩

set_option maxRecDepth 100000 in
set_option maxHeartbeats 2000000 in
theorem append_1 (a : Option Addr) (xs : List Int) (m c : Nat) (n : Int) (w : World) (hm : xs.length = m) (h : Row w w.heap.size a (ints .u8 xs)) (hl : m ≤ 100000) (hT : TabOk w) (hz : sizeT n = 1) (n0 : 0 ≤ n) (n1 : n < 64) :
    Calls Tryd.prog 17 #[.slice a m c, .int .i64 n] w fun e w' => ∃ v, e = .returned v ∧ IsCopy w.heap.size 5 .u8 (m + 1) (xs ++ digs (n + 0) 1 1) v w' ∧ Below w.heap.size w w' := by
  have ho : bits .or .u64 n 0 = n + 0 := by have := or_mark 8 n 0 (by omega) (by omega) (by omega) (by omega) (by omega); simpa using this
  have hv0 : 0 ≤ n + 0 := by omega
  have hv1 : n + 0 < 18446744073709551616 := by omega
  obtain ⟨V, hV⟩ : ∃ V, n + 0 = V := ⟨_, rfl⟩
  rw [hV] at ho hv0 hv1 ⊢
  clear hV
  have HV1 := Lib.hid hv1; clear hv1
  have HO := Lib.hid ho; clear ho
  have HZ := Lib.hid hz; clear hz
  have HM := Lib.hid hm; clear hm
  have HR := Lib.hid h; clear h
  have HT := Lib.hid hT; clear hT
  go_enter Tryd.func17, Tryd.ntmps17
  go_wp2_with fail
  refine (clone_u8 a xs m c w HM.out HR.out (by omega)).mono ?_
  rintro e w1 ⟨v1, rfl, hc, hb⟩
  have HC := Lib.hid hc; clear hc
  have HB := Lib.hid hb; clear hb
  go_wp2_with fail
  refine (size_any n _).mono ?_
  rintro e w2 ⟨rfl, rfl⟩
  rw [HZ.out]
  go_wp2_with fail
  refine (tz_1 _ (HT.out.below HB.out)).mono ?_
  rintro e w2 ⟨rfl, rfl⟩
  have ho := HO.out
  go_wp2
  clear ho
  go_loopw [5, 9] (fun v i wr => ∃ k : Nat, k ≤ 1 ∧ i = .int .i64 ((k : Int) - 1) ∧ IsCopy w.heap.size 5 .u8 (m + (1 - k)) (xs ++ digs V 1 (1 - k)) v wr ∧ Below w.heap.size w wr) (fun _ i _ => (intOf i + 1).toNat)
  case atStart => exact ⟨1, Nat.le_refl _, rfl, by simpa [digs] using HC.out, HB.out⟩
  case round =>
    obtain ⟨k, hk, rfl, hc, hb⟩ := hrel
    have HC2 := Lib.hid hc; clear hc
    have HB2 := Lib.hid hb; clear hb
    obtain rfl | hk1 : k = 0 ∨ 1 ≤ k := by omega
    · go_wp2
      go_ret
      exact ⟨_, rfl, HC2.out, HB2.out⟩
    · obtain rfl : k = 1 := by omega
      · obtain ⟨p, q, rfl, hq, ho⟩ := HC2.out
        have ho : wr.ownsRow w.heap.size 5 1 (.slice p (m) q) (m) (ints .u8 (xs ++ digs V 1 0)) := ho
        obtain ⟨g, cap, wz, hrun, hoz, hkz⟩ := app_elem 22 5 1 (.int .u8 0) (.int .u8 (V % 256)) Tryd.underlying22 info_u8 rfl (by omega) rfl ho (by omega) HB2.out.size
        have HOZ := Lib.hid hoz
        have HBZ := Lib.hid (kept_below HB2.out hkz (fun k hk => (ho.lt k hk).1))
        clear hoz hkz ho
        go_wp2
        go_roundw
        case rel =>
          refine ⟨0, by omega, rfl, ?_, HBZ.out⟩
          have e : digs V 1 1 = digs V 1 0 ++ [V / 1 % 256] := digs_succ V 1 0
          have := HOZ.out
          refine copy_own' (n0 := w.heap.size) (m := m + 1) ?_
          show wz.ownsRow _ _ _ _ _ (ints .u8 (xs ++ digs V 1 1))
          rw [e, ← List.append_assoc, ← ints_append]
          simpa [ints] using this
        case measure => simp [intOf]

set_option maxRecDepth 100000 in
set_option maxHeartbeats 2000000 in
theorem append_2 (a : Option Addr) (xs : List Int) (m c : Nat) (n : Int) (w : World) (hm : xs.length = m) (h : Row w w.heap.size a (ints .u8 xs)) (hl : m ≤ 100000) (hT : TabOk w) (hz : sizeT n = 2) (n0 : 64 ≤ n) (n1 : n < 16384) :
    Calls Tryd.prog 17 #[.slice a m c, .int .i64 n] w fun e w' => ∃ v, e = .returned v ∧ IsCopy w.heap.size 5 .u8 (m + 2) (xs ++ digs (n + 16384) 2 2) v w' ∧ Below w.heap.size w w' := by
  have ho : bits .or .u64 n 16384 = n + 16384 := or_mark 14 n 1 (by omega) (by omega) (by omega) (by omega) (by omega)
  have hv0 : 0 ≤ n + 16384 := by omega
  have hv1 : n + 16384 < 18446744073709551616 := by omega
  obtain ⟨V, hV⟩ : ∃ V, n + 16384 = V := ⟨_, rfl⟩
  rw [hV] at ho hv0 hv1 ⊢
  clear hV
  have HV1 := Lib.hid hv1; clear hv1
  have HO := Lib.hid ho; clear ho
  have HZ := Lib.hid hz; clear hz
  have HM := Lib.hid hm; clear hm
  have HR := Lib.hid h; clear h
  have HT := Lib.hid hT; clear hT
  go_enter Tryd.func17, Tryd.ntmps17
  go_wp2_with fail
  refine (clone_u8 a xs m c w HM.out HR.out (by omega)).mono ?_
  rintro e w1 ⟨v1, rfl, hc, hb⟩
  have HC := Lib.hid hc; clear hc
  have HB := Lib.hid hb; clear hb
  go_wp2_with fail
  refine (size_any n _).mono ?_
  rintro e w2 ⟨rfl, rfl⟩
  rw [HZ.out]
  go_wp2_with fail
  refine (tz_2 _ (HT.out.below HB.out)).mono ?_
  rintro e w2 ⟨rfl, rfl⟩
  have ho := HO.out
  go_wp2
  clear ho
  go_loopw [5, 9] (fun v i wr => ∃ k : Nat, k ≤ 2 ∧ i = .int .i64 ((k : Int) - 1) ∧ IsCopy w.heap.size 5 .u8 (m + (2 - k)) (xs ++ digs V 2 (2 - k)) v wr ∧ Below w.heap.size w wr) (fun _ i _ => (intOf i + 1).toNat)
  case atStart => exact ⟨2, Nat.le_refl _, rfl, by simpa [digs] using HC.out, HB.out⟩
  case round =>
    obtain ⟨k, hk, rfl, hc, hb⟩ := hrel
    have HC2 := Lib.hid hc; clear hc
    have HB2 := Lib.hid hb; clear hb
    obtain rfl | hk1 : k = 0 ∨ 1 ≤ k := by omega
    · go_wp2
      go_ret
      exact ⟨_, rfl, HC2.out, HB2.out⟩
    · obtain rfl | rfl : k = 1 ∨ k = 2 := by omega
      · obtain ⟨p, q, rfl, hq, ho⟩ := HC2.out
        have ho : wr.ownsRow w.heap.size 5 1 (.slice p (m + 1) q) (m + 1) (ints .u8 (xs ++ digs V 2 1)) := ho
        obtain ⟨g, cap, wz, hrun, hoz, hkz⟩ := app_elem 22 5 1 (.int .u8 0) (.int .u8 (V % 256)) Tryd.underlying22 info_u8 rfl (by omega) rfl ho (by omega) HB2.out.size
        have HOZ := Lib.hid hoz
        have HBZ := Lib.hid (kept_below HB2.out hkz (fun k hk => (ho.lt k hk).1))
        clear hoz hkz ho
        go_wp2
        go_roundw
        case rel =>
          refine ⟨0, by omega, rfl, ?_, HBZ.out⟩
          have e : digs V 2 2 = digs V 2 1 ++ [V / 1 % 256] := digs_succ V 2 1
          have := HOZ.out
          refine copy_own' (n0 := w.heap.size) (m := m + 2) ?_
          show wz.ownsRow _ _ _ _ _ (ints .u8 (xs ++ digs V 2 2))
          rw [e, ← List.append_assoc, ← ints_append]
          simpa [ints] using this
        case measure => simp [intOf]
      · obtain ⟨p, q, rfl, hq, ho⟩ := HC2.out
        have ho : wr.ownsRow w.heap.size 5 1 (.slice p (m) q) (m) (ints .u8 (xs ++ digs V 2 0)) := ho
        obtain ⟨g, cap, wz, hrun, hoz, hkz⟩ := app_elem 22 5 1 (.int .u8 0) (.int .u8 (V / 256 % 256)) Tryd.underlying22 info_u8 rfl (by omega) rfl ho (by omega) HB2.out.size
        have HOZ := Lib.hid hoz
        have HBZ := Lib.hid (kept_below HB2.out hkz (fun k hk => (ho.lt k hk).1))
        clear hoz hkz ho
        go_wp2
        go_roundw
        case rel =>
          refine ⟨1, by omega, rfl, ?_, HBZ.out⟩
          have e : digs V 2 1 = digs V 2 0 ++ [V / 256 % 256] := digs_succ V 2 0
          have := HOZ.out
          refine copy_own' (n0 := w.heap.size) (m := m + 1) ?_
          show wz.ownsRow _ _ _ _ _ (ints .u8 (xs ++ digs V 2 1))
          rw [e, ← List.append_assoc, ← ints_append]
          simpa [ints] using this
        case measure => simp [intOf]

set_option maxRecDepth 100000 in
set_option maxHeartbeats 2000000 in
theorem append_4 (a : Option Addr) (xs : List Int) (m c : Nat) (n : Int) (w : World) (hm : xs.length = m) (h : Row w w.heap.size a (ints .u8 xs)) (hl : m ≤ 100000) (hT : TabOk w) (hz : sizeT n = 4) (n0 : 16384 ≤ n) (n1 : n < 1073741824) :
    Calls Tryd.prog 17 #[.slice a m c, .int .i64 n] w fun e w' => ∃ v, e = .returned v ∧ IsCopy w.heap.size 5 .u8 (m + 4) (xs ++ digs (n + 2147483648) 4 4) v w' ∧ Below w.heap.size w w' := by
  have ho : bits .or .u64 n 2147483648 = n + 2147483648 := or_mark 30 n 2 (by omega) (by omega) (by omega) (by omega) (by omega)
  have hv0 : 0 ≤ n + 2147483648 := by omega
  have hv1 : n + 2147483648 < 18446744073709551616 := by omega
  obtain ⟨V, hV⟩ : ∃ V, n + 2147483648 = V := ⟨_, rfl⟩
  rw [hV] at ho hv0 hv1 ⊢
  clear hV
  have HV1 := Lib.hid hv1; clear hv1
  have HO := Lib.hid ho; clear ho
  have HZ := Lib.hid hz; clear hz
  have HM := Lib.hid hm; clear hm
  have HR := Lib.hid h; clear h
  have HT := Lib.hid hT; clear hT
  go_enter Tryd.func17, Tryd.ntmps17
  go_wp2_with fail
  refine (clone_u8 a xs m c w HM.out HR.out (by omega)).mono ?_
  rintro e w1 ⟨v1, rfl, hc, hb⟩
  have HC := Lib.hid hc; clear hc
  have HB := Lib.hid hb; clear hb
  go_wp2_with fail
  refine (size_any n _).mono ?_
  rintro e w2 ⟨rfl, rfl⟩
  rw [HZ.out]
  go_wp2_with fail
  refine (tz_4 _ (HT.out.below HB.out)).mono ?_
  rintro e w2 ⟨rfl, rfl⟩
  have ho := HO.out
  go_wp2
  clear ho
  go_loopw [5, 9] (fun v i wr => ∃ k : Nat, k ≤ 4 ∧ i = .int .i64 ((k : Int) - 1) ∧ IsCopy w.heap.size 5 .u8 (m + (4 - k)) (xs ++ digs V 4 (4 - k)) v wr ∧ Below w.heap.size w wr) (fun _ i _ => (intOf i + 1).toNat)
  case atStart => exact ⟨4, Nat.le_refl _, rfl, by simpa [digs] using HC.out, HB.out⟩
  case round =>
    obtain ⟨k, hk, rfl, hc, hb⟩ := hrel
    have HC2 := Lib.hid hc; clear hc
    have HB2 := Lib.hid hb; clear hb
    obtain rfl | hk1 : k = 0 ∨ 1 ≤ k := by omega
    · go_wp2
      go_ret
      exact ⟨_, rfl, HC2.out, HB2.out⟩
    · obtain rfl | rfl | rfl | rfl : k = 1 ∨ k = 2 ∨ k = 3 ∨ k = 4 := by omega
      · obtain ⟨p, q, rfl, hq, ho⟩ := HC2.out
        have ho : wr.ownsRow w.heap.size 5 1 (.slice p (m + 3) q) (m + 3) (ints .u8 (xs ++ digs V 4 3)) := ho
        obtain ⟨g, cap, wz, hrun, hoz, hkz⟩ := app_elem 22 5 1 (.int .u8 0) (.int .u8 (V % 256)) Tryd.underlying22 info_u8 rfl (by omega) rfl ho (by omega) HB2.out.size
        have HOZ := Lib.hid hoz
        have HBZ := Lib.hid (kept_below HB2.out hkz (fun k hk => (ho.lt k hk).1))
        clear hoz hkz ho
        go_wp2
        go_roundw
        case rel =>
          refine ⟨0, by omega, rfl, ?_, HBZ.out⟩
          have e : digs V 4 4 = digs V 4 3 ++ [V / 1 % 256] := digs_succ V 4 3
          have := HOZ.out
          refine copy_own' (n0 := w.heap.size) (m := m + 4) ?_
          show wz.ownsRow _ _ _ _ _ (ints .u8 (xs ++ digs V 4 4))
          rw [e, ← List.append_assoc, ← ints_append]
          simpa [ints] using this
        case measure => simp [intOf]
      · obtain ⟨p, q, rfl, hq, ho⟩ := HC2.out
        have ho : wr.ownsRow w.heap.size 5 1 (.slice p (m + 2) q) (m + 2) (ints .u8 (xs ++ digs V 4 2)) := ho
        obtain ⟨g, cap, wz, hrun, hoz, hkz⟩ := app_elem 22 5 1 (.int .u8 0) (.int .u8 (V / 256 % 256)) Tryd.underlying22 info_u8 rfl (by omega) rfl ho (by omega) HB2.out.size
        have HOZ := Lib.hid hoz
        have HBZ := Lib.hid (kept_below HB2.out hkz (fun k hk => (ho.lt k hk).1))
        clear hoz hkz ho
        go_wp2
        go_roundw
        case rel =>
          refine ⟨1, by omega, rfl, ?_, HBZ.out⟩
          have e : digs V 4 3 = digs V 4 2 ++ [V / 256 % 256] := digs_succ V 4 2
          have := HOZ.out
          refine copy_own' (n0 := w.heap.size) (m := m + 3) ?_
          show wz.ownsRow _ _ _ _ _ (ints .u8 (xs ++ digs V 4 3))
          rw [e, ← List.append_assoc, ← ints_append]
          simpa [ints] using this
        case measure => simp [intOf]
      · obtain ⟨p, q, rfl, hq, ho⟩ := HC2.out
        have ho : wr.ownsRow w.heap.size 5 1 (.slice p (m + 1) q) (m + 1) (ints .u8 (xs ++ digs V 4 1)) := ho
        obtain ⟨g, cap, wz, hrun, hoz, hkz⟩ := app_elem 22 5 1 (.int .u8 0) (.int .u8 (V / 65536 % 256)) Tryd.underlying22 info_u8 rfl (by omega) rfl ho (by omega) HB2.out.size
        have HOZ := Lib.hid hoz
        have HBZ := Lib.hid (kept_below HB2.out hkz (fun k hk => (ho.lt k hk).1))
        clear hoz hkz ho
        go_wp2
        go_roundw
        case rel =>
          refine ⟨2, by omega, rfl, ?_, HBZ.out⟩
          have e : digs V 4 2 = digs V 4 1 ++ [V / 65536 % 256] := digs_succ V 4 1
          have := HOZ.out
          refine copy_own' (n0 := w.heap.size) (m := m + 2) ?_
          show wz.ownsRow _ _ _ _ _ (ints .u8 (xs ++ digs V 4 2))
          rw [e, ← List.append_assoc, ← ints_append]
          simpa [ints] using this
        case measure => simp [intOf]
      · obtain ⟨p, q, rfl, hq, ho⟩ := HC2.out
        have ho : wr.ownsRow w.heap.size 5 1 (.slice p (m) q) (m) (ints .u8 (xs ++ digs V 4 0)) := ho
        obtain ⟨g, cap, wz, hrun, hoz, hkz⟩ := app_elem 22 5 1 (.int .u8 0) (.int .u8 (V / 16777216 % 256)) Tryd.underlying22 info_u8 rfl (by omega) rfl ho (by omega) HB2.out.size
        have HOZ := Lib.hid hoz
        have HBZ := Lib.hid (kept_below HB2.out hkz (fun k hk => (ho.lt k hk).1))
        clear hoz hkz ho
        go_wp2
        go_roundw
        case rel =>
          refine ⟨3, by omega, rfl, ?_, HBZ.out⟩
          have e : digs V 4 1 = digs V 4 0 ++ [V / 16777216 % 256] := digs_succ V 4 0
          have := HOZ.out
          refine copy_own' (n0 := w.heap.size) (m := m + 1) ?_
          show wz.ownsRow _ _ _ _ _ (ints .u8 (xs ++ digs V 4 1))
          rw [e, ← List.append_assoc, ← ints_append]
          simpa [ints] using this
        case measure => simp [intOf]

set_option maxRecDepth 100000 in
set_option maxHeartbeats 2000000 in
theorem append_8 (a : Option Addr) (xs : List Int) (m c : Nat) (n : Int) (w : World) (hm : xs.length = m) (h : Row w w.heap.size a (ints .u8 xs)) (hl : m ≤ 100000) (hT : TabOk w) (hz : sizeT n = 8) (n0 : 1073741824 ≤ n) (n1 : n < 4611686018427387904) :
    Calls Tryd.prog 17 #[.slice a m c, .int .i64 n] w fun e w' => ∃ v, e = .returned v ∧ IsCopy w.heap.size 5 .u8 (m + 8) (xs ++ digs (n + 13835058055282163712) 8 8) v w' ∧ Below w.heap.size w w' := by
  have ho : bits .or .u64 n 13835058055282163712 = n + 13835058055282163712 := or_mark 62 n 3 (by omega) (by omega) (by omega) (by omega) (by omega)
  have hv0 : 0 ≤ n + 13835058055282163712 := by omega
  have hv1 : n + 13835058055282163712 < 18446744073709551616 := by omega
  obtain ⟨V, hV⟩ : ∃ V, n + 13835058055282163712 = V := ⟨_, rfl⟩
  rw [hV] at ho hv0 hv1 ⊢
  clear hV
  have HV1 := Lib.hid hv1; clear hv1
  have HO := Lib.hid ho; clear ho
  have HZ := Lib.hid hz; clear hz
  have HM := Lib.hid hm; clear hm
  have HR := Lib.hid h; clear h
  have HT := Lib.hid hT; clear hT
  go_enter Tryd.func17, Tryd.ntmps17
  go_wp2_with fail
  refine (clone_u8 a xs m c w HM.out HR.out (by omega)).mono ?_
  rintro e w1 ⟨v1, rfl, hc, hb⟩
  have HC := Lib.hid hc; clear hc
  have HB := Lib.hid hb; clear hb
  go_wp2_with fail
  refine (size_any n _).mono ?_
  rintro e w2 ⟨rfl, rfl⟩
  rw [HZ.out]
  go_wp2_with fail
  refine (tz_8 _ (HT.out.below HB.out)).mono ?_
  rintro e w2 ⟨rfl, rfl⟩
  have ho := HO.out
  go_wp2
  clear ho
  go_loopw [5, 9] (fun v i wr => ∃ k : Nat, k ≤ 8 ∧ i = .int .i64 ((k : Int) - 1) ∧ IsCopy w.heap.size 5 .u8 (m + (8 - k)) (xs ++ digs V 8 (8 - k)) v wr ∧ Below w.heap.size w wr) (fun _ i _ => (intOf i + 1).toNat)
  case atStart => exact ⟨8, Nat.le_refl _, rfl, by simpa [digs] using HC.out, HB.out⟩
  case round =>
    obtain ⟨k, hk, rfl, hc, hb⟩ := hrel
    have HC2 := Lib.hid hc; clear hc
    have HB2 := Lib.hid hb; clear hb
    obtain rfl | hk1 : k = 0 ∨ 1 ≤ k := by omega
    · go_wp2
      go_ret
      exact ⟨_, rfl, HC2.out, HB2.out⟩
    · obtain rfl | rfl | rfl | rfl | rfl | rfl | rfl | rfl : k = 1 ∨ k = 2 ∨ k = 3 ∨ k = 4 ∨ k = 5 ∨ k = 6 ∨ k = 7 ∨ k = 8 := by omega
      · obtain ⟨p, q, rfl, hq, ho⟩ := HC2.out
        have ho : wr.ownsRow w.heap.size 5 1 (.slice p (m + 7) q) (m + 7) (ints .u8 (xs ++ digs V 8 7)) := ho
        obtain ⟨g, cap, wz, hrun, hoz, hkz⟩ := app_elem 22 5 1 (.int .u8 0) (.int .u8 (V % 256)) Tryd.underlying22 info_u8 rfl (by omega) rfl ho (by omega) HB2.out.size
        have HOZ := Lib.hid hoz
        have HBZ := Lib.hid (kept_below HB2.out hkz (fun k hk => (ho.lt k hk).1))
        clear hoz hkz ho
        go_wp2
        go_roundw
        case rel =>
          refine ⟨0, by omega, rfl, ?_, HBZ.out⟩
          have e : digs V 8 8 = digs V 8 7 ++ [V / 1 % 256] := digs_succ V 8 7
          have := HOZ.out
          refine copy_own' (n0 := w.heap.size) (m := m + 8) ?_
          show wz.ownsRow _ _ _ _ _ (ints .u8 (xs ++ digs V 8 8))
          rw [e, ← List.append_assoc, ← ints_append]
          simpa [ints] using this
        case measure => simp [intOf]
      · obtain ⟨p, q, rfl, hq, ho⟩ := HC2.out
        have ho : wr.ownsRow w.heap.size 5 1 (.slice p (m + 6) q) (m + 6) (ints .u8 (xs ++ digs V 8 6)) := ho
        obtain ⟨g, cap, wz, hrun, hoz, hkz⟩ := app_elem 22 5 1 (.int .u8 0) (.int .u8 (V / 256 % 256)) Tryd.underlying22 info_u8 rfl (by omega) rfl ho (by omega) HB2.out.size
        have HOZ := Lib.hid hoz
        have HBZ := Lib.hid (kept_below HB2.out hkz (fun k hk => (ho.lt k hk).1))
        clear hoz hkz ho
        go_wp2
        go_roundw
        case rel =>
          refine ⟨1, by omega, rfl, ?_, HBZ.out⟩
          have e : digs V 8 7 = digs V 8 6 ++ [V / 256 % 256] := digs_succ V 8 6
          have := HOZ.out
          refine copy_own' (n0 := w.heap.size) (m := m + 7) ?_
          show wz.ownsRow _ _ _ _ _ (ints .u8 (xs ++ digs V 8 7))
          rw [e, ← List.append_assoc, ← ints_append]
          simpa [ints] using this
        case measure => simp [intOf]
      · obtain ⟨p, q, rfl, hq, ho⟩ := HC2.out
        have ho : wr.ownsRow w.heap.size 5 1 (.slice p (m + 5) q) (m + 5) (ints .u8 (xs ++ digs V 8 5)) := ho
        obtain ⟨g, cap, wz, hrun, hoz, hkz⟩ := app_elem 22 5 1 (.int .u8 0) (.int .u8 (V / 65536 % 256)) Tryd.underlying22 info_u8 rfl (by omega) rfl ho (by omega) HB2.out.size
        have HOZ := Lib.hid hoz
        have HBZ := Lib.hid (kept_below HB2.out hkz (fun k hk => (ho.lt k hk).1))
        clear hoz hkz ho
        go_wp2
        go_roundw
        case rel =>
          refine ⟨2, by omega, rfl, ?_, HBZ.out⟩
          have e : digs V 8 6 = digs V 8 5 ++ [V / 65536 % 256] := digs_succ V 8 5
          have := HOZ.out
          refine copy_own' (n0 := w.heap.size) (m := m + 6) ?_
          show wz.ownsRow _ _ _ _ _ (ints .u8 (xs ++ digs V 8 6))
          rw [e, ← List.append_assoc, ← ints_append]
          simpa [ints] using this
        case measure => simp [intOf]
      · obtain ⟨p, q, rfl, hq, ho⟩ := HC2.out
        have ho : wr.ownsRow w.heap.size 5 1 (.slice p (m + 4) q) (m + 4) (ints .u8 (xs ++ digs V 8 4)) := ho
        obtain ⟨g, cap, wz, hrun, hoz, hkz⟩ := app_elem 22 5 1 (.int .u8 0) (.int .u8 (V / 16777216 % 256)) Tryd.underlying22 info_u8 rfl (by omega) rfl ho (by omega) HB2.out.size
        have HOZ := Lib.hid hoz
        have HBZ := Lib.hid (kept_below HB2.out hkz (fun k hk => (ho.lt k hk).1))
        clear hoz hkz ho
        go_wp2
        go_roundw
        case rel =>
          refine ⟨3, by omega, rfl, ?_, HBZ.out⟩
          have e : digs V 8 5 = digs V 8 4 ++ [V / 16777216 % 256] := digs_succ V 8 4
          have := HOZ.out
          refine copy_own' (n0 := w.heap.size) (m := m + 5) ?_
          show wz.ownsRow _ _ _ _ _ (ints .u8 (xs ++ digs V 8 5))
          rw [e, ← List.append_assoc, ← ints_append]
          simpa [ints] using this
        case measure => simp [intOf]
      · obtain ⟨p, q, rfl, hq, ho⟩ := HC2.out
        have ho : wr.ownsRow w.heap.size 5 1 (.slice p (m + 3) q) (m + 3) (ints .u8 (xs ++ digs V 8 3)) := ho
        obtain ⟨g, cap, wz, hrun, hoz, hkz⟩ := app_elem 22 5 1 (.int .u8 0) (.int .u8 (V / 4294967296 % 256)) Tryd.underlying22 info_u8 rfl (by omega) rfl ho (by omega) HB2.out.size
        have HOZ := Lib.hid hoz
        have HBZ := Lib.hid (kept_below HB2.out hkz (fun k hk => (ho.lt k hk).1))
        clear hoz hkz ho
        go_wp2
        go_roundw
        case rel =>
          refine ⟨4, by omega, rfl, ?_, HBZ.out⟩
          have e : digs V 8 4 = digs V 8 3 ++ [V / 4294967296 % 256] := digs_succ V 8 3
          have := HOZ.out
          refine copy_own' (n0 := w.heap.size) (m := m + 4) ?_
          show wz.ownsRow _ _ _ _ _ (ints .u8 (xs ++ digs V 8 4))
          rw [e, ← List.append_assoc, ← ints_append]
          simpa [ints] using this
        case measure => simp [intOf]
      · obtain ⟨p, q, rfl, hq, ho⟩ := HC2.out
        have ho : wr.ownsRow w.heap.size 5 1 (.slice p (m + 2) q) (m + 2) (ints .u8 (xs ++ digs V 8 2)) := ho
        obtain ⟨g, cap, wz, hrun, hoz, hkz⟩ := app_elem 22 5 1 (.int .u8 0) (.int .u8 (V / 1099511627776 % 256)) Tryd.underlying22 info_u8 rfl (by omega) rfl ho (by omega) HB2.out.size
        have HOZ := Lib.hid hoz
        have HBZ := Lib.hid (kept_below HB2.out hkz (fun k hk => (ho.lt k hk).1))
        clear hoz hkz ho
        go_wp2
        go_roundw
        case rel =>
          refine ⟨5, by omega, rfl, ?_, HBZ.out⟩
          have e : digs V 8 3 = digs V 8 2 ++ [V / 1099511627776 % 256] := digs_succ V 8 2
          have := HOZ.out
          refine copy_own' (n0 := w.heap.size) (m := m + 3) ?_
          show wz.ownsRow _ _ _ _ _ (ints .u8 (xs ++ digs V 8 3))
          rw [e, ← List.append_assoc, ← ints_append]
          simpa [ints] using this
        case measure => simp [intOf]
      · obtain ⟨p, q, rfl, hq, ho⟩ := HC2.out
        have ho : wr.ownsRow w.heap.size 5 1 (.slice p (m + 1) q) (m + 1) (ints .u8 (xs ++ digs V 8 1)) := ho
        obtain ⟨g, cap, wz, hrun, hoz, hkz⟩ := app_elem 22 5 1 (.int .u8 0) (.int .u8 (V / 281474976710656 % 256)) Tryd.underlying22 info_u8 rfl (by omega) rfl ho (by omega) HB2.out.size
        have HOZ := Lib.hid hoz
        have HBZ := Lib.hid (kept_below HB2.out hkz (fun k hk => (ho.lt k hk).1))
        clear hoz hkz ho
        go_wp2
        go_roundw
        case rel =>
          refine ⟨6, by omega, rfl, ?_, HBZ.out⟩
          have e : digs V 8 2 = digs V 8 1 ++ [V / 281474976710656 % 256] := digs_succ V 8 1
          have := HOZ.out
          refine copy_own' (n0 := w.heap.size) (m := m + 2) ?_
          show wz.ownsRow _ _ _ _ _ (ints .u8 (xs ++ digs V 8 2))
          rw [e, ← List.append_assoc, ← ints_append]
          simpa [ints] using this
        case measure => simp [intOf]
      · obtain ⟨p, q, rfl, hq, ho⟩ := HC2.out
        have ho : wr.ownsRow w.heap.size 5 1 (.slice p (m) q) (m) (ints .u8 (xs ++ digs V 8 0)) := ho
        obtain ⟨g, cap, wz, hrun, hoz, hkz⟩ := app_elem 22 5 1 (.int .u8 0) (.int .u8 (V / 72057594037927936 % 256)) Tryd.underlying22 info_u8 rfl (by omega) rfl ho (by omega) HB2.out.size
        have HOZ := Lib.hid hoz
        have HBZ := Lib.hid (kept_below HB2.out hkz (fun k hk => (ho.lt k hk).1))
        clear hoz hkz ho
        go_wp2
        go_roundw
        case rel =>
          refine ⟨7, by omega, rfl, ?_, HBZ.out⟩
          have e : digs V 8 1 = digs V 8 0 ++ [V / 72057594037927936 % 256] := digs_succ V 8 0
          have := HOZ.out
          refine copy_own' (n0 := w.heap.size) (m := m + 1) ?_
          show wz.ownsRow _ _ _ _ _ (ints .u8 (xs ++ digs V 8 1))
          rw [e, ← List.append_assoc, ← ints_append]
          simpa [ints] using this
        case measure => simp [intOf]
end Go.Proofs.YtaplndehoenghaaDoor
