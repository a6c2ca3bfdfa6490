/- The reference's numbers of one to eight bytes; Append and Give of any number. (The sizes are printed by wip/gen/mk_vref.py.) -/
import Derived.Test.YtaplndehoenghaaDoorVApp
namespace Go.Proofs.YtaplndehoenghaaDoor
open Go.RowKit
set_option linter.unusedVariables false
attribute [local go_sem ↓] app_hide

theorem append_any (a : Option Addr) (xs : List Int) (m c : Nat) (n : Int) (w : World) (hm : xs.length = m) (h : Row w w.heap.size a (ints .u8 xs)) (hl : m ≤ 100000) (hT : TabOk w) :
    Calls Tryd.prog 17 #[.slice a m c, .int .i64 n] w fun e w' => ∃ v, e = .returned v ∧ IsCopy w.heap.size 5 .u8 (xs ++ bytesT n).length (xs ++ bytesT n) v w' ∧ Below w.heap.size w w' := by
  rcases sizeT_cases n with ⟨hz, hn⟩ | ⟨hz, h0, h1⟩ | ⟨hz, h0, h1⟩ | ⟨hz, h0, h1⟩ | ⟨hz, h0, h1⟩
  · have e : bytesT n = [] := by unfold bytesT; rw [hz]; rfl
    rw [e, List.append_nil, hm]
    exact append_none a xs m c n w hm h hl hz
  · have e : bytesT n = digs (n + 0) 1 1 := by unfold bytesT; rw [hz]; rfl
    rw [e, List.length_append, hm, digs_len]
    exact append_1 a xs m c n w hm h hl hT hz (by omega) (by omega)
  · have e : bytesT n = digs (n + 16384) 2 2 := by unfold bytesT; rw [hz]; rfl
    rw [e, List.length_append, hm, digs_len]
    exact append_2 a xs m c n w hm h hl hT hz (by omega) (by omega)
  · have e : bytesT n = digs (n + 2147483648) 4 4 := by unfold bytesT; rw [hz]; rfl
    rw [e, List.length_append, hm, digs_len]
    exact append_4 a xs m c n w hm h hl hT hz (by omega) (by omega)
  · have e : bytesT n = digs (n + 13835058055282163712) 8 8 := by unfold bytesT; rw [hz]; rfl
    rw [e, List.length_append, hm, digs_len]
    exact append_8 a xs m c n w hm h hl hT hz (by omega) (by omega)

theorem give_any (a b : Option Addr) (xs ys : List Int) (m k c d : Nat) (w : World) (hm : xs.length = m) (hk : ys.length = k) (h : Row w w.heap.size a (ints .u8 xs)) (h2 : Row w w.heap.size b (ints .u8 ys)) (hl : m ≤ 100000) (hl2 : k ≤ 100000) (hT : TabOk w) :
    Calls Tryd.prog 34 #[.slice a m c, .slice b k d] w fun e w' => ∃ v, e = .returned v ∧ IsCopy w.heap.size 5 .u8 (xs ++ bytesT k ++ ys).length (xs ++ bytesT k ++ ys) v w' ∧ Below w.heap.size w w' := by
  have HM := Lib.hid hm; clear hm
  have HK := Lib.hid hk; clear hk
  have HX := Lib.hid h; clear h
  have HY := Lib.hid h2; clear h2
  have HT := Lib.hid hT; clear hT
  have hlen : (xs ++ bytesT (k : Int)).length ≤ m + 8 := by have := bytesT_len8 (k : Int); rw [List.length_append, HM.out]; omega
  go_enter Tryd.func34, Tryd.ntmps34
  go_wp2_with fail
  refine (append_any a xs m c k w HM.out HX.out hl HT.out).mono ?_
  rintro e w1 ⟨v1, rfl, hc, hb⟩
  obtain ⟨L, hL⟩ : ∃ L, (xs ++ bytesT (k : Int)).length = L := ⟨_, rfl⟩
  rw [hL] at hc hlen
  have hy := (HY.out.below hb)
  obtain ⟨v2, wz, hrun, hc2, hk2⟩ := app_copy (c := d) Tryd.underlying22 info_u8 (by omega) hc hb.size HK.out hy (by omega)
  have HC2 := Lib.hid hc2
  have HBZ := Lib.hid (kept_below hb hk2 (fun k h => hc.low k h))
  have HL := Lib.hid hL
  clear hL hy hc2 hk2 hc hb
  go_wp2
  go_ret
  refine ⟨v2, rfl, ?_, HBZ.out⟩
  rw [List.length_append, HL.out, HK.out]
  exact HC2.out

theorem refSize_any (n : Int) (w : World) : Calls Tryd.prog 19 #[.int .i64 n] w fun e w' => e = .returned (.int .i64 (sizeT n)) ∧ w = w' := by
  by_cases h0 : n < 0
  · have e : sizeT n = 0 := by unfold sizeT; rw [if_pos (.inl h0)]
    rw [e]
    go_enter Tryd.func19, Tryd.ntmps19
    go_wp2
    go_ret
    exact ⟨rfl, rfl⟩
  by_cases h1 : 4611686018427387903 < n
  · have e : sizeT n = 0 := by unfold sizeT; rw [if_pos (.inr h1)]
    rw [e]
    have d0 : decide (n < 0) = false := by simp; omega
    clear e
    go_enter Tryd.func19, Tryd.ntmps19
    go_wp2
    go_ret
    exact ⟨rfl, rfl⟩
  have e0 : sizeT n = if n < 64 then 1 else if n < 16384 then 2 else if n < 1073741824 then 4 else 8 := by unfold sizeT; rw [if_neg (by omega)]
  rw [e0]
  clear e0
  by_cases h2 : n < 64
  · rw [if_pos h2]
    go_enter Tryd.func19, Tryd.ntmps19
    go_wp2
    go_ret
    exact ⟨rfl, rfl⟩
  rw [if_neg h2]
  by_cases h3 : n < 16384
  · rw [if_pos h3]
    go_enter Tryd.func19, Tryd.ntmps19
    go_wp2
    go_ret
    exact ⟨rfl, rfl⟩
  rw [if_neg h3]
  by_cases h4 : n < 1073741824
  · rw [if_pos h4]
    go_enter Tryd.func19, Tryd.ntmps19
    go_wp2
    go_ret
    exact ⟨rfl, rfl⟩
  rw [if_neg h4]
  go_enter Tryd.func19, Tryd.ntmps19
  go_wp2
  go_ret
  exact ⟨rfl, rfl⟩

theorem zeros_snoc (j : Nat) : List.replicate (j + 1) (0 : Int) = List.replicate j 0 ++ [0] := by rw [List.replicate_succ']
/-- The last digits have been written, down to the k-th. -/
def lastD (n : Int) (s k : Nat) : List Int := List.replicate k 0 ++ (digs n s s).drop k
theorem lastD_len (n : Int) (s k : Nat) (h : k ≤ s) : (lastD n s k).length = s := by simp [lastD, digs_len]; omega
theorem lastD_set (n : Int) (s k : Nat) (h : k < s) : (lastD n s (k + 1)).set k (n / 256 ^ (s - 1 - k) % 256) = lastD n s k := by
  have e : (digs n s s).drop k = (n / 256 ^ (s - 1 - k) % 256) :: (digs n s s).drop (k + 1) := by
    rw [List.drop_eq_getElem_cons (by rw [digs_len]; exact h)]
    simp [digs]
  unfold lastD
  rw [e, zeros_snoc, List.set_append_left _ _ (by simp), List.set_append_right _ _ (by simp)]
  simp
theorem ints_set (k : IntKind) (zs : List Int) (i : Nat) (z : Int) : (ints k zs).set i (.int k z) = ints k (zs.set i z) := by simp [ints, List.map_set]

theorem digs_mark1 (n : Int) (h0 : 0 ≤ n) (h1 : n < 64) : digs (n + 0) 1 1 = digs n 1 1 := by simp
theorem digs_mark2 (n : Int) (h0 : 0 ≤ n) (h1 : n < 16384) : (digs n 2 2).set 0 (n / 256 % 256 + 64) = digs (n + 16384) 2 2 := by
  simp only [digs, List.range, List.range.loop, List.map, List.set_cons_zero, Nat.reduceSub, Int.reducePow]
  have e0 : (n + 16384) / 256 % 256 = n / 256 % 256 + 64 := by omega
  have e1 : (n + 16384) / 1 % 256 = n / 1 % 256 := by omega
  rw [e0, e1]
theorem digs_mark4 (n : Int) (h0 : 0 ≤ n) (h1 : n < 1073741824) : (digs n 4 4).set 0 (n / 16777216 % 256 + 128) = digs (n + 2147483648) 4 4 := by
  simp only [digs, List.range, List.range.loop, List.map, List.set_cons_zero, Nat.reduceSub, Int.reducePow]
  have e0 : (n + 2147483648) / 16777216 % 256 = n / 16777216 % 256 + 128 := by omega
  have e1 : (n + 2147483648) / 65536 % 256 = n / 65536 % 256 := by omega
  have e2 : (n + 2147483648) / 256 % 256 = n / 256 % 256 := by omega
  have e3 : (n + 2147483648) / 1 % 256 = n / 1 % 256 := by omega
  rw [e0, e1, e2, e3]
theorem digs_mark8 (n : Int) (h0 : 0 ≤ n) (h1 : n < 4611686018427387904) : (digs n 8 8).set 0 (n / 72057594037927936 % 256 + 192) = digs (n + 13835058055282163712) 8 8 := by
  simp only [digs, List.range, List.range.loop, List.map, List.set_cons_zero, Nat.reduceSub, Int.reducePow]
  have e0 : (n + 13835058055282163712) / 72057594037927936 % 256 = n / 72057594037927936 % 256 + 192 := by omega
  have e1 : (n + 13835058055282163712) / 281474976710656 % 256 = n / 281474976710656 % 256 := by omega
  have e2 : (n + 13835058055282163712) / 1099511627776 % 256 = n / 1099511627776 % 256 := by omega
  have e3 : (n + 13835058055282163712) / 4294967296 % 256 = n / 4294967296 % 256 := by omega
  have e4 : (n + 13835058055282163712) / 16777216 % 256 = n / 16777216 % 256 := by omega
  have e5 : (n + 13835058055282163712) / 65536 % 256 = n / 65536 % 256 := by omega
  have e6 : (n + 13835058055282163712) / 256 % 256 = n / 256 % 256 := by omega
  have e7 : (n + 13835058055282163712) / 1 % 256 = n / 1 % 256 := by omega
  rw [e0, e1, e2, e3, e4, e5, e6, e7]

set_option maxRecDepth 100000 in
set_option maxHeartbeats 2000000 in
theorem refBytes_1 (n : Int) (w : World) (hz : sizeT n = 1) (n0 : 0 ≤ n) (n1 : n < 64) :
    Calls Tryd.prog 30 #[.int .i64 n] w fun e w' => ∃ v, e = .returned v ∧ IsCopy w.heap.size 5 .u8 1 (digs (n + 0) 1 1) v w' ∧ Below w.heap.size w w' := by
  have HZ := Lib.hid hz; clear hz
  go_enter Tryd.func30, Tryd.ntmps30
  go_wp2_with fail
  refine (refSize_any n _).mono ?_
  rintro e w2 ⟨rfl, rfl⟩
  rw [HZ.out]
  go_wp2
  go_loopw [4, 5] (fun v i wr => ∃ k : Nat, k ≤ 1 ∧ i = .int .i64 k ∧ IsCopy w.heap.size 5 .u8 k (List.replicate k 0) v wr ∧ Below w.heap.size w wr) (fun _ i _ => 1 - (intOf i).toNat)
  case atStart => exact ⟨0, by omega, rfl, copy_none _ _ _ _, Below.refl _ _⟩
  case round =>
    obtain ⟨k, hk, rfl, hc, hb⟩ := hrel
    have HC2 := Lib.hid hc; clear hc
    have HB2 := Lib.hid hb; clear hb
    by_cases hlt : k < 1
    · obtain ⟨p, q, rfl, hq, ho⟩ := HC2.out
      obtain ⟨g, cap, wz, hrun, hoz, hkz⟩ := app_elem 22 5 1 (.int .u8 0) (.int .u8 0) Tryd.underlying22 info_u8 rfl (by omega) rfl ho (by omega) HB2.out.size
      have HOZ := Lib.hid hoz
      have HBZ := Lib.hid (kept_below HB2.out hkz (fun k hk => (ho.lt k hk).1))
      have i1 : (k : Int) < 1 := by omega
      clear hoz hkz ho
      go_wp2
      go_roundw
      case rel =>
        refine ⟨k + 1, by omega, by simp, ?_, HBZ.out⟩
        rw [zeros_snoc]
        refine copy_own' ?_
        rw [← ints_append]
        exact HOZ.out
      case measure => simp [intOf]; omega
    · obtain rfl : k = 1 := by omega
      have i1 : ¬ (((1 : Nat) : Int) < 1) := by omega
      obtain ⟨p, q, rfl, hq, ho⟩ := HC2.out
      obtain ⟨g, hp⟩ : ∃ g, p = some ⟨g, 0, none⟩ := by
        obtain ⟨g, cap, hv, -⟩ := ho.form (by omega)
        injection hv with h1
        exact ⟨g, h1⟩
      subst hp
      have hg : w.heap.size ≤ g := (ho.lt g rfl).1
      have HO := Lib.hid ho; clear ho
      clear i1
      go_wp2
      go_loopw [6, 7] (fun l i wr2 => ∃ k : Nat, ∃ L : Int, k ≤ 1 ∧ i = .int .i64 ((k : Int) - 1) ∧ l = .int .i64 L ∧ L = n / 256 ^ (1 - k) ∧ wr2.ownsRow w.heap.size 5 1 (.slice (some ⟨g, 0, none⟩) 1 q) 1 (ints .u8 (lastD n 1 k)) ∧ Below w.heap.size w wr2) (fun _ i _ => (intOf i + 1).toNat)
      case atStart => exact ⟨1, n, Nat.le_refl _, rfl, rfl, by simp, by unfold lastD; rw [List.drop_eq_nil_of_le (by rw [digs_len]; omega), List.append_nil]; exact HO.out, HB2.out⟩
      case round =>
        obtain ⟨k, L, hk, rfl, rfl, hL, ho, hb⟩ := hrel
        have hL0 : 0 ≤ L := by rw [hL]; exact Int.ediv_nonneg (by omega) (Int.pow_nonneg (by omega))
        have hL1 : L ≤ 9223372036854775807 := by
          have : L ≤ n := by rw [hL]; exact Int.ediv_le_self _ (by omega)
          omega
        have HL := Lib.hid hL; clear hL
        obtain rfl | ⟨k, rfl⟩ : k = 0 ∨ ∃ j, k = j + 1 := by
          rcases k with _ | j
          · exact .inl rfl
          · exact .inr ⟨j, rfl⟩
        · have e0 : lastD n 1 0 = digs n 1 1 := by simp [lastD]
          rw [e0] at ho
          have HO3 := Lib.hid (copy_own' ho)
          have HB3 := Lib.hid hb
          clear ho hb HB2 HC2 HO
          go_wp2
          go_ret
          exact ⟨_, rfl, by rw [digs_mark1 n n0 n1]; exact HO3.out, HB3.out⟩
        · have e1 : ((k + 1 : Nat) : Int) - 1 = k := by omega
          rw [e1]
          have i0 : (0 : Int) ≤ (k : Int) := by omega
          have i2 : (k : Int) < 1 := by omega
          have hcell : wr.cell? ⟨g, k, none⟩ = _ := ho.cellAt k (by omega)
          rw [ints_get .u8 _ (by rw [lastD_len _ _ _ hk]; omega)] at hcell
          have hfz : wr.frozen? ⟨g, k, none⟩ = false := ho.frozenAt k
          have hst := Lib.hid (ho.stored k (.int .u8 (L % 256)))
          have hb2 := Lib.hid (hb.setCell (p := ⟨g, k, none⟩) hg (.int .u8 (L % 256)))
          clear ho hb e1 HB2 HC2 HO
          go_wp2
          go_roundw
          case rel =>
            refine ⟨k, L / 256, by omega, rfl, rfl, ?_, ?_, hb2.out⟩
            · rw [HL.out, show 1 - k = (1 - (k + 1)) + 1 by omega, Int.pow_succ, Int.ediv_ediv_of_nonneg (Int.pow_nonneg (by omega))]
            · have := hst.out
              have e2 : (ints .u8 (lastD n 1 (k + 1))).set k (.int .u8 (L % 256)) = ints .u8 (lastD n 1 k) := by
                rw [ints_set, HL.out, show 1 - (k + 1) = 1 - 1 - k by omega, lastD_set n 1 k (by omega)]
              rw [e2] at this
              exact this.1
          case measure => simp [intOf]

set_option maxRecDepth 100000 in
set_option maxHeartbeats 2000000 in
theorem refBytes_2 (n : Int) (w : World) (hz : sizeT n = 2) (n0 : 64 ≤ n) (n1 : n < 16384) :
    Calls Tryd.prog 30 #[.int .i64 n] w fun e w' => ∃ v, e = .returned v ∧ IsCopy w.heap.size 5 .u8 2 (digs (n + 16384) 2 2) v w' ∧ Below w.heap.size w w' := by
  have HZ := Lib.hid hz; clear hz
  go_enter Tryd.func30, Tryd.ntmps30
  go_wp2_with fail
  refine (refSize_any n _).mono ?_
  rintro e w2 ⟨rfl, rfl⟩
  rw [HZ.out]
  go_wp2
  go_loopw [4, 5] (fun v i wr => ∃ k : Nat, k ≤ 2 ∧ i = .int .i64 k ∧ IsCopy w.heap.size 5 .u8 k (List.replicate k 0) v wr ∧ Below w.heap.size w wr) (fun _ i _ => 2 - (intOf i).toNat)
  case atStart => exact ⟨0, by omega, rfl, copy_none _ _ _ _, Below.refl _ _⟩
  case round =>
    obtain ⟨k, hk, rfl, hc, hb⟩ := hrel
    have HC2 := Lib.hid hc; clear hc
    have HB2 := Lib.hid hb; clear hb
    by_cases hlt : k < 2
    · obtain ⟨p, q, rfl, hq, ho⟩ := HC2.out
      obtain ⟨g, cap, wz, hrun, hoz, hkz⟩ := app_elem 22 5 1 (.int .u8 0) (.int .u8 0) Tryd.underlying22 info_u8 rfl (by omega) rfl ho (by omega) HB2.out.size
      have HOZ := Lib.hid hoz
      have HBZ := Lib.hid (kept_below HB2.out hkz (fun k hk => (ho.lt k hk).1))
      have i1 : (k : Int) < 2 := by omega
      clear hoz hkz ho
      go_wp2
      go_roundw
      case rel =>
        refine ⟨k + 1, by omega, by simp, ?_, HBZ.out⟩
        rw [zeros_snoc]
        refine copy_own' ?_
        rw [← ints_append]
        exact HOZ.out
      case measure => simp [intOf]; omega
    · obtain rfl : k = 2 := by omega
      have i1 : ¬ (((2 : Nat) : Int) < 2) := by omega
      obtain ⟨p, q, rfl, hq, ho⟩ := HC2.out
      obtain ⟨g, hp⟩ : ∃ g, p = some ⟨g, 0, none⟩ := by
        obtain ⟨g, cap, hv, -⟩ := ho.form (by omega)
        injection hv with h1
        exact ⟨g, h1⟩
      subst hp
      have hg : w.heap.size ≤ g := (ho.lt g rfl).1
      have HO := Lib.hid ho; clear ho
      clear i1
      go_wp2
      go_loopw [6, 7] (fun l i wr2 => ∃ k : Nat, ∃ L : Int, k ≤ 2 ∧ i = .int .i64 ((k : Int) - 1) ∧ l = .int .i64 L ∧ L = n / 256 ^ (2 - k) ∧ wr2.ownsRow w.heap.size 5 1 (.slice (some ⟨g, 0, none⟩) 2 q) 2 (ints .u8 (lastD n 2 k)) ∧ Below w.heap.size w wr2) (fun _ i _ => (intOf i + 1).toNat)
      case atStart => exact ⟨2, n, Nat.le_refl _, rfl, rfl, by simp, by unfold lastD; rw [List.drop_eq_nil_of_le (by rw [digs_len]; omega), List.append_nil]; exact HO.out, HB2.out⟩
      case round =>
        obtain ⟨k, L, hk, rfl, rfl, hL, ho, hb⟩ := hrel
        have hL0 : 0 ≤ L := by rw [hL]; exact Int.ediv_nonneg (by omega) (Int.pow_nonneg (by omega))
        have hL1 : L ≤ 9223372036854775807 := by
          have : L ≤ n := by rw [hL]; exact Int.ediv_le_self _ (by omega)
          omega
        have HL := Lib.hid hL; clear hL
        obtain rfl | ⟨k, rfl⟩ : k = 0 ∨ ∃ j, k = j + 1 := by
          rcases k with _ | j
          · exact .inl rfl
          · exact .inr ⟨j, rfl⟩
        · have e0 : lastD n 2 0 = digs n 2 2 := by simp [lastD]
          rw [e0] at ho
          have hcell : wr.cell? ⟨g, 0, none⟩ = some (.int .u8 (n / 256 % 256)) := ho.cellAt 0 (by omega)
          have hfz : wr.frozen? ⟨g, 0, none⟩ = false := ho.frozenAt 0
          have hst := Lib.hid (ho.stored 0 (.int .u8 (n / 256 % 256 + 64)))
          have hb2 := Lib.hid (hb.setCell (p := ⟨g, 0, none⟩) hg (.int .u8 (n / 256 % 256 + 64)))
          have b1 : 0 ≤ n / 256 % 256 + 64 := by omega
          have b2 : n / 256 % 256 + 64 < 256 := by omega
          clear ho hb HB2 HC2 HO
          go_wp2
          go_ret
          refine ⟨_, rfl, ?_, hb2.out⟩
          have := hst.out
          rw [ints_set, digs_mark2 n (by omega) n1] at this
          exact copy_own' this.1
        · have e1 : ((k + 1 : Nat) : Int) - 1 = k := by omega
          rw [e1]
          have i0 : (0 : Int) ≤ (k : Int) := by omega
          have i2 : (k : Int) < 2 := by omega
          have hcell : wr.cell? ⟨g, k, none⟩ = _ := ho.cellAt k (by omega)
          rw [ints_get .u8 _ (by rw [lastD_len _ _ _ hk]; omega)] at hcell
          have hfz : wr.frozen? ⟨g, k, none⟩ = false := ho.frozenAt k
          have hst := Lib.hid (ho.stored k (.int .u8 (L % 256)))
          have hb2 := Lib.hid (hb.setCell (p := ⟨g, k, none⟩) hg (.int .u8 (L % 256)))
          clear ho hb e1 HB2 HC2 HO
          go_wp2
          go_roundw
          case rel =>
            refine ⟨k, L / 256, by omega, rfl, rfl, ?_, ?_, hb2.out⟩
            · rw [HL.out, show 2 - k = (2 - (k + 1)) + 1 by omega, Int.pow_succ, Int.ediv_ediv_of_nonneg (Int.pow_nonneg (by omega))]
            · have := hst.out
              have e2 : (ints .u8 (lastD n 2 (k + 1))).set k (.int .u8 (L % 256)) = ints .u8 (lastD n 2 k) := by
                rw [ints_set, HL.out, show 2 - (k + 1) = 2 - 1 - k by omega, lastD_set n 2 k (by omega)]
              rw [e2] at this
              exact this.1
          case measure => simp [intOf]

set_option maxRecDepth 100000 in
set_option maxHeartbeats 2000000 in
theorem refBytes_4 (n : Int) (w : World) (hz : sizeT n = 4) (n0 : 16384 ≤ n) (n1 : n < 1073741824) :
    Calls Tryd.prog 30 #[.int .i64 n] w fun e w' => ∃ v, e = .returned v ∧ IsCopy w.heap.size 5 .u8 4 (digs (n + 2147483648) 4 4) v w' ∧ Below w.heap.size w w' := by
  have HZ := Lib.hid hz; clear hz
  go_enter Tryd.func30, Tryd.ntmps30
  go_wp2_with fail
  refine (refSize_any n _).mono ?_
  rintro e w2 ⟨rfl, rfl⟩
  rw [HZ.out]
  go_wp2
  go_loopw [4, 5] (fun v i wr => ∃ k : Nat, k ≤ 4 ∧ i = .int .i64 k ∧ IsCopy w.heap.size 5 .u8 k (List.replicate k 0) v wr ∧ Below w.heap.size w wr) (fun _ i _ => 4 - (intOf i).toNat)
  case atStart => exact ⟨0, by omega, rfl, copy_none _ _ _ _, Below.refl _ _⟩
  case round =>
    obtain ⟨k, hk, rfl, hc, hb⟩ := hrel
    have HC2 := Lib.hid hc; clear hc
    have HB2 := Lib.hid hb; clear hb
    by_cases hlt : k < 4
    · obtain ⟨p, q, rfl, hq, ho⟩ := HC2.out
      obtain ⟨g, cap, wz, hrun, hoz, hkz⟩ := app_elem 22 5 1 (.int .u8 0) (.int .u8 0) Tryd.underlying22 info_u8 rfl (by omega) rfl ho (by omega) HB2.out.size
      have HOZ := Lib.hid hoz
      have HBZ := Lib.hid (kept_below HB2.out hkz (fun k hk => (ho.lt k hk).1))
      have i1 : (k : Int) < 4 := by omega
      clear hoz hkz ho
      go_wp2
      go_roundw
      case rel =>
        refine ⟨k + 1, by omega, by simp, ?_, HBZ.out⟩
        rw [zeros_snoc]
        refine copy_own' ?_
        rw [← ints_append]
        exact HOZ.out
      case measure => simp [intOf]; omega
    · obtain rfl : k = 4 := by omega
      have i1 : ¬ (((4 : Nat) : Int) < 4) := by omega
      obtain ⟨p, q, rfl, hq, ho⟩ := HC2.out
      obtain ⟨g, hp⟩ : ∃ g, p = some ⟨g, 0, none⟩ := by
        obtain ⟨g, cap, hv, -⟩ := ho.form (by omega)
        injection hv with h1
        exact ⟨g, h1⟩
      subst hp
      have hg : w.heap.size ≤ g := (ho.lt g rfl).1
      have HO := Lib.hid ho; clear ho
      clear i1
      go_wp2
      go_loopw [6, 7] (fun l i wr2 => ∃ k : Nat, ∃ L : Int, k ≤ 4 ∧ i = .int .i64 ((k : Int) - 1) ∧ l = .int .i64 L ∧ L = n / 256 ^ (4 - k) ∧ wr2.ownsRow w.heap.size 5 1 (.slice (some ⟨g, 0, none⟩) 4 q) 4 (ints .u8 (lastD n 4 k)) ∧ Below w.heap.size w wr2) (fun _ i _ => (intOf i + 1).toNat)
      case atStart => exact ⟨4, n, Nat.le_refl _, rfl, rfl, by simp, by unfold lastD; rw [List.drop_eq_nil_of_le (by rw [digs_len]; omega), List.append_nil]; exact HO.out, HB2.out⟩
      case round =>
        obtain ⟨k, L, hk, rfl, rfl, hL, ho, hb⟩ := hrel
        have hL0 : 0 ≤ L := by rw [hL]; exact Int.ediv_nonneg (by omega) (Int.pow_nonneg (by omega))
        have hL1 : L ≤ 9223372036854775807 := by
          have : L ≤ n := by rw [hL]; exact Int.ediv_le_self _ (by omega)
          omega
        have HL := Lib.hid hL; clear hL
        obtain rfl | ⟨k, rfl⟩ : k = 0 ∨ ∃ j, k = j + 1 := by
          rcases k with _ | j
          · exact .inl rfl
          · exact .inr ⟨j, rfl⟩
        · have e0 : lastD n 4 0 = digs n 4 4 := by simp [lastD]
          rw [e0] at ho
          have hcell : wr.cell? ⟨g, 0, none⟩ = some (.int .u8 (n / 16777216 % 256)) := ho.cellAt 0 (by omega)
          have hfz : wr.frozen? ⟨g, 0, none⟩ = false := ho.frozenAt 0
          have hst := Lib.hid (ho.stored 0 (.int .u8 (n / 16777216 % 256 + 128)))
          have hb2 := Lib.hid (hb.setCell (p := ⟨g, 0, none⟩) hg (.int .u8 (n / 16777216 % 256 + 128)))
          have b1 : 0 ≤ n / 16777216 % 256 + 128 := by omega
          have b2 : n / 16777216 % 256 + 128 < 256 := by omega
          clear ho hb HB2 HC2 HO
          go_wp2
          go_ret
          refine ⟨_, rfl, ?_, hb2.out⟩
          have := hst.out
          rw [ints_set, digs_mark4 n (by omega) n1] at this
          exact copy_own' this.1
        · have e1 : ((k + 1 : Nat) : Int) - 1 = k := by omega
          rw [e1]
          have i0 : (0 : Int) ≤ (k : Int) := by omega
          have i2 : (k : Int) < 4 := by omega
          have hcell : wr.cell? ⟨g, k, none⟩ = _ := ho.cellAt k (by omega)
          rw [ints_get .u8 _ (by rw [lastD_len _ _ _ hk]; omega)] at hcell
          have hfz : wr.frozen? ⟨g, k, none⟩ = false := ho.frozenAt k
          have hst := Lib.hid (ho.stored k (.int .u8 (L % 256)))
          have hb2 := Lib.hid (hb.setCell (p := ⟨g, k, none⟩) hg (.int .u8 (L % 256)))
          clear ho hb e1 HB2 HC2 HO
          go_wp2
          go_roundw
          case rel =>
            refine ⟨k, L / 256, by omega, rfl, rfl, ?_, ?_, hb2.out⟩
            · rw [HL.out, show 4 - k = (4 - (k + 1)) + 1 by omega, Int.pow_succ, Int.ediv_ediv_of_nonneg (Int.pow_nonneg (by omega))]
            · have := hst.out
              have e2 : (ints .u8 (lastD n 4 (k + 1))).set k (.int .u8 (L % 256)) = ints .u8 (lastD n 4 k) := by
                rw [ints_set, HL.out, show 4 - (k + 1) = 4 - 1 - k by omega, lastD_set n 4 k (by omega)]
              rw [e2] at this
              exact this.1
          case measure => simp [intOf]

set_option maxRecDepth 100000 in
set_option maxHeartbeats 2000000 in
theorem refBytes_8 (n : Int) (w : World) (hz : sizeT n = 8) (n0 : 1073741824 ≤ n) (n1 : n < 4611686018427387904) :
    Calls Tryd.prog 30 #[.int .i64 n] w fun e w' => ∃ v, e = .returned v ∧ IsCopy w.heap.size 5 .u8 8 (digs (n + 13835058055282163712) 8 8) v w' ∧ Below w.heap.size w w' := by
  have HZ := Lib.hid hz; clear hz
  go_enter Tryd.func30, Tryd.ntmps30
  go_wp2_with fail
  refine (refSize_any n _).mono ?_
  rintro e w2 ⟨rfl, rfl⟩
  rw [HZ.out]
  go_wp2
  go_loopw [4, 5] (fun v i wr => ∃ k : Nat, k ≤ 8 ∧ i = .int .i64 k ∧ IsCopy w.heap.size 5 .u8 k (List.replicate k 0) v wr ∧ Below w.heap.size w wr) (fun _ i _ => 8 - (intOf i).toNat)
  case atStart => exact ⟨0, by omega, rfl, copy_none _ _ _ _, Below.refl _ _⟩
  case round =>
    obtain ⟨k, hk, rfl, hc, hb⟩ := hrel
    have HC2 := Lib.hid hc; clear hc
    have HB2 := Lib.hid hb; clear hb
    by_cases hlt : k < 8
    · obtain ⟨p, q, rfl, hq, ho⟩ := HC2.out
      obtain ⟨g, cap, wz, hrun, hoz, hkz⟩ := app_elem 22 5 1 (.int .u8 0) (.int .u8 0) Tryd.underlying22 info_u8 rfl (by omega) rfl ho (by omega) HB2.out.size
      have HOZ := Lib.hid hoz
      have HBZ := Lib.hid (kept_below HB2.out hkz (fun k hk => (ho.lt k hk).1))
      have i1 : (k : Int) < 8 := by omega
      clear hoz hkz ho
      go_wp2
      go_roundw
      case rel =>
        refine ⟨k + 1, by omega, by simp, ?_, HBZ.out⟩
        rw [zeros_snoc]
        refine copy_own' ?_
        rw [← ints_append]
        exact HOZ.out
      case measure => simp [intOf]; omega
    · obtain rfl : k = 8 := by omega
      have i1 : ¬ (((8 : Nat) : Int) < 8) := by omega
      obtain ⟨p, q, rfl, hq, ho⟩ := HC2.out
      obtain ⟨g, hp⟩ : ∃ g, p = some ⟨g, 0, none⟩ := by
        obtain ⟨g, cap, hv, -⟩ := ho.form (by omega)
        injection hv with h1
        exact ⟨g, h1⟩
      subst hp
      have hg : w.heap.size ≤ g := (ho.lt g rfl).1
      have HO := Lib.hid ho; clear ho
      clear i1
      go_wp2
      go_loopw [6, 7] (fun l i wr2 => ∃ k : Nat, ∃ L : Int, k ≤ 8 ∧ i = .int .i64 ((k : Int) - 1) ∧ l = .int .i64 L ∧ L = n / 256 ^ (8 - k) ∧ wr2.ownsRow w.heap.size 5 1 (.slice (some ⟨g, 0, none⟩) 8 q) 8 (ints .u8 (lastD n 8 k)) ∧ Below w.heap.size w wr2) (fun _ i _ => (intOf i + 1).toNat)
      case atStart => exact ⟨8, n, Nat.le_refl _, rfl, rfl, by simp, by unfold lastD; rw [List.drop_eq_nil_of_le (by rw [digs_len]; omega), List.append_nil]; exact HO.out, HB2.out⟩
      case round =>
        obtain ⟨k, L, hk, rfl, rfl, hL, ho, hb⟩ := hrel
        have hL0 : 0 ≤ L := by rw [hL]; exact Int.ediv_nonneg (by omega) (Int.pow_nonneg (by omega))
        have hL1 : L ≤ 9223372036854775807 := by
          have : L ≤ n := by rw [hL]; exact Int.ediv_le_self _ (by omega)
          omega
        have HL := Lib.hid hL; clear hL
        obtain rfl | ⟨k, rfl⟩ : k = 0 ∨ ∃ j, k = j + 1 := by
          rcases k with _ | j
          · exact .inl rfl
          · exact .inr ⟨j, rfl⟩
        · have e0 : lastD n 8 0 = digs n 8 8 := by simp [lastD]
          rw [e0] at ho
          have hcell : wr.cell? ⟨g, 0, none⟩ = some (.int .u8 (n / 72057594037927936 % 256)) := ho.cellAt 0 (by omega)
          have hfz : wr.frozen? ⟨g, 0, none⟩ = false := ho.frozenAt 0
          have hst := Lib.hid (ho.stored 0 (.int .u8 (n / 72057594037927936 % 256 + 192)))
          have hb2 := Lib.hid (hb.setCell (p := ⟨g, 0, none⟩) hg (.int .u8 (n / 72057594037927936 % 256 + 192)))
          have b1 : 0 ≤ n / 72057594037927936 % 256 + 192 := by omega
          have b2 : n / 72057594037927936 % 256 + 192 < 256 := by omega
          clear ho hb HB2 HC2 HO
          go_wp2
          go_ret
          refine ⟨_, rfl, ?_, hb2.out⟩
          have := hst.out
          rw [ints_set, digs_mark8 n (by omega) n1] at this
          exact copy_own' this.1
        · have e1 : ((k + 1 : Nat) : Int) - 1 = k := by omega
          rw [e1]
          have i0 : (0 : Int) ≤ (k : Int) := by omega
          have i2 : (k : Int) < 8 := by omega
          have hcell : wr.cell? ⟨g, k, none⟩ = _ := ho.cellAt k (by omega)
          rw [ints_get .u8 _ (by rw [lastD_len _ _ _ hk]; omega)] at hcell
          have hfz : wr.frozen? ⟨g, k, none⟩ = false := ho.frozenAt k
          have hst := Lib.hid (ho.stored k (.int .u8 (L % 256)))
          have hb2 := Lib.hid (hb.setCell (p := ⟨g, k, none⟩) hg (.int .u8 (L % 256)))
          clear ho hb e1 HB2 HC2 HO
          go_wp2
          go_roundw
          case rel =>
            refine ⟨k, L / 256, by omega, rfl, rfl, ?_, ?_, hb2.out⟩
            · rw [HL.out, show 8 - k = (8 - (k + 1)) + 1 by omega, Int.pow_succ, Int.ediv_ediv_of_nonneg (Int.pow_nonneg (by omega))]
            · have := hst.out
              have e2 : (ints .u8 (lastD n 8 (k + 1))).set k (.int .u8 (L % 256)) = ints .u8 (lastD n 8 k) := by
                rw [ints_set, HL.out, show 8 - (k + 1) = 8 - 1 - k by omega, lastD_set n 8 k (by omega)]
              rw [e2] at this
              exact this.1
          case measure => simp [intOf]

theorem refBytes_any (n : Int) (w : World) :
    Calls Tryd.prog 30 #[.int .i64 n] w fun e w' => ∃ v, e = .returned v ∧ IsCopy w.heap.size 5 .u8 (bytesT n).length (bytesT n) v w' ∧ Below w.heap.size w w' := by
  rcases sizeT_cases n with ⟨hz, hn⟩ | ⟨hz, h0, h1⟩ | ⟨hz, h0, h1⟩ | ⟨hz, h0, h1⟩ | ⟨hz, h0, h1⟩
  · have e : bytesT n = [] := by unfold bytesT; rw [hz]; rfl
    rw [e]
    have HZ := Lib.hid hz; clear hz
    clear e hn
    go_enter Tryd.func30, Tryd.ntmps30
    go_wp2_with fail
    refine (refSize_any n _).mono ?_
    rintro e w2 ⟨rfl, rfl⟩
    rw [HZ.out]
    go_wp2
    go_loopw [4, 5] (fun v i wr => v = .slice none 0 0 ∧ i = .int .i64 0 ∧ w = wr) (fun _ i _ => 0)
    case atStart => exact ⟨rfl, rfl, rfl⟩
    case round =>
      obtain ⟨rfl, rfl, rfl⟩ := hrel
      go_wp2
      go_loopw [6, 7] (fun l i wr => i = .int .i64 (-1) ∧ w = wr) (fun _ i _ => 0)
      case atStart => exact ⟨rfl, rfl⟩
      case round =>
        obtain ⟨rfl, rfl⟩ := hrel
        go_wp2
        go_ret
        exact ⟨_, rfl, copy_none _ _ _ _, Below.refl _ _⟩
  · have e : bytesT n = digs (n + 0) 1 1 := by unfold bytesT; rw [hz]; rfl
    rw [e, digs_len]
    exact refBytes_1 n w hz (by omega) (by omega)
  · have e : bytesT n = digs (n + 16384) 2 2 := by unfold bytesT; rw [hz]; rfl
    rw [e, digs_len]
    exact refBytes_2 n w hz (by omega) (by omega)
  · have e : bytesT n = digs (n + 2147483648) 4 4 := by unfold bytesT; rw [hz]; rfl
    rw [e, digs_len]
    exact refBytes_4 n w hz (by omega) (by omega)
  · have e : bytesT n = digs (n + 13835058055282163712) 8 8 := by unfold bytesT; rw [hz]; rfl
    rw [e, digs_len]
    exact refBytes_8 n w hz (by omega) (by omega)

theorem refGive_any (b : Option Addr) (ys : List Int) (k d : Nat) (w : World) (hk : ys.length = k) (h2 : Row w w.heap.size b (ints .u8 ys)) (hl2 : k ≤ 100000) :
    Calls Tryd.prog 40 #[.slice b k d] w fun e w' => ∃ v, e = .returned v ∧ IsCopy w.heap.size 5 .u8 (bytesT k ++ ys).length (bytesT k ++ ys) v w' ∧ Below w.heap.size w w' := by
  have HK := Lib.hid hk; clear hk
  have HY := Lib.hid h2; clear h2
  have hlen := bytesT_len8 (k : Int)
  go_enter Tryd.func40, Tryd.ntmps40
  go_wp2_with fail
  refine (refBytes_any k w).mono ?_
  rintro e w1 ⟨v1, rfl, hc, hb⟩
  obtain ⟨L, hL⟩ : ∃ L, (bytesT (k : Int)).length = L := ⟨_, rfl⟩
  rw [hL] at hc hlen
  have hy := (HY.out.below hb)
  obtain ⟨v2, wz, hrun, hc2, hk2⟩ := app_copy (c := d) Tryd.underlying22 info_u8 (by omega) hc hb.size HK.out hy (by omega)
  have HC2 := Lib.hid hc2
  have HBZ := Lib.hid (kept_below hb hk2 (fun k h => hc.low k h))
  have HL := Lib.hid hL
  clear hL hy hc2 hk2 hc hb
  go_wp2
  go_ret
  refine ⟨v2, rfl, ?_, HBZ.out⟩
  rw [List.length_append, HL.out, HK.out]
  exact HC2.out
end Go.Proofs.YtaplndehoenghaaDoor
