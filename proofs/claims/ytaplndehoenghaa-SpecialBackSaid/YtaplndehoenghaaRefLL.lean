/- The reference's ReadList, its loop. -/
import Derived.Test.YtaplndehoenghaaRefL
namespace Go.Proofs.Ytaplndehoenghaa
open Go.RowKit
set_option linter.unusedVariables false
attribute [local go_sem ↓] app_hide

/-- What the reference's ReadList hands back behind its loop. -/
def ListRef (B : Nat) (w : World) (n1 n2 left : List Int) (e : Ending) (w' : World) : Prop := Below w.heap.size w w' ∧
  if ∀ x ∈ quads left, 1 ≤ x then
    ∃ a1 a2 c1 c2 v3, e = .returned (.tuple #[.agg #[.slice a1 n1.length c1, .slice a2 n2.length c2, v3], .bool true]) ∧ Row w' B a1 (ints .u8 n1) ∧ Row w' B a2 (ints .u8 n2) ∧
      w'.ownsRow w.heap.size 3 1 v3 (quads left).length (ints .i64 (quads left))
  else e = noListRef

/-- What the loop keeps. -/
def ListJ (w3 : World) (L : Nat) (v1 v2 : Value) (vs : List Int) (k : Nat) (W : World) : Prop :=
  (∀ x ∈ vs.take k, 1 ≤ x) ∧ ∃ v3, W.heap[L]? = some (.cells #[v1, v2, v3] 29 (0, 0)) ∧ W.ownsRow w3.heap.size 3 1 v3 k (ints .i64 (vs.take k)) ∧ Kept (fun j => j = L) w3 W

theorem drop_four {l : List Int} {i : Nat} {b0 b1 b2 b3 : Int} (h : (l.drop (4 * i)).take 4 = [b0, b1, b2, b3]) : l.drop (4 * i) = b0 :: b1 :: b2 :: b3 :: l.drop (4 * i + 4) := by
  rw [← List.take_append_drop 4 (l.drop (4 * i)), h, List.drop_drop]
  rfl

set_option maxRecDepth 100000 in
set_option maxHeartbeats 2000000 in
theorem refList_loop (a : Option Addr) (zs : List Int) (m c B : Nat) (w : World) (hm : zs.length = m) (hc : m ≤ c) (hl : m ≤ 1000000) (hB : B ≤ w.heap.size)
    (hr : Row w B a (ints .u8 zs)) (hu : IsU8 zs) (n1 n2 left : List Int) (hn : headR 128 zs = some (0, n1, n2, left)) (N : Nat)
    (hN : left.length = 4 * N) (hN1 : 1 ≤ N) (hN2 : N ≤ 16) :
    Calls Try.prog 12 #[.slice a m c] w (ListRef B w n1 n2 left) := by
  have hr2 := hr.alloc hB (.cells #[.slice none 0 0, .slice none 0 0, .slice none 0 0] 29)
  have HR2 := Lib.hid hr2; clear hr2
  obtain ⟨n2', nb⟩ := one_new w (.cells #[.slice none 0 0, .slice none 0 0, .slice none 0 0] 29)
  have N2 := Lib.hid n2'; clear n2'
  have NB := Lib.hid nb; clear nb
  obtain ⟨q, hq⟩ : ∃ q, left.length = q := ⟨_, rfl⟩
  have hq4 : q = 4 * N := hq.symm.trans hN
  have HQ := Lib.hid hq; clear hq
  have d1 : ((q : Int) == 0) = false := beq_eq_false_iff_ne.2 (by omega)
  have d2 : ((q : Int) % 4 != 0) = false := by simp; omega
  have d3 : decide (64 < (q : Int)) = false := by simp; omega
  have hqb : (q : Int) ≤ 64 := by omega
  have HQ4 := Lib.hid hq4; clear hq4
  have HNN := Lib.hid hN; clear hN
  have HN := Lib.hid hn; clear hn
  have HM := Lib.hid hm; clear hm
  go_enter Try.func12, Try.ntmps12
  go_wp2_with fail
  refine (start_yes a zs 128 m c B _ HM.out hl hc (by simp; omega) hu (by omega) (by omega) HR2.out 0 n1 n2 left HN.out).mono ?_
  rintro e w1 ⟨a1, a2, a3, c1, c2, c3, rfl, r1, r2, r3, l1, l2, l3, hb⟩
  rw [HQ.out]
  rw [HQ.out] at l3
  have hz : w.heap.size + 1 ≤ w1.heap.size := by simpa using hb.size
  have gz : w1.heap[w.heap.size]? = some (.cells #[.slice none 0 0, .slice none 0 0, .slice none 0 0] 29 (0, 0)) := (hb.block _ (by simp)).trans N2.out
  have b0 := Lib.hid (NB.out.trans (hb.mono (by simp)))
  have GZ := Lib.hid gz; clear gz
  have R1 := Lib.hid r1; clear r1
  have R2 := Lib.hid r2; clear r2
  have R3 := Lib.hid r3; clear r3
  clear hb
  go_wp2
  obtain ⟨w3, hw3⟩ : ∃ w3, w1.alloc (.cells #[.slice a1 n1.length c1, .slice a2 n2.length c2, .slice none 0 0] 29) = w3 := ⟨_, rfl⟩
  have s3 : w3.heap.size = w1.heap.size + 1 := by rw [← hw3]; simp
  have b13 : Below w1.heap.size w1 w3 := by rw [← hw3]; exact (Below.refl _ _).alloc (Nat.le_refl _) _
  have g3 : w3.heap[w1.heap.size]? = some (.cells #[.slice a1 n1.length c1, .slice a2 n2.length c2, .slice none 0 0] 29 (0, 0)) := by rw [← hw3]; exact heap_alloc_new _ _
  rw [hw3]
  have B13 := Lib.hid b13; clear b13
  have S3 := Lib.hid s3; clear s3
  have G3 := Lib.hid g3; clear g3
  clear hw3
  go_loopw [10] (fun i wr => ∃ k j : Nat, j = 4 * k ∧ i = .int .i64 j ∧ k ≤ N ∧ ListJ w3 w1.heap.size (.slice a1 n1.length c1) (.slice a2 n2.length c2) (quads left) k wr) (fun i _ => 4 * N - (intOf i).toNat)
  case atStart => exact ⟨0, 0, rfl, by simp, Nat.zero_le _, by simp, _, G3.out, by simpa [ints] using World.ownsRow_nil w3 w3.heap.size 3 1, Kept.refl _ _⟩
  case round =>
    obtain ⟨k, j, hj, rfl, hk, hall, v3, hL, ho3, hk3⟩ := hrel
    have q4 := HQ4.out
    by_cases hlt : k < N
    · have i1 : (j : Int) < (q : Int) := by omega
      have i2 : (j : Int) ≤ (q : Int) := by omega
      have j64 : (j : Int) ≤ 64 := by omega
      clear q4
      obtain ⟨b0', b1, b2, b3, hq1, hq2⟩ := quads_get k left (by have := HNN.out; omega)
      have huq : IsU8 [b0', b1, b2, b3] := fun z hz => (headR_u8 hu HN.out).2.2.1 z (List.mem_of_mem_drop (List.mem_of_mem_take (by rw [hq1]; exact hz)))
      have U := huq
      simp only [IsU8, List.mem_cons, List.not_mem_nil, or_false, forall_eq_or_imp, forall_eq] at U
      have hqb2 := quad_bd b0' b1 b2 b3 huq
      have hd4 := drop_four hq1
      rw [← hj] at hd4
      have hrow : Row wr B (cutAt a3 j c3) (ints .u8 (b0' :: b1 :: b2 :: b3 :: left.drop (j + 4))) := by
        have h1 := ((R3.out.kept (Kept.of_below' B13.out (fun _ => False)) (by omega) (fun _ _ h => h)).kept hk3 (by have := S3.out; omega) (fun k h1 (h2 : k = w1.heap.size) => by omega)).cut j c3 (by simp [HQ.out]; omega)
        rw [ints_drop, hd4] at h1
        exact h1
      have hlen : (b0' :: b1 :: b2 :: b3 :: left.drop (j + 4)).length = q - j := by rw [← hd4, List.length_drop, HQ.out]
      have HROW := Lib.hid hrow; clear hrow
      have HLEN := Lib.hid hlen; clear hlen
      have HD4 := Lib.hid hd4; clear hd4
      have HQ1 := Lib.hid hq1; clear hq1
      have HQ2 := Lib.hid hq2; clear hq2
      have HU := Lib.hid U; clear U huq
      obtain ⟨p3, q3, rfl, -⟩ := own_slice ho3
      have cL := cells3 hL
      have fL := unfrozen hL
      have ltL : w1.heap.size < wr.heap.size := (Array.getElem?_eq_some_iff.1 hL).1
      have HL := Lib.hid hL; clear hL
      have HK3 := Lib.hid hk3; clear hk3
      have HO3 := Lib.hid ho3; clear ho3
      have HALL := Lib.hid hall; clear hall
      have HJ := Lib.hid hj; clear hj
      go_wp2_with fail
      refine (four_ref b0' b1 b2 b3 _ (cutAt a3 j c3) (q - j) (c3 - j) B _ HLEN.out HU.out.1 HU.out.2.1 HU.out.2.2.1 HU.out.2.2.2 HROW.out).mono ?_
      rintro e W2 ⟨rfl, hd2⟩
      have cL2 := cells3 (show W2.heap[w1.heap.size]? = _ by rw [hd2.heap]; exact HL.out)
      have fL2 := unfrozen (show W2.heap[w1.heap.size]? = _ by rw [hd2.heap]; exact HL.out)
      have gz2 : W2.heap[w.heap.size]? = some (.cells #[.slice none 0 0, .slice none 0 0, .slice none 0 0] 29 (0, 0)) := by
        rw [hd2.heap, HK3.out.block _ (by have := S3.out; omega) (by omega), B13.out.block _ (by omega)]
        exact GZ.out
      have cZ := cells3 gz2
      have fZ := unfrozen gz2
      have GZ2 := Lib.hid gz2; clear gz2
      have D2 := Lib.hid hd2; clear hd2
      by_cases hv : 1 ≤ quad b0' b1 b2 b3
      · have dv : (quad b0' b1 b2 b3 == 0) = false := beq_eq_false_iff_ne.2 (by omega)
        have hoW : W2.ownsRow w3.heap.size 3 1 (.slice p3 k q3) k (ints .i64 ((quads left).take k)) := own_below HO3.out (D2.out.below _) (Nat.le_refl _)
        have hsz : w3.heap.size ≤ W2.heap.size := by rw [D2.out.heap]; exact HK3.out.size
        obtain ⟨g, cap, wz, hrun, hoz, hkz⟩ := app_elem (P := Try.prog) 23 3 8 (.int .i64 0) (.int .i64 (quad b0' b1 b2 b3)) Try.underlying23 info_int rfl (by omega) rfl hoW (by omega) hsz
        have hnb : ¬ (Value.slice p3 k q3).ownBlock = some w1.heap.size := fun e => by have := (hoW.lt _ e).1; have := S3.out; omega
        have lt2 : w1.heap.size < W2.heap.size := by have := S3.out; omega
        have hz3 : wz.heap[w1.heap.size]? = some (.cells #[.slice a1 n1.length c1, .slice a2 n2.length c2, .slice p3 k q3] 29 (0, 0)) := by
          rw [hkz.block _ lt2 hnb, D2.out.heap]
          exact HL.out
        have cz := cells3 hz3
        have fz := unfrozen hz3
        have HZ3 := Lib.hid hz3; clear hz3
        have HOZ := Lib.hid hoz; clear hoz
        have HKZ := Lib.hid hkz; clear hkz
        have HOW := Lib.hid hoW; clear hoW
        have HV := Lib.hid hv; clear hv
        go_wp2
        go_roundw
        case rel =>
          refine ⟨k + 1, j + 4, by have := HJ.out; omega, by simp, by omega, ?_, .slice (some ⟨g, 0, none⟩) (k + 1) cap, ?_, ?_, ?_⟩
          · intro x hx
            rw [List.take_add_one, HQ2.out] at hx
            simp only [Option.toList_some, List.mem_append, List.mem_singleton] at hx
            rcases hx with hx | rfl
            · exact HALL.out x hx
            · exact HV.out
          · simp [World.setCell, Array.getElem?_modify, HZ3.out]
          · have e1 : (quads left).take (k + 1) = (quads left).take k ++ [quad b0' b1 b2 b3] := by rw [List.take_add_one, HQ2.out]; rfl
            rw [e1, ← ints_append]
            exact ownsRow_setCell_below HOZ.out (show w1.heap.size < w3.heap.size by have := S3.out; omega) _
          · exact ((HK3.out.trans (D2.out.kept _)).then HKZ.out (fun i hi h => by have := (HOW.out.lt i h).1; omega)).setCell (.inl rfl) _
        case measure => simp [intOf]; have := HJ.out; have := HQ4.out; omega
      · have dv : (quad b0' b1 b2 b3 == 0) = true := by simp; omega
        have HV := Lib.hid hv; clear hv
        go_wp2
        refine bodyPost_ret (v := .tuple #[.agg #[.slice none 0 0, .slice none 0 0, .slice none 0 0], .bool false]) (by simp [results, Try.results12, go_sem, cZ]) rfl ⟨?_, ?_⟩
        · have hb2 : Below w.heap.size w W2 := by
            have e2 : Below w.heap.size w w3 := b0.out.trans (B13.out.mono (by omega))
            have e3 : Kept (fun k => w.heap.size ≤ k) w W2 := (Kept.of_below e2 (fun k h _ => h)).then (HK3.out.trans (D2.out.kept _)) (fun k h1 (h2 : k = w1.heap.size) => by omega)
            exact Kept.below (e3.mono (fun k h1 h2 => by omega))
          exact ((hb2.setCell (Nat.le_refl _) _).setCell (Nat.le_refl _) _).setCell (Nat.le_refl _) _
        · rw [if_neg (fun h => absurd (h _ (List.mem_of_getElem? HQ2.out)) (by have := HV.out; omega))]
          rfl
    · have i1 : ¬ (j : Int) < (q : Int) := by omega
      have hkN : k = N := by omega
      clear q4
      subst hkN
      have hql := quads_length k left HNN.out
      rw [List.take_of_length_le (Nat.le_of_eq hql)] at hall ho3
      obtain ⟨p3, q3, rfl, -⟩ := own_slice ho3
      have cL := cells3 hL
      have gz2 : wr.heap[w.heap.size]? = some (.cells #[.slice none 0 0, .slice none 0 0, .slice none 0 0] 29 (0, 0)) := by
        rw [hk3.block _ (by have := S3.out; omega) (by omega), B13.out.block _ (by omega)]
        exact GZ.out
      have cZ := cells3 gz2
      have fZ := unfrozen gz2
      have HL := Lib.hid hL; clear hL
      have HK3 := Lib.hid hk3; clear hk3
      have HO3 := Lib.hid ho3; clear ho3
      have HALL := Lib.hid hall; clear hall
      have HJ := Lib.hid hj; clear hj
      have HQL := Lib.hid hql; clear hql
      clear gz2
      go_wp2
      refine bodyPost_ret (v := .tuple #[.agg #[.slice a1 n1.length c1, .slice a2 n2.length c2, .slice p3 k q3], .bool true]) (by simp [results, Try.results12, go_sem, cZ]) rfl ⟨?_, ?_⟩
      · have hb2 : Below w.heap.size w wr := by
          have e2 : Below w.heap.size w w3 := b0.out.trans (B13.out.mono (by omega))
          have e3 : Kept (fun k => w.heap.size ≤ k) w wr := (Kept.of_below e2 (fun k h _ => h)).then HK3.out (fun k h1 (h2 : k = w1.heap.size) => by omega)
          exact Kept.below (e3.mono (fun k h1 h2 => by omega))
        exact ((hb2.setCell (Nat.le_refl _) _).setCell (Nat.le_refl _) _).setCell (Nat.le_refl _) _
      · rw [if_pos HALL.out]
        have kr : ∀ (b : Option Addr) (xs : List Value), Row w1 B b xs → Row wr B b xs := fun b xs h => (h.kept (Kept.of_below' B13.out (fun _ => False)) (by omega) (fun _ _ h => h)).kept HK3.out (by have := S3.out; omega) (fun k h1 (h2 : k = w1.heap.size) => by omega)
        refine ⟨a1, a2, c1, c2, .slice p3 k q3, rfl, (((kr _ _ R1.out).setCell hB _).setCell hB _).setCell hB _, (((kr _ _ R2.out).setCell hB _).setCell hB _).setCell hB _, ?_⟩
        rw [HQL.out]
        have h3 : w.heap.size < w3.heap.size := by have := S3.out; omega
        exact own_base (ownsRow_setCell_below (ownsRow_setCell_below (ownsRow_setCell_below HO3.out h3 _) h3 _) h3 _) (by omega)
end Go.Proofs.Ytaplndehoenghaa
