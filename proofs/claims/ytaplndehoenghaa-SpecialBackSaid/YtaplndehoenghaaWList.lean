/- special.WriteList. -/
import Derived.Test.YtaplndehoenghaaHead
namespace Go.Proofs.Ytaplndehoenghaa
open Go.RowKit
set_option linter.unusedVariables false

/-- A list's bytes. -/
def listW (xs ys : List Int) (vs : List Int) : List Int := headW 128 0 xs ys ++ vs.flatMap four

/-- What WriteList's loop keeps. -/
def WListI (w : World) (h : List Int) (vs : List Int) (k : Nat) (v : Value) (wr : World) : Prop :=
  (∀ x ∈ vs.take k, 1 ≤ x ∧ x < 4294967296) ∧ wr.ownsRow w.heap.size 5 1 v (h.length + 4 * k) (ints .u8 (h ++ (vs.take k).flatMap four)) ∧ Below w.heap.size w wr

def WListPost (w : World) (xs ys vs : List Int) (e : Ending) (w' : World) : Prop := Below w.heap.size w w' ∧
  if ∀ x ∈ vs, 1 ≤ x ∧ x < 4294967296 then ∃ v, e = .returned v ∧ w'.ownsRow w.heap.size 5 1 v (listW xs ys vs).length (ints .u8 (listW xs ys vs)) else e = .returned (.slice none 0 0)

theorem four_len (n : Int) : (four n).length = 4 := rfl
theorem flat_four_len (vs : List Int) : (vs.flatMap four).length = 4 * vs.length := by
  induction vs with
  | nil => rfl
  | cons v vs ih => simp [List.flatMap_cons, ih, four_len]; omega

attribute [local go_sem ↓] app_hide

set_option maxRecDepth 100000 in
set_option maxHeartbeats 1000000 in
theorem writeList_any (a b p : Option Addr) (xs ys vs : List Int) (m k N c d q : Nat) (w : World) (hm : xs.length = m) (hk : ys.length = k) (hN : vs.length = N) (hm2 : m ≤ 20) (hk2 : k ≤ 20) (hN1 : 1 ≤ N) (hN2 : N ≤ 16)
    (hx : Row w w.heap.size a (ints .u8 xs)) (hy : Row w w.heap.size b (ints .u8 ys)) (hv : Row w w.heap.size p (ints .i64 vs)) (hvb : ∀ x ∈ vs, -9223372036854775808 ≤ x ∧ x ≤ 9223372036854775807) :
    Calls Try.prog 18 #[.agg #[.slice a m c, .slice b k d, .slice p N q]] w (WListPost w xs ys vs) := by
  obtain ⟨g1, nb⟩ := one_new w (.cells #[.slice a m c, .slice b k d, .slice p N q] 25)
  have d1 : ((((headW 128 0 xs ys).length : Nat) : Int) == 0) = false := beq_eq_false_iff_ne.2 (by simp [headW]; omega)
  have d2 : decide ((N : Int) < 1) = false := by simp; omega
  have d3 : decide (16 < (N : Int)) = false := by simp; omega
  have hhl : (headW 128 0 xs ys).length ≤ 100 := by simp [headW, four, hm, hk]; omega
  obtain ⟨H, hH⟩ : ∃ H, headW 128 0 xs ys = H := ⟨_, rfl⟩
  have HD := Lib.hid hH
  have G1 := Lib.hid g1; clear g1
  have NB := Lib.hid nb; clear nb
  have HX := Lib.hid hx; clear hx
  have HY := Lib.hid hy; clear hy
  have HV := Lib.hid hv; clear hv
  have HM := Lib.hid hm; clear hm
  have HK := Lib.hid hk; clear hk
  have HN := Lib.hid hN; clear hN
  have HVB := Lib.hid hvb; clear hvb
  have cA := cells3 G1.out
  have hN3 : (N : Int) ≤ 16 := by omega
  rw [hH] at d1 hhl
  clear hH
  go_enter Try.func18, Try.ntmps18
  go_wp2_with fail
  refine (head_yes 128 0 a b xs ys m k c d _ HM.out HK.out hm2 hk2 (by omega) (by omega) (by omega) (by omega) ((HX.out.below NB.out).more (by simp)) ((HY.out.below NB.out).more (by simp))).mono ?_
  rintro e w2 ⟨v, rfl, ho, hb⟩
  rw [HD.out] at ho
  obtain ⟨vp, vc, rfl, -⟩ := own_slice ho
  have g2 : w2.heap[w.heap.size]? = some (.cells #[.slice a m c, .slice b k d, .slice p N q] 25 (0, 0)) := (hb.block _ (by simp)).trans G1.out
  have cB := cells3 g2
  have G2 := Lib.hid g2; clear g2
  have HO := Lib.hid ho; clear ho
  have HB := Lib.hid (NB.out.trans (hb.mono (by simp))); clear hb
  go_wp2
  go_loopw [3, 29] (fun v i wr => ∃ k : Nat, i = .int .i64 k ∧ k ≤ N ∧ WListI w H vs k v wr) (fun _ i _ => N - (intOf i).toNat)
  case atStart => exact ⟨0, by simp, Nat.zero_le _, by simp, by simpa using own_base HO.out (by simp), HB.out⟩
  case round =>
    obtain ⟨k, hki, hk, hall, ho, hbw⟩ := hrel
    subst hki
    by_cases hlt : k < N
    · obtain ⟨z, hz⟩ : ∃ z, vs[k]? = some z := ⟨_, List.getElem?_eq_getElem (by have := HN.out; omega)⟩
      obtain ⟨b1, o1, rfl, _, r1⟩ := HV.out.ints (by intro e; have := HN.out; rw [e] at this; simp at this; omega)
      have x1 : wr.cell? ⟨b1, o1 + k, none⟩ = some (.int .i64 z) := by
        have := r1 k (by have := HN.out; omega)
        rw [hz] at this
        exact (hbw.cell (p := ⟨b1, o1 + k, none⟩) (by omega)).trans this
      have zb := HVB.out z (List.mem_of_getElem? hz)
      have hzt : vs.take (k + 1) = vs.take k ++ [z] := by rw [List.take_add_one, hz]; rfl
      have i1 : (k : Int) < (N : Int) := by omega
      have HZ := Lib.hid hz; clear hz
      have HZT := Lib.hid hzt; clear hzt
      have HO2 := Lib.hid ho; clear ho
      have HBW := Lib.hid hbw; clear hbw
      have HALL := Lib.hid hall; clear hall
      clear r1
      go_wp2_with fail
      refine (version_any _ _).mono ?_
      rintro e w3 ⟨rfl, rfl⟩
      by_cases hz1 : 1 ≤ z ∧ z < 4294967296
      · rw [decide_eq_true hz1]
        have HZ1 := Lib.hid hz1; clear hz1
        go_wp2_with fail
        refine (big_any z _ zb.1 zb.2).mono ?_
        rintro e w3 ⟨rfl, rfl⟩
        have hg := heap_alloc_new wr (.cells (ints .u8 (four z)).toArray 117)
        have ho4 := HO2.out.alloc (.cells (ints .u8 (four z)).toArray 117)
        obtain ⟨v', wz, hrun, hoz, hkz⟩ := app_u8 ho4 (by have := HBW.out.size; simp; omega) (c := 4) (four_len z) (row_block hg (Nat.lt_succ_self _)) (by omega)
        have hlb : ∀ j, u3.ownBlock = some j → w.heap.size ≤ j := fun j hj => (HO2.out.lt j hj).1
        have HOZ := Lib.hid hoz; clear hoz
        have HKZ := Lib.hid hkz; clear hkz
        have HLB := Lib.hid hlb; clear hlb
        clear hg ho4
        go_wp2
        go_roundw
        case rel =>
          refine ⟨k + 1, by simp, by omega, ?_, ?_, ?_⟩
          · intro x hx
            rw [HZT.out] at hx
            rcases List.mem_append.1 hx with hx | hx
            · exact HALL.out x hx
            · rw [List.mem_singleton.1 hx]; exact HZ1.out
          · rw [HZT.out, List.flatMap_append, ← List.append_assoc, ← ints_append, show H.length + 4 * (k + 1) = H.length + 4 * k + 4 by omega]
            simpa using HOZ.out
          · exact Kept.below (((Kept.of_below' HBW.out (fun _ => False)).alloc _).then HKZ.out (fun j h1 h2 => absurd (HLB.out j h2) (by omega)))
        case measure => simp [intOf]; omega
      · rw [decide_eq_false hz1]
        have HZ1 := Lib.hid hz1; clear hz1
        go_wp2
        go_ret
        refine ⟨HBW.out, ?_⟩
        rw [if_neg (fun h => HZ1.out (h z (List.mem_of_getElem? HZ.out)))]
        rfl
    · have i1 : ¬ (k : Int) < (N : Int) := by omega
      have hkN : vs.take k = vs := List.take_of_length_le (by have := HN.out; omega)
      have hNk : k = N := by omega
      rw [hkN] at hall ho
      have HO2 := Lib.hid ho; clear ho
      have HBW := Lib.hid hbw; clear hbw
      have HALL := Lib.hid hall; clear hall
      go_wp2
      go_ret
      refine ⟨HBW.out, ?_⟩
      rw [if_pos HALL.out]
      refine ⟨u3, rfl, ?_⟩
      have e1 : (listW xs ys vs).length = H.length + 4 * k := by rw [listW, HD.out, List.length_append, flat_four_len, HN.out, hNk]
      rw [e1, listW, HD.out]
      exact HO2.out
end Go.Proofs.Ytaplndehoenghaa
