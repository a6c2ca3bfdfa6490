/- slices.Grow of nothing and slices.Concat, of bytes. -/
import Derived.Test.YtaplndehoenghaaSpA
import Derived.Test.YtaplndehoenghaaBaseB
import Derived.Lib.AppendZerosOnto
namespace Go.Proofs.Ytaplndehoenghaa
open Go.RowKit
set_option linter.unusedVariables false

theorem grow_zero (w : World) : Calls Try.prog 85 #[.slice none 0 0, .int .i64 0] w fun e w' => e = .returned (.slice none 0 0) ∧ w = w' := by
  go_enter Try.func85, Try.ntmps85
  go_wp2
  go_ret
  exact ⟨rfl, rfl⟩

set_option maxRecDepth 100000 in
theorem grow_nil (n : Nat) (w : World) (hn : n ≤ 1000000) : Calls Try.prog 85 #[.slice none 0 0, .int .i64 n] w fun e w' => ∃ v, e = .returned v ∧ w'.ownsRow w.heap.size 5 1 v 0 [] ∧ Below w.heap.size w w' := by
  by_cases h0 : n = 0
  · subst h0
    refine (grow_zero w).mono ?_
    rintro e w' ⟨rfl, rfl⟩
    exact ⟨_, rfl, World.ownsRow_nil _ _ _ _, Below.refl _ _⟩
  · obtain ⟨i0, hi0, hz0, hz1, hz2⟩ := info_parts info_u8
    have hr := fun ty => Lib.run_append_grow_zeros (P := Try.prog) w 22 3 ty 5 i0 (.int .u8 0) .i64 .i64 Try.underlying22 (by kernel_rfl) hi0 hz0 none 0 0 [] (run_firstCells_none _ _ _ _ _) n (by omega) (by omega) (by omega) (by omega) (by rw [hz2]; omega) (growslice_fits (by omega) (by rw [hz2]; omega))
    have hG1 : n ≤ grownCap w (0 + n) 0 5 := by have := grownCap_ge w (0 + n) 0 5; omega
    have hG2 := grownCap_le_maxLen w (0 + n) 0 5 (by unfold maxLen; omega)
    obtain ⟨G, hG⟩ : ∃ G, G = grownCap w (0 + n) 0 5 := ⟨_, rfl⟩
    rw [← hG] at hr hG1 hG2
    clear hG
    have hn1 : (1 : Int) ≤ (n : Int) := by omega
    have hn2 : (n : Int) ≤ 1000000 := by omega
    have HR := Lib.hid hr; clear hr
    have hGi : (G : Int) ≤ 9223372036854775807 := by unfold maxLen at hG2; omega
    go_enter Try.func85, Try.ntmps85
    go_wp2_with (at_builtin; refine Lib.wpList_append_run _ rfl _ _ _ _ rfl _ _ rfl rfl _ _ (HR.out _) ?_)
    all_goals (
      go_ret
      refine ⟨.slice (some ⟨w.heap.size, 0, none⟩) 0 G, rfl, ⟨rfl, .inr ⟨w.heap.size, G, _, rfl, Nat.le_refl _, heap_alloc_new w _, Nat.zero_le _, hG2, ?_, by simp⟩⟩, ((Below.refl _ _).alloc (Nat.le_refl _) _).trans (((Drawn.refl _).drew).below _)⟩
      simp [size_zeroCells]
      omega)

/-- append of bytes that are read, onto an owned row. -/
theorem app_u8 {W : World} {B n : Nat} {v : Value} {xs : List Value} (ho : W.ownsRow B 5 1 v n xs) (hB : B ≤ W.heap.size) {Br m c : Nat} {A : Option Addr} {ys : List Int} (hm : ys.length = m)
    (hr : Row W Br A (ints .u8 ys)) (hn : n + m ≤ 1000000) :
    ∃ v' wz, (appSem #[22, 22] 22 #[v, .slice A m c]).run Try.prog W = .ok v' wz ∧ wz.ownsRow B 5 1 v' (n + m) (xs ++ ints .u8 ys) ∧ Kept (fun k => v.ownBlock = some k) W wz := by
  obtain ⟨i0, hi, hz0, hz1, hz2⟩ := info_parts info_u8
  obtain ⟨v', wz, hrun, hoz, hgz, _⟩ := run_app (P := Try.prog) W B 22 22 5 i0 (.int .u8 0) 1 1 Try.underlying22 hi hz0 hz1 hz2 rfl (by omega) v n xs ho Br A m c (ints .u8 ys) (by simp [hm]) hr (ints_one _ _) (by simp only [maxLen]; omega) (by omega) hB
  exact ⟨v', wz, hrun, hoz, (Kept.refl _ _).grown hgz fun k hk => .inl hk⟩

/-- The pieces that are joined: where each lies, its capacity, its bytes. -/
abbrev Piece := Option Addr × Nat × List Int
def joined (L : List Piece) : List Int := L.flatMap (·.2.2)
theorem joined_take (L : List Piece) (k : Nat) (p : Piece) (h : L[k]? = some p) : joined (L.take (k + 1)) = joined (L.take k) ++ p.2.2 := by
  simp [joined, List.take_add_one, h]
theorem joined_len (L : List Piece) (k : Nat) : (joined (L.take k)).length ≤ (joined L).length := by
  have : joined L = joined (L.take k) ++ joined (L.drop k) := by
    rw [joined, joined, joined, ← List.flatMap_append, List.take_append_drop]
  rw [this, List.length_append]
  omega

attribute [local go_sem ↓] app_hide

set_option maxRecDepth 100000 in
set_option maxHeartbeats 1000000 in
theorem concat_any (L : List Piece) (b o N c : Nat) (w : World) (hN : L.length = N) (hN1 : N ≤ 1000) (hb : b < w.heap.size) (hcell : ∀ i p, L[i]? = some p → w.cell? ⟨b, o + i, none⟩ = some (.slice p.1 p.2.2.length p.2.1))
    (hrow : ∀ p ∈ L, Row w w.heap.size p.1 (ints .u8 p.2.2)) (hT : (joined L).length ≤ 1000000) :
    Calls Try.prog 69 #[.slice (some ⟨b, o, none⟩) N c] w fun e w' => ∃ v, e = .returned v ∧ w'.ownsRow w.heap.size 5 1 v (joined L).length (ints .u8 (joined L)) ∧ Below w.heap.size w w' := by
  have HN := Lib.hid hN; clear hN
  have HC := Lib.hid hcell; clear hcell
  have HR := Lib.hid hrow; clear hrow
  go_enter Try.func69, Try.ntmps69
  go_wp2
  go_loopw [3, 11] (fun s i wr => ∃ k t : Nat, t = (joined (L.take k)).length ∧ s = .int .i64 t ∧ i = .int .i64 k ∧ k ≤ N ∧ w = wr) (fun _ i _ => N - (intOf i).toNat)
  case atStart => exact ⟨0, 0, by simp [joined], by simp, by simp, Nat.zero_le _, rfl⟩
  case round =>
    obtain ⟨k, t, ht, rfl, rfl, hk, rfl⟩ := hrel
    have ht2 := joined_len L k
    rw [← ht] at ht2
    have t1 : (t : Int) ≤ 1000000 := by omega
    have HTk := Lib.hid ht; clear ht
    clear ht2
    by_cases hlt : k < N
    · obtain ⟨p, hp⟩ : ∃ p, L[k]? = some p := ⟨_, List.getElem?_eq_getElem (by have := HN.out; omega)⟩
      have cc := HC.out k p hp
      obtain ⟨pa, pc, pxs⟩ := p
      have hj := joined_take L k _ hp
      have hj2 := joined_len L (k + 1)
      rw [hj, List.length_append, ← HTk.out] at hj2
      dsimp only at hj2 cc hj
      obtain ⟨m, hm⟩ : ∃ m, pxs.length = m := ⟨_, rfl⟩
      rw [hm] at cc hj2
      have t2 : (t : Int) + (m : Int) ≤ 1000000 := by omega
      have i1 : (k : Int) < (N : Int) := by omega
      have t3 : ¬ ((t : Int) + (m : Int) < 0) := by omega
      have HJ := Lib.hid hj; clear hj
      have HM := Lib.hid hm; clear hm
      have HP := Lib.hid hp; clear hp
      clear hj2
      go_wp2
      go_roundw
      case rel => exact ⟨k + 1, t + m, by rw [HJ.out, List.length_append, ← HTk.out, HM.out], by simp, by simp, by omega, trivial⟩
      case measure => simp [intOf]; omega
    · have i1 : ¬ (k : Int) < (N : Int) := by omega
      go_wp2_with fail
      refine (grow_nil t w (by omega)).mono ?_
      rintro e w1 ⟨v1, rfl, ho1, hb1⟩
      have HO1 := Lib.hid ho1; clear ho1
      have HB1 := Lib.hid hb1; clear hb1
      go_wp2
      go_loopw [6, 27] (fun v i wr => ∃ k : Nat, i = .int .i64 k ∧ k ≤ N ∧ wr.ownsRow w.heap.size 5 1 v (joined (L.take k)).length (ints .u8 (joined (L.take k))) ∧ Below w.heap.size w wr) (fun _ i _ => N - (intOf i).toNat)
      case atStart => exact ⟨0, by simp, Nat.zero_le _, by simpa [joined, ints] using HO1.out, HB1.out⟩
      case round =>
        rename_i u6 u27 _
        obtain ⟨k, hki, hk, ho, hbw⟩ := hrel
        subst hki
        obtain ⟨t, ht⟩ : ∃ t, (joined (L.take k)).length = t := ⟨_, rfl⟩
        rw [ht] at ho
        have ht2 := joined_len L k
        rw [ht] at ht2
        have HTk := Lib.hid ht; clear ht
        by_cases hlt : k < N
        · obtain ⟨p, hp⟩ : ∃ p, L[k]? = some p := ⟨_, List.getElem?_eq_getElem (by have := HN.out; omega)⟩
          have hmem : p ∈ L := List.mem_of_getElem? hp
          have cc := HC.out k p hp
          have rr := (HR.out p hmem).below hbw
          obtain ⟨pa, pc, pxs⟩ := p
          have hj := joined_take L k _ hp
          have hj2 := joined_len L (k + 1)
          rw [hj, List.length_append, HTk.out] at hj2
          dsimp only at hj2 cc hj rr
          have cc2 := (hbw.cell (p := ⟨b, o + k, none⟩) hb).trans cc
          obtain ⟨m, hm⟩ : ∃ m, pxs.length = m := ⟨_, rfl⟩
          rw [hm] at cc cc2 hj2
          have i1 : (k : Int) < (N : Int) := by omega
          obtain ⟨v', wz, hrun, hoz, hkz⟩ := app_u8 ho hbw.size hm (c := pc) rr (by omega)
          have hlb : ∀ j, u6.ownBlock = some j → w.heap.size ≤ j := fun j hj => (ho.lt j hj).1
          have HJ := Lib.hid hj; clear hj
          have HM := Lib.hid hm; clear hm
          have HP := Lib.hid hp; clear hp
          have HOZ := Lib.hid hoz; clear hoz
          have HKZ := Lib.hid hkz; clear hkz
          have HO := Lib.hid ho; clear ho
          have HBW := Lib.hid hbw; clear hbw
          have HLB := Lib.hid hlb; clear hlb
          have RR := Lib.hid rr; clear rr
          clear hj2 cc
          go_wp2
          go_roundw
          case rel =>
            refine ⟨k + 1, by simp, by omega, ?_, ?_⟩
            · rw [HJ.out, List.length_append, HTk.out, HM.out, ← ints_append]
              exact HOZ.out
            · exact Kept.below ((Kept.of_below' HBW.out (fun _ => False)).then HKZ.out (fun j h1 h2 => absurd (HLB.out j h2) (by omega)))
          case measure => simp [intOf]; omega
        · have i1 : ¬ (k : Int) < (N : Int) := by omega
          have hkN : L.take k = L := List.take_of_length_le (by have := HN.out; omega)
          have HO := Lib.hid ho; clear ho
          have HBW := Lib.hid hbw; clear hbw
          go_wp2
          go_ret
          refine ⟨u6, rfl, ?_, HBW.out⟩
          have := HO.out
          rw [← HTk.out, hkN] at this
          exact this
end Go.Proofs.Ytaplndehoenghaa
