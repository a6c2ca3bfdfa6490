/- The reference's ReadList. -/
import Derived.Test.YtaplndehoenghaaRefLaw
import Derived.Test.YtaplndehoenghaaRefNum
import Derived.Test.YtaplndehoenghaaSpF
namespace Go.Proofs.Ytaplndehoenghaa
open Go.RowKit
set_option linter.unusedVariables false

def noListRef : Ending := .returned (.tuple #[.agg #[.slice none 0 0, .slice none 0 0, .slice none 0 0], .bool false])

theorem refList_no (a : Option Addr) (zs : List Int) (m c B : Nat) (w : World) (hm : zs.length = m) (hc : m ≤ c) (hl : m ≤ 1000000) (hB : B ≤ w.heap.size)
    (hr : Row w B a (ints .u8 zs)) (hu : IsU8 zs) (hn : headR 128 zs = none) :
    Calls Try.prog 12 #[.slice a m c] w fun e w' => e = noListRef ∧ Below w.heap.size w w' := by
  have hr2 := hr.alloc hB (.cells #[.slice none 0 0, .slice none 0 0, .slice none 0 0] 29)
  have HR2 := Lib.hid hr2; clear hr2
  obtain ⟨n2, nb⟩ := one_new w (.cells #[.slice none 0 0, .slice none 0 0, .slice none 0 0] 29)
  have N2 := Lib.hid n2; clear n2
  have NB := Lib.hid nb; clear nb
  have HM := Lib.hid hm; clear hm
  have HN := Lib.hid hn; clear hn
  go_enter Try.func12, Try.ntmps12
  go_wp2_with fail
  refine (start_no a zs 128 m c B _ HM.out hl hc (by simp; omega) hu (by omega) (by omega) HR2.out HN.out).mono ?_
  rintro e w1 ⟨rfl, hb⟩
  have g2 : w1.heap[w.heap.size]? = some (.cells #[.slice none 0 0, .slice none 0 0, .slice none 0 0] 29 (0, 0)) := (hb.block _ (by simp)).trans N2.out
  have b0 := Lib.hid (NB.out.trans (hb.mono (by simp)))
  have cA := cells3 g2
  have fA := unfrozen g2
  clear g2 hb
  unfold noStart
  go_wp2
  refine bodyPost_ret (v := .tuple #[.agg #[.slice none 0 0, .slice none 0 0, .slice none 0 0], .bool false]) (by simp [results, Try.results12, go_sem, cA]) rfl ⟨rfl, ?_⟩
  exact ((b0.out.setCell (Nat.le_refl _) _).setCell (Nat.le_refl _) _).setCell (Nat.le_refl _) _

theorem refList_bad (a : Option Addr) (zs : List Int) (m c B : Nat) (w : World) (hm : zs.length = m) (hc : m ≤ c) (hl : m ≤ 1000000) (hB : B ≤ w.heap.size)
    (hr : Row w B a (ints .u8 zs)) (hu : IsU8 zs) (v : Int) (n1 n2 left : List Int) (hn : headR 128 zs = some (v, n1, n2, left))
    (hbad : v ≠ 0 ∨ left.length = 0 ∨ left.length % 4 ≠ 0 ∨ 64 < left.length) :
    Calls Try.prog 12 #[.slice a m c] w fun e w' => e = noListRef ∧ Below w.heap.size w w' := by
  have hr2 := hr.alloc hB (.cells #[.slice none 0 0, .slice none 0 0, .slice none 0 0] 29)
  have HR2 := Lib.hid hr2; clear hr2
  obtain ⟨n2', nb⟩ := one_new w (.cells #[.slice none 0 0, .slice none 0 0, .slice none 0 0] 29)
  have N2 := Lib.hid n2'; clear n2'
  have NB := Lib.hid nb; clear nb
  have hlb : left.length ≤ 1000000 := by have := headR_u8 hu hn; omega
  have hbad' : ((v != 0) = true) ∨ ((v != 0) = false ∧ ((left.length : Int) == 0) = true) ∨ ((v != 0) = false ∧ ((left.length : Int) == 0) = false ∧ ((left.length : Int) % 4 != 0) = true) ∨
      ((v != 0) = false ∧ ((left.length : Int) == 0) = false ∧ ((left.length : Int) % 4 != 0) = false ∧ decide (64 < (left.length : Int)) = true) := by
    by_cases h1 : v = 0
    · refine .inr ?_
      by_cases h2 : left.length = 0
      · exact .inl ⟨by simp [h1], by simp [List.length_eq_zero_iff.1 h2]⟩
      · refine .inr ?_
        have e2 : ((left.length : Int) == 0) = false := beq_eq_false_iff_ne.2 (by omega)
        by_cases h3 : left.length % 4 = 0
        · have e3 : ((left.length : Int) % 4 != 0) = false := by simp; omega
          exact .inr ⟨by simp [h1], e2, e3, by simp; omega⟩
        · exact .inl ⟨by simp [h1], e2, by simp; omega⟩
    · exact .inl (by simp [h1])
  clear hbad
  have HN := Lib.hid hn; clear hn
  have HM := Lib.hid hm; clear hm
  obtain ⟨q, hq⟩ : ∃ q, left.length = q := ⟨_, rfl⟩
  rw [hq] at hbad' hlb
  have HQ := Lib.hid hq; clear hq
  rcases hbad' with d1 | ⟨d1, d2⟩ | ⟨d1, d2, d3⟩ | ⟨d1, d2, d3, d4⟩
  all_goals
    go_enter Try.func12, Try.ntmps12
    go_wp2_with fail
    refine (start_yes a zs 128 m c B _ HM.out hl hc (by simp; omega) hu (by omega) (by omega) HR2.out v n1 n2 left HN.out).mono ?_
    rintro e w1 ⟨a1, a2, a3, c1, c2, c3, rfl, _, _, _, _, _, _, hb⟩
    rw [HQ.out]
    have g2 : w1.heap[w.heap.size]? = some (.cells #[.slice none 0 0, .slice none 0 0, .slice none 0 0] 29 (0, 0)) := (hb.block _ (by simp)).trans N2.out
    have b0 := Lib.hid (NB.out.trans (hb.mono (by simp)))
    have cA := cells3 g2
    have fA := unfrozen g2
    clear g2 hb
    go_wp2
    refine bodyPost_ret (v := .tuple #[.agg #[.slice none 0 0, .slice none 0 0, .slice none 0 0], .bool false]) (by simp [results, Try.results12, go_sem, cA]) rfl ⟨rfl, ?_⟩
    exact ((b0.out.setCell (Nat.le_refl _) _).setCell (Nat.le_refl _) _).setCell (Nat.le_refl _) _
end Go.Proofs.Ytaplndehoenghaa
