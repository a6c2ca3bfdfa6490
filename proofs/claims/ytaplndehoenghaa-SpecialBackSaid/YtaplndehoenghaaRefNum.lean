/- The reference's numbers of four bytes. -/
import Derived.Test.YtaplndehoenghaaSpA
import Derived.Test.YtaplndehoenghaaBaseB
import Derived.Deep.QuietTactic
import Derived.BigQuiet
namespace Go.Proofs.Ytaplndehoenghaa
open Go.RowKit
set_option linter.unusedVariables false

theorem ret_i {x y : Int} (h : x = y) : Ending.returned (.int .i64 x) = .returned (.int .i64 y) := by rw [h]

theorem four_cells {w : World} {B : Nat} {a : Option Addr} {b0 b1 b2 b3 : Int} {r : List Int} (h : Row w B a (ints .u8 (b0 :: b1 :: b2 :: b3 :: r))) : ∃ b o, a = some ⟨b, o, none⟩ ∧ b < B ∧
    w.cell? ⟨b, o, none⟩ = some (.int .u8 b0) ∧ w.cell? ⟨b, o + 1, none⟩ = some (.int .u8 b1) ∧ w.cell? ⟨b, o + 2, none⟩ = some (.int .u8 b2) ∧ w.cell? ⟨b, o + 3, none⟩ = some (.int .u8 b3) := by
  obtain ⟨b, o, rfl, hb, hc⟩ := h.ints (by simp)
  exact ⟨b, o, rfl, hb, by simpa using hc 0 (by simp), by simpa using hc 1 (by simp), by simpa using hc 2 (by simp), by simpa using hc 3 (by simp)⟩

theorem four_ref (b0 b1 b2 b3 : Int) (r : List Int) (a : Option Addr) (m c B : Nat) (w : World) (hm : (b0 :: b1 :: b2 :: b3 :: r).length = m)
    (r0 : 0 ≤ b0 ∧ b0 < 256) (r1 : 0 ≤ b1 ∧ b1 < 256) (r2 : 0 ≤ b2 ∧ b2 < 256) (r3 : 0 ≤ b3 ∧ b3 < 256) (h : Row w B a (ints .u8 (b0 :: b1 :: b2 :: b3 :: r))) :
    Calls Try.prog 43 #[.slice a m c] w fun e w' => e = .returned (.int .i64 (quad b0 b1 b2 b3)) ∧ Drawn w w' := by
  obtain ⟨b, o, rfl, _, c0, c1, c2, c3⟩ := four_cells h
  clear h
  have hm4 : (4 : Int) ≤ (m : Int) := by simp at hm; omega
  clear hm
  go_enter Try.func43, Try.ntmps43
  go_wp2
  go_quiet (fail)
  go_wp2
  go_ret
  refine ⟨ret_i ?_, (Drawn.refl _).drewN _⟩
  unfold quad
  omega

theorem numbered_ref (b0 b1 b2 b3 : Int) (a : Option Addr) (c B : Nat) (w : World)
    (r0 : 0 ≤ b0 ∧ b0 < 256) (r1 : 0 ≤ b1 ∧ b1 < 256) (r2 : 0 ≤ b2 ∧ b2 < 256) (r3 : 0 ≤ b3 ∧ b3 < 256) (h : Row w B a (ints .u8 [b0, b1, b2, b3])) :
    Calls Try.prog 45 #[.slice a 4 c] w fun e w' => e = .returned (.int .i64 (numbered b0 b1 b2 b3)) ∧ Drawn w w' := by
  obtain ⟨b, o, rfl, _, c0, c1, c2, c3⟩ := four_cells h
  clear h
  by_cases h0 : b0 = 0
  · subst h0
    have e0 : ((0 : Int) != 0) = false := rfl
    by_cases h1 : 1 < b1
    · have e1 : decide (1 < b1) = true := by simp [h1]
      go_enter Try.func45, Try.ntmps45
      go_wp2
      go_ret
      refine ⟨ret_i ?_, Drawn.refl _⟩
      rw [numbered, if_neg (by unfold quad; omega)]
    · have e1 : decide (1 < b1) = false := by simp; omega
      by_cases h2 : 65536 < 65536 * b1 + 256 * b2 + b3
      · have e2 : decide (65536 < 65536 * b1 + 256 * b2 + b3) = true := by simp [h2]
        go_enter Try.func45, Try.ntmps45
        go_wp2
        go_quiet (fail)
        go_wp2
        go_ret
        refine ⟨ret_i ?_, (Drawn.refl _).drewN _⟩
        rw [numbered, if_neg (by unfold quad; omega)]
      · have e2 : decide (65536 < 65536 * b1 + 256 * b2 + b3) = false := by simp; omega
        go_enter Try.func45, Try.ntmps45
        go_wp2
        go_quiet (fail)
        go_wp2
        go_ret
        refine ⟨ret_i ?_, (Drawn.refl _).drewN _⟩
        unfold numbered quad
        split <;> omega
  · have e0 : (b0 != 0) = true := by simp [h0]
    go_enter Try.func45, Try.ntmps45
    go_wp2
    go_ret
    refine ⟨ret_i ?_, Drawn.refl _⟩
    rw [numbered, if_neg (by unfold quad; omega)]
end Go.Proofs.Ytaplndehoenghaa
