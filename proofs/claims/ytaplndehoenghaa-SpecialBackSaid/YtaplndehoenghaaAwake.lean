/- The law's awake: what the chapter's example says. -/
import Derived.Test.YtaplndehoenghaaWList
import Derived.Test.YtaplndehoenghaaSpG
namespace Go.Proofs.Ytaplndehoenghaa
open Go.RowKit
set_option linter.unusedVariables false

set_option maxRecDepth 100000 in
theorem awake_true (w : World) : Calls Try.prog 17 #[] w fun e w' => e = .returned (.bool true) ∧ Below w.heap.size w w' := by
  have b1 : Below w.heap.size w (w.alloc (.cells #[.int .i64 2] 3)) := (Below.refl _ _).alloc (Nat.le_refl _) _
  have r1 : Row (w.alloc (.cells #[.int .i64 2] 3)) (w.alloc (.cells #[.int .i64 2] 3)).heap.size (some ⟨w.heap.size, 0, none⟩) (ints .i64 [2]) := by
    rw [World.size_alloc]
    exact row_one w (.int .i64 2) 3
  have R1 := Lib.hid r1; clear r1
  have B1 := Lib.hid b1; clear b1
  go_enter Try.func17, Try.ntmps17
  go_wp2_with fail
  refine (writeList_any none none (some ⟨w.heap.size, 0, none⟩) [] [] [2] 0 0 1 0 0 1 _ rfl rfl rfl (by omega) (by omega) (by omega) (by omega) (Row.nil _ _ _) (Row.nil _ _ _) R1.out (by intro x hx; simp at hx; omega)).mono ?_
  rintro e w2 ⟨hb, hp⟩
  rw [if_pos (by intro x hx; simp at hx; omega)] at hp
  obtain ⟨v, rfl, ho⟩ := hp
  obtain ⟨vp, vc, rfl, -⟩ := own_slice ho
  rw [show listW [] [] [2] = [128, 0, 0, 0, 0, 0, 0, 0, 0, 0, 2] by rfl] at ho
  have hr := Row.of_own ho
  have ln : (listW [] [] [2]).length = 11 := rfl
  rw [ln]
  have B2 := Lib.hid (B1.out.trans (hb.mono B1.out.size)); clear hb
  have hg := heap_alloc_new w2 (.cells #[.int .u8 128, .int .u8 0, .int .u8 0, .int .u8 0, .int .u8 0, .int .u8 0, .int .u8 0, .int .u8 0, .int .u8 0, .int .u8 0, .int .u8 2] 5)
  have rg : Row (w2.alloc (.cells #[.int .u8 128, .int .u8 0, .int .u8 0, .int .u8 0, .int .u8 0, .int .u8 0, .int .u8 0, .int .u8 0, .int .u8 0, .int .u8 0, .int .u8 2] 5)) (w2.heap.size + 1) (some ⟨w2.heap.size, 0, none⟩) (ints .u8 [128, 0, 0, 0, 0, 0, 0, 0, 0, 0, 2]) :=
    row_block hg (Nat.lt_succ_self _)
  have ra := (hr.alloc (Nat.le_refl _) (.cells #[.int .u8 128, .int .u8 0, .int .u8 0, .int .u8 0, .int .u8 0, .int .u8 0, .int .u8 0, .int .u8 0, .int .u8 0, .int .u8 0, .int .u8 2] 5)).more (Nat.le_succ _)
  have RG := Lib.hid rg; clear rg
  have RA := Lib.hid ra; clear ra
  have HO := Lib.hid ho; clear ho
  have LN := Lib.hid ln; clear ln
  clear hr hg
  go_wp2_with fail
  refine (same_eq vp (some ⟨w2.heap.size, 0, none⟩) [128, 0, 0, 0, 0, 0, 0, 0, 0, 0, 2] 11 vc 11 (w2.heap.size + 1) _ rfl (by omega) RA.out RG.out).mono ?_
  rintro e w3 ⟨rfl, hd⟩
  have D3 := Lib.hid hd; clear hd
  go_wp2
  go_ret
  exact ⟨rfl, (B2.out.alloc B2.out.size _).trans (D3.out.below _)⟩
end Go.Proofs.Ytaplndehoenghaa
