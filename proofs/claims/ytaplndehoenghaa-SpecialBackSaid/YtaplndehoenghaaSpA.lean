/- The walks of the leaves that the statements on packet 'special' reach. -/
import Derived.Test.YtaplndehoenghaaBase
namespace Go.Proofs.Ytaplndehoenghaa
open Go.RowKit

theorem version_any (n : Int) (w : World) :
    Calls Try.prog 40 #[.int .i64 n] w fun e w' => e = .returned (.bool (decide (1 ≤ n ∧ n < 4294967296))) ∧ w = w' := by
  by_cases h : 1 ≤ n
  · go_enter Try.func40, Try.ntmps40
    go_wp2
    go_ret
    exact ⟨by simp [h], rfl⟩
  · have h' : ¬ (1 ≤ n ∧ n < 4294967296) := by omega
    go_enter Try.func40, Try.ntmps40
    go_wp2
    go_ret
    exact ⟨by simp [h'], rfl⟩

/-- The four bytes of a number. -/
def four (n : Int) : List Int := [n / 16777216 % 256, n / 65536 % 256, n / 256 % 256, n % 256]
/-- The number of four bytes. -/
def quad (b0 b1 b2 b3 : Int) : Int := b0 * 16777216 + b1 * 65536 + b2 * 256 + b3

theorem big_any (n : Int) (w : World) (h0 : -9223372036854775808 ≤ n) (h1 : n ≤ 9223372036854775807) :
    Calls Try.prog 48 #[.int .i64 n] w fun e w' => e = .returned (.slice (some ⟨w.heap.size, 0, none⟩) 4 4) ∧
      w.alloc (.cells (ints .u8 (four n)).toArray 117) = w' := by
  go_enter Try.func48, Try.ntmps48
  go_wp2
  go_ret
  exact ⟨rfl, rfl⟩

set_option maxRecDepth 100000 in
theorem small_any (b0 b1 b2 b3 : Int) (b o : Nat) (c : Nat) (w : World)
   (r0 : 0 ≤ b0 ∧ b0 < 256) (r1 : 0 ≤ b1 ∧ b1 < 256) (r2 : 0 ≤ b2 ∧ b2 < 256) (r3 : 0 ≤ b3 ∧ b3 < 256)
   (h : Row w w.heap.size (some ⟨b, o, none⟩) (ints .u8 [b0, b1, b2, b3])) :
    Calls Try.prog 41 #[.slice (some ⟨b, o, none⟩) 4 c] w fun e w' => e = .returned (.int .i64 (quad b0 b1 b2 b3)) ∧
      Below w.heap.size w w' := by
  have hr := h.alloc (Nat.le_refl _) (.cells #[.int .u8 0, .int .u8 0, .int .u8 0, .int .u8 0] 117)
  have hn := heap_alloc_new w (.cells #[.int .u8 0, .int .u8 0, .int .u8 0, .int .u8 0] 117)
  go_enter Try.func41, Try.ntmps41
  go_wp2_with (refine wpList_copy_splice rfl (.tmp 4) (.tmp 5) 22 22 rfl 5 Try.underlying22 (by kernel_rfl) (some ⟨w.heap.size, 0, none⟩) (some ⟨b, o, none⟩) 4 4 4 c rfl rfl w.heap.size 0 [.int .u8 0, .int .u8 0, .int .u8 0, .int .u8 0] 117 hn (ints .u8 [b0, b1, b2, b3]) rfl (fun _ => ⟨rfl, _, rfl, hr.adds⟩) (by simp) (ints_one _ _) w.heap.size w ((Below.refl _ _).alloc (Nat.le_refl _) _) (Nat.le_refl _) ?_)
  intro w1 hh hb
  have c0 : w1.cell? ⟨w.heap.size, 0, none⟩ = some (.int .u8 b0) := cell_of_heap hh.out 0
  have c1 : w1.cell? ⟨w.heap.size, 1, none⟩ = some (.int .u8 b1) := cell_of_heap hh.out 1
  have c2 : w1.cell? ⟨w.heap.size, 2, none⟩ = some (.int .u8 b2) := cell_of_heap hh.out 2
  have c3 : w1.cell? ⟨w.heap.size, 3, none⟩ = some (.int .u8 b3) := cell_of_heap hh.out 3
  clear hh
  go_wp2
  go_ret
  refine ⟨?_, hb⟩
  have e1 : bits .or .i64 (b0 * 16777216) (b1 * 65536) = b0 * 16777216 + b1 * 65536 := or_low 24 b0 (b1 * 65536) (by omega) (by omega) (by omega) (by omega) (by omega)
  have e2 : bits .or .i64 (b0 * 16777216 + b1 * 65536) (b2 * 256) = b0 * 16777216 + b1 * 65536 + b2 * 256 := by
    have := or_low 16 (b0 * 256 + b1) (b2 * 256) (by omega) (by omega) (by omega) (by omega) (by omega)
    rw [show (b0 * 256 + b1) * 2 ^ 16 = b0 * 16777216 + b1 * 65536 from by omega] at this
    exact this
  have e3 : bits .or .i64 (b0 * 16777216 + b1 * 65536 + b2 * 256) b3 = b0 * 16777216 + b1 * 65536 + b2 * 256 + b3 := by
    have := or_low 8 (b0 * 65536 + b1 * 256 + b2) b3 (by omega) (by omega) (by omega) (by omega) (by omega)
    rw [show (b0 * 65536 + b1 * 256 + b2) * 2 ^ 8 = b0 * 16777216 + b1 * 65536 + b2 * 256 from by omega] at this
    exact this
  show Ending.returned (.int .i64 (bits .or .i64 (bits .or .i64 (bits .or .i64 (b0 * 16777216) (b1 * 65536)) (b2 * 256)) b3)) = _
  rw [e1, e2, e3]
  rfl

/-- slices.Clone of bytes: a new row of the same bytes; nil only of nothing. -/
theorem clone_u8 (a : Option Addr) (zs : List Int) (m c : Nat) (w : World) (hm : zs.length = m) (h : Row w w.heap.size a (ints .u8 zs)) (hz : m ≤ 1000000) :
    Calls Try.prog 64 #[.slice a m c] w fun e w' => ∃ v, e = .returned v ∧ w'.ownsRow w.heap.size 5 1 v m (ints .u8 zs) ∧ Below w.heap.size w w' := by
  subst hm
  have hnil := fun n => Lib.run_eql_slice_nil (P := Try.prog) w 22 5 a n c 0 0 Try.underlying22
  rcases a with _ | ad
  · have h0 : zs = [] := by
      rcases zs with _ | ⟨z, zs⟩
      · rfl
      · obtain ⟨b, o, he, _⟩ := h (by simp [ints])
        cases he
    subst h0
    go_enter Try.func64, Try.ntmps64
    go_wp2
    go_ret
    exact ⟨_, rfl, World.ownsRow_nil _ _ _ _, Below.refl _ _⟩
  · obtain ⟨i0, hi0, hz0, hz1, hz2⟩ := info_parts info_u8
    have hr := h.alloc (Nat.le_refl _) (.cells #[] 5)
    have ho : (w.alloc (.cells #[] 5)).ownsRow w.heap.size 5 1 (.slice (some ⟨w.heap.size, 0, none⟩) 0 0) 0 [] := World.ownsRow_lit w #[] 0 (Nat.le_refl _) (by simp [maxLen]) rfl
    go_enter Try.func64, Try.ntmps64
    go_wp2_with (refine wpList_app rfl (.tmp 5) (.tmp 6) 22 rfl w.heap.size 5 i0 (.int .u8 0) 1 1 Try.underlying22 hi0 hz0 hz1 hz2 rfl (by omega) (.slice (some ⟨w.heap.size, 0, none⟩) 0 0) 0 [] rfl ho w.heap.size (some ad) zs.length c (ints .u8 zs) rfl (by simp) hr (ints_one _ _) (by simp only [maxLen]; omega) (by omega) (by simp) ?_)
    intro v1 w1 ho1 hg1 _
    go_wp2
    go_ret
    have hb : Below w.heap.size w w1 := ((Below.refl _ _).alloc (Nat.le_refl _) _).grown hg1 (by simp) (by rintro k hk; simp [Value.ownBlock] at hk; omega)
    exact ⟨v1, rfl, by simpa using ho1, hb⟩

theorem number_no (h : Int) (w : World) (hh : h < 1 ∨ 65536 < h) :
    Calls Try.prog 50 #[.int .i64 h] w fun e w' => e = .returned (.slice none 0 0) ∧ w = w' := by
  rcases hh with hh | hh
  · go_enter Try.func50, Try.ntmps50
    go_wp2
    go_ret
    exact ⟨rfl, rfl⟩
  · have h1 : ¬ h < 1 := by omega
    go_enter Try.func50, Try.ntmps50
    go_wp2
    go_ret
    exact ⟨rfl, rfl⟩
theorem number_yes (h : Int) (w : World) (h0 : 1 ≤ h) (h1 : h ≤ 65536) :
    Calls Try.prog 50 #[.int .i64 h] w fun e w' => e = .returned (.slice (some ⟨w.heap.size, 0, none⟩) 4 4) ∧ w.alloc (.cells (ints .u8 (four h)).toArray 117) = w' := by
  have h2 : ¬ h < 1 := by omega
  go_enter Try.func50, Try.ntmps50
  go_wp2
  go_rounds 5
  go_ret
  have e1 : h / 16777216 % 256 = h / 16777216 := by omega
  have e2 : h / 65536 % 256 = h / 65536 := by omega
  exact ⟨rfl, by simp only [ints, four, List.map_cons, List.map_nil, e1, e2]⟩

/-- What Numbered reads: the number, or nothing. -/
def numbered (b0 b1 b2 b3 : Int) : Int := if 1 ≤ quad b0 b1 b2 b3 ∧ quad b0 b1 b2 b3 ≤ 65536 then quad b0 b1 b2 b3 else 0

set_option maxRecDepth 100000 in
theorem numbered_any (b0 b1 b2 b3 : Int) (b o : Nat) (c : Nat) (w : World)
   (r0 : 0 ≤ b0 ∧ b0 < 256) (r1 : 0 ≤ b1 ∧ b1 < 256) (r2 : 0 ≤ b2 ∧ b2 < 256) (r3 : 0 ≤ b3 ∧ b3 < 256)
   (h : Row w w.heap.size (some ⟨b, o, none⟩) (ints .u8 [b0, b1, b2, b3])) :
    Calls Try.prog 44 #[.slice (some ⟨b, o, none⟩) 4 c] w fun e w' => e = .returned (.tuple #[.int .i64 (numbered b0 b1 b2 b3), .bool (decide (1 ≤ quad b0 b1 b2 b3 ∧ quad b0 b1 b2 b3 ≤ 65536))]) ∧
      Below w.heap.size w w' := by
  have hr := h.alloc (Nat.le_refl _) (.cells #[.int .u8 0, .int .u8 0, .int .u8 0, .int .u8 0] 117)
  have hn := heap_alloc_new w (.cells #[.int .u8 0, .int .u8 0, .int .u8 0, .int .u8 0] 117)
  go_enter Try.func44, Try.ntmps44
  go_wp2_with (refine wpList_copy_splice rfl (.tmp 11) (.tmp 12) 22 22 rfl 5 Try.underlying22 (by kernel_rfl) (some ⟨w.heap.size, 0, none⟩) (some ⟨b, o, none⟩) 4 4 4 c rfl rfl w.heap.size 0 [.int .u8 0, .int .u8 0, .int .u8 0, .int .u8 0] 117 hn (ints .u8 [b0, b1, b2, b3]) rfl (fun _ => ⟨rfl, _, rfl, hr.adds⟩) (by simp) (ints_one _ _) w.heap.size w ((Below.refl _ _).alloc (Nat.le_refl _) _) (Nat.le_refl _) ?_)
  intro w1 hh hb
  have c0 : w1.cell? ⟨w.heap.size, 0, none⟩ = some (.int .u8 b0) := cell_of_heap hh.out 0
  have c1 : w1.cell? ⟨w.heap.size, 1, none⟩ = some (.int .u8 b1) := cell_of_heap hh.out 1
  have c2 : w1.cell? ⟨w.heap.size, 2, none⟩ = some (.int .u8 b2) := cell_of_heap hh.out 2
  have c3 : w1.cell? ⟨w.heap.size, 3, none⟩ = some (.int .u8 b3) := cell_of_heap hh.out 3
  clear hh
  have i0 : ∀ w, (Instr.index 117 (.agg #[.int .u8 b0, .int .u8 b1, .int .u8 b2, .int .u8 b3]) (.int .i64 0)).run Try.prog w = .ok (.int .u8 b0) w := fun _ => by kernel_rfl
  have i1 : ∀ w, (Instr.index 117 (.agg #[.int .u8 b0, .int .u8 b1, .int .u8 b2, .int .u8 b3]) (.int .i64 1)).run Try.prog w = .ok (.int .u8 b1) w := fun _ => by kernel_rfl
  have i2 : ∀ w, (Instr.index 117 (.agg #[.int .u8 b0, .int .u8 b1, .int .u8 b2, .int .u8 b3]) (.int .i64 2)).run Try.prog w = .ok (.int .u8 b2) w := fun _ => by kernel_rfl
  have i3 : ∀ w, (Instr.index 117 (.agg #[.int .u8 b0, .int .u8 b1, .int .u8 b2, .int .u8 b3]) (.int .i64 3)).run Try.prog w = .ok (.int .u8 b3) w := fun _ => by kernel_rfl
  have z0 : bits .or .i64 0 b0 = b0 := by have := or_low 8 0 b0 (by omega) (by omega) (by omega) (by omega) (by omega); simpa using this
  have z1 : bits .or .i64 (b0 * 256) b1 = b0 * 256 + b1 := or_low 8 b0 b1 (by omega) (by omega) (by omega) (by omega) (by omega)
  have z2 : bits .or .i64 ((b0 * 256 + b1) * 256) b2 = (b0 * 256 + b1) * 256 + b2 := or_low 8 (b0 * 256 + b1) b2 (by omega) (by omega) (by omega) (by omega) (by omega)
  have z3 : bits .or .i64 (((b0 * 256 + b1) * 256 + b2) * 256) b3 = ((b0 * 256 + b1) * 256 + b2) * 256 + b3 := or_low 8 ((b0 * 256 + b1) * 256 + b2) b3 (by omega) (by omega) (by omega) (by omega) (by omega)
  have hq : ((b0 * 256 + b1) * 256 + b2) * 256 + b3 = quad b0 b1 b2 b3 := by unfold quad; omega
  by_cases hy : 1 ≤ quad b0 b1 b2 b3 ∧ quad b0 b1 b2 b3 ≤ 65536
  · rw [← hq] at hy
    have HQ := Lib.hid hq; clear hq
    go_wp2_with fail
    refine wp_loop_rounds 5 ?_
    repeat any_goals (rw [rounds_succ]; go_wp2_with fail)
    refine (number_yes _ _ hy.1 hy.2).mono ?_
    rintro e w2 ⟨rfl, rfl⟩
    go_wp2
    go_ret2
    rw [HQ.out] at hy
    refine ⟨?_, hb.alloc hb.size _⟩
    rw [numbered, if_pos hy, decide_eq_true hy, ← HQ.out]
    rfl
  · have hy' : ((b0 * 256 + b1) * 256 + b2) * 256 + b3 < 1 ∨ 65536 < ((b0 * 256 + b1) * 256 + b2) * 256 + b3 := by omega
    have HN := Lib.hid hy; clear hy
    clear hq
    go_wp2_with fail
    refine wp_loop_rounds 5 ?_
    repeat any_goals (rw [rounds_succ]; go_wp2_with fail)
    refine (number_no _ _ hy').mono ?_
    rintro e w2 ⟨rfl, rfl⟩
    go_wp2
    go_ret2
    refine ⟨?_, hb⟩
    rw [numbered, if_neg HN.out, decide_eq_false HN.out]
    rfl
theorem small_row (b0 b1 b2 b3 : Int) (a : Option Addr) (m c : Nat) (w : World) (hm : m = 4) (hu : IsU8 [b0, b1, b2, b3])
   (h : Row w w.heap.size a (ints .u8 [b0, b1, b2, b3])) :
    Calls Try.prog 41 #[.slice a m c] w fun e w' => e = .returned (.int .i64 (quad b0 b1 b2 b3)) ∧ Below w.heap.size w w' := by
  subst hm
  obtain ⟨b, o, rfl, _⟩ := h (by simp [ints])
  exact small_any b0 b1 b2 b3 b o c w (hu _ (by simp)) (hu _ (by simp)) (hu _ (by simp)) (hu _ (by simp)) h

theorem numbered_row (b0 b1 b2 b3 : Int) (a : Option Addr) (m c : Nat) (w : World) (hm : m = 4) (hu : IsU8 [b0, b1, b2, b3])
   (h : Row w w.heap.size a (ints .u8 [b0, b1, b2, b3])) :
    Calls Try.prog 44 #[.slice a m c] w fun e w' => e = .returned (.tuple #[.int .i64 (numbered b0 b1 b2 b3), .bool (decide (1 ≤ quad b0 b1 b2 b3 ∧ quad b0 b1 b2 b3 ≤ 65536))]) ∧
      Below w.heap.size w w' := by
  subst hm
  obtain ⟨b, o, rfl, _⟩ := h (by simp [ints])
  exact numbered_any b0 b1 b2 b3 b o c w (hu _ (by simp)) (hu _ (by simp)) (hu _ (by simp)) (hu _ (by simp)) h

theorem quad_bd (b0 b1 b2 b3 : Int) (hu : IsU8 [b0, b1, b2, b3]) : 0 ≤ quad b0 b1 b2 b3 ∧ quad b0 b1 b2 b3 < 4294967296 := by
  have h0 := hu b0 (by simp)
  have h1 := hu b1 (by simp)
  have h2 := hu b2 (by simp)
  have h3 := hu b3 (by simp)
  unfold quad
  omega
end Go.Proofs.Ytaplndehoenghaa
