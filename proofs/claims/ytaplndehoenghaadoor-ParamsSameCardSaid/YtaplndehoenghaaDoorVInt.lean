/- Numbers of one to eight bytes: Size, TrailingZeros at a size, Append. -/
import Derived.Test.YtaplndehoenghaaDoorClone
namespace Go.Proofs.YtaplndehoenghaaDoor
open Go.RowKit
set_option linter.unusedVariables false
attribute [local go_sem ↓] app_hide

/-- A number's size; 0: it is none. -/
def sizeT (n : Int) : Int := if n < 0 ∨ 4611686018427387903 < n then 0 else if n < 64 then 1 else if n < 16384 then 2 else if n < 1073741824 then 4 else 8

theorem size_any (n : Int) (w : World) : Calls Tryd.prog 23 #[.int .i64 n] w fun e w' => e = .returned (.int .i64 (sizeT n)) ∧ w = w' := by
  by_cases h0 : n < 0
  · have e : sizeT n = 0 := by unfold sizeT; rw [if_pos (.inl h0)]
    rw [e]
    go_enter Tryd.func23, Tryd.ntmps23
    go_wp2
    go_ret
    exact ⟨rfl, rfl⟩
  by_cases h1 : 4611686018427387903 < n
  · have e : sizeT n = 0 := by unfold sizeT; rw [if_pos (.inr h1)]
    rw [e]
    have d0 : decide (n < 0) = false := by simp; omega
    clear e
    go_enter Tryd.func23, Tryd.ntmps23
    go_wp2
    go_ret
    exact ⟨rfl, rfl⟩
  have e0 : sizeT n = if n < 64 then 1 else if n < 16384 then 2 else if n < 1073741824 then 4 else 8 := by unfold sizeT; rw [if_neg (by omega)]
  rw [e0]
  clear e0
  by_cases h2 : n < 64
  · rw [if_pos h2]
    go_enter Tryd.func23, Tryd.ntmps23
    go_wp2
    go_ret
    exact ⟨rfl, rfl⟩
  rw [if_neg h2]
  by_cases h3 : n < 16384
  · rw [if_pos h3]
    go_enter Tryd.func23, Tryd.ntmps23
    go_wp2
    go_ret
    exact ⟨rfl, rfl⟩
  rw [if_neg h3]
  by_cases h4 : n < 1073741824
  · rw [if_pos h4]
    go_enter Tryd.func23, Tryd.ntmps23
    go_wp2
    go_ret
    exact ⟨rfl, rfl⟩
  rw [if_neg h4]
  go_enter Tryd.func23, Tryd.ntmps23
  go_wp2
  go_ret
  exact ⟨rfl, rfl⟩

/-- What the library's table holds, where a size comes to it. -/
def TabOk (w : World) : Prop := w.cell? ⟨1, 0, none⟩ = some (.int .u8 0) ∧ w.cell? ⟨1, 1, none⟩ = some (.int .u8 1) ∧
  w.cell? ⟨1, 3, none⟩ = some (.int .u8 2) ∧ w.cell? ⟨1, 7, none⟩ = some (.int .u8 3) ∧ 1 < w.heap.size
theorem TabOk.below {w w' : World} (h : TabOk w) (hb : Below w.heap.size w w') : TabOk w' := by
  obtain ⟨h0, h1, h2, h3, h4⟩ := h
  have hs := hb.size
  exact ⟨(hb.cell (p := ⟨_, _, none⟩) h4).trans h0, (hb.cell (p := ⟨_, _, none⟩) h4).trans h1, (hb.cell (p := ⟨_, _, none⟩) h4).trans h2, (hb.cell (p := ⟨_, _, none⟩) h4).trans h3, by omega⟩

theorem tz64_1 (w : World) (h : TabOk w) : Calls Tryd.prog 43 #[.int .u64 1] w fun e w' => e = .returned (.int .i64 0) ∧ w = w' := by
  obtain ⟨h0, h1, h2, h3, h4⟩ := h
  have a1 : bits .and .u64 1 (IntKind.u64.wrap (-1)) = 1 := by decide +kernel
  have a2 : IntKind.u64.wrap 285870213051353865 = 285870213051353865 := by decide +kernel
  go_enter Tryd.func43, Tryd.ntmps43
  go_wp2
  go_ret
  exact ⟨rfl, rfl⟩
theorem tz_1 (w : World) (h : TabOk w) : Calls Tryd.prog 36 #[.int .u64 1] w fun e w' => e = .returned (.int .i64 0) ∧ w = w' := by
  go_enter Tryd.func36, Tryd.ntmps36
  go_wp2_with fail
  refine (tz64_1 w h).mono ?_
  rintro e w' ⟨rfl, rfl⟩
  go_wp2
  go_ret
  exact ⟨rfl, rfl⟩
theorem tz64_2 (w : World) (h : TabOk w) : Calls Tryd.prog 43 #[.int .u64 2] w fun e w' => e = .returned (.int .i64 1) ∧ w = w' := by
  obtain ⟨h0, h1, h2, h3, h4⟩ := h
  have a1 : bits .and .u64 2 (IntKind.u64.wrap (-2)) = 2 := by decide +kernel
  have a2 : IntKind.u64.wrap 571740426102707730 = 571740426102707730 := by decide +kernel
  go_enter Tryd.func43, Tryd.ntmps43
  go_wp2
  go_ret
  exact ⟨rfl, rfl⟩
theorem tz_2 (w : World) (h : TabOk w) : Calls Tryd.prog 36 #[.int .u64 2] w fun e w' => e = .returned (.int .i64 1) ∧ w = w' := by
  go_enter Tryd.func36, Tryd.ntmps36
  go_wp2_with fail
  refine (tz64_2 w h).mono ?_
  rintro e w' ⟨rfl, rfl⟩
  go_wp2
  go_ret
  exact ⟨rfl, rfl⟩
theorem tz64_4 (w : World) (h : TabOk w) : Calls Tryd.prog 43 #[.int .u64 4] w fun e w' => e = .returned (.int .i64 2) ∧ w = w' := by
  obtain ⟨h0, h1, h2, h3, h4⟩ := h
  have a1 : bits .and .u64 4 (IntKind.u64.wrap (-4)) = 4 := by decide +kernel
  have a2 : IntKind.u64.wrap 1143480852205415460 = 1143480852205415460 := by decide +kernel
  go_enter Tryd.func43, Tryd.ntmps43
  go_wp2
  go_ret
  exact ⟨rfl, rfl⟩
theorem tz_4 (w : World) (h : TabOk w) : Calls Tryd.prog 36 #[.int .u64 4] w fun e w' => e = .returned (.int .i64 2) ∧ w = w' := by
  go_enter Tryd.func36, Tryd.ntmps36
  go_wp2_with fail
  refine (tz64_4 w h).mono ?_
  rintro e w' ⟨rfl, rfl⟩
  go_wp2
  go_ret
  exact ⟨rfl, rfl⟩
theorem tz64_8 (w : World) (h : TabOk w) : Calls Tryd.prog 43 #[.int .u64 8] w fun e w' => e = .returned (.int .i64 3) ∧ w = w' := by
  obtain ⟨h0, h1, h2, h3, h4⟩ := h
  have a1 : bits .and .u64 8 (IntKind.u64.wrap (-8)) = 8 := by decide +kernel
  have a2 : IntKind.u64.wrap 2286961704410830920 = 2286961704410830920 := by decide +kernel
  go_enter Tryd.func43, Tryd.ntmps43
  go_wp2
  go_ret
  exact ⟨rfl, rfl⟩
theorem tz_8 (w : World) (h : TabOk w) : Calls Tryd.prog 36 #[.int .u64 8] w fun e w' => e = .returned (.int .i64 3) ∧ w = w' := by
  go_enter Tryd.func36, Tryd.ntmps36
  go_wp2_with fail
  refine (tz64_8 w h).mono ?_
  rintro e w' ⟨rfl, rfl⟩
  go_wp2
  go_ret
  exact ⟨rfl, rfl⟩
end Go.Proofs.YtaplndehoenghaaDoor
