/- slices.Clone of integers. -/
import Derived.Test.YtaplndehoenghaaDoorUtil
namespace Go.Proofs.YtaplndehoenghaaDoor
open Go.RowKit
set_option linter.unusedVariables false

/-- slices.Clone of integers: a new row of the same bytes; nil only of nothing. -/
theorem clone_i64 (a : Option Addr) (zs : List Int) (m c : Nat) (w : World) (hm : zs.length = m) (h : Row w w.heap.size a (ints .i64 zs)) (hz : m ≤ 1000000) :
    Calls Tryd.prog 21 #[.slice a m c] w fun e w' => ∃ v, e = .returned v ∧ IsCopy w.heap.size 3 .i64 m zs v w' ∧ Below w.heap.size w w' := by
  subst hm
  have hnil := fun n => Lib.run_eql_slice_nil (P := Tryd.prog) w 23 3 a n c 0 0 Tryd.underlying23
  rcases a with _ | ad
  · have h0 : zs = [] := by
      rcases zs with _ | ⟨z, zs⟩
      · rfl
      · obtain ⟨b, o, he, _⟩ := h (by simp [ints])
        cases he
    subst h0
    go_enter Tryd.func21, Tryd.ntmps21
    go_wp2
    go_ret
    exact ⟨_, rfl, copy_none _ _ _ _, Below.refl _ _⟩
  · obtain ⟨i0, hi0, hz0, hz1, hz2⟩ := info_parts info_int
    have hr := h.alloc (Nat.le_refl _) (.cells #[] 3)
    have ho : (w.alloc (.cells #[] 3)).ownsRow w.heap.size 3 1 (.slice (some ⟨w.heap.size, 0, none⟩) 0 0) 0 [] := World.ownsRow_lit w #[] 0 (Nat.le_refl _) (by simp [maxLen]) rfl
    go_enter Tryd.func21, Tryd.ntmps21
    go_wp2_with (refine wpList_app rfl (.tmp 5) (.tmp 6) 23 rfl w.heap.size 3 i0 (.int .i64 0) 1 8 Tryd.underlying23 hi0 hz0 hz1 hz2 rfl (by omega) (.slice (some ⟨w.heap.size, 0, none⟩) 0 0) 0 [] rfl ho w.heap.size (some ad) zs.length c (ints .i64 zs) rfl (by simp) hr (ints_one _ _) (by simp only [maxLen]; omega) (by omega) (by simp) ?_)
    intro v1 w1 ho1 hg1 _
    go_wp2
    go_ret
    have hb : Below w.heap.size w w1 := ((Below.refl _ _).alloc (Nat.le_refl _) _).grown hg1 (by simp) (by rintro k hk; simp [Value.ownBlock] at hk; omega)
    exact ⟨v1, rfl, copy_own' (by simpa using ho1), hb⟩

end Go.Proofs.YtaplndehoenghaaDoor
