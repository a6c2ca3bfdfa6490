/- The law's of: params copied. (The walk is printed by wip/gen/copyfn.py.) -/
import Derived.Test.YtaplndehoenghaaDoorCopy
namespace Go.Proofs.YtaplndehoenghaaDoor
open Go.RowKit
set_option linter.unusedVariables false
attribute [local go_sem ↓] app_hide

/-- What the operations of 6 leave. -/
def ofF (n0 R1 R2 : Nat) (idle : Int) (data : Int) (hg : Bool) (ho : Bool) (hr : Bool) (gA : Option Addr) (gZ : List Int) (gM gC : Nat) (oA : Option Addr) (oZ : List Int) (oM oC : Nat) (rA : Option Addr) (rZ : List Int) (rM rC : Nat) (cho : Int) (vsA : Option Addr) (vsZ : List Int) (vsM vsC : Nat) : Nat → Value → World → Prop
  | 0, v, _ => v = .pointer (some ⟨R1, 0, none⟩)
  | 1, v, _ => v = .int .i64 idle
  | 2, v, _ => v = .pointer (some ⟨R1, 1, none⟩)
  | 3, v, _ => v = .int .i64 data
  | 4, v, _ => v = .pointer (some ⟨R1, 2, none⟩)
  | 5, v, _ => v = .bool hg
  | 6, v, _ => v = .pointer (some ⟨R1, 3, none⟩)
  | 7, v, _ => v = .bool ho
  | 8, v, _ => v = .pointer (some ⟨R1, 4, none⟩)
  | 9, v, _ => v = .bool hr
  | 10, v, w => IsEmp n0 5 v w
  | 11, v, _ => v = .pointer (some ⟨R1, 5, none⟩)
  | 12, v, _ => v = .slice gA gM gC
  | 13, v, w => IsCopy n0 5 .u8 gM gZ v w
  | 14, v, w => IsEmp n0 5 v w
  | 15, v, _ => v = .pointer (some ⟨R1, 6, none⟩)
  | 16, v, _ => v = .slice oA oM oC
  | 17, v, w => IsCopy n0 5 .u8 oM oZ v w
  | 18, v, w => IsEmp n0 5 v w
  | 19, v, _ => v = .pointer (some ⟨R1, 7, none⟩)
  | 20, v, _ => v = .slice rA rM rC
  | 21, v, w => IsCopy n0 5 .u8 rM rZ v w
  | 22, v, _ => v = .pointer (some ⟨R1, 8, none⟩)
  | 23, v, _ => v = .int .i64 cho
  | 24, v, w => IsEmp n0 3 v w
  | 25, v, _ => v = .pointer (some ⟨R1, 9, none⟩)
  | 26, v, _ => v = .slice vsA vsM vsC
  | 27, v, w => IsCopy n0 3 .i64 vsM vsZ v w
  | 28, v, w => ∃ gS oS rS vsS, v = .agg #[.int .i64 idle, .int .i64 data, .bool hg, .bool ho, .bool hr, gS, oS, rS, .int .i64 cho, vsS] ∧ IsCopy n0 5 .u8 gM gZ gS w ∧ IsCopy n0 5 .u8 oM oZ oS w ∧ IsCopy n0 5 .u8 rM rZ rS w ∧ IsCopy n0 3 .i64 vsM vsZ vsS w
  | 29, _, w => ∃ gS oS rS vsS, w.heap[R2]? = some (.cells #[.int .i64 idle, .int .i64 data, .bool hg, .bool ho, .bool hr, gS, oS, rS, .int .i64 cho, vsS] 27 (0, 0)) ∧ IsCopy n0 5 .u8 gM gZ gS w ∧ IsCopy n0 5 .u8 oM oZ oS w ∧ IsCopy n0 5 .u8 rM rZ rS w ∧ IsCopy n0 3 .i64 vsM vsZ vsS w
  | _, _, _ => True

theorem ofF_below {n0 R1 R2 : Nat} (idle : Int) (data : Int) (hg : Bool) (ho : Bool) (hr : Bool) (gA : Option Addr) (gZ : List Int) (gM gC : Nat) (oA : Option Addr) (oZ : List Int) (oM oC : Nat) (rA : Option Addr) (rZ : List Int) (rM rC : Nat) (cho : Int) (vsA : Option Addr) (vsZ : List Int) (vsM vsC : Nat) {w w' : World} (h : Below w.heap.size w w') (hR : R2 < w.heap.size) : ∀ j v, ofF n0 R1 R2 idle data hg ho hr gA gZ gM gC oA oZ oM oC rA rZ rM rC cho vsA vsZ vsM vsC j v w → ofF n0 R1 R2 idle data hg ho hr gA gZ gM gC oA oZ oM oC rA rZ rM rC cho vsA vsZ vsM vsC j v w' := by
  have hk := Kept.of_below' h (fun _ => False)
  have hE : ∀ {e v}, IsEmp n0 e v w → IsEmp n0 e v w' := fun h => h.kept hk (fun _ h => h.elim)
  have hC : ∀ {e kd m zs v}, IsCopy n0 e kd m zs v w → IsCopy n0 e kd m zs v w' := fun h => h.kept hk (fun _ h => h.elim)
  intro j v hj
  match j, hj with
  | 0, hj => exact hj
  | 1, hj => exact hj
  | 2, hj => exact hj
  | 3, hj => exact hj
  | 4, hj => exact hj
  | 5, hj => exact hj
  | 6, hj => exact hj
  | 7, hj => exact hj
  | 8, hj => exact hj
  | 9, hj => exact hj
  | 10, hj => exact hE hj
  | 11, hj => exact hj
  | 12, hj => exact hj
  | 13, hj => exact hC hj
  | 14, hj => exact hE hj
  | 15, hj => exact hj
  | 16, hj => exact hj
  | 17, hj => exact hC hj
  | 18, hj => exact hE hj
  | 19, hj => exact hj
  | 20, hj => exact hj
  | 21, hj => exact hC hj
  | 22, hj => exact hj
  | 23, hj => exact hj
  | 24, hj => exact hE hj
  | 25, hj => exact hj
  | 26, hj => exact hj
  | 27, hj => exact hC hj
  | 28, ⟨gS, oS, rS, vsS, h0, gK, oK, rK, vsK⟩ => exact ⟨gS, oS, rS, vsS, h0, hC gK, hC oK, hC rK, hC vsK⟩
  | 29, ⟨gS, oS, rS, vsS, h0, gK, oK, rK, vsK⟩ => exact ⟨gS, oS, rS, vsS, (h.block _ hR).trans h0, hC gK, hC oK, hC rK, hC vsK⟩
  | j + 30, hj => exact hj
theorem ofF_store {n0 R1 R2 : Nat} (idle : Int) (data : Int) (hg : Bool) (ho : Bool) (hr : Bool) (gA : Option Addr) (gZ : List Int) (gM gC : Nat) (oA : Option Addr) (oZ : List Int) (oM oC : Nat) (rA : Option Addr) (rZ : List Int) (rM rC : Nat) (cho : Int) (vsA : Option Addr) (vsZ : List Int) (vsM vsC : Nat) {w w' : World} (hk : Kept (· = R2) w w') (hR : R2 < n0) (hl : ∃ gS oS rS vsS, w'.heap[R2]? = some (.cells #[.int .i64 idle, .int .i64 data, .bool hg, .bool ho, .bool hr, gS, oS, rS, .int .i64 cho, vsS] 27 (0, 0)) ∧ IsCopy n0 5 .u8 gM gZ gS w' ∧ IsCopy n0 5 .u8 oM oZ oS w' ∧ IsCopy n0 5 .u8 rM rZ rS w' ∧ IsCopy n0 3 .i64 vsM vsZ vsS w') : ∀ j v, ofF n0 R1 R2 idle data hg ho hr gA gZ gM gC oA oZ oM oC rA rZ rM rC cho vsA vsZ vsM vsC j v w → ofF n0 R1 R2 idle data hg ho hr gA gZ gM gC oA oZ oM oC rA rZ rM rC cho vsA vsZ vsM vsC j v w' := by
  have hE : ∀ {e v}, IsEmp n0 e v w → IsEmp n0 e v w' := fun h => h.kept hk (fun j h => by omega)
  have hC : ∀ {e kd m zs v}, IsCopy n0 e kd m zs v w → IsCopy n0 e kd m zs v w' := fun h => h.kept hk (fun j h => by omega)
  intro j v hj
  match j, hj with
  | 0, hj => exact hj
  | 1, hj => exact hj
  | 2, hj => exact hj
  | 3, hj => exact hj
  | 4, hj => exact hj
  | 5, hj => exact hj
  | 6, hj => exact hj
  | 7, hj => exact hj
  | 8, hj => exact hj
  | 9, hj => exact hj
  | 10, hj => exact hE hj
  | 11, hj => exact hj
  | 12, hj => exact hj
  | 13, hj => exact hC hj
  | 14, hj => exact hE hj
  | 15, hj => exact hj
  | 16, hj => exact hj
  | 17, hj => exact hC hj
  | 18, hj => exact hE hj
  | 19, hj => exact hj
  | 20, hj => exact hj
  | 21, hj => exact hC hj
  | 22, hj => exact hj
  | 23, hj => exact hj
  | 24, hj => exact hE hj
  | 25, hj => exact hj
  | 26, hj => exact hj
  | 27, hj => exact hC hj
  | 28, ⟨gS, oS, rS, vsS, h0, gK, oK, rK, vsK⟩ => exact ⟨gS, oS, rS, vsS, h0, hC gK, hC oK, hC rK, hC vsK⟩
  | 29, _ => exact hl
  | j + 30, hj => exact hj

set_option maxRecDepth 100000 in
set_option maxHeartbeats 1000000 in
theorem of_any (idle : Int) (data : Int) (hg : Bool) (ho : Bool) (hr : Bool) (gA : Option Addr) (gZ : List Int) (gM gC : Nat) (oA : Option Addr) (oZ : List Int) (oM oC : Nat) (rA : Option Addr) (rZ : List Int) (rM rC : Nat) (cho : Int) (vsA : Option Addr) (vsZ : List Int) (vsM vsC : Nat) (w : World) (gH : gZ.length = gM) (gL : gM ≤ 1000) (gR : Row w w.heap.size gA (ints .u8 gZ)) (oH : oZ.length = oM) (oL : oM ≤ 1000) (oR : Row w w.heap.size oA (ints .u8 oZ)) (rH : rZ.length = rM) (rL : rM ≤ 1000) (rR : Row w w.heap.size rA (ints .u8 rZ)) (vsH : vsZ.length = vsM) (vsL : vsM ≤ 1000) (vsR : Row w w.heap.size vsA (ints .i64 vsZ)) :
    Calls Tryd.prog 6 #[.agg #[.int .i64 idle, .int .i64 data, .bool hg, .bool ho, .bool hr, .slice gA gM gC, .slice oA oM oC, .slice rA rM rC, .int .i64 cho, .slice vsA vsM vsC]] w fun e w' => ∃ gA' gC' oA' oC' rA' rC' vsA' vsC', e = .returned (.agg #[.int .i64 idle, .int .i64 data, .bool hg, .bool ho, .bool hr, .slice gA' gM gC', .slice oA' oM oC', .slice rA' rM rC', .int .i64 cho, .slice vsA' vsM vsC']) ∧ Row w' w'.heap.size gA' (ints .u8 gZ) ∧ gM ≤ gC' ∧ Row w' w'.heap.size oA' (ints .u8 oZ) ∧ oM ≤ oC' ∧ Row w' w'.heap.size rA' (ints .u8 rZ) ∧ rM ≤ rC' ∧ Row w' w'.heap.size vsA' (ints .i64 vsZ) ∧ vsM ≤ vsC' ∧ Below w.heap.size w w' := by
  obtain ⟨W0, hW0⟩ : ∃ W0, (w.alloc (.cells #[.int .i64 idle, .int .i64 data, .bool hg, .bool ho, .bool hr, .slice gA gM gC, .slice oA oM oC, .slice rA rM rC, .int .i64 cho, .slice vsA vsM vsC] 25)).alloc (.cells #[.int .i64 0, .int .i64 0, .bool false, .bool false, .bool false, .slice none 0 0, .slice none 0 0, .slice none 0 0, .int .i64 0, .slice none 0 0] 27) = W0 := ⟨_, rfl⟩
  obtain ⟨g1, g2, b0⟩ := two_new w (.cells #[.int .i64 idle, .int .i64 data, .bool hg, .bool ho, .bool hr, .slice gA gM gC, .slice oA oM oC, .slice rA rM rC, .int .i64 cho, .slice vsA vsM vsC] 25) (.cells #[.int .i64 0, .int .i64 0, .bool false, .bool false, .bool false, .slice none 0 0, .slice none 0 0, .slice none 0 0, .int .i64 0, .slice none 0 0] 27)
  have hs0 : W0.heap.size = w.heap.size + 2 := by rw [← hW0]; simp
  rw [hW0] at g1 g2 b0
  have hG0 : boxG W0 (w.heap.size + 1) 27 10 W0.drew := ⟨(Kept.refl _ _).drew, _, rfl, g2⟩
  have hbx : ∀ w1, boxG W0 (w.heap.size + 1) 27 10 w1 → w1.heap[w.heap.size]? = some (.cells #[.int .i64 idle, .int .i64 data, .bool hg, .bool ho, .bool hr, .slice gA gM gC, .slice oA oM oC, .slice rA rM rC, .int .i64 cho, .slice vsA vsM vsC] 25 (0, 0)) ∧ w.heap.size + 2 ≤ w1.heap.size ∧ Row w1 w.heap.size gA (ints .u8 gZ) ∧ Row w1 w.heap.size oA (ints .u8 oZ) ∧ Row w1 w.heap.size rA (ints .u8 rZ) ∧ Row w1 w.heap.size vsA (ints .i64 vsZ) := fun w1 h => by
    have hb1 : Kept (fun k => w.heap.size ≤ k) w w1 := (Kept.of_below' b0 _).then h.1 (fun i h1 h2 => by omega)
    exact ⟨(h.1.block _ (by omega) (by omega)).trans g1, by have := h.1.size; omega, gR.kept hb1 (Nat.le_refl _) (fun k h1 h2 => by omega), oR.kept hb1 (Nat.le_refl _) (fun k h1 h2 => by omega), rR.kept hb1 (Nat.le_refl _) (fun k h1 h2 => by omega), vsR.kept hb1 (Nat.le_refl _) (fun k h1 h2 => by omega)⟩
  have HBX := Lib.hid hbx; clear hbx
  have HG0 := Lib.hid hG0; clear hG0
  have HW0 := Lib.hid hW0; clear hW0
  have HS := Lib.hid hs0; clear hs0
  have HB0 := Lib.hid b0; clear b0
  clear g1 g2
  have HgH := Lib.hid gH; clear gH
  clear gR
  have HoH := Lib.hid oH; clear oH
  clear oR
  have HrH := Lib.hid rH; clear rH
  clear rR
  have HvsH := Lib.hid vsH; clear vsH
  clear vsR
  go_enter Tryd.func6, Tryd.ntmps6
  go_wp2_with fail
  rw [HW0.out]
  refine wp_region_facts 3 30 (ofF (w.heap.size + 2) w.heap.size (w.heap.size + 1) idle data hg ho hr gA gZ gM gC oA oZ oM oC rA rZ rM rC cho vsA vsZ vsM vsC) (boxG W0 (w.heap.size + 1) 27 10) rfl (by kernel_rfl) rfl (by kernel_rfl) (by kernel_rfl) HG0.out ?_ ?_
  · refine ⟨⟨⟨⟨⟨⟨⟨⟨⟨⟨⟨⟨⟨⟨⟨⟨⟨⟨⟨⟨⟨⟨⟨⟨⟨⟨⟨⟨⟨⟨trivial, ?_⟩, ?_⟩, ?_⟩, ?_⟩, ?_⟩, ?_⟩, ?_⟩, ?_⟩, ?_⟩, ?_⟩, ?_⟩, ?_⟩, ?_⟩, ?_⟩, ?_⟩, ?_⟩, ?_⟩, ?_⟩, ?_⟩, ?_⟩, ?_⟩, ?_⟩, ?_⟩, ?_⟩, ?_⟩, ?_⟩, ?_⟩, ?_⟩, ?_⟩, ?_⟩
    · refine inv_step (o := ⟨some 3, _, _, _, _, _⟩) (by kernel_rfl) rfl rfl fun α w1 hG hfix hdep K hK => ?_
      have h1 : α.tmps.getD 1 undef = _ := hfix 1 (by omega)
      have HK1 := Lib.hid (hK (.pointer (some ⟨w.heap.size, 0, none⟩)) w1 hG (fun _ _ h => h) rfl); clear hK hG hfix hdep
      go_simp
      exact HK1.out
    · refine inv_step (o := ⟨some 4, _, _, _, _, _⟩) (by kernel_rfl) rfl rfl fun α w1 hG hfix hdep K hK => ?_
      have h1 : α.tmps.getD 3 undef = .pointer (some ⟨w.heap.size, 0, none⟩) := hdep 0 (by kernel_rfl)
      have cc : w1.cell? ⟨w.heap.size, 0, none⟩ = some (.int .i64 idle) := cell_of_heap (HBX.out w1 hG).1 0
      have HK1 := Lib.hid (hK (.int .i64 idle) w1 hG (fun _ _ h => h) rfl); clear hK hG hfix hdep
      go_simp
      exact HK1.out
    · refine inv_step (o := ⟨some 5, _, _, _, _, _⟩) (by kernel_rfl) rfl rfl fun α w1 hG hfix hdep K hK => ?_
      have h1 : α.tmps.getD 1 undef = _ := hfix 1 (by omega)
      have HK1 := Lib.hid (hK (.pointer (some ⟨w.heap.size, 1, none⟩)) w1 hG (fun _ _ h => h) rfl); clear hK hG hfix hdep
      go_simp
      exact HK1.out
    · refine inv_step (o := ⟨some 6, _, _, _, _, _⟩) (by kernel_rfl) rfl rfl fun α w1 hG hfix hdep K hK => ?_
      have h1 : α.tmps.getD 5 undef = .pointer (some ⟨w.heap.size, 1, none⟩) := hdep 2 (by kernel_rfl)
      have cc : w1.cell? ⟨w.heap.size, 1, none⟩ = some (.int .i64 data) := cell_of_heap (HBX.out w1 hG).1 1
      have HK1 := Lib.hid (hK (.int .i64 data) w1 hG (fun _ _ h => h) rfl); clear hK hG hfix hdep
      go_simp
      exact HK1.out
    · refine inv_step (o := ⟨some 7, _, _, _, _, _⟩) (by kernel_rfl) rfl rfl fun α w1 hG hfix hdep K hK => ?_
      have h1 : α.tmps.getD 1 undef = _ := hfix 1 (by omega)
      have HK1 := Lib.hid (hK (.pointer (some ⟨w.heap.size, 2, none⟩)) w1 hG (fun _ _ h => h) rfl); clear hK hG hfix hdep
      go_simp
      exact HK1.out
    · refine inv_step (o := ⟨some 8, _, _, _, _, _⟩) (by kernel_rfl) rfl rfl fun α w1 hG hfix hdep K hK => ?_
      have h1 : α.tmps.getD 7 undef = .pointer (some ⟨w.heap.size, 2, none⟩) := hdep 4 (by kernel_rfl)
      have cc : w1.cell? ⟨w.heap.size, 2, none⟩ = some (.bool hg) := cell_of_heap (HBX.out w1 hG).1 2
      have HK1 := Lib.hid (hK (.bool hg) w1 hG (fun _ _ h => h) rfl); clear hK hG hfix hdep
      go_simp
      exact HK1.out
    · refine inv_step (o := ⟨some 9, _, _, _, _, _⟩) (by kernel_rfl) rfl rfl fun α w1 hG hfix hdep K hK => ?_
      have h1 : α.tmps.getD 1 undef = _ := hfix 1 (by omega)
      have HK1 := Lib.hid (hK (.pointer (some ⟨w.heap.size, 3, none⟩)) w1 hG (fun _ _ h => h) rfl); clear hK hG hfix hdep
      go_simp
      exact HK1.out
    · refine inv_step (o := ⟨some 10, _, _, _, _, _⟩) (by kernel_rfl) rfl rfl fun α w1 hG hfix hdep K hK => ?_
      have h1 : α.tmps.getD 9 undef = .pointer (some ⟨w.heap.size, 3, none⟩) := hdep 6 (by kernel_rfl)
      have cc : w1.cell? ⟨w.heap.size, 3, none⟩ = some (.bool ho) := cell_of_heap (HBX.out w1 hG).1 3
      have HK1 := Lib.hid (hK (.bool ho) w1 hG (fun _ _ h => h) rfl); clear hK hG hfix hdep
      go_simp
      exact HK1.out
    · refine inv_step (o := ⟨some 11, _, _, _, _, _⟩) (by kernel_rfl) rfl rfl fun α w1 hG hfix hdep K hK => ?_
      have h1 : α.tmps.getD 1 undef = _ := hfix 1 (by omega)
      have HK1 := Lib.hid (hK (.pointer (some ⟨w.heap.size, 4, none⟩)) w1 hG (fun _ _ h => h) rfl); clear hK hG hfix hdep
      go_simp
      exact HK1.out
    · refine inv_step (o := ⟨some 12, _, _, _, _, _⟩) (by kernel_rfl) rfl rfl fun α w1 hG hfix hdep K hK => ?_
      have h1 : α.tmps.getD 11 undef = .pointer (some ⟨w.heap.size, 4, none⟩) := hdep 8 (by kernel_rfl)
      have cc : w1.cell? ⟨w.heap.size, 4, none⟩ = some (.bool hr) := cell_of_heap (HBX.out w1 hG).1 4
      have HK1 := Lib.hid (hK (.bool hr) w1 hG (fun _ _ h => h) rfl); clear hK hG hfix hdep
      go_simp
      exact HK1.out
    · refine inv_step (o := ⟨some 13, _, _, _, _, _⟩) (by kernel_rfl) rfl rfl fun α w1 hG hfix hdep K hK => ?_
      have hb1 : Below w1.heap.size w1 (w1.alloc (.cells #[] 5)) := (Below.refl _ _).alloc (Nat.le_refl _) _
      have := (HBX.out w1 hG).2.1
      have HK1 := Lib.hid (hK _ _ (hG.below hb1) (ofF_below (R2 := w.heap.size + 1) idle data hg ho hr gA gZ gM gC oA oZ oM oC rA rZ rM rC cho vsA vsZ vsM vsC hb1 (by omega)) (IsEmp.new _ _ _ this)); clear hK hG hfix hdep hb1
      go_simp
      exact HK1.out
    · refine inv_step (o := ⟨some 14, _, _, _, _, _⟩) (by kernel_rfl) rfl rfl fun α w1 hG hfix hdep K hK => ?_
      have h1 : α.tmps.getD 1 undef = _ := hfix 1 (by omega)
      have HK1 := Lib.hid (hK (.pointer (some ⟨w.heap.size, 5, none⟩)) w1 hG (fun _ _ h => h) rfl); clear hK hG hfix hdep
      go_simp
      exact HK1.out
    · refine inv_step (o := ⟨some 15, _, _, _, _, _⟩) (by kernel_rfl) rfl rfl fun α w1 hG hfix hdep K hK => ?_
      have h1 : α.tmps.getD 14 undef = .pointer (some ⟨w.heap.size, 5, none⟩) := hdep 11 (by kernel_rfl)
      have cc : w1.cell? ⟨w.heap.size, 5, none⟩ = some (.slice gA gM gC) := cell_of_heap (HBX.out w1 hG).1 5
      have HK1 := Lib.hid (hK (.slice gA gM gC) w1 hG (fun _ _ h => h) rfl); clear hK hG hfix hdep
      go_simp
      exact HK1.out
    · refine inv_step (o := ⟨some 16, _, _, _, _, _⟩) (by kernel_rfl) rfl rfl fun α w1 hG hfix hdep K hK => ?_
      have h1 : IsEmp _ 5 (α.tmps.getD 13 undef) w1 := hdep 10 (by kernel_rfl)
      have h2 : α.tmps.getD 15 undef = .slice gA gM gC := hdep 12 (by kernel_rfl)
      obtain ⟨v', wz, hrun, hc, hb1⟩ := app_emp (c := gC) Tryd.underlying22 info_u8 (by omega) h1 HgH.out gL (HBX.out w1 hG).2.2.1
      have HK1 := Lib.hid (hK v' wz (hG.below hb1) (ofF_below (R2 := w.heap.size + 1) idle data hg ho hr gA gZ gM gC oA oZ oM oC rA rZ rM rC cho vsA vsZ vsM vsC hb1 (by have := (HBX.out w1 hG).2.1; omega)) hc); clear hK hG hfix hdep hb1 hc h1
      simp only [Array.getD_eq_getD_getElem?] at hrun h2
      go_simp
      exact HK1.out
    · refine inv_step (o := ⟨some 17, _, _, _, _, _⟩) (by kernel_rfl) rfl rfl fun α w1 hG hfix hdep K hK => ?_
      have hb1 : Below w1.heap.size w1 (w1.alloc (.cells #[] 5)) := (Below.refl _ _).alloc (Nat.le_refl _) _
      have := (HBX.out w1 hG).2.1
      have HK1 := Lib.hid (hK _ _ (hG.below hb1) (ofF_below (R2 := w.heap.size + 1) idle data hg ho hr gA gZ gM gC oA oZ oM oC rA rZ rM rC cho vsA vsZ vsM vsC hb1 (by omega)) (IsEmp.new _ _ _ this)); clear hK hG hfix hdep hb1
      go_simp
      exact HK1.out
    · refine inv_step (o := ⟨some 18, _, _, _, _, _⟩) (by kernel_rfl) rfl rfl fun α w1 hG hfix hdep K hK => ?_
      have h1 : α.tmps.getD 1 undef = _ := hfix 1 (by omega)
      have HK1 := Lib.hid (hK (.pointer (some ⟨w.heap.size, 6, none⟩)) w1 hG (fun _ _ h => h) rfl); clear hK hG hfix hdep
      go_simp
      exact HK1.out
    · refine inv_step (o := ⟨some 19, _, _, _, _, _⟩) (by kernel_rfl) rfl rfl fun α w1 hG hfix hdep K hK => ?_
      have h1 : α.tmps.getD 18 undef = .pointer (some ⟨w.heap.size, 6, none⟩) := hdep 15 (by kernel_rfl)
      have cc : w1.cell? ⟨w.heap.size, 6, none⟩ = some (.slice oA oM oC) := cell_of_heap (HBX.out w1 hG).1 6
      have HK1 := Lib.hid (hK (.slice oA oM oC) w1 hG (fun _ _ h => h) rfl); clear hK hG hfix hdep
      go_simp
      exact HK1.out
    · refine inv_step (o := ⟨some 20, _, _, _, _, _⟩) (by kernel_rfl) rfl rfl fun α w1 hG hfix hdep K hK => ?_
      have h1 : IsEmp _ 5 (α.tmps.getD 17 undef) w1 := hdep 14 (by kernel_rfl)
      have h2 : α.tmps.getD 19 undef = .slice oA oM oC := hdep 16 (by kernel_rfl)
      obtain ⟨v', wz, hrun, hc, hb1⟩ := app_emp (c := oC) Tryd.underlying22 info_u8 (by omega) h1 HoH.out oL (HBX.out w1 hG).2.2.2.1
      have HK1 := Lib.hid (hK v' wz (hG.below hb1) (ofF_below (R2 := w.heap.size + 1) idle data hg ho hr gA gZ gM gC oA oZ oM oC rA rZ rM rC cho vsA vsZ vsM vsC hb1 (by have := (HBX.out w1 hG).2.1; omega)) hc); clear hK hG hfix hdep hb1 hc h1
      simp only [Array.getD_eq_getD_getElem?] at hrun h2
      go_simp
      exact HK1.out
    · refine inv_step (o := ⟨some 21, _, _, _, _, _⟩) (by kernel_rfl) rfl rfl fun α w1 hG hfix hdep K hK => ?_
      have hb1 : Below w1.heap.size w1 (w1.alloc (.cells #[] 5)) := (Below.refl _ _).alloc (Nat.le_refl _) _
      have := (HBX.out w1 hG).2.1
      have HK1 := Lib.hid (hK _ _ (hG.below hb1) (ofF_below (R2 := w.heap.size + 1) idle data hg ho hr gA gZ gM gC oA oZ oM oC rA rZ rM rC cho vsA vsZ vsM vsC hb1 (by omega)) (IsEmp.new _ _ _ this)); clear hK hG hfix hdep hb1
      go_simp
      exact HK1.out
    · refine inv_step (o := ⟨some 22, _, _, _, _, _⟩) (by kernel_rfl) rfl rfl fun α w1 hG hfix hdep K hK => ?_
      have h1 : α.tmps.getD 1 undef = _ := hfix 1 (by omega)
      have HK1 := Lib.hid (hK (.pointer (some ⟨w.heap.size, 7, none⟩)) w1 hG (fun _ _ h => h) rfl); clear hK hG hfix hdep
      go_simp
      exact HK1.out
    · refine inv_step (o := ⟨some 23, _, _, _, _, _⟩) (by kernel_rfl) rfl rfl fun α w1 hG hfix hdep K hK => ?_
      have h1 : α.tmps.getD 22 undef = .pointer (some ⟨w.heap.size, 7, none⟩) := hdep 19 (by kernel_rfl)
      have cc : w1.cell? ⟨w.heap.size, 7, none⟩ = some (.slice rA rM rC) := cell_of_heap (HBX.out w1 hG).1 7
      have HK1 := Lib.hid (hK (.slice rA rM rC) w1 hG (fun _ _ h => h) rfl); clear hK hG hfix hdep
      go_simp
      exact HK1.out
    · refine inv_step (o := ⟨some 24, _, _, _, _, _⟩) (by kernel_rfl) rfl rfl fun α w1 hG hfix hdep K hK => ?_
      have h1 : IsEmp _ 5 (α.tmps.getD 21 undef) w1 := hdep 18 (by kernel_rfl)
      have h2 : α.tmps.getD 23 undef = .slice rA rM rC := hdep 20 (by kernel_rfl)
      obtain ⟨v', wz, hrun, hc, hb1⟩ := app_emp (c := rC) Tryd.underlying22 info_u8 (by omega) h1 HrH.out rL (HBX.out w1 hG).2.2.2.2.1
      have HK1 := Lib.hid (hK v' wz (hG.below hb1) (ofF_below (R2 := w.heap.size + 1) idle data hg ho hr gA gZ gM gC oA oZ oM oC rA rZ rM rC cho vsA vsZ vsM vsC hb1 (by have := (HBX.out w1 hG).2.1; omega)) hc); clear hK hG hfix hdep hb1 hc h1
      simp only [Array.getD_eq_getD_getElem?] at hrun h2
      go_simp
      exact HK1.out
    · refine inv_step (o := ⟨some 25, _, _, _, _, _⟩) (by kernel_rfl) rfl rfl fun α w1 hG hfix hdep K hK => ?_
      have h1 : α.tmps.getD 1 undef = _ := hfix 1 (by omega)
      have HK1 := Lib.hid (hK (.pointer (some ⟨w.heap.size, 8, none⟩)) w1 hG (fun _ _ h => h) rfl); clear hK hG hfix hdep
      go_simp
      exact HK1.out
    · refine inv_step (o := ⟨some 26, _, _, _, _, _⟩) (by kernel_rfl) rfl rfl fun α w1 hG hfix hdep K hK => ?_
      have h1 : α.tmps.getD 25 undef = .pointer (some ⟨w.heap.size, 8, none⟩) := hdep 22 (by kernel_rfl)
      have cc : w1.cell? ⟨w.heap.size, 8, none⟩ = some (.int .i64 cho) := cell_of_heap (HBX.out w1 hG).1 8
      have HK1 := Lib.hid (hK (.int .i64 cho) w1 hG (fun _ _ h => h) rfl); clear hK hG hfix hdep
      go_simp
      exact HK1.out
    · refine inv_step (o := ⟨some 27, _, _, _, _, _⟩) (by kernel_rfl) rfl rfl fun α w1 hG hfix hdep K hK => ?_
      have hb1 : Below w1.heap.size w1 (w1.alloc (.cells #[] 3)) := (Below.refl _ _).alloc (Nat.le_refl _) _
      have := (HBX.out w1 hG).2.1
      have HK1 := Lib.hid (hK _ _ (hG.below hb1) (ofF_below (R2 := w.heap.size + 1) idle data hg ho hr gA gZ gM gC oA oZ oM oC rA rZ rM rC cho vsA vsZ vsM vsC hb1 (by omega)) (IsEmp.new _ _ _ this)); clear hK hG hfix hdep hb1
      go_simp
      exact HK1.out
    · refine inv_step (o := ⟨some 28, _, _, _, _, _⟩) (by kernel_rfl) rfl rfl fun α w1 hG hfix hdep K hK => ?_
      have h1 : α.tmps.getD 1 undef = _ := hfix 1 (by omega)
      have HK1 := Lib.hid (hK (.pointer (some ⟨w.heap.size, 9, none⟩)) w1 hG (fun _ _ h => h) rfl); clear hK hG hfix hdep
      go_simp
      exact HK1.out
    · refine inv_step (o := ⟨some 29, _, _, _, _, _⟩) (by kernel_rfl) rfl rfl fun α w1 hG hfix hdep K hK => ?_
      have h1 : α.tmps.getD 28 undef = .pointer (some ⟨w.heap.size, 9, none⟩) := hdep 25 (by kernel_rfl)
      have cc : w1.cell? ⟨w.heap.size, 9, none⟩ = some (.slice vsA vsM vsC) := cell_of_heap (HBX.out w1 hG).1 9
      have HK1 := Lib.hid (hK (.slice vsA vsM vsC) w1 hG (fun _ _ h => h) rfl); clear hK hG hfix hdep
      go_simp
      exact HK1.out
    · refine inv_step (o := ⟨some 30, _, _, _, _, _⟩) (by kernel_rfl) rfl rfl fun α w1 hG hfix hdep K hK => ?_
      have h1 : IsEmp _ 3 (α.tmps.getD 27 undef) w1 := hdep 24 (by kernel_rfl)
      have h2 : α.tmps.getD 29 undef = .slice vsA vsM vsC := hdep 26 (by kernel_rfl)
      obtain ⟨v', wz, hrun, hc, hb1⟩ := app_emp (c := vsC) Tryd.underlying23 info_int (by omega) h1 HvsH.out vsL (HBX.out w1 hG).2.2.2.2.2
      have HK1 := Lib.hid (hK v' wz (hG.below hb1) (ofF_below (R2 := w.heap.size + 1) idle data hg ho hr gA gZ gM gC oA oZ oM oC rA rZ rM rC cho vsA vsZ vsM vsC hb1 (by have := (HBX.out w1 hG).2.1; omega)) hc); clear hK hG hfix hdep hb1 hc h1
      simp only [Array.getD_eq_getD_getElem?] at hrun h2
      go_simp
      exact HK1.out
    · refine inv_step (o := ⟨some 31, _, _, _, _, _⟩) (by kernel_rfl) rfl rfl fun α w1 hG hfix hdep K hK => ?_
      have idleE : α.tmps.getD 4 undef = .int .i64 idle := hdep 1 (by kernel_rfl)
      have dataE : α.tmps.getD 6 undef = .int .i64 data := hdep 3 (by kernel_rfl)
      have hgE : α.tmps.getD 8 undef = .bool hg := hdep 5 (by kernel_rfl)
      have hoE : α.tmps.getD 10 undef = .bool ho := hdep 7 (by kernel_rfl)
      have hrE : α.tmps.getD 12 undef = .bool hr := hdep 9 (by kernel_rfl)
      have gK : IsCopy _ 5 .u8 gM gZ (α.tmps.getD 16 undef) w1 := hdep 13 (by kernel_rfl)
      have oK : IsCopy _ 5 .u8 oM oZ (α.tmps.getD 20 undef) w1 := hdep 17 (by kernel_rfl)
      have rK : IsCopy _ 5 .u8 rM rZ (α.tmps.getD 24 undef) w1 := hdep 21 (by kernel_rfl)
      have choE : α.tmps.getD 26 undef = .int .i64 cho := hdep 23 (by kernel_rfl)
      have vsK : IsCopy _ 3 .i64 vsM vsZ (α.tmps.getD 30 undef) w1 := hdep 27 (by kernel_rfl)
      have HK1 := Lib.hid fun gS (gE : α.tmps.getD 16 undef = gS) oS (oE : α.tmps.getD 20 undef = oS) rS (rE : α.tmps.getD 24 undef = rS) vsS (vsE : α.tmps.getD 30 undef = vsS) => hK (.agg #[.int .i64 idle, .int .i64 data, .bool hg, .bool ho, .bool hr, gS, oS, rS, .int .i64 cho, vsS]) w1 hG (fun _ _ h => h) ⟨gS, oS, rS, vsS, rfl, gE ▸ gK, oE ▸ oK, rE ▸ rK, vsE ▸ vsK⟩
      obtain ⟨gp, gq, gE, -, -⟩ := gK
      obtain ⟨op, oq, oE, -, -⟩ := oK
      obtain ⟨rp, rq, rE, -, -⟩ := rK
      obtain ⟨vsp, vsq, vsE, -, -⟩ := vsK
      have HK2 := Lib.hid (HK1.out _ gE _ oE _ rE _ vsE)
      clear hK hG hfix hdep HK1
      simp only [Array.getD_eq_getD_getElem?] at idleE dataE hgE hoE hrE gE oE rE choE vsE
      go_simp
      exact HK2.out
    · refine inv_step (o := ⟨none, _, _, _, _, _⟩) (by kernel_rfl) rfl rfl fun α w1 hG hfix hdep K hK => ?_
      have h1 : α.tmps.getD 2 undef = _ := hfix 2 (by omega)
      obtain ⟨gS, oS, rS, vsS, e1, gK, oK, rK, vsK⟩ : ∃ gS oS rS vsS, α.tmps.getD 31 undef = .agg #[.int .i64 idle, .int .i64 data, .bool hg, .bool ho, .bool hr, gS, oS, rS, .int .i64 cho, vsS] ∧ IsCopy _ 5 .u8 gM gZ gS w1 ∧ IsCopy _ 5 .u8 oM oZ oS w1 ∧ IsCopy _ 5 .u8 rM rZ rS w1 ∧ IsCopy _ 3 .i64 vsM vsZ vsS w1 := hdep 28 (by kernel_rfl)
      obtain ⟨hk1, cs, hcs, hh⟩ := id hG
      obtain ⟨hn, hk2⟩ := setAll_all (vs := [.int .i64 idle, .int .i64 data, .bool hg, .bool ho, .bool hr, gS, oS, rS, .int .i64 cho, vsS]) hcs hh
      obtain ⟨W5, hW5⟩ : ∃ W5, (setAll w1 (w.heap.size + 1) 0 [.int .i64 idle, .int .i64 data, .bool hg, .bool ho, .bool hr, gS, oS, rS, .int .i64 cho, vsS]) = W5 := ⟨_, rfl⟩
      rw [hW5] at hn hk2
      have HW5 := Lib.hid hW5; clear hW5
      have hl : ∃ gS oS rS vsS, W5.heap[w.heap.size + 1]? = some (.cells #[.int .i64 idle, .int .i64 data, .bool hg, .bool ho, .bool hr, gS, oS, rS, .int .i64 cho, vsS] 27 (0, 0)) ∧ IsCopy (w.heap.size + 2) 5 .u8 gM gZ gS W5 ∧ IsCopy (w.heap.size + 2) 5 .u8 oM oZ oS W5 ∧ IsCopy (w.heap.size + 2) 5 .u8 rM rZ rS W5 ∧ IsCopy (w.heap.size + 2) 3 .i64 vsM vsZ vsS W5 := ⟨gS, oS, rS, vsS, hn, gK.kept hk2 (fun j h => by omega), oK.kept hk2 (fun j h => by omega), rK.kept hk2 (fun j h => by omega), vsK.kept hk2 (fun j h => by omega)⟩
      have HK1 := Lib.hid (hK undef W5 ⟨hk1.trans hk2, _, rfl, hn⟩ (ofF_store idle data hg ho hr gA gZ gM gC oA oZ oM oC rA rZ rM rC cho vsA vsZ vsM vsC hk2 (by omega) hl) hl)
      rw [← HW5.out] at HK1
      obtain ⟨gp, gq, rfl, -, -⟩ := gK
      obtain ⟨op, oq, rfl, -, -⟩ := oK
      obtain ⟨rp, rq, rfl, -, -⟩ := rK
      obtain ⟨vsp, vsq, rfl, -, -⟩ := vsK
      obtain ⟨y0, y1, y2, y3, y4, y5, y6, y7, y8, y9, rfl⟩ := size10 hcs
      have cc := cells10 hh
      have ff := unfrozen hh
      simp only [Array.getD_eq_getD_getElem?] at e1
      clear hK hG hfix hdep hl hn hk2 hk1 hh hcs
      go_simp
      exact HK1.out
  · intro a' w' hs hd hfix hG hF
    go_wp2_with fail
    have h1 : a'.tmps.getD 2 undef = .pointer (some ⟨w.heap.size + 1, 0, none⟩) := hfix 2 (by omega)
    simp only [Array.getD_eq_getD_getElem?] at h1
    obtain ⟨gS, oS, rS, vsS, hh, gK, oK, rK, vsK⟩ : ofF _ _ _ idle data hg ho hr gA gZ gM gC oA oZ oM oC rA rZ rM rC cho vsA vsZ vsM vsC 29 _ w' := hF 29 (by omega)
    have hb : Below w.heap.size w w' := Kept.below (((Kept.of_below' HB0.out (fun _ => False))).then hG.1 (fun i h1 h2 => by omega))
    have cc := cells10 hh
    obtain ⟨gp, gq, rfl, gl, go⟩ := gK
    obtain ⟨op, oq, rfl, ol, oo⟩ := oK
    obtain ⟨rp, rq, rfl, rl, ro⟩ := rK
    obtain ⟨vsp, vsq, rfl, vsl, vso⟩ := vsK
    clear hF hfix hG hh
    refine bodyPost_ret (v := .agg #[.int .i64 idle, .int .i64 data, .bool hg, .bool ho, .bool hr, .slice gp gM gq, .slice op oM oq, .slice rp rM rq, .int .i64 cho, .slice vsp vsM vsq]) ?_ hd ⟨gp, gq, op, oq, rp, rq, vsp, vsq, rfl, Row.of_own go, gl, Row.of_own oo, ol, Row.of_own ro, rl, Row.of_own vso, vsl, hb⟩
    clear go oo ro vso
    simp [results, Tryd.results6, go_sem, h1, cc]
end Go.Proofs.YtaplndehoenghaaDoor
