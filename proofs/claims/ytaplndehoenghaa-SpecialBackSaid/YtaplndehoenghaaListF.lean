/- The law's list and retry: copies. (The two walks are printed by wip/gen/copyfn.py.) -/
import Derived.Test.YtaplndehoenghaaCopy
namespace Go.Proofs.Ytaplndehoenghaa
open Go.RowKit
set_option linter.unusedVariables false
attribute [local go_sem ↓] app_hide

/-- What the operations of 19 leave. -/
def listF (n0 R1 R2 : Nat) (toA : Option Addr) (toZ : List Int) (toM toC : Nat) (frA : Option Addr) (frZ : List Int) (frM frC : Nat) (vsA : Option Addr) (vsZ : List Int) (vsM vsC : Nat) : Nat → Value → World → Prop
  | 0, v, w => IsEmp n0 5 v w
  | 1, v, _ => v = .pointer (some ⟨R1, 0, none⟩)
  | 2, v, _ => v = .slice toA toM toC
  | 3, v, w => IsCopy n0 5 .u8 toM toZ v w
  | 4, v, w => IsEmp n0 5 v w
  | 5, v, _ => v = .pointer (some ⟨R1, 1, none⟩)
  | 6, v, _ => v = .slice frA frM frC
  | 7, v, w => IsCopy n0 5 .u8 frM frZ v w
  | 8, v, w => IsEmp n0 3 v w
  | 9, v, _ => v = .pointer (some ⟨R1, 2, none⟩)
  | 10, v, _ => v = .slice vsA vsM vsC
  | 11, v, w => IsCopy n0 3 .i64 vsM vsZ v w
  | 12, v, w => ∃ toS frS vsS, v = .agg #[toS, frS, vsS] ∧ IsCopy n0 5 .u8 toM toZ toS w ∧ IsCopy n0 5 .u8 frM frZ frS w ∧ IsCopy n0 3 .i64 vsM vsZ vsS w
  | 13, _, w => ∃ toS frS vsS, w.heap[R2]? = some (.cells #[toS, frS, vsS] 25 (0, 0)) ∧ IsCopy n0 5 .u8 toM toZ toS w ∧ IsCopy n0 5 .u8 frM frZ frS w ∧ IsCopy n0 3 .i64 vsM vsZ vsS w
  | _, _, _ => True

theorem listF_below {n0 R1 R2 : Nat} (toA : Option Addr) (toZ : List Int) (toM toC : Nat) (frA : Option Addr) (frZ : List Int) (frM frC : Nat) (vsA : Option Addr) (vsZ : List Int) (vsM vsC : Nat) {w w' : World} (h : Below w.heap.size w w') (hR : R2 < w.heap.size) : ∀ j v, listF n0 R1 R2 toA toZ toM toC frA frZ frM frC vsA vsZ vsM vsC j v w → listF n0 R1 R2 toA toZ toM toC frA frZ frM frC vsA vsZ vsM vsC j v w' := by
  have hk := Kept.of_below' h (fun _ => False)
  have hE : ∀ {e v}, IsEmp n0 e v w → IsEmp n0 e v w' := fun h => h.kept hk (fun _ h => h.elim)
  have hC : ∀ {e kd m zs v}, IsCopy n0 e kd m zs v w → IsCopy n0 e kd m zs v w' := fun h => h.kept hk (fun _ h => h.elim)
  intro j v hj
  match j, hj with
  | 0, hj => exact hE hj
  | 1, hj => exact hj
  | 2, hj => exact hj
  | 3, hj => exact hC hj
  | 4, hj => exact hE hj
  | 5, hj => exact hj
  | 6, hj => exact hj
  | 7, hj => exact hC hj
  | 8, hj => exact hE hj
  | 9, hj => exact hj
  | 10, hj => exact hj
  | 11, hj => exact hC hj
  | 12, ⟨toS, frS, vsS, h0, toK, frK, vsK⟩ => exact ⟨toS, frS, vsS, h0, hC toK, hC frK, hC vsK⟩
  | 13, ⟨toS, frS, vsS, h0, toK, frK, vsK⟩ => exact ⟨toS, frS, vsS, (h.block _ hR).trans h0, hC toK, hC frK, hC vsK⟩
  | j + 14, hj => exact hj
theorem listF_store {n0 R1 R2 : Nat} (toA : Option Addr) (toZ : List Int) (toM toC : Nat) (frA : Option Addr) (frZ : List Int) (frM frC : Nat) (vsA : Option Addr) (vsZ : List Int) (vsM vsC : Nat) {w w' : World} (hk : Kept (· = R2) w w') (hR : R2 < n0) (hl : ∃ toS frS vsS, w'.heap[R2]? = some (.cells #[toS, frS, vsS] 25 (0, 0)) ∧ IsCopy n0 5 .u8 toM toZ toS w' ∧ IsCopy n0 5 .u8 frM frZ frS w' ∧ IsCopy n0 3 .i64 vsM vsZ vsS w') : ∀ j v, listF n0 R1 R2 toA toZ toM toC frA frZ frM frC vsA vsZ vsM vsC j v w → listF n0 R1 R2 toA toZ toM toC frA frZ frM frC vsA vsZ vsM vsC j v w' := by
  have hE : ∀ {e v}, IsEmp n0 e v w → IsEmp n0 e v w' := fun h => h.kept hk (fun j h => by omega)
  have hC : ∀ {e kd m zs v}, IsCopy n0 e kd m zs v w → IsCopy n0 e kd m zs v w' := fun h => h.kept hk (fun j h => by omega)
  intro j v hj
  match j, hj with
  | 0, hj => exact hE hj
  | 1, hj => exact hj
  | 2, hj => exact hj
  | 3, hj => exact hC hj
  | 4, hj => exact hE hj
  | 5, hj => exact hj
  | 6, hj => exact hj
  | 7, hj => exact hC hj
  | 8, hj => exact hE hj
  | 9, hj => exact hj
  | 10, hj => exact hj
  | 11, hj => exact hC hj
  | 12, ⟨toS, frS, vsS, h0, toK, frK, vsK⟩ => exact ⟨toS, frS, vsS, h0, hC toK, hC frK, hC vsK⟩
  | 13, _ => exact hl
  | j + 14, hj => exact hj

set_option maxRecDepth 100000 in
set_option maxHeartbeats 1000000 in
theorem list_any (toA : Option Addr) (toZ : List Int) (toM toC : Nat) (frA : Option Addr) (frZ : List Int) (frM frC : Nat) (vsA : Option Addr) (vsZ : List Int) (vsM vsC : Nat) (w : World) (toH : toZ.length = toM) (toL : toM ≤ 1000) (toR : Row w w.heap.size toA (ints .u8 toZ)) (frH : frZ.length = frM) (frL : frM ≤ 1000) (frR : Row w w.heap.size frA (ints .u8 frZ)) (vsH : vsZ.length = vsM) (vsL : vsM ≤ 1000) (vsR : Row w w.heap.size vsA (ints .i64 vsZ)) :
    Calls Try.prog 19 #[.agg #[.slice toA toM toC, .slice frA frM frC, .slice vsA vsM vsC]] w fun e w' => ∃ toA' toC' frA' frC' vsA' vsC', e = .returned (.agg #[.slice toA' toM toC', .slice frA' frM frC', .slice vsA' vsM vsC']) ∧ Row w' w'.heap.size toA' (ints .u8 toZ) ∧ toM ≤ toC' ∧ Row w' w'.heap.size frA' (ints .u8 frZ) ∧ frM ≤ frC' ∧ Row w' w'.heap.size vsA' (ints .i64 vsZ) ∧ vsM ≤ vsC' ∧ Below w.heap.size w w' := by
  obtain ⟨W0, hW0⟩ : ∃ W0, (w.alloc (.cells #[.slice toA toM toC, .slice frA frM frC, .slice vsA vsM vsC] 29)).alloc (.cells #[.slice none 0 0, .slice none 0 0, .slice none 0 0] 25) = W0 := ⟨_, rfl⟩
  obtain ⟨g1, g2, b0⟩ := two_new w (.cells #[.slice toA toM toC, .slice frA frM frC, .slice vsA vsM vsC] 29) (.cells #[.slice none 0 0, .slice none 0 0, .slice none 0 0] 25)
  have hs0 : W0.heap.size = w.heap.size + 2 := by rw [← hW0]; simp
  rw [hW0] at g1 g2 b0
  have hG0 : boxG W0 (w.heap.size + 1) 25 3 W0.drew := ⟨(Kept.refl _ _).drew, _, rfl, g2⟩
  have hbx : ∀ w1, boxG W0 (w.heap.size + 1) 25 3 w1 → w1.heap[w.heap.size]? = some (.cells #[.slice toA toM toC, .slice frA frM frC, .slice vsA vsM vsC] 29 (0, 0)) ∧ w.heap.size + 2 ≤ w1.heap.size ∧ Row w1 w.heap.size toA (ints .u8 toZ) ∧ Row w1 w.heap.size frA (ints .u8 frZ) ∧ Row w1 w.heap.size vsA (ints .i64 vsZ) := fun w1 h => by
    have hb1 : Kept (fun k => w.heap.size ≤ k) w w1 := (Kept.of_below' b0 _).then h.1 (fun i h1 h2 => by omega)
    exact ⟨(h.1.block _ (by omega) (by omega)).trans g1, by have := h.1.size; omega, toR.kept hb1 (Nat.le_refl _) (fun k h1 h2 => by omega), frR.kept hb1 (Nat.le_refl _) (fun k h1 h2 => by omega), vsR.kept hb1 (Nat.le_refl _) (fun k h1 h2 => by omega)⟩
  have HBX := Lib.hid hbx; clear hbx
  have HG0 := Lib.hid hG0; clear hG0
  have HW0 := Lib.hid hW0; clear hW0
  have HS := Lib.hid hs0; clear hs0
  have HB0 := Lib.hid b0; clear b0
  clear g1 g2
  have HtoH := Lib.hid toH; clear toH
  clear toR
  have HfrH := Lib.hid frH; clear frH
  clear frR
  have HvsH := Lib.hid vsH; clear vsH
  clear vsR
  go_enter Try.func19, Try.ntmps19
  go_wp2_with fail
  rw [HW0.out]
  refine wp_region_facts 3 14 (listF (w.heap.size + 2) w.heap.size (w.heap.size + 1) toA toZ toM toC frA frZ frM frC vsA vsZ vsM vsC) (boxG W0 (w.heap.size + 1) 25 3) rfl (by kernel_rfl) rfl (by kernel_rfl) (by kernel_rfl) HG0.out ?_ ?_
  · refine ⟨⟨⟨⟨⟨⟨⟨⟨⟨⟨⟨⟨⟨⟨trivial, ?_⟩, ?_⟩, ?_⟩, ?_⟩, ?_⟩, ?_⟩, ?_⟩, ?_⟩, ?_⟩, ?_⟩, ?_⟩, ?_⟩, ?_⟩, ?_⟩
    · refine inv_step (o := ⟨some 3, _, _, _, _, _⟩) (by kernel_rfl) rfl rfl fun α w1 hG hfix hdep K hK => ?_
      have hb1 : Below w1.heap.size w1 (w1.alloc (.cells #[] 5)) := (Below.refl _ _).alloc (Nat.le_refl _) _
      have := (HBX.out w1 hG).2.1
      have HK1 := Lib.hid (hK _ _ (hG.below hb1) (listF_below (R2 := w.heap.size + 1) toA toZ toM toC frA frZ frM frC vsA vsZ vsM vsC hb1 (by omega)) (IsEmp.new _ _ _ this)); clear hK hG hfix hdep hb1
      go_simp
      exact HK1.out
    · refine inv_step (o := ⟨some 4, _, _, _, _, _⟩) (by kernel_rfl) rfl rfl fun α w1 hG hfix hdep K hK => ?_
      have h1 : α.tmps.getD 1 undef = _ := hfix 1 (by omega)
      have HK1 := Lib.hid (hK (.pointer (some ⟨w.heap.size, 0, none⟩)) w1 hG (fun _ _ h => h) rfl); clear hK hG hfix hdep
      go_simp
      exact HK1.out
    · refine inv_step (o := ⟨some 5, _, _, _, _, _⟩) (by kernel_rfl) rfl rfl fun α w1 hG hfix hdep K hK => ?_
      have h1 : α.tmps.getD 4 undef = .pointer (some ⟨w.heap.size, 0, none⟩) := hdep 1 (by kernel_rfl)
      have cc : w1.cell? ⟨w.heap.size, 0, none⟩ = some (.slice toA toM toC) := cell_of_heap (HBX.out w1 hG).1 0
      have HK1 := Lib.hid (hK (.slice toA toM toC) w1 hG (fun _ _ h => h) rfl); clear hK hG hfix hdep
      go_simp
      exact HK1.out
    · refine inv_step (o := ⟨some 6, _, _, _, _, _⟩) (by kernel_rfl) rfl rfl fun α w1 hG hfix hdep K hK => ?_
      have h1 : IsEmp _ 5 (α.tmps.getD 3 undef) w1 := hdep 0 (by kernel_rfl)
      have h2 : α.tmps.getD 5 undef = .slice toA toM toC := hdep 2 (by kernel_rfl)
      obtain ⟨v', wz, hrun, hc, hb1⟩ := app_emp (c := toC) Try.underlying22 info_u8 (by omega) h1 HtoH.out toL (HBX.out w1 hG).2.2.1
      have HK1 := Lib.hid (hK v' wz (hG.below hb1) (listF_below (R2 := w.heap.size + 1) toA toZ toM toC frA frZ frM frC vsA vsZ vsM vsC hb1 (by have := (HBX.out w1 hG).2.1; omega)) hc); clear hK hG hfix hdep hb1 hc h1
      simp only [Array.getD_eq_getD_getElem?] at hrun h2
      go_simp
      exact HK1.out
    · refine inv_step (o := ⟨some 7, _, _, _, _, _⟩) (by kernel_rfl) rfl rfl fun α w1 hG hfix hdep K hK => ?_
      have hb1 : Below w1.heap.size w1 (w1.alloc (.cells #[] 5)) := (Below.refl _ _).alloc (Nat.le_refl _) _
      have := (HBX.out w1 hG).2.1
      have HK1 := Lib.hid (hK _ _ (hG.below hb1) (listF_below (R2 := w.heap.size + 1) toA toZ toM toC frA frZ frM frC vsA vsZ vsM vsC hb1 (by omega)) (IsEmp.new _ _ _ this)); clear hK hG hfix hdep hb1
      go_simp
      exact HK1.out
    · refine inv_step (o := ⟨some 8, _, _, _, _, _⟩) (by kernel_rfl) rfl rfl fun α w1 hG hfix hdep K hK => ?_
      have h1 : α.tmps.getD 1 undef = _ := hfix 1 (by omega)
      have HK1 := Lib.hid (hK (.pointer (some ⟨w.heap.size, 1, none⟩)) w1 hG (fun _ _ h => h) rfl); clear hK hG hfix hdep
      go_simp
      exact HK1.out
    · refine inv_step (o := ⟨some 9, _, _, _, _, _⟩) (by kernel_rfl) rfl rfl fun α w1 hG hfix hdep K hK => ?_
      have h1 : α.tmps.getD 8 undef = .pointer (some ⟨w.heap.size, 1, none⟩) := hdep 5 (by kernel_rfl)
      have cc : w1.cell? ⟨w.heap.size, 1, none⟩ = some (.slice frA frM frC) := cell_of_heap (HBX.out w1 hG).1 1
      have HK1 := Lib.hid (hK (.slice frA frM frC) w1 hG (fun _ _ h => h) rfl); clear hK hG hfix hdep
      go_simp
      exact HK1.out
    · refine inv_step (o := ⟨some 10, _, _, _, _, _⟩) (by kernel_rfl) rfl rfl fun α w1 hG hfix hdep K hK => ?_
      have h1 : IsEmp _ 5 (α.tmps.getD 7 undef) w1 := hdep 4 (by kernel_rfl)
      have h2 : α.tmps.getD 9 undef = .slice frA frM frC := hdep 6 (by kernel_rfl)
      obtain ⟨v', wz, hrun, hc, hb1⟩ := app_emp (c := frC) Try.underlying22 info_u8 (by omega) h1 HfrH.out frL (HBX.out w1 hG).2.2.2.1
      have HK1 := Lib.hid (hK v' wz (hG.below hb1) (listF_below (R2 := w.heap.size + 1) toA toZ toM toC frA frZ frM frC vsA vsZ vsM vsC hb1 (by have := (HBX.out w1 hG).2.1; omega)) hc); clear hK hG hfix hdep hb1 hc h1
      simp only [Array.getD_eq_getD_getElem?] at hrun h2
      go_simp
      exact HK1.out
    · refine inv_step (o := ⟨some 11, _, _, _, _, _⟩) (by kernel_rfl) rfl rfl fun α w1 hG hfix hdep K hK => ?_
      have hb1 : Below w1.heap.size w1 (w1.alloc (.cells #[] 3)) := (Below.refl _ _).alloc (Nat.le_refl _) _
      have := (HBX.out w1 hG).2.1
      have HK1 := Lib.hid (hK _ _ (hG.below hb1) (listF_below (R2 := w.heap.size + 1) toA toZ toM toC frA frZ frM frC vsA vsZ vsM vsC hb1 (by omega)) (IsEmp.new _ _ _ this)); clear hK hG hfix hdep hb1
      go_simp
      exact HK1.out
    · refine inv_step (o := ⟨some 12, _, _, _, _, _⟩) (by kernel_rfl) rfl rfl fun α w1 hG hfix hdep K hK => ?_
      have h1 : α.tmps.getD 1 undef = _ := hfix 1 (by omega)
      have HK1 := Lib.hid (hK (.pointer (some ⟨w.heap.size, 2, none⟩)) w1 hG (fun _ _ h => h) rfl); clear hK hG hfix hdep
      go_simp
      exact HK1.out
    · refine inv_step (o := ⟨some 13, _, _, _, _, _⟩) (by kernel_rfl) rfl rfl fun α w1 hG hfix hdep K hK => ?_
      have h1 : α.tmps.getD 12 undef = .pointer (some ⟨w.heap.size, 2, none⟩) := hdep 9 (by kernel_rfl)
      have cc : w1.cell? ⟨w.heap.size, 2, none⟩ = some (.slice vsA vsM vsC) := cell_of_heap (HBX.out w1 hG).1 2
      have HK1 := Lib.hid (hK (.slice vsA vsM vsC) w1 hG (fun _ _ h => h) rfl); clear hK hG hfix hdep
      go_simp
      exact HK1.out
    · refine inv_step (o := ⟨some 14, _, _, _, _, _⟩) (by kernel_rfl) rfl rfl fun α w1 hG hfix hdep K hK => ?_
      have h1 : IsEmp _ 3 (α.tmps.getD 11 undef) w1 := hdep 8 (by kernel_rfl)
      have h2 : α.tmps.getD 13 undef = .slice vsA vsM vsC := hdep 10 (by kernel_rfl)
      obtain ⟨v', wz, hrun, hc, hb1⟩ := app_emp (c := vsC) Try.underlying23 info_int (by omega) h1 HvsH.out vsL (HBX.out w1 hG).2.2.2.2
      have HK1 := Lib.hid (hK v' wz (hG.below hb1) (listF_below (R2 := w.heap.size + 1) toA toZ toM toC frA frZ frM frC vsA vsZ vsM vsC hb1 (by have := (HBX.out w1 hG).2.1; omega)) hc); clear hK hG hfix hdep hb1 hc h1
      simp only [Array.getD_eq_getD_getElem?] at hrun h2
      go_simp
      exact HK1.out
    · refine inv_step (o := ⟨some 15, _, _, _, _, _⟩) (by kernel_rfl) rfl rfl fun α w1 hG hfix hdep K hK => ?_
      have toK : IsCopy _ 5 .u8 toM toZ (α.tmps.getD 6 undef) w1 := hdep 3 (by kernel_rfl)
      have frK : IsCopy _ 5 .u8 frM frZ (α.tmps.getD 10 undef) w1 := hdep 7 (by kernel_rfl)
      have vsK : IsCopy _ 3 .i64 vsM vsZ (α.tmps.getD 14 undef) w1 := hdep 11 (by kernel_rfl)
      have HK1 := Lib.hid fun toS (toE : α.tmps.getD 6 undef = toS) frS (frE : α.tmps.getD 10 undef = frS) vsS (vsE : α.tmps.getD 14 undef = vsS) => hK (.agg #[toS, frS, vsS]) w1 hG (fun _ _ h => h) ⟨toS, frS, vsS, rfl, toE ▸ toK, frE ▸ frK, vsE ▸ vsK⟩
      obtain ⟨top, toq, toE, -, -⟩ := toK
      obtain ⟨frp, frq, frE, -, -⟩ := frK
      obtain ⟨vsp, vsq, vsE, -, -⟩ := vsK
      have HK2 := Lib.hid (HK1.out _ toE _ frE _ vsE)
      clear hK hG hfix hdep HK1
      simp only [Array.getD_eq_getD_getElem?] at toE frE vsE
      go_simp
      exact HK2.out
    · refine inv_step (o := ⟨none, _, _, _, _, _⟩) (by kernel_rfl) rfl rfl fun α w1 hG hfix hdep K hK => ?_
      have h1 : α.tmps.getD 2 undef = _ := hfix 2 (by omega)
      obtain ⟨toS, frS, vsS, e1, toK, frK, vsK⟩ : ∃ toS frS vsS, α.tmps.getD 15 undef = .agg #[toS, frS, vsS] ∧ IsCopy _ 5 .u8 toM toZ toS w1 ∧ IsCopy _ 5 .u8 frM frZ frS w1 ∧ IsCopy _ 3 .i64 vsM vsZ vsS w1 := hdep 12 (by kernel_rfl)
      obtain ⟨hk1, cs, hcs, hh⟩ := id hG
      obtain ⟨hn, hk2⟩ := setAll_all (vs := [toS, frS, vsS]) hcs hh
      obtain ⟨W5, hW5⟩ : ∃ W5, (setAll w1 (w.heap.size + 1) 0 [toS, frS, vsS]) = W5 := ⟨_, rfl⟩
      rw [hW5] at hn hk2
      have HW5 := Lib.hid hW5; clear hW5
      have hl : ∃ toS frS vsS, W5.heap[w.heap.size + 1]? = some (.cells #[toS, frS, vsS] 25 (0, 0)) ∧ IsCopy (w.heap.size + 2) 5 .u8 toM toZ toS W5 ∧ IsCopy (w.heap.size + 2) 5 .u8 frM frZ frS W5 ∧ IsCopy (w.heap.size + 2) 3 .i64 vsM vsZ vsS W5 := ⟨toS, frS, vsS, hn, toK.kept hk2 (fun j h => by omega), frK.kept hk2 (fun j h => by omega), vsK.kept hk2 (fun j h => by omega)⟩
      have HK1 := Lib.hid (hK undef W5 ⟨hk1.trans hk2, _, rfl, hn⟩ (listF_store toA toZ toM toC frA frZ frM frC vsA vsZ vsM vsC hk2 (by omega) hl) hl)
      rw [← HW5.out] at HK1
      obtain ⟨top, toq, rfl, -, -⟩ := toK
      obtain ⟨frp, frq, rfl, -, -⟩ := frK
      obtain ⟨vsp, vsq, rfl, -, -⟩ := vsK
      obtain ⟨y0, y1, y2, rfl⟩ := size3 hcs
      have cc := cells3 hh
      have ff := unfrozen hh
      simp only [Array.getD_eq_getD_getElem?] at e1
      clear hK hG hfix hdep hl hn hk2 hk1 hh hcs
      go_simp
      exact HK1.out
  · intro a' w' hs hd hfix hG hF
    go_wp2_with fail
    have h1 : a'.tmps.getD 2 undef = .pointer (some ⟨w.heap.size + 1, 0, none⟩) := hfix 2 (by omega)
    simp only [Array.getD_eq_getD_getElem?] at h1
    obtain ⟨toS, frS, vsS, hh, toK, frK, vsK⟩ : listF _ _ _ toA toZ toM toC frA frZ frM frC vsA vsZ vsM vsC 13 _ w' := hF 13 (by omega)
    have hb : Below w.heap.size w w' := Kept.below (((Kept.of_below' HB0.out (fun _ => False))).then hG.1 (fun i h1 h2 => by omega))
    have cc := cells3 hh
    obtain ⟨top, toq, rfl, tol, too⟩ := toK
    obtain ⟨frp, frq, rfl, frl, fro⟩ := frK
    obtain ⟨vsp, vsq, rfl, vsl, vso⟩ := vsK
    clear hF hfix hG hh
    refine bodyPost_ret (v := .agg #[.slice top toM toq, .slice frp frM frq, .slice vsp vsM vsq]) ?_ hd ⟨top, toq, frp, frq, vsp, vsq, rfl, Row.of_own too, tol, Row.of_own fro, frl, Row.of_own vso, vsl, hb⟩
    clear too fro vso
    simp [results, Try.results19, go_sem, h1, cc]

/-- What the operations of 21 leave. -/
def retryF (n0 R1 R2 : Nat) (ver : Int) (toA : Option Addr) (toZ : List Int) (toM toC : Nat) (frA : Option Addr) (frZ : List Int) (frM frC : Nat) (tok : Int) (tag : Int) : Nat → Value → World → Prop
  | 0, v, _ => v = .pointer (some ⟨R1, 0, none⟩)
  | 1, v, _ => v = .int .i64 ver
  | 2, v, w => IsEmp n0 5 v w
  | 3, v, _ => v = .pointer (some ⟨R1, 1, none⟩)
  | 4, v, _ => v = .slice toA toM toC
  | 5, v, w => IsCopy n0 5 .u8 toM toZ v w
  | 6, v, w => IsEmp n0 5 v w
  | 7, v, _ => v = .pointer (some ⟨R1, 2, none⟩)
  | 8, v, _ => v = .slice frA frM frC
  | 9, v, w => IsCopy n0 5 .u8 frM frZ v w
  | 10, v, _ => v = .pointer (some ⟨R1, 3, none⟩)
  | 11, v, _ => v = .int .i64 tok
  | 12, v, _ => v = .pointer (some ⟨R1, 4, none⟩)
  | 13, v, _ => v = .int .i64 tag
  | 14, v, w => ∃ toS frS, v = .agg #[.int .i64 ver, toS, frS, .int .i64 tok, .int .i64 tag] ∧ IsCopy n0 5 .u8 toM toZ toS w ∧ IsCopy n0 5 .u8 frM frZ frS w
  | 15, _, w => ∃ toS frS, w.heap[R2]? = some (.cells #[.int .i64 ver, toS, frS, .int .i64 tok, .int .i64 tag] 34 (0, 0)) ∧ IsCopy n0 5 .u8 toM toZ toS w ∧ IsCopy n0 5 .u8 frM frZ frS w
  | _, _, _ => True

theorem retryF_below {n0 R1 R2 : Nat} (ver : Int) (toA : Option Addr) (toZ : List Int) (toM toC : Nat) (frA : Option Addr) (frZ : List Int) (frM frC : Nat) (tok : Int) (tag : Int) {w w' : World} (h : Below w.heap.size w w') (hR : R2 < w.heap.size) : ∀ j v, retryF n0 R1 R2 ver toA toZ toM toC frA frZ frM frC tok tag j v w → retryF n0 R1 R2 ver toA toZ toM toC frA frZ frM frC tok tag j v w' := by
  have hk := Kept.of_below' h (fun _ => False)
  have hE : ∀ {e v}, IsEmp n0 e v w → IsEmp n0 e v w' := fun h => h.kept hk (fun _ h => h.elim)
  have hC : ∀ {e kd m zs v}, IsCopy n0 e kd m zs v w → IsCopy n0 e kd m zs v w' := fun h => h.kept hk (fun _ h => h.elim)
  intro j v hj
  match j, hj with
  | 0, hj => exact hj
  | 1, hj => exact hj
  | 2, hj => exact hE hj
  | 3, hj => exact hj
  | 4, hj => exact hj
  | 5, hj => exact hC hj
  | 6, hj => exact hE hj
  | 7, hj => exact hj
  | 8, hj => exact hj
  | 9, hj => exact hC hj
  | 10, hj => exact hj
  | 11, hj => exact hj
  | 12, hj => exact hj
  | 13, hj => exact hj
  | 14, ⟨toS, frS, h0, toK, frK⟩ => exact ⟨toS, frS, h0, hC toK, hC frK⟩
  | 15, ⟨toS, frS, h0, toK, frK⟩ => exact ⟨toS, frS, (h.block _ hR).trans h0, hC toK, hC frK⟩
  | j + 16, hj => exact hj
theorem retryF_store {n0 R1 R2 : Nat} (ver : Int) (toA : Option Addr) (toZ : List Int) (toM toC : Nat) (frA : Option Addr) (frZ : List Int) (frM frC : Nat) (tok : Int) (tag : Int) {w w' : World} (hk : Kept (· = R2) w w') (hR : R2 < n0) (hl : ∃ toS frS, w'.heap[R2]? = some (.cells #[.int .i64 ver, toS, frS, .int .i64 tok, .int .i64 tag] 34 (0, 0)) ∧ IsCopy n0 5 .u8 toM toZ toS w' ∧ IsCopy n0 5 .u8 frM frZ frS w') : ∀ j v, retryF n0 R1 R2 ver toA toZ toM toC frA frZ frM frC tok tag j v w → retryF n0 R1 R2 ver toA toZ toM toC frA frZ frM frC tok tag j v w' := by
  have hE : ∀ {e v}, IsEmp n0 e v w → IsEmp n0 e v w' := fun h => h.kept hk (fun j h => by omega)
  have hC : ∀ {e kd m zs v}, IsCopy n0 e kd m zs v w → IsCopy n0 e kd m zs v w' := fun h => h.kept hk (fun j h => by omega)
  intro j v hj
  match j, hj with
  | 0, hj => exact hj
  | 1, hj => exact hj
  | 2, hj => exact hE hj
  | 3, hj => exact hj
  | 4, hj => exact hj
  | 5, hj => exact hC hj
  | 6, hj => exact hE hj
  | 7, hj => exact hj
  | 8, hj => exact hj
  | 9, hj => exact hC hj
  | 10, hj => exact hj
  | 11, hj => exact hj
  | 12, hj => exact hj
  | 13, hj => exact hj
  | 14, ⟨toS, frS, h0, toK, frK⟩ => exact ⟨toS, frS, h0, hC toK, hC frK⟩
  | 15, _ => exact hl
  | j + 16, hj => exact hj

set_option maxRecDepth 100000 in
set_option maxHeartbeats 1000000 in
theorem retry_any (ver : Int) (toA : Option Addr) (toZ : List Int) (toM toC : Nat) (frA : Option Addr) (frZ : List Int) (frM frC : Nat) (tok : Int) (tag : Int) (w : World) (toH : toZ.length = toM) (toL : toM ≤ 1000) (toR : Row w w.heap.size toA (ints .u8 toZ)) (frH : frZ.length = frM) (frL : frM ≤ 1000) (frR : Row w w.heap.size frA (ints .u8 frZ)) :
    Calls Try.prog 21 #[.agg #[.int .i64 ver, .slice toA toM toC, .slice frA frM frC, .int .i64 tok, .int .i64 tag]] w fun e w' => ∃ toA' toC' frA' frC', e = .returned (.agg #[.int .i64 ver, .slice toA' toM toC', .slice frA' frM frC', .int .i64 tok, .int .i64 tag]) ∧ Row w' w'.heap.size toA' (ints .u8 toZ) ∧ toM ≤ toC' ∧ Row w' w'.heap.size frA' (ints .u8 frZ) ∧ frM ≤ frC' ∧ Below w.heap.size w w' := by
  obtain ⟨W0, hW0⟩ : ∃ W0, (w.alloc (.cells #[.int .i64 ver, .slice toA toM toC, .slice frA frM frC, .int .i64 tok, .int .i64 tag] 38)).alloc (.cells #[.int .i64 0, .slice none 0 0, .slice none 0 0, .int .i64 0, .int .i64 0] 34) = W0 := ⟨_, rfl⟩
  obtain ⟨g1, g2, b0⟩ := two_new w (.cells #[.int .i64 ver, .slice toA toM toC, .slice frA frM frC, .int .i64 tok, .int .i64 tag] 38) (.cells #[.int .i64 0, .slice none 0 0, .slice none 0 0, .int .i64 0, .int .i64 0] 34)
  have hs0 : W0.heap.size = w.heap.size + 2 := by rw [← hW0]; simp
  rw [hW0] at g1 g2 b0
  have hG0 : boxG W0 (w.heap.size + 1) 34 5 W0.drew := ⟨(Kept.refl _ _).drew, _, rfl, g2⟩
  have hbx : ∀ w1, boxG W0 (w.heap.size + 1) 34 5 w1 → w1.heap[w.heap.size]? = some (.cells #[.int .i64 ver, .slice toA toM toC, .slice frA frM frC, .int .i64 tok, .int .i64 tag] 38 (0, 0)) ∧ w.heap.size + 2 ≤ w1.heap.size ∧ Row w1 w.heap.size toA (ints .u8 toZ) ∧ Row w1 w.heap.size frA (ints .u8 frZ) := fun w1 h => by
    have hb1 : Kept (fun k => w.heap.size ≤ k) w w1 := (Kept.of_below' b0 _).then h.1 (fun i h1 h2 => by omega)
    exact ⟨(h.1.block _ (by omega) (by omega)).trans g1, by have := h.1.size; omega, toR.kept hb1 (Nat.le_refl _) (fun k h1 h2 => by omega), frR.kept hb1 (Nat.le_refl _) (fun k h1 h2 => by omega)⟩
  have HBX := Lib.hid hbx; clear hbx
  have HG0 := Lib.hid hG0; clear hG0
  have HW0 := Lib.hid hW0; clear hW0
  have HS := Lib.hid hs0; clear hs0
  have HB0 := Lib.hid b0; clear b0
  clear g1 g2
  have HtoH := Lib.hid toH; clear toH
  clear toR
  have HfrH := Lib.hid frH; clear frH
  clear frR
  go_enter Try.func21, Try.ntmps21
  go_wp2_with fail
  rw [HW0.out]
  refine wp_region_facts 3 16 (retryF (w.heap.size + 2) w.heap.size (w.heap.size + 1) ver toA toZ toM toC frA frZ frM frC tok tag) (boxG W0 (w.heap.size + 1) 34 5) rfl (by kernel_rfl) rfl (by kernel_rfl) (by kernel_rfl) HG0.out ?_ ?_
  · refine ⟨⟨⟨⟨⟨⟨⟨⟨⟨⟨⟨⟨⟨⟨⟨⟨trivial, ?_⟩, ?_⟩, ?_⟩, ?_⟩, ?_⟩, ?_⟩, ?_⟩, ?_⟩, ?_⟩, ?_⟩, ?_⟩, ?_⟩, ?_⟩, ?_⟩, ?_⟩, ?_⟩
    · refine inv_step (o := ⟨some 3, _, _, _, _, _⟩) (by kernel_rfl) rfl rfl fun α w1 hG hfix hdep K hK => ?_
      have h1 : α.tmps.getD 1 undef = _ := hfix 1 (by omega)
      have HK1 := Lib.hid (hK (.pointer (some ⟨w.heap.size, 0, none⟩)) w1 hG (fun _ _ h => h) rfl); clear hK hG hfix hdep
      go_simp
      exact HK1.out
    · refine inv_step (o := ⟨some 4, _, _, _, _, _⟩) (by kernel_rfl) rfl rfl fun α w1 hG hfix hdep K hK => ?_
      have h1 : α.tmps.getD 3 undef = .pointer (some ⟨w.heap.size, 0, none⟩) := hdep 0 (by kernel_rfl)
      have cc : w1.cell? ⟨w.heap.size, 0, none⟩ = some (.int .i64 ver) := cell_of_heap (HBX.out w1 hG).1 0
      have HK1 := Lib.hid (hK (.int .i64 ver) w1 hG (fun _ _ h => h) rfl); clear hK hG hfix hdep
      go_simp
      exact HK1.out
    · refine inv_step (o := ⟨some 5, _, _, _, _, _⟩) (by kernel_rfl) rfl rfl fun α w1 hG hfix hdep K hK => ?_
      have hb1 : Below w1.heap.size w1 (w1.alloc (.cells #[] 5)) := (Below.refl _ _).alloc (Nat.le_refl _) _
      have := (HBX.out w1 hG).2.1
      have HK1 := Lib.hid (hK _ _ (hG.below hb1) (retryF_below (R2 := w.heap.size + 1) ver toA toZ toM toC frA frZ frM frC tok tag hb1 (by omega)) (IsEmp.new _ _ _ this)); clear hK hG hfix hdep hb1
      go_simp
      exact HK1.out
    · refine inv_step (o := ⟨some 6, _, _, _, _, _⟩) (by kernel_rfl) rfl rfl fun α w1 hG hfix hdep K hK => ?_
      have h1 : α.tmps.getD 1 undef = _ := hfix 1 (by omega)
      have HK1 := Lib.hid (hK (.pointer (some ⟨w.heap.size, 1, none⟩)) w1 hG (fun _ _ h => h) rfl); clear hK hG hfix hdep
      go_simp
      exact HK1.out
    · refine inv_step (o := ⟨some 7, _, _, _, _, _⟩) (by kernel_rfl) rfl rfl fun α w1 hG hfix hdep K hK => ?_
      have h1 : α.tmps.getD 6 undef = .pointer (some ⟨w.heap.size, 1, none⟩) := hdep 3 (by kernel_rfl)
      have cc : w1.cell? ⟨w.heap.size, 1, none⟩ = some (.slice toA toM toC) := cell_of_heap (HBX.out w1 hG).1 1
      have HK1 := Lib.hid (hK (.slice toA toM toC) w1 hG (fun _ _ h => h) rfl); clear hK hG hfix hdep
      go_simp
      exact HK1.out
    · refine inv_step (o := ⟨some 8, _, _, _, _, _⟩) (by kernel_rfl) rfl rfl fun α w1 hG hfix hdep K hK => ?_
      have h1 : IsEmp _ 5 (α.tmps.getD 5 undef) w1 := hdep 2 (by kernel_rfl)
      have h2 : α.tmps.getD 7 undef = .slice toA toM toC := hdep 4 (by kernel_rfl)
      obtain ⟨v', wz, hrun, hc, hb1⟩ := app_emp (c := toC) Try.underlying22 info_u8 (by omega) h1 HtoH.out toL (HBX.out w1 hG).2.2.1
      have HK1 := Lib.hid (hK v' wz (hG.below hb1) (retryF_below (R2 := w.heap.size + 1) ver toA toZ toM toC frA frZ frM frC tok tag hb1 (by have := (HBX.out w1 hG).2.1; omega)) hc); clear hK hG hfix hdep hb1 hc h1
      simp only [Array.getD_eq_getD_getElem?] at hrun h2
      go_simp
      exact HK1.out
    · refine inv_step (o := ⟨some 9, _, _, _, _, _⟩) (by kernel_rfl) rfl rfl fun α w1 hG hfix hdep K hK => ?_
      have hb1 : Below w1.heap.size w1 (w1.alloc (.cells #[] 5)) := (Below.refl _ _).alloc (Nat.le_refl _) _
      have := (HBX.out w1 hG).2.1
      have HK1 := Lib.hid (hK _ _ (hG.below hb1) (retryF_below (R2 := w.heap.size + 1) ver toA toZ toM toC frA frZ frM frC tok tag hb1 (by omega)) (IsEmp.new _ _ _ this)); clear hK hG hfix hdep hb1
      go_simp
      exact HK1.out
    · refine inv_step (o := ⟨some 10, _, _, _, _, _⟩) (by kernel_rfl) rfl rfl fun α w1 hG hfix hdep K hK => ?_
      have h1 : α.tmps.getD 1 undef = _ := hfix 1 (by omega)
      have HK1 := Lib.hid (hK (.pointer (some ⟨w.heap.size, 2, none⟩)) w1 hG (fun _ _ h => h) rfl); clear hK hG hfix hdep
      go_simp
      exact HK1.out
    · refine inv_step (o := ⟨some 11, _, _, _, _, _⟩) (by kernel_rfl) rfl rfl fun α w1 hG hfix hdep K hK => ?_
      have h1 : α.tmps.getD 10 undef = .pointer (some ⟨w.heap.size, 2, none⟩) := hdep 7 (by kernel_rfl)
      have cc : w1.cell? ⟨w.heap.size, 2, none⟩ = some (.slice frA frM frC) := cell_of_heap (HBX.out w1 hG).1 2
      have HK1 := Lib.hid (hK (.slice frA frM frC) w1 hG (fun _ _ h => h) rfl); clear hK hG hfix hdep
      go_simp
      exact HK1.out
    · refine inv_step (o := ⟨some 12, _, _, _, _, _⟩) (by kernel_rfl) rfl rfl fun α w1 hG hfix hdep K hK => ?_
      have h1 : IsEmp _ 5 (α.tmps.getD 9 undef) w1 := hdep 6 (by kernel_rfl)
      have h2 : α.tmps.getD 11 undef = .slice frA frM frC := hdep 8 (by kernel_rfl)
      obtain ⟨v', wz, hrun, hc, hb1⟩ := app_emp (c := frC) Try.underlying22 info_u8 (by omega) h1 HfrH.out frL (HBX.out w1 hG).2.2.2
      have HK1 := Lib.hid (hK v' wz (hG.below hb1) (retryF_below (R2 := w.heap.size + 1) ver toA toZ toM toC frA frZ frM frC tok tag hb1 (by have := (HBX.out w1 hG).2.1; omega)) hc); clear hK hG hfix hdep hb1 hc h1
      simp only [Array.getD_eq_getD_getElem?] at hrun h2
      go_simp
      exact HK1.out
    · refine inv_step (o := ⟨some 13, _, _, _, _, _⟩) (by kernel_rfl) rfl rfl fun α w1 hG hfix hdep K hK => ?_
      have h1 : α.tmps.getD 1 undef = _ := hfix 1 (by omega)
      have HK1 := Lib.hid (hK (.pointer (some ⟨w.heap.size, 3, none⟩)) w1 hG (fun _ _ h => h) rfl); clear hK hG hfix hdep
      go_simp
      exact HK1.out
    · refine inv_step (o := ⟨some 14, _, _, _, _, _⟩) (by kernel_rfl) rfl rfl fun α w1 hG hfix hdep K hK => ?_
      have h1 : α.tmps.getD 13 undef = .pointer (some ⟨w.heap.size, 3, none⟩) := hdep 10 (by kernel_rfl)
      have cc : w1.cell? ⟨w.heap.size, 3, none⟩ = some (.int .i64 tok) := cell_of_heap (HBX.out w1 hG).1 3
      have HK1 := Lib.hid (hK (.int .i64 tok) w1 hG (fun _ _ h => h) rfl); clear hK hG hfix hdep
      go_simp
      exact HK1.out
    · refine inv_step (o := ⟨some 15, _, _, _, _, _⟩) (by kernel_rfl) rfl rfl fun α w1 hG hfix hdep K hK => ?_
      have h1 : α.tmps.getD 1 undef = _ := hfix 1 (by omega)
      have HK1 := Lib.hid (hK (.pointer (some ⟨w.heap.size, 4, none⟩)) w1 hG (fun _ _ h => h) rfl); clear hK hG hfix hdep
      go_simp
      exact HK1.out
    · refine inv_step (o := ⟨some 16, _, _, _, _, _⟩) (by kernel_rfl) rfl rfl fun α w1 hG hfix hdep K hK => ?_
      have h1 : α.tmps.getD 15 undef = .pointer (some ⟨w.heap.size, 4, none⟩) := hdep 12 (by kernel_rfl)
      have cc : w1.cell? ⟨w.heap.size, 4, none⟩ = some (.int .i64 tag) := cell_of_heap (HBX.out w1 hG).1 4
      have HK1 := Lib.hid (hK (.int .i64 tag) w1 hG (fun _ _ h => h) rfl); clear hK hG hfix hdep
      go_simp
      exact HK1.out
    · refine inv_step (o := ⟨some 17, _, _, _, _, _⟩) (by kernel_rfl) rfl rfl fun α w1 hG hfix hdep K hK => ?_
      have verE : α.tmps.getD 4 undef = .int .i64 ver := hdep 1 (by kernel_rfl)
      have toK : IsCopy _ 5 .u8 toM toZ (α.tmps.getD 8 undef) w1 := hdep 5 (by kernel_rfl)
      have frK : IsCopy _ 5 .u8 frM frZ (α.tmps.getD 12 undef) w1 := hdep 9 (by kernel_rfl)
      have tokE : α.tmps.getD 14 undef = .int .i64 tok := hdep 11 (by kernel_rfl)
      have tagE : α.tmps.getD 16 undef = .int .i64 tag := hdep 13 (by kernel_rfl)
      have HK1 := Lib.hid fun toS (toE : α.tmps.getD 8 undef = toS) frS (frE : α.tmps.getD 12 undef = frS) => hK (.agg #[.int .i64 ver, toS, frS, .int .i64 tok, .int .i64 tag]) w1 hG (fun _ _ h => h) ⟨toS, frS, rfl, toE ▸ toK, frE ▸ frK⟩
      obtain ⟨top, toq, toE, -, -⟩ := toK
      obtain ⟨frp, frq, frE, -, -⟩ := frK
      have HK2 := Lib.hid (HK1.out _ toE _ frE)
      clear hK hG hfix hdep HK1
      simp only [Array.getD_eq_getD_getElem?] at verE toE frE tokE tagE
      go_simp
      exact HK2.out
    · refine inv_step (o := ⟨none, _, _, _, _, _⟩) (by kernel_rfl) rfl rfl fun α w1 hG hfix hdep K hK => ?_
      have h1 : α.tmps.getD 2 undef = _ := hfix 2 (by omega)
      obtain ⟨toS, frS, e1, toK, frK⟩ : ∃ toS frS, α.tmps.getD 17 undef = .agg #[.int .i64 ver, toS, frS, .int .i64 tok, .int .i64 tag] ∧ IsCopy _ 5 .u8 toM toZ toS w1 ∧ IsCopy _ 5 .u8 frM frZ frS w1 := hdep 14 (by kernel_rfl)
      obtain ⟨hk1, cs, hcs, hh⟩ := id hG
      obtain ⟨hn, hk2⟩ := setAll_all (vs := [.int .i64 ver, toS, frS, .int .i64 tok, .int .i64 tag]) hcs hh
      obtain ⟨W5, hW5⟩ : ∃ W5, (setAll w1 (w.heap.size + 1) 0 [.int .i64 ver, toS, frS, .int .i64 tok, .int .i64 tag]) = W5 := ⟨_, rfl⟩
      rw [hW5] at hn hk2
      have HW5 := Lib.hid hW5; clear hW5
      have hl : ∃ toS frS, W5.heap[w.heap.size + 1]? = some (.cells #[.int .i64 ver, toS, frS, .int .i64 tok, .int .i64 tag] 34 (0, 0)) ∧ IsCopy (w.heap.size + 2) 5 .u8 toM toZ toS W5 ∧ IsCopy (w.heap.size + 2) 5 .u8 frM frZ frS W5 := ⟨toS, frS, hn, toK.kept hk2 (fun j h => by omega), frK.kept hk2 (fun j h => by omega)⟩
      have HK1 := Lib.hid (hK undef W5 ⟨hk1.trans hk2, _, rfl, hn⟩ (retryF_store ver toA toZ toM toC frA frZ frM frC tok tag hk2 (by omega) hl) hl)
      rw [← HW5.out] at HK1
      obtain ⟨top, toq, rfl, -, -⟩ := toK
      obtain ⟨frp, frq, rfl, -, -⟩ := frK
      obtain ⟨y0, y1, y2, y3, y4, rfl⟩ := size5 hcs
      have cc := cells5 hh
      have ff := unfrozen hh
      simp only [Array.getD_eq_getD_getElem?] at e1
      clear hK hG hfix hdep hl hn hk2 hk1 hh hcs
      go_simp
      exact HK1.out
  · intro a' w' hs hd hfix hG hF
    go_wp2_with fail
    have h1 : a'.tmps.getD 2 undef = .pointer (some ⟨w.heap.size + 1, 0, none⟩) := hfix 2 (by omega)
    simp only [Array.getD_eq_getD_getElem?] at h1
    obtain ⟨toS, frS, hh, toK, frK⟩ : retryF _ _ _ ver toA toZ toM toC frA frZ frM frC tok tag 15 _ w' := hF 15 (by omega)
    have hb : Below w.heap.size w w' := Kept.below (((Kept.of_below' HB0.out (fun _ => False))).then hG.1 (fun i h1 h2 => by omega))
    have cc := cells5 hh
    obtain ⟨top, toq, rfl, tol, too⟩ := toK
    obtain ⟨frp, frq, rfl, frl, fro⟩ := frK
    clear hF hfix hG hh
    refine bodyPost_ret (v := .agg #[.int .i64 ver, .slice top toM toq, .slice frp frM frq, .int .i64 tok, .int .i64 tag]) ?_ hd ⟨top, toq, frp, frq, rfl, Row.of_own too, tol, Row.of_own fro, frl, hb⟩
    clear too fro
    simp [results, Try.results21, go_sem, h1, cc]
end Go.Proofs.Ytaplndehoenghaa
