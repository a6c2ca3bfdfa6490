/- params.Write. (The two drawn regions are printed by wip/gen/mk_pwrite.py.) -/
import Derived.Test.YtaplndehoenghaaDoorPBig
import Derived.Test.YtaplndehoenghaaDoorPRight
import Derived.Test.YtaplndehoenghaaDoorRuleN
namespace Go.Proofs.YtaplndehoenghaaDoor
open Go.RowKit
set_option linter.unusedVariables false
attribute [local go_sem ↓] app_hide

theorem size58 {cs : Array Value} (h : cs.size = 58) : ∃ y0 y1 y2 y3 y4 y5 y6 y7 y8 y9 y10 y11 y12 y13 y14 y15 y16 y17 y18 y19 y20 y21 y22 y23 y24 y25 y26 y27 y28 y29 y30 y31 y32 y33 y34 y35 y36 y37 y38 y39 y40 y41 y42 y43 y44 y45 y46 y47 y48 y49 y50 y51 y52 y53 y54 y55 y56 y57, cs = List.toArray (y0 :: y1 :: y2 :: y3 :: y4 :: y5 :: y6 :: y7 :: y8 :: y9 :: y10 :: y11 :: y12 :: y13 :: y14 :: y15 :: y16 :: y17 :: y18 :: y19 :: y20 :: y21 :: y22 :: y23 :: y24 :: y25 :: y26 :: y27 :: y28 :: y29 :: y30 :: y31 :: y32 :: y33 :: y34 :: y35 :: y36 :: y37 :: y38 :: y39 :: y40 :: y41 :: y42 :: y43 :: y44 :: y45 :: y46 :: y47 :: y48 :: y49 :: y50 :: y51 :: y52 :: y53 :: y54 :: y55 :: y56 :: y57 :: []) := by
  obtain ⟨l⟩ := cs
  match l, h with
  | y0 :: y1 :: y2 :: y3 :: y4 :: y5 :: y6 :: y7 :: y8 :: y9 :: y10 :: y11 :: y12 :: y13 :: y14 :: y15 :: y16 :: y17 :: y18 :: y19 :: y20 :: y21 :: y22 :: y23 :: y24 :: y25 :: y26 :: y27 :: y28 :: y29 :: y30 :: y31 :: y32 :: y33 :: y34 :: y35 :: y36 :: y37 :: y38 :: y39 :: y40 :: y41 :: y42 :: y43 :: y44 :: y45 :: y46 :: y47 :: y48 :: y49 :: y50 :: y51 :: y52 :: y53 :: y54 :: y55 :: y56 :: y57 :: [], _ => exact ⟨y0, y1, y2, y3, y4, y5, y6, y7, y8, y9, y10, y11, y12, y13, y14, y15, y16, y17, y18, y19, y20, y21, y22, y23, y24, y25, y26, y27, y28, y29, y30, y31, y32, y33, y34, y35, y36, y37, y38, y39, y40, y41, y42, y43, y44, y45, y46, y47, y48, y49, y50, y51, y52, y53, y54, y55, y56, y57, rfl⟩

/-- A field that may be there. -/
def optT (there : Bool) (n : Int) (ys zs : List Int) : List Int := if there = true then zs ++ fieldT n ys else zs
/-- Right params' bytes. -/
def writeT (idle data cho : Int) (hg ho hr : Bool) (gz oz rz vz : List Int) : List Int :=
  optT hr 16 rz (optT ho 15 oz (optT hg 0 gz [] ++ fieldT 1 (bytesT idle) ++ fieldT 4 (bytesT data))) ++ fieldT 17 (four cho ++ vz.flatMap four)

theorem row_block4 {W : World} {q t : Nat} {zs : List Int} (h : W.heap[q]? = some (.cells (ints .u8 zs).toArray t (0, 0))) : Row W W.heap.size (some ⟨q, 0, none⟩) (ints .u8 zs) := fun hn =>
  ⟨q, 0, rfl, (Array.getElem?_eq_some_iff.1 h).1, fun j u hj => by
    have := cell_of_heap h j
    simp only [List.getElem?_toArray] at this
    rw [hj] at this
    simpa using this⟩

/-- What is written so far lies in the box R. -/
def OutAt (R n0 : Nat) (zs : List Int) (w : World) : Prop := ∃ v, w.heap[R]? = some (.cells #[v] 22 (0, 0)) ∧ IsCopy n0 5 .u8 zs.length zs v w

theorem setBox {w : World} {R : Nat} {x : Value} {t : TypeId} (h : w.heap[R]? = some (.cells #[x] t (0, 0))) (v : Value) :
    (w.setCell ⟨R, 0, none⟩ v).heap[R]? = some (.cells #[v] t (0, 0)) ∧ Kept (· = R) w (w.setCell ⟨R, 0, none⟩ v) :=
  ⟨by have hlt := (Array.getElem?_eq_some_iff.1 h).1
      simp [World.setCell, Array.getElem?_modify, h], (Kept.refl (· = R) w).setCell (p := ⟨R, 0, none⟩) (.inl rfl) v⟩

theorem TabOk.kept {w w' : World} {R : Nat} (h : TabOk w) (hk : Kept (· = R) w w') (hR : 1 ≠ R) : TabOk w' := by
  obtain ⟨h0, h1, h2, h3, h4⟩ := h
  have hs := hk.size
  exact ⟨(hk.cell (p := ⟨_, _, none⟩) h4 hR).trans h0, (hk.cell (p := ⟨_, _, none⟩) h4 hR).trans h1, (hk.cell (p := ⟨_, _, none⟩) h4 hR).trans h2, (hk.cell (p := ⟨_, _, none⟩) h4 hR).trans h3, by omega⟩

theorem name_any (n : Int) (there : Bool) (b : Option Addr) (ys zs : List Int) (k d R n0 : Nat) (w : World) (hk : ys.length = k) (lk : k ≤ 50000) (lz : zs.length ≤ 50000) (hR : R < n0) (hn : n0 ≤ w.heap.size) (hy : Row w w.heap.size b (ints .u8 ys)) (hT : TabOk w) (ho : OutAt R n0 zs w) :
    Calls Tryd.prog 15 #[.int .i64 n, .bool there, .slice b k d, .pointer (some ⟨R, 0, none⟩)] w fun e w' => e = .returned (.tuple #[]) ∧ OutAt R n0 (if there = true then zs ++ fieldT n ys else zs) w' ∧ Kept (· = R) w w' := by
  cases there
  · have HO := Lib.hid ho; clear ho
    have HK := Lib.hid hk; clear hk
    go_enter Tryd.func15, Tryd.ntmps15
    go_wp2
    go_end0
    exact ⟨rfl, HO.out, Kept.refl _ _⟩
  · obtain ⟨v, hb, hc⟩ := ho
    obtain ⟨L, hL⟩ : ∃ L, zs.length = L := ⟨_, rfl⟩
    rw [hL] at hc lz
    obtain ⟨p, q, rfl, hq, ho⟩ := hc
    have cR := box_cell hb
    have HBX := Lib.hid hb; clear hb
    have HO := Lib.hid ho; clear ho
    have HK := Lib.hid hk; clear hk
    have HL := Lib.hid hL; clear hL
    have HY := Lib.hid hy; clear hy
    go_enter Tryd.func15, Tryd.ntmps15
    go_wp2_with fail
    refine (field_any p b zs ys n L k q d w HL.out HK.out (Row.of_own HO.out) HY.out (by omega) (by omega) hT).mono ?_
    rintro e w1 ⟨v1, rfl, hc, hb⟩
    obtain ⟨M, hM⟩ : ∃ M, (zs ++ fieldT n ys).length = M := ⟨_, rfl⟩
    rw [hM] at hc
    have g1 := (hb.block _ (Array.getElem?_eq_some_iff.1 HBX.out).1).trans HBX.out
    obtain ⟨s1, s2⟩ := setBox g1 v1
    have cR1 := box_cell g1
    have fR1 : w1.frozen? ⟨R, 0, none⟩ = false := unfrozen g1 0
    have FIN := Lib.hid (And.intro (show OutAt R n0 (zs ++ fieldT n ys) (w1.setCell ⟨R, 0, none⟩ v1) from ⟨v1, s1, by rw [hM]; exact (hc.kept s2 (fun j hj => by omega)).base (by omega)⟩) ((Kept.of_below' hb _).trans s2))
    obtain ⟨p1, q1, rfl, -, -⟩ := hc
    clear g1 s1 s2 hb hM
    go_wp2
    go_end0
    exact ⟨rfl, FIN.out⟩

/-- What the operations of the region leave that writes field 1. -/
def w1F (R n0 B : Nat) (X : Int) (V0 : Value) (zs : List Int) : Nat → Value → World → Prop
  | 0, v, _ => v = V0
  | 1, v, _ => v = .pointer (some ⟨B, 0, none⟩)
  | 2, v, _ => v = .int .i64 X
  | 3, v, w => IsCopy n0 5 .u8 (bytesT X).length (bytesT X) v w
  | 4, v, w => IsCopy n0 5 .u8 (zs ++ fieldT 1 (bytesT X)).length (zs ++ fieldT 1 (bytesT X)) v w
  | 5, _, w => OutAt R n0 (zs ++ fieldT 1 (bytesT X)) w
  | _, _, _ => True
theorem w1F_below (R n0 B : Nat) (X : Int) (V0 : Value) (zs : List Int) {w w' : World} (hR : R < w.heap.size) (h : Below w.heap.size w w') : ∀ j v, w1F R n0 B X V0 zs j v w → w1F R n0 B X V0 zs j v w' := by
  intro j v hj
  match j, hj with
  | 0, hj => exact hj
  | 1, hj => exact hj
  | 2, hj => exact hj
  | 3, hj => exact hj.below h
  | 4, hj => exact hj.below h
  | 5, ⟨v, h1, h2⟩ => exact ⟨v, (h.block _ hR).trans h1, h2.below h⟩
  | j + 6, hj => exact hj
theorem w1F_store (R n0 B : Nat) (X : Int) (V0 : Value) (zs : List Int) {w w' : World} (hR : R < n0) (h : Kept (· = R) w w') (hl : OutAt R n0 (zs ++ fieldT 1 (bytesT X)) w') : ∀ j v, w1F R n0 B X V0 zs j v w → w1F R n0 B X V0 zs j v w' := by
  intro j v hj
  match j, hj with
  | 0, hj => exact hj
  | 1, hj => exact hj
  | 2, hj => exact hj
  | 3, hj => exact hj.kept h (fun k hk => by omega)
  | 4, hj => exact hj.kept h (fun k hk => by omega)
  | 5, _ => exact hl
  | j + 6, hj => exact hj

/-- What the operations of the region leave that writes field 4. -/
def w2F (R n0 B : Nat) (X : Int) (V0 : Value) (zs : List Int) : Nat → Value → World → Prop
  | 0, v, _ => v = V0
  | 1, v, _ => v = .pointer (some ⟨B, 1, none⟩)
  | 2, v, _ => v = .int .i64 X
  | 3, v, w => IsCopy n0 5 .u8 (bytesT X).length (bytesT X) v w
  | 4, v, w => IsCopy n0 5 .u8 (zs ++ fieldT 4 (bytesT X)).length (zs ++ fieldT 4 (bytesT X)) v w
  | 5, _, w => OutAt R n0 (zs ++ fieldT 4 (bytesT X)) w
  | _, _, _ => True
theorem w2F_below (R n0 B : Nat) (X : Int) (V0 : Value) (zs : List Int) {w w' : World} (hR : R < w.heap.size) (h : Below w.heap.size w w') : ∀ j v, w2F R n0 B X V0 zs j v w → w2F R n0 B X V0 zs j v w' := by
  intro j v hj
  match j, hj with
  | 0, hj => exact hj
  | 1, hj => exact hj
  | 2, hj => exact hj
  | 3, hj => exact hj.below h
  | 4, hj => exact hj.below h
  | 5, ⟨v, h1, h2⟩ => exact ⟨v, (h.block _ hR).trans h1, h2.below h⟩
  | j + 6, hj => exact hj
theorem w2F_store (R n0 B : Nat) (X : Int) (V0 : Value) (zs : List Int) {w w' : World} (hR : R < n0) (h : Kept (· = R) w w') (hl : OutAt R n0 (zs ++ fieldT 4 (bytesT X)) w') : ∀ j v, w2F R n0 B X V0 zs j v w → w2F R n0 B X V0 zs j v w' := by
  intro j v hj
  match j, hj with
  | 0, hj => exact hj
  | 1, hj => exact hj
  | 2, hj => exact hj
  | 3, hj => exact hj.kept h (fun k hk => by omega)
  | 4, hj => exact hj.kept h (fun k hk => by omega)
  | 5, _ => exact hl
  | j + 6, hj => exact hj

set_option maxRecDepth 100000 in
set_option maxHeartbeats 4000000 in
theorem write_yes (idle data cho : Int) (hg ho hr : Bool) (ga oa ra va : Option Addr) (gm om rm vm gc oc rc vc : Nat) (gz oz rz vz : List Int) (w : World) (eg : gz.length = gm) (eo : oz.length = om) (er : rz.length = rm) (hv : vz.length = vm) (lg : gm ≤ 1000) (lo : om ≤ 1000) (lr : rm ≤ 1000) (lv : vm ≤ 16)
    (rg : Row w w.heap.size ga (ints .u8 gz)) (ro : Row w w.heap.size oa (ints .u8 oz)) (rr : Row w w.heap.size ra (ints .u8 rz)) (hrow : Row w w.heap.size va (ints .i64 vz)) (hT : TabOk w) (hR : rightT idle data cho hg ho hr gm om rm vz = true) (hc0 : -9223372036854775808 ≤ cho ∧ cho ≤ 9223372036854775807) (hvb : ∀ x ∈ vz, 0 ≤ x ∧ x < 4294967296) :
    Calls Tryd.prog 7 #[.agg #[.int .i64 idle, .int .i64 data, .bool hg, .bool ho, .bool hr, .slice ga gm gc, .slice oa om oc, .slice ra rm rc, .int .i64 cho, .slice va vm vc]] w
      fun e w' => ∃ v, e = .returned v ∧ IsCopy w.heap.size 5 .u8 (writeT idle data cho hg ho hr gz oz rz vz).length (writeT idle data cho hg ho hr gz oz rz vz) v w' ∧ Below w.heap.size w w' := by
  obtain ⟨g1, nb⟩ := one_new w (.cells #[.int .i64 idle, .int .i64 data, .bool hg, .bool ho, .bool hr, .slice ga gm gc, .slice oa om oc, .slice ra rm rc, .int .i64 cho, .slice va vm vc] 27)
  have NB := Lib.hid nb; clear nb
  have G1 := Lib.hid g1; clear g1
  have C0 := Lib.hid (right_any idle data cho hg ho hr ga oa ra va gm om rm vm gc oc rc vc vz (w.alloc (.cells #[.int .i64 idle, .int .i64 data, .bool hg, .bool ho, .bool hr, .slice ga gm gc, .slice oa om oc, .slice ra rm rc, .int .i64 cho, .slice va vm vc] 27)) hv lg lo lr (by omega) ((hrow.below NB.out).more (by simp)))
  rw [hR] at C0
  have cA := cells10 G1.out
  have HB0 := Lib.hid (And.intro eg (And.intro eo (And.intro er hv)))
  have HR0 := Lib.hid (And.intro rg (And.intro ro (And.intro rr hrow)))
  have HT := Lib.hid hT
  have HVB := Lib.hid hvb
  clear rg ro rr hrow hT hR hvb eg eo er hv
  go_enter Tryd.func7, Tryd.ntmps7
  go_wp2_with fail
  refine C0.out.mono ?_
  rintro e w2 ⟨rfl, hb⟩
  clear cA C0
  have g2 : w2.heap[w.heap.size]? = some (.cells #[.int .i64 idle, .int .i64 data, .bool hg, .bool ho, .bool hr, .slice ga gm gc, .slice oa om oc, .slice ra rm rc, .int .i64 cho, .slice va vm vc] 27 (0, 0)) := (hb.block _ (by simp)).trans G1.out
  have B2 := Lib.hid (NB.out.trans (hb.mono (by simp)))
  have S2 : w.heap.size + 1 ≤ w2.heap.size := by have := hb.size; simpa using this
  obtain ⟨W3, hW3⟩ : ∃ W3, w2.alloc (.cells #[.slice none 0 0] 22) = W3 := ⟨_, rfl⟩
  have b23 : Below w2.heap.size w2 W3 := by rw [← hW3]; exact (Below.refl _ _).alloc (Nat.le_refl _) _
  have g3 := (b23.block _ (Array.getElem?_eq_some_iff.1 g2).1).trans g2
  have s3 : W3.heap.size = w2.heap.size + 1 := by rw [← hW3]; simp
  have o3 : OutAt w2.heap.size (w2.heap.size + 1) [] W3 := ⟨.slice none 0 0, by rw [← hW3]; exact heap_alloc_new _ _, copy_none _ _ _ _⟩
  have cA := cells10 g3
  rw [← hW3] at cA
  have HW3 := Lib.hid hW3
  have B3 := Lib.hid (B2.out.trans (b23.mono (by omega)))
  have T3 := Lib.hid (HT.out.below B3.out)
  clear hW3 g2
  go_wp2_with fail
  rw [HW3.out]
  have RG := Lib.hid (fun (W : World) (hb : Below w.heap.size w W) => And.intro ((HR0.out.1.below hb).more hb.size) (And.intro ((HR0.out.2.1.below hb).more hb.size) (And.intro ((HR0.out.2.2.1.below hb).more hb.size) ((HR0.out.2.2.2.below hb).more hb.size))))
  have BX := Lib.hid g3; clear g3
  refine (name_any 0 hg ga gz [] gm gc w2.heap.size (w2.heap.size + 1) _ HB0.out.1 (by omega) (by simp) (by omega) (by omega) (RG.out _ B3.out).1 T3.out o3).mono ?_
  rintro e W4 ⟨rfl, o4, k4⟩
  obtain ⟨zs, hzs⟩ : ∃ z, (if hg = true then [] ++ fieldT 0 gz else []) = z := ⟨_, rfl⟩
  have LZ : Hid (zs.length ≤ 1016) := by
    have h1 := fieldT_len 0 gz
    have h2 := HB0.out.1
    refine Lib.hid ?_
    rw [← hzs]
    split
    · rw [List.nil_append]; omega
    · simp
  rw [hzs] at o4
  have HZ0 := Lib.hid hzs; clear hzs
  obtain ⟨W, rfl⟩ : ∃ W, W = W4 := ⟨_, rfl⟩
  have gne : 1 ≠ w2.heap.size := by have h1 := HT.out.2.2.2.2; omega
  have WF := Lib.hid (show w.heap.size < W.heap.size ∧ (w2.heap.size + 1 ≤ W.heap.size ∧ w.heap.size < w2.heap.size) ∧ 1 ≠ w2.heap.size by have h2 := k4.size; exact ⟨by omega, ⟨by omega, by omega⟩, gne⟩)
  have BW := Lib.hid (show Below w.heap.size w W from Kept.below ((Kept.of_below' B3.out (fun _ => False)).then k4 (fun i h1 h2 => by omega)))
  have TB := Lib.hid (T3.out.kept k4 gne)
  have BX := Lib.hid ((k4.block _ (by omega) (by omega)).trans BX.out)
  have OUT := Lib.hid o4
  have WS2 := Lib.hid S2
  clear o4 k4 gne T3 B3 cA HW3 o3 s3 b23 hb S2 B2 NB G1
  go_wp2_with fail
  have lz : zs.length ≤ 5000 := by have := LZ.out; omega
  obtain ⟨V0, hv0, hc0⟩ := OUT.out
  obtain ⟨L, hL⟩ : ∃ L, zs.length = L := ⟨_, rfl⟩
  rw [hL] at hc0
  obtain ⟨p0, q0, rfl, hq0, ho0⟩ := hc0
  have HL := Lib.hid hL; clear hL
  have HO0 := Lib.hid ho0; clear ho0
  have HV0 := Lib.hid hv0; clear hv0
  refine wp_region_ready 8 6 (w1F w2.heap.size (w2.heap.size + 1) w.heap.size idle (.slice p0 L q0) zs) (fun j w1 => j < 6 → w1.heap[w2.heap.size]? = some (.cells #[.slice p0 L q0] 22 (0, 0))) (Kept (· = w2.heap.size) W) rfl (by kernel_rfl) rfl (by kernel_rfl) (by kernel_rfl) ((Kept.refl _ _).drew) (fun _ _ _ => HV0.out) ?_ ?_
  · refine ⟨⟨⟨⟨⟨⟨trivial, ?_⟩, ?_⟩, ?_⟩, ?_⟩, ?_⟩, ?_⟩
    · refine invN_step (o := ⟨some 18, _, _, _, _, _⟩) (by kernel_rfl) rfl rfl fun α w1 hG hN hfix hdep K hK => ?_
      have h1 : α.tmps.getD 3 undef = .pointer (some ⟨w2.heap.size, 0, none⟩) := hfix 3 (by omega)
      have cc := box_cell (hN (by decide))
      have HK1 := Lib.hid (hK (.slice p0 L q0) w1 hG (fun _ _ h => h) (fun _ _ _ h => h) rfl); clear hK hG hfix hdep hN
      go_simp
      exact HK1.out
    · refine invN_step (o := ⟨some 19, _, _, _, _, _⟩) (by kernel_rfl) rfl rfl fun α w1 hG hN hfix hdep K hK => ?_
      have h1 : α.tmps.getD 1 undef = .pointer (some ⟨w.heap.size, 0, none⟩) := hfix 1 (by omega)
      have HK1 := Lib.hid (hK (.pointer (some ⟨w.heap.size, 0, none⟩)) w1 hG (fun _ _ h => h) (fun _ _ _ h => h) rfl); clear hK hG hfix hdep hN
      go_simp
      exact HK1.out
    · refine invN_step (o := ⟨some 20, _, _, _, _, _⟩) (by kernel_rfl) rfl rfl fun α w1 hG hN hfix hdep K hK => ?_
      have h1 : α.tmps.getD 19 undef = .pointer (some ⟨w.heap.size, 0, none⟩) := hdep 1 (by kernel_rfl)
      have cc : w1.cell? ⟨w.heap.size, 0, none⟩ = some (.int .i64 idle) := cell_of_heap ((hG.block _ (WF.out.1) (by have := WF.out; omega)).trans BX.out) 0
      have HK1 := Lib.hid (hK (.int .i64 idle) w1 hG (fun _ _ h => h) (fun _ _ _ h => h) rfl); clear hK hG hfix hdep hN
      go_simp
      exact HK1.out
    · refine invN_step (o := ⟨some 21, _, _, _, _, _⟩) (by kernel_rfl) rfl rfl fun α w1 hG hN hfix hdep K hK => ?_
      have h1 : α.tmps.getD 20 undef = .int .i64 idle := hdep 2 (by kernel_rfl)
      have hs1 := hG.size
      have hw := WF.out
      have HC := Lib.hid (append_any none [] 0 0 idle w1 rfl (Row.nil _ _ _) (by omega) (TB.out.kept hG WF.out.2.2))
      have HK1 := Lib.hid hK; have HG := Lib.hid hG; clear hK hG hfix hdep hN
      go_simp
      refine HC.out.mono ?_
      rintro e w2 ⟨x, rfl, hc, hb⟩
      exact HK1.out _ _ (HG.out.andBelow hb) (w1F_below _ _ _ _ _ _ (by omega) hb) (fun _ _ _ h hlt => (hb.block _ (by omega)).trans (h hlt)) (hc.base (by omega))
    · refine invN_step (o := ⟨some 22, _, _, _, _, _⟩) (by kernel_rfl) rfl rfl fun α w1 hG hN hfix hdep K hK => ?_
      have h1 : α.tmps.getD 18 undef = .slice p0 L q0 := hdep 0 (by kernel_rfl)
      have h2 : IsCopy (w2.heap.size + 1) 5 .u8 (bytesT idle).length (bytesT idle) (α.tmps.getD 21 undef) w1 := hdep 3 (by kernel_rfl)
      have l8 := bytesT_len8 idle
      obtain ⟨M, hM⟩ : ∃ M, (bytesT idle).length = M := ⟨_, rfl⟩
      rw [hM] at h2 l8
      obtain ⟨p2, q2, h2e, hq2, h2o⟩ := h2
      have hs1 := hG.size
      have hw := WF.out
      have HC := Lib.hid (field_any p0 p2 zs (bytesT idle) 1 L M q0 q2 w1 HL.out hM ((Row.of_own (own_kept HO0.out hG (fun k h hk => by have := (HO0.out.lt k h).1; omega)))) (Row.of_own h2o) (by have := HL.out; omega) (by omega) (TB.out.kept hG WF.out.2.2))
      have HK1 := Lib.hid hK; have HG := Lib.hid hG; clear hK hG hfix hdep hN h2o hM
      simp only [Array.getD_eq_getD_getElem?] at h1 h2e
      go_simp
      refine HC.out.mono ?_
      rintro e w2 ⟨x, rfl, hc, hb⟩
      exact HK1.out _ _ (HG.out.andBelow hb) (w1F_below _ _ _ _ _ _ (by omega) hb) (fun _ _ _ h hlt => (hb.block _ (by omega)).trans (h hlt)) (hc.base (by omega))
    · refine invN_step (o := ⟨none, _, _, _, _, _⟩) (by kernel_rfl) rfl rfl fun α w1 hG hN hfix hdep K hK => ?_
      have h1 : α.tmps.getD 3 undef = .pointer (some ⟨w2.heap.size, 0, none⟩) := hfix 3 (by omega)
      have h2 : IsCopy (w2.heap.size + 1) 5 .u8 (zs ++ fieldT 1 (bytesT idle)).length (zs ++ fieldT 1 (bytesT idle)) (α.tmps.getD 22 undef) w1 := hdep 4 (by kernel_rfl)
      obtain ⟨u, hu⟩ : ∃ u, α.tmps.getD 22 undef = u := ⟨_, rfl⟩
      rw [hu] at h2
      have hN := hN (by decide)
      obtain ⟨t1, t2⟩ := setBox hN u
      have hl : OutAt w2.heap.size (w2.heap.size + 1) (zs ++ fieldT 1 (bytesT idle)) (w1.setCell ⟨w2.heap.size, 0, none⟩ u) := ⟨u, t1, h2.kept t2 (fun j hj => by omega)⟩
      have cc := box_cell hN
      have ff : w1.frozen? ⟨w2.heap.size, 0, none⟩ = false := unfrozen hN 0
      have HK1 := Lib.hid (hK undef (w1.setCell ⟨w2.heap.size, 0, none⟩ u) (hG.trans t2) (w1F_store _ _ _ _ _ _ (by omega) t2 hl) (fun j hj hb h => by
        rcases j with _ | _ | _ | _ | _ | _ | j
        · exact (Bool.false_ne_true (hb.symm.trans (by kernel_rfl))).elim
        · exact (Bool.false_ne_true (hb.symm.trans (by kernel_rfl))).elim
        · exact (Bool.false_ne_true (hb.symm.trans (by kernel_rfl))).elim
        · exact (Bool.false_ne_true (hb.symm.trans (by kernel_rfl))).elim
        · exact (Bool.false_ne_true (hb.symm.trans (by kernel_rfl))).elim
        · exact absurd rfl hj
        · exact fun hlt => absurd hlt (by omega)) hl)
      obtain ⟨M, hM⟩ : ∃ M, (zs ++ fieldT 1 (bytesT idle)).length = M := ⟨_, rfl⟩
      rw [hM] at h2
      obtain ⟨p2, q2, rfl, -, -⟩ := h2
      clear hK hG hfix hdep hN t1 t2 hl hM
      simp only [Array.getD_eq_getD_getElem?] at h1 hu
      go_simp
      exact HK1.out
  intro a' W1 hs hd hfix hG hF
  obtain ⟨tm, df⟩ := a'
  dsimp only at hs hd hfix hF
  subst hd
  obtain ⟨y0, y1, y2, y3, y4, y5, y6, y7, y8, y9, y10, y11, y12, y13, y14, y15, y16, y17, y18, y19, y20, y21, y22, y23, y24, y25, y26, y27, y28, y29, y30, y31, y32, y33, y34, y35, y36, y37, y38, y39, y40, y41, y42, y43, y44, y45, y46, y47, y48, y49, y50, y51, y52, y53, y54, y55, y56, y57, rfl⟩ := size58 hs
  have e0 : y0 = _ := hfix 0 (by omega)
  have e1 : y1 = .pointer (some ⟨w.heap.size, 0, none⟩) := hfix 1 (by omega)
  have e2 : y2 = .slice none 0 0 := hfix 2 (by omega)
  have e3 : y3 = .pointer (some ⟨w2.heap.size, 0, none⟩) := hfix 3 (by omega)
  have e4 : y4 = .func (.func 15) #[] #[.pointer (some ⟨w2.heap.size, 0, none⟩)] := hfix 4 (by omega)
  have OUT := Lib.hid (show OutAt w2.heap.size (w2.heap.size + 1) (zs ++ fieldT 1 (bytesT idle)) W1 from hF 5 (by omega))
  have TB := Lib.hid (TB.out.kept hG WF.out.2.2)
  have BX := Lib.hid ((hG.block _ (WF.out.1) (by have := WF.out; omega)).trans BX.out)
  have WF := Lib.hid (show w.heap.size < W1.heap.size ∧ (w2.heap.size + 1 ≤ W1.heap.size ∧ w.heap.size < w2.heap.size) ∧ 1 ≠ w2.heap.size by have h1 := WF.out; have h2 := hG.size; exact ⟨by omega, ⟨by omega, by omega⟩, h1.2.2⟩)
  have BW := Lib.hid (show Below w.heap.size w W1 from Kept.below ((Kept.of_below' BW.out (fun _ => False)).then hG (fun i h1 h2 => by have := WF.out; omega)))
  have hzl : (zs ++ fieldT 1 (bytesT idle)).length ≤ zs.length + 24 := by have h1 := fieldT_len 1 (bytesT idle); have h2 := bytesT_len8 idle; rw [List.length_append]; omega
  have LZ2 := Lib.hid (show (zs ++ fieldT 1 (bytesT idle)).length ≤ 1016 + 24 by have := LZ.out; omega)
  clear hzl lz
  have LZ := LZ2
  clear LZ2
  clear hF hfix hG hs HL HO0 HV0 hq0
  subst e1 e2 e3 e4
  obtain ⟨zs, hzs⟩ : ∃ z, zs ++ fieldT 1 (bytesT idle) = z := ⟨_, rfl⟩
  rw [hzs] at OUT LZ
  have HZ1 := Lib.hid hzs; clear hzs
  obtain ⟨W, rfl⟩ : ∃ W, W = W1 := ⟨_, rfl⟩
  go_wp2_with fail
  have lz : zs.length ≤ 5000 := by have := LZ.out; omega
  obtain ⟨V0, hv0, hc0⟩ := OUT.out
  obtain ⟨L, hL⟩ : ∃ L, zs.length = L := ⟨_, rfl⟩
  rw [hL] at hc0
  obtain ⟨p0, q0, rfl, hq0, ho0⟩ := hc0
  have HL := Lib.hid hL; clear hL
  have HO0 := Lib.hid ho0; clear ho0
  have HV0 := Lib.hid hv0; clear hv0
  refine wp_region_ready 8 6 (w2F w2.heap.size (w2.heap.size + 1) w.heap.size data (.slice p0 L q0) zs) (fun j w1 => j < 6 → w1.heap[w2.heap.size]? = some (.cells #[.slice p0 L q0] 22 (0, 0))) (Kept (· = w2.heap.size) W) rfl (by kernel_rfl) rfl (by kernel_rfl) (by kernel_rfl) ((Kept.refl _ _).drew) (fun _ _ _ => HV0.out) ?_ ?_
  · refine ⟨⟨⟨⟨⟨⟨trivial, ?_⟩, ?_⟩, ?_⟩, ?_⟩, ?_⟩, ?_⟩
    · refine invN_step (o := ⟨some 23, _, _, _, _, _⟩) (by kernel_rfl) rfl rfl fun α w1 hG hN hfix hdep K hK => ?_
      have h1 : α.tmps.getD 3 undef = .pointer (some ⟨w2.heap.size, 0, none⟩) := hfix 3 (by omega)
      have cc := box_cell (hN (by decide))
      have HK1 := Lib.hid (hK (.slice p0 L q0) w1 hG (fun _ _ h => h) (fun _ _ _ h => h) rfl); clear hK hG hfix hdep hN
      go_simp
      exact HK1.out
    · refine invN_step (o := ⟨some 24, _, _, _, _, _⟩) (by kernel_rfl) rfl rfl fun α w1 hG hN hfix hdep K hK => ?_
      have h1 : α.tmps.getD 1 undef = .pointer (some ⟨w.heap.size, 0, none⟩) := hfix 1 (by omega)
      have HK1 := Lib.hid (hK (.pointer (some ⟨w.heap.size, 1, none⟩)) w1 hG (fun _ _ h => h) (fun _ _ _ h => h) rfl); clear hK hG hfix hdep hN
      go_simp
      exact HK1.out
    · refine invN_step (o := ⟨some 25, _, _, _, _, _⟩) (by kernel_rfl) rfl rfl fun α w1 hG hN hfix hdep K hK => ?_
      have h1 : α.tmps.getD 24 undef = .pointer (some ⟨w.heap.size, 1, none⟩) := hdep 1 (by kernel_rfl)
      have cc : w1.cell? ⟨w.heap.size, 1, none⟩ = some (.int .i64 data) := cell_of_heap ((hG.block _ (WF.out.1) (by have := WF.out; omega)).trans BX.out) 1
      have HK1 := Lib.hid (hK (.int .i64 data) w1 hG (fun _ _ h => h) (fun _ _ _ h => h) rfl); clear hK hG hfix hdep hN
      go_simp
      exact HK1.out
    · refine invN_step (o := ⟨some 26, _, _, _, _, _⟩) (by kernel_rfl) rfl rfl fun α w1 hG hN hfix hdep K hK => ?_
      have h1 : α.tmps.getD 25 undef = .int .i64 data := hdep 2 (by kernel_rfl)
      have hs1 := hG.size
      have hw := WF.out
      have HC := Lib.hid (append_any none [] 0 0 data w1 rfl (Row.nil _ _ _) (by omega) (TB.out.kept hG WF.out.2.2))
      have HK1 := Lib.hid hK; have HG := Lib.hid hG; clear hK hG hfix hdep hN
      go_simp
      refine HC.out.mono ?_
      rintro e w2 ⟨x, rfl, hc, hb⟩
      exact HK1.out _ _ (HG.out.andBelow hb) (w2F_below _ _ _ _ _ _ (by omega) hb) (fun _ _ _ h hlt => (hb.block _ (by omega)).trans (h hlt)) (hc.base (by omega))
    · refine invN_step (o := ⟨some 27, _, _, _, _, _⟩) (by kernel_rfl) rfl rfl fun α w1 hG hN hfix hdep K hK => ?_
      have h1 : α.tmps.getD 23 undef = .slice p0 L q0 := hdep 0 (by kernel_rfl)
      have h2 : IsCopy (w2.heap.size + 1) 5 .u8 (bytesT data).length (bytesT data) (α.tmps.getD 26 undef) w1 := hdep 3 (by kernel_rfl)
      have l8 := bytesT_len8 data
      obtain ⟨M, hM⟩ : ∃ M, (bytesT data).length = M := ⟨_, rfl⟩
      rw [hM] at h2 l8
      obtain ⟨p2, q2, h2e, hq2, h2o⟩ := h2
      have hs1 := hG.size
      have hw := WF.out
      have HC := Lib.hid (field_any p0 p2 zs (bytesT data) 4 L M q0 q2 w1 HL.out hM ((Row.of_own (own_kept HO0.out hG (fun k h hk => by have := (HO0.out.lt k h).1; omega)))) (Row.of_own h2o) (by have := HL.out; omega) (by omega) (TB.out.kept hG WF.out.2.2))
      have HK1 := Lib.hid hK; have HG := Lib.hid hG; clear hK hG hfix hdep hN h2o hM
      simp only [Array.getD_eq_getD_getElem?] at h1 h2e
      go_simp
      refine HC.out.mono ?_
      rintro e w2 ⟨x, rfl, hc, hb⟩
      exact HK1.out _ _ (HG.out.andBelow hb) (w2F_below _ _ _ _ _ _ (by omega) hb) (fun _ _ _ h hlt => (hb.block _ (by omega)).trans (h hlt)) (hc.base (by omega))
    · refine invN_step (o := ⟨none, _, _, _, _, _⟩) (by kernel_rfl) rfl rfl fun α w1 hG hN hfix hdep K hK => ?_
      have h1 : α.tmps.getD 3 undef = .pointer (some ⟨w2.heap.size, 0, none⟩) := hfix 3 (by omega)
      have h2 : IsCopy (w2.heap.size + 1) 5 .u8 (zs ++ fieldT 4 (bytesT data)).length (zs ++ fieldT 4 (bytesT data)) (α.tmps.getD 27 undef) w1 := hdep 4 (by kernel_rfl)
      obtain ⟨u, hu⟩ : ∃ u, α.tmps.getD 27 undef = u := ⟨_, rfl⟩
      rw [hu] at h2
      have hN := hN (by decide)
      obtain ⟨t1, t2⟩ := setBox hN u
      have hl : OutAt w2.heap.size (w2.heap.size + 1) (zs ++ fieldT 4 (bytesT data)) (w1.setCell ⟨w2.heap.size, 0, none⟩ u) := ⟨u, t1, h2.kept t2 (fun j hj => by omega)⟩
      have cc := box_cell hN
      have ff : w1.frozen? ⟨w2.heap.size, 0, none⟩ = false := unfrozen hN 0
      have HK1 := Lib.hid (hK undef (w1.setCell ⟨w2.heap.size, 0, none⟩ u) (hG.trans t2) (w2F_store _ _ _ _ _ _ (by omega) t2 hl) (fun j hj hb h => by
        rcases j with _ | _ | _ | _ | _ | _ | j
        · exact (Bool.false_ne_true (hb.symm.trans (by kernel_rfl))).elim
        · exact (Bool.false_ne_true (hb.symm.trans (by kernel_rfl))).elim
        · exact (Bool.false_ne_true (hb.symm.trans (by kernel_rfl))).elim
        · exact (Bool.false_ne_true (hb.symm.trans (by kernel_rfl))).elim
        · exact (Bool.false_ne_true (hb.symm.trans (by kernel_rfl))).elim
        · exact absurd rfl hj
        · exact fun hlt => absurd hlt (by omega)) hl)
      obtain ⟨M, hM⟩ : ∃ M, (zs ++ fieldT 4 (bytesT data)).length = M := ⟨_, rfl⟩
      rw [hM] at h2
      obtain ⟨p2, q2, rfl, -, -⟩ := h2
      clear hK hG hfix hdep hN t1 t2 hl hM
      simp only [Array.getD_eq_getD_getElem?] at h1 hu
      go_simp
      exact HK1.out
  intro a' W1 hs hd hfix hG hF
  obtain ⟨tm, df⟩ := a'
  dsimp only at hs hd hfix hF
  subst hd
  obtain ⟨y0, y1, y2, y3, y4, y5, y6, y7, y8, y9, y10, y11, y12, y13, y14, y15, y16, y17, y18, y19, y20, y21, y22, y23, y24, y25, y26, y27, y28, y29, y30, y31, y32, y33, y34, y35, y36, y37, y38, y39, y40, y41, y42, y43, y44, y45, y46, y47, y48, y49, y50, y51, y52, y53, y54, y55, y56, y57, rfl⟩ := size58 hs
  have e0 : y0 = _ := hfix 0 (by omega)
  have e1 : y1 = .pointer (some ⟨w.heap.size, 0, none⟩) := hfix 1 (by omega)
  have e2 : y2 = .slice none 0 0 := hfix 2 (by omega)
  have e3 : y3 = .pointer (some ⟨w2.heap.size, 0, none⟩) := hfix 3 (by omega)
  have e4 : y4 = .func (.func 15) #[] #[.pointer (some ⟨w2.heap.size, 0, none⟩)] := hfix 4 (by omega)
  have OUT := Lib.hid (show OutAt w2.heap.size (w2.heap.size + 1) (zs ++ fieldT 4 (bytesT data)) W1 from hF 5 (by omega))
  have TB := Lib.hid (TB.out.kept hG WF.out.2.2)
  have BX := Lib.hid ((hG.block _ (WF.out.1) (by have := WF.out; omega)).trans BX.out)
  have WF := Lib.hid (show w.heap.size < W1.heap.size ∧ (w2.heap.size + 1 ≤ W1.heap.size ∧ w.heap.size < w2.heap.size) ∧ 1 ≠ w2.heap.size by have h1 := WF.out; have h2 := hG.size; exact ⟨by omega, ⟨by omega, by omega⟩, h1.2.2⟩)
  have BW := Lib.hid (show Below w.heap.size w W1 from Kept.below ((Kept.of_below' BW.out (fun _ => False)).then hG (fun i h1 h2 => by have := WF.out; omega)))
  have hzl : (zs ++ fieldT 4 (bytesT data)).length ≤ zs.length + 24 := by have h1 := fieldT_len 4 (bytesT data); have h2 := bytesT_len8 data; rw [List.length_append]; omega
  have LZ2 := Lib.hid (show (zs ++ fieldT 4 (bytesT data)).length ≤ 1040 + 24 by have := LZ.out; omega)
  clear hzl lz
  have LZ := LZ2
  clear LZ2
  clear hF hfix hG hs HL HO0 HV0 hq0
  subst e1 e2 e3 e4
  obtain ⟨zs, hzs⟩ : ∃ z, zs ++ fieldT 4 (bytesT data) = z := ⟨_, rfl⟩
  rw [hzs] at OUT LZ
  have HZ4 := Lib.hid hzs; clear hzs
  obtain ⟨W, rfl⟩ : ∃ W, W = W1 := ⟨_, rfl⟩
  have cA := cells10 BX.out
  go_wp2_with fail
  refine (name_any 15 ho oa oz zs om oc w2.heap.size (w2.heap.size + 1) _ HB0.out.2.1 (by omega) (by have := LZ.out; omega) (by omega) (by have := WF.out; omega) (RG.out _ BW.out).2.1 TB.out OUT.out).mono ?_
  rintro e W5 ⟨rfl, o5, k5⟩
  have hz5 : (if ho = true then zs ++ fieldT 15 oz else zs).length ≤ 2200 := by
    have h1 := fieldT_len 15 oz
    have h2 := HB0.out.2.1
    have h3 := LZ.out
    split
    · rw [List.length_append]; omega
    · omega
  obtain ⟨zt, hzt⟩ : ∃ z, (if ho = true then zs ++ fieldT 15 oz else zs) = z := ⟨_, rfl⟩
  rw [hzt] at o5 hz5
  have HZ15 := Lib.hid hzt; clear hzt
  have HZL := Lib.hid hz5; clear hz5
  have gne := WF.out.2.2
  have WF5 := Lib.hid (show w.heap.size < W5.heap.size ∧ w2.heap.size + 1 ≤ W5.heap.size ∧ w.heap.size < w2.heap.size by have h1 := WF.out; have h2 := k5.size; omega)
  have BW5 := Lib.hid (show Below w.heap.size w W5 from Kept.below ((Kept.of_below' BW.out (fun _ => False)).then k5 (fun i h1 h2 => by have := WF.out; omega)))
  have TB5 := Lib.hid (TB.out.kept k5 gne)
  have BX5 := Lib.hid ((k5.block _ WF.out.1 (by have := WF.out; omega)).trans BX.out)
  have OUT5 := Lib.hid o5
  clear cA o5 k5 gne WF BW TB BX OUT LZ
  have cA := cells10 BX5.out
  go_wp2_with fail
  refine (name_any 16 hr ra rz zt rm rc w2.heap.size (w2.heap.size + 1) _ HB0.out.2.2.1 (by omega) (by have := HZL.out; omega) (by omega) (by have := WF5.out; omega) (RG.out _ BW5.out).2.2.1 TB5.out OUT5.out).mono ?_
  rintro e W6 ⟨rfl, o6, k6⟩
  have hz6 : (if hr = true then zt ++ fieldT 16 rz else zt).length ≤ 4000 := by
    have h1 := fieldT_len 16 rz
    have h2 := HB0.out.2.2.1
    have h3 := HZL.out
    split
    · rw [List.length_append]; omega
    · omega
  obtain ⟨zu, hzu⟩ : ∃ z, (if hr = true then zt ++ fieldT 16 rz else zt) = z := ⟨_, rfl⟩
  rw [hzu] at o6 hz6
  have HZ16 := Lib.hid hzu; clear hzu
  have HZM := Lib.hid hz6; clear hz6
  have gne : 1 ≠ w2.heap.size := by have h1 := HT.out.2.2.2.2; have h2 := WF5.out; have h3 := WS2.out; omega
  have WF6 := Lib.hid (show w.heap.size < W6.heap.size ∧ w2.heap.size + 1 ≤ W6.heap.size ∧ w.heap.size < w2.heap.size by have h1 := WF5.out; have h2 := k6.size; omega)
  have BW6 := Lib.hid (show Below w.heap.size w W6 from Kept.below ((Kept.of_below' BW5.out (fun _ => False)).then k6 (fun i h1 h2 => by have := WF5.out; omega)))
  have TB6 := Lib.hid (TB5.out.kept k6 gne)
  have BX6 := Lib.hid ((k6.block _ WF5.out.1 (by have := WF5.out; omega)).trans BX5.out)
  have OUT6 := Lib.hid o6
  clear cA o6 k6 gne WF5 BW5 TB5 BX5 OUT5 HZL
  have cA := cells10 BX6.out
  go_wp2_with fail
  refine (big_any cho _ hc0.1 hc0.2).mono ?_
  rintro e W7 ⟨rfl, h7⟩
  have n7 := heap_alloc_new W6 (.cells (ints .u8 (four cho)).toArray 5)
  have b67 : Below W6.heap.size W6 (W6.alloc (.cells (ints .u8 (four cho)).toArray 5)) := (Below.refl _ _).alloc (Nat.le_refl _) _
  have l7 : IsCopy W6.heap.size 5 .u8 4 (four cho) (.slice (some ⟨W6.heap.size, 0, none⟩) 4 4) (W6.alloc (.cells (ints .u8 (four cho)).toArray 5)) := ⟨_, _, rfl, Nat.le_refl _, World.ownsRow_lit W6 _ 4 (Nat.le_refl _) (by simp [maxLen]) rfl⟩
  rw [h7] at n7 b67 l7
  clear h7 n7
  have BX7 := Lib.hid ((b67.block _ WF6.out.1).trans BX6.out)
  have B67 := Lib.hid b67
  have L7 := Lib.hid l7
  have BW7 := Lib.hid (BW6.out.trans (b67.mono BW6.out.size))
  have TB7 := Lib.hid (TB6.out.below b67)
  have WF7 := Lib.hid (show w.heap.size < W7.heap.size ∧ w2.heap.size + 1 ≤ W7.heap.size ∧ w.heap.size < w2.heap.size by have h1 := WF6.out; have h2 := b67.size; omega)
  clear cA b67 l7
  have cA := cells10 BX7.out
  go_wp2
  go_loopw [5, 46] (fun v i wr => ∃ k : Nat, k ≤ vm ∧ i = .int .i64 k ∧ IsCopy W6.heap.size 5 .u8 (4 + 4 * k) (four cho ++ (vz.take k).flatMap four) v wr ∧ Below W6.heap.size W6 wr) (fun _ i _ => vm - (intOf i).toNat)
  case atStart => exact ⟨0, Nat.zero_le _, rfl, by simpa using L7.out, B67.out⟩
  case round =>
    obtain ⟨k, hk, rfl, hc, hb⟩ := hrel
    have HC2 := Lib.hid hc; clear hc
    have HB2 := Lib.hid hb; clear hb
    clear cA
    by_cases hlt : k < vm
    · obtain ⟨z, hz⟩ : ∃ z, vz[k]? = some z := ⟨_, List.getElem?_eq_getElem (by have := HB0.out.2.2.2; omega)⟩
      have hbw := BW6.out.trans (HB2.out.mono BW6.out.size)
      obtain ⟨b1, o1, rfl, _, r1⟩ := (RG.out _ hbw).2.2.2.ints (by intro e; have := HB0.out.2.2.2; rw [e] at this; simp at this; omega)
      have x1 : wr.cell? ⟨b1, o1 + k, none⟩ = some (.int .i64 z) := by
        have := r1 k (by have := HB0.out.2.2.2; omega)
        rwa [hz] at this
      have hzt : vz.take (k + 1) = vz.take k ++ [z] := by rw [List.take_add_one, hz]; rfl
      have zb := HVB.out z (List.mem_of_getElem? hz)
      have i1 : (k : Int) < (vm : Int) := by omega
      have HZT := Lib.hid hzt; clear hzt
      have HZB := Lib.hid zb; clear zb
      clear r1 hbw hz
      go_wp2_with fail
      refine (big_any z _ (by have := HZB.out; omega) (by have := HZB.out; omega)).mono ?_
      rintro e w3 ⟨rfl, rfl⟩
      have hg := heap_alloc_new wr (.cells (ints .u8 (four z)).toArray 5)
      have hb3 : Below W6.heap.size W6 (wr.alloc (.cells (ints .u8 (four z)).toArray 5)) := HB2.out.alloc HB2.out.size _
      have ho4 := HC2.out.below ((Below.refl _ _).alloc (Nat.le_refl _) (.cells (ints .u8 (four z)).toArray 5))
      obtain ⟨v', wz, hrun, hoz, hkz⟩ := app_copy (c := 4) Tryd.underlying22 info_u8 (by omega) ho4 hb3.size (four_len z) (row_block4 hg) (by omega)
      have HOZ := Lib.hid hoz
      have HBZ := Lib.hid (kept_below hb3 hkz (fun k h => ho4.low k h))
      clear hg ho4 hb3 hoz hkz
      go_wp2
      go_roundw
      case rel =>
        refine ⟨k + 1, by omega, by simp, ?_, HBZ.out⟩
        have := HOZ.out
        rw [show 4 + 4 * (k + 1) = 4 + 4 * k + 4 by omega, HZT.out, List.flatMap_append, ← List.append_assoc]
        simpa using this
      case measure => simp [intOf]; omega
    · have i1 : ¬ (k : Int) < (vm : Int) := by omega
      have hkN : vz.take k = vz := List.take_of_length_le (by have := HB0.out.2.2.2; omega)
      obtain ⟨vo, ho1, ho2⟩ := OUT6.out
      obtain ⟨Lo, hLo⟩ : ∃ L, zu.length = L := ⟨_, rfl⟩
      rw [hLo] at ho2
      obtain ⟨po, qo, rfl, hqo, hoo⟩ := ho2
      have ho1' := (HB2.out.block _ (by have := WF6.out; omega)).trans ho1
      have cR := box_cell ho1'
      have HOO := Lib.hid (own_below hoo HB2.out (Nat.le_refl _))
      have HLO := Lib.hid hLo
      rw [hkN] at HC2
      obtain ⟨pl, ql, rfl, hql, hol⟩ := HC2.out
      have HOL := Lib.hid hol
      have hLL : (four cho ++ vz.flatMap four).length = 4 + 4 * k := HC2.out.len
      have HLL := Lib.hid hLL
      have BWF := Lib.hid (BW6.out.trans (HB2.out.mono BW6.out.size))
      have tb6 : TabOk wr := by
        have h := TB6.out
        have h4 : 1 < W6.heap.size := h.2.2.2.2
        have hsz := HB2.out.size
        exact ⟨(HB2.out.cell (p := ⟨_, _, none⟩) h4).trans h.1, (HB2.out.cell (p := ⟨_, _, none⟩) h4).trans h.2.1, (HB2.out.cell (p := ⟨_, _, none⟩) h4).trans h.2.2.1, (HB2.out.cell (p := ⟨_, _, none⟩) h4).trans h.2.2.2.1, by omega⟩
      have TBF := Lib.hid tb6
      clear ho1 ho1' hoo hol hLo hLL tb6 hkN hqo hql
      go_wp2_with fail
      refine (field_any po pl zu (four cho ++ vz.flatMap four) 17 Lo (4 + 4 * k) qo ql wr HLO.out HLL.out (Row.of_own HOO.out) (Row.of_own HOL.out) (by have := HZM.out; have := HLO.out; omega) (by omega) TBF.out).mono ?_
      rintro e w8 ⟨v8, rfl, h8, b8⟩
      have FIN := Lib.hid (And.intro (h8.base (n1 := w.heap.size) BWF.out.size) (BWF.out.trans (b8.mono BWF.out.size)))
      clear h8 b8 cR
      go_wp2
      go_ret
      refine ⟨v8, rfl, ?_, FIN.out.2⟩
      have e9 : writeT idle data cho hg ho hr gz oz rz vz = zu ++ fieldT 17 (four cho ++ vz.flatMap four) := by
        unfold writeT optT
        rw [HZ0.out, HZ1.out, HZ4.out, HZ15.out, HZ16.out]
      rw [e9]
      exact FIN.out.1
end Go.Proofs.YtaplndehoenghaaDoor
