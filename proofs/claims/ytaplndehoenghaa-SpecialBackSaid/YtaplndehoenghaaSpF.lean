/- special.ReadList, its loop over the pieces of four bytes. -/
import Derived.Test.YtaplndehoenghaaSpE
import Derived.Test.YtaplndehoenghaaChunk
import Derived.Deep.RegionWith
import Derived.Shelf.Abstract
import Derived.Shelf.RegionOpen
namespace Go.Proofs.Ytaplndehoenghaa
open Go.RowKit Go.Shelf
set_option linter.unusedVariables false
attribute [local go_sem] Oper.semAt_some
attribute [local go_sem ↓] app_hide

/-- What the loop over the pieces keeps: so many versions have been read. -/
def ListI (w0 : World) (L : Nat) (v1 v2 : Value) (vs : List Int) (i : Nat) (W : World) : Prop :=
  (∀ x ∈ vs.take i, 1 ≤ x ∧ x < 4294967296) ∧ ∃ v3, W.heap[L]? = some (.cells #[v1, v2, v3] 25 (0, 0)) ∧ W.ownsRow w0.heap.size 3 1 v3 (vs.take i).length (ints .i64 (vs.take i)) ∧ Kept (· = L) w0 W

/-- What ReadList hands back behind its loop. -/
def ListPost (w : World) (n1 n2 left : List Int) (e : Ending) (w' : World) : Prop := Below w.heap.size w w' ∧
  if ∀ x ∈ quads left, 1 ≤ x ∧ x < 4294967296 then
    ∃ v1 v2 v3, e = .returned (.tuple #[.agg #[v1, v2, v3], .int .i64 0]) ∧ w'.ownsRow w.heap.size 5 1 v1 n1.length (ints .u8 n1) ∧ w'.ownsRow w.heap.size 5 1 v2 n2.length (ints .u8 n2) ∧
      w'.ownsRow w.heap.size 3 1 v3 (quads left).length (ints .i64 (quads left))
  else e = noList

set_option maxRecDepth 100000 in
set_option maxHeartbeats 4000000 in
theorem readList_loop (a : Option Addr) (zs : List Int) (m c : Nat) (w : World) (hm : zs.length = m) (hc : m ≤ c) (hl : m ≤ 1000000)
    (hr : Row w w.heap.size a (ints .u8 zs)) (hu : IsU8 zs) (n1 n2 left : List Int) (hn : headR 128 zs = some (0, n1, n2, left)) (N : Nat)
    (hN : left.length = 4 * N) (hN1 : 1 ≤ N) (hN2 : N ≤ 16) :
    Calls Try.prog 11 #[.slice a m c] w (ListPost w n1 n2 left) := by
  have hr2 := (hr.alloc (Nat.le_refl _) (.cells #[.slice none 0 0, .slice none 0 0, .slice none 0 0] 25)).alloc (by simp) (.cells #[.int .i64 0] 26)
  have HR2 := Lib.hid hr2; clear hr2
  have d1 : ((left.length : Int) == 0) = false := beq_eq_false_iff_ne.2 (by omega)
  have d2 : ((left.length : Int) % 4 != 0) = false := by simp; omega
  have d3 : decide (64 < (left.length : Int)) = false := by simp; omega
  have hnb : (left.length : Int) ≤ 64 := by omega
  have HNN := Lib.hid hN; clear hN
  have HN := Lib.hid hn; clear hn
  have HM := Lib.hid hm; clear hm
  refine calls_marks Try.func11 rfl ?_
  simp only [Try.ntmps11, List.size_toArray, List.length_cons, List.length_nil, Nat.reduceAdd, Nat.reduceSub, Array.replicate_succ, Array.replicate_zero, List.push_toArray, List.append_toArray, List.nil_append, List.cons_append]
  go_wp2_with fail
  refine (headed_yes 128 a zs m c _ HM.out hc hl (HR2.out.more (by simp; omega)) hu 0 n1 n2 left HN.out).mono ?_
  rintro e w1 ⟨v1, v2, a', c', rfl, ho1, ho2, hrow, hcap, hb⟩
  have hz := hb.size
  simp only [World.size_alloc] at hz
  have g2 : w1.heap[w.heap.size]? = some (.cells #[.slice none 0 0, .slice none 0 0, .slice none 0 0] 25 (0, 0)) := by
    rw [hb.block _ (by simp; omega), Below.heap_alloc _ _ _ (by simp)]
    exact World.alloc_heap_new _ _
  have g3 : w1.heap[w.heap.size + 1]? = some (.cells #[.int .i64 0] 26 (0, 0)) := by
    rw [hb.block _ (by simp)]
    have := World.alloc_heap_new (w.alloc (.cells #[.slice none 0 0, .slice none 0 0, .slice none 0 0] 25)) (.cells #[.int .i64 0] 26)
    rwa [World.size_alloc] at this
  have HB := Lib.hid hb; clear hb
  have G2 := Lib.hid g2; clear g2
  have G3 := Lib.hid g3; clear g3
  simp only [World.size_alloc] at hrow ho1 ho2
  obtain ⟨p1, q1, rfl, -⟩ := own_slice ho1
  obtain ⟨p2, q2, rfl, -⟩ := own_slice ho2
  have HO1 := Lib.hid ho1; clear ho1
  have HO2 := Lib.hid ho2; clear ho2
  have HROW := Lib.hid hrow; clear hrow
  go_wp2_with fail
  refine (chunk_makes a' left.length c' _).mono ?_
  rintro e w2 ⟨rfl, rfl⟩
  go_wp2_with fail
  obtain ⟨w3, hw3⟩ : ∃ w3, ((w1.alloc (.cells #[.slice p1 n1.length q1, .slice p2 n2.length q2, .slice none 0 0] 25)).alloc (.cells #[.slice a' left.length c'] 22)).alloc (.cells #[.int .i64 4] 3) = w3 := ⟨_, rfl⟩
  have s3 : w3.heap.size = w1.heap.size + 3 := by rw [← hw3]; simp
  have b13 : Below w1.heap.size w1 w3 := by rw [← hw3]; exact (((Below.refl _ _).alloc (Nat.le_refl _) _).alloc (by simp) _).alloc (by simp; omega) _
  have l3 : w3.heap[w1.heap.size]? = some (.cells #[.slice p1 n1.length q1, .slice p2 n2.length q2, .slice none 0 0] 25 (0, 0)) := by
    rw [← hw3, Below.heap_alloc _ _ _ (by simp; omega), Below.heap_alloc _ _ _ (by simp)]
    exact World.alloc_heap_new _ _
  have m3 : w3.heap[w1.heap.size + 1]? = some (.cells #[.slice a' left.length c'] 22 (0, 0)) := by
    rw [← hw3, Below.heap_alloc _ _ _ (by simp)]
    have := World.alloc_heap_new (w1.alloc (.cells #[.slice p1 n1.length q1, .slice p2 n2.length q2, .slice none 0 0] 25)) (.cells #[.slice a' left.length c'] 22)
    rwa [World.size_alloc] at this
  have r3 : w3.heap[w1.heap.size + 1 + 1]? = some (.cells #[.int .i64 4] 3 (0, 0)) := by
    rw [← hw3]
    have := World.alloc_heap_new ((w1.alloc (.cells #[.slice p1 n1.length q1, .slice p2 n2.length q2, .slice none 0 0] 25)).alloc (.cells #[.slice a' left.length c'] 22)) (.cells #[.int .i64 4] 3)
    simpa using this
  rw [hw3]
  clear hw3
  refine wp_range (P := Try.prog) (gf := 65) (lb := #[.pointer (some ⟨w1.heap.size + 1, 0, none⟩), .pointer (some ⟨w1.heap.size + 1 + 1, 0, none⟩)]) rfl (enters_of Try.func65 (by kernel_rfl) rfl)
    (chunk_gen a' left.length c' N (w1.heap.size + 1) (w1.heap.size + 1 + 1) w3 HNN.out hcap (by omega) (Kept (fun k => k = w1.heap.size ∨ w1.heap.size + 3 ≤ k)) ?hT m3 r3)
    (fun _ h => h.elim) (fun _ => Kept.refl _ _) (fun _ _ _ h k => h.trans k) (fun A o _ => (Kept.refl _ _).alloc o) (fun A l o o' hl _ _ => kept_putObj o' (.inr (by omega))) (fun _ _ _ _ _ _ _ _ _ h => h) (fun _ _ _ h => by subst h; rfl)
    (ListI w3 w1.heap.size (.slice p1 n1.length q1) (.slice p2 n2.length q2) (quads left))
    (fun c _ W => c = .ret ∧ (¬ ∀ x ∈ quads left, 1 ≤ x ∧ x < 4294967296) ∧ W.heap[w.heap.size]? = some (.cells #[.slice none 0 0, .slice none 0 0, .slice none 0 0] 25 (0, 0)) ∧ W.heap[w.heap.size + 1]? = some (.cells #[.int .i64 3] 26 (0, 0)) ∧ Below w.heap.size w W)
    ?hI ?hIx ?h0 (fun args t => (t.setIfInBounds 47 (args.getD 0 undef)).setIfInBounds 10 (args.getD 0 undef)) ?assign ?body ?done ?stop
  case hT =>
    rintro A B k hk hlt h
    exact h.block k hlt (by omega)
  case assign =>
    rintro l i args W K rfl hK
    simp only [piece, List.setIfInBounds_toArray, List.set_cons_succ, List.set_cons_zero, Array.getD_eq_getD_getElem?, List.getElem?_toArray, List.getElem?_cons_zero, Option.getD_some] at hK
    simp only [piece]
    gi_wp2
    exact hK
  case body =>
    rintro l i args W hi hW ⟨hall, v3, hL, ho3, hk3⟩ rfl
    simp only [piece, List.setIfInBounds_toArray, List.set_cons_succ, List.set_cons_zero, Array.getD_eq_getD_getElem?, List.getElem?_toArray, List.getElem?_cons_zero, Option.getD_some]
    obtain ⟨b0, b1, b2, b3, hq1, hq2⟩ := quads_get i left (by have := HNN.out; omega)
    have hqn : i < (quads left).length := by rw [quads_length N left HNN.out]; exact hi
    have hti : ((quads left).take i).length = i := by rw [List.length_take]; omega
    rw [hti] at ho3
    clear hqn
    obtain ⟨p3, q3, rfl, -⟩ := own_slice ho3
    have HTI := Lib.hid hti; clear hti
    have huq : IsU8 [b0, b1, b2, b3] := fun z hz => (headR_u8 hu HN.out).2.2.1 z (List.mem_of_mem_drop (List.mem_of_mem_take (by rw [hq1]; exact hz)))
    have hqb := quad_bd b0 b1 b2 b3 huq
    have hrp : Row W (w.heap.size + 1 + 1) (cutAt a' (4 * i) (4 * i + 4)) (ints .u8 [b0, b1, b2, b3]) := by
      have h1 := ((HROW.out.kept (Kept.of_below' b13 (fun _ => False)) (by omega) (fun _ _ h => h)).kept hk3 (by omega) (fun k h1 (h2 : k = w1.heap.size) => by omega)).take (4 * i + 4)
      have h2 := h1.cut (4 * i) (4 * i + 4) (by simp; omega)
      rwa [ints_take, ints_drop, List.drop_take, show 4 * i + 4 - 4 * i = 4 from by omega, hq1] at h2
    have HRP := Lib.hid hrp; clear hrp
    have HK3 := Lib.hid hk3; clear hk3
    have HL := Lib.hid hL; clear hL
    have HO3 := Lib.hid ho3; clear ho3
    have HQ1 := Lib.hid hq1; clear hq1
    have HQ2 := Lib.hid hq2; clear hq2
    have HALL := Lib.hid hall; clear hall
    gi_wp2_with fail
    refine ⟨trivial, rfl, (CallsIn.inRound l (callsIn_wide.2 (small_row b0 b1 b2 b3 _ _ _ _ rfl huq (HRP.out.more (by omega))))).mono ?_⟩
    rintro e W2 ⟨rfl, hb2⟩
    gi_wp2_with fail
    refine ⟨trivial, rfl, (CallsIn.inRound l (callsIn_wide.2 (version_any _ _))).mono ?_⟩
    rintro e W3 ⟨rfl, rfl⟩
    have HB2 := Lib.hid hb2; clear hb2
    by_cases hv : 1 ≤ quad b0 b1 b2 b3
    · have dv : decide (1 ≤ quad b0 b1 b2 b3 ∧ quad b0 b1 b2 b3 < 4294967296) = true := by simp [hv, hqb.2]
      rw [dv]
      clear dv
      have l2 : W2.heap[w1.heap.size]? = some (.cells #[.slice p1 n1.length q1, .slice p2 n2.length q2, .slice p3 i q3] 25 (0, 0)) := by
        rw [HB2.out.block _ (by omega)]
        exact HL.out
      have L2 := Lib.hid l2
      have c30 := cell_of_heap l2 0
      have c31 := cell_of_heap l2 1
      have c32 := cell_of_heap l2 2
      have f30 : W2.frozen? ⟨w1.heap.size, 2, none⟩ = false := by simp [World.frozen?, l2]
      clear l2
      have lt2 : w1.heap.size < W2.heap.size := World.block_lt_of_cell? W2 _ c30
      have ho2' : W2.ownsRow w3.heap.size 3 1 (.slice p3 i q3) i (ints .i64 ((quads left).take i)) := own_below HO3.out HB2.out (Nat.le_refl _)
      have HO2' := Lib.hid ho2'; clear ho2'
      have hrp2 : Row W2 W2.heap.size (cutAt a' (4 * i) (4 * i + 4)) (ints .u8 [b0, b1, b2, b3]) := (HRP.out.kept (Kept.of_below' HB2.out (fun _ => False)) (by omega) (fun _ _ h => h)).more (by omega)
      have HRP2 := Lib.hid hrp2; clear hrp2
      obtain ⟨i0, hi0, hz0, hz1, hz2⟩ := info_parts info_int
      have fin : ∀ (W9 wz : World) (g cap : Nat), Below W2.heap.size W2 W9 → wz.ownsRow w3.heap.size 3 1 (.slice (some ⟨g, 0, none⟩) (i + 1) cap) (i + 1) (ints .i64 ((quads left).take i) ++ [.int .i64 (quad b0 b1 b2 b3)]) →
          Kept (fun k => (Value.slice p3 i q3).ownBlock = some k) W9 wz → ∀ a, roundEnd w3.heap.size (Kept (fun k => k = w1.heap.size ∨ w1.heap.size + 3 ≤ k)) (ListI w3 w1.heap.size (.slice p1 n1.length q1) (.slice p2 n2.length q2) (quads left))
          (fun c _ W => c = .ret ∧ (¬ ∀ x ∈ quads left, 1 ≤ x ∧ x < 4294967296) ∧ W.heap[w.heap.size]? = some (.cells #[.slice none 0 0, .slice none 0 0, .slice none 0 0] 25 (0, 0)) ∧ W.heap[w.heap.size + 1]? = some (.cells #[.int .i64 3] 26 (0, 0)) ∧ Below w.heap.size w W)
          i W Exit.normal a (wz.setCell ⟨w1.heap.size, 2, none⟩ (.slice (some ⟨g, 0, none⟩) (i + 1) cap)) := by
        intro W9 wz g cap hb9 hoz hkz a
        have ho9 := own_below HO2'.out hb9 (Nat.le_refl _)
        have s9 := hb9.size
        have hlb : ∀ k, (Value.slice p3 i q3).ownBlock = some k → w3.heap.size ≤ k := fun k hk => (HO2'.out.lt k hk).1
        have kz : Kept (fun k => k = w1.heap.size ∨ w1.heap.size + 3 ≤ k) W wz := ((Kept.of_below' HB2.out _).andBelow hb9).trans (hkz.mono fun k _ hk => .inr (by have := hlb k hk; omega))
        refine ⟨((keepsFrom_below HB2.out).trans (keepsFrom_below hb9)).trans ((keepsFrom_kept hkz fun k o _ hk ho => own_cells ho9 hk ho).trans ((KeepsOthers.setCell _ _ _).from _)), kz.setCell (.inl (.inl rfl)) _, ?_, .slice (some ⟨g, 0, none⟩) (i + 1) cap, ?_, ?_, ?_⟩
        · intro x hx
          rw [List.take_add_one, HQ2.out] at hx
          simp only [Option.toList_some, List.mem_append, List.mem_singleton] at hx
          rcases hx with hx | rfl
          · exact HALL.out x hx
          · exact ⟨hv, hqb.2⟩
        · have lz : wz.heap[w1.heap.size]? = some (.cells #[.slice p1 n1.length q1, .slice p2 n2.length q2, .slice p3 i q3] 25 (0, 0)) := by
            rw [hkz.block _ (by omega) (fun h => by have := hlb _ h; omega), hb9.block _ lt2]
            exact L2.out
          simp [World.setCell, Array.getElem?_modify, lz]
        · have e1 : (quads left).take (i + 1) = (quads left).take i ++ [quad b0 b1 b2 b3] := by rw [List.take_add_one, HQ2.out]; rfl
          rw [e1, List.length_append, HTI.out, ← ints_append]
          exact ownsRow_setCell_below hoz (show w1.heap.size < w3.heap.size by omega) _
        · exact (((HK3.out.andBelow HB2.out).andBelow hb9).then hkz (fun k hk h => by have := hlb k h; omega)).setCell (.inl rfl) _
      have FIN := Lib.hid fin; clear fin
      have sW2 := HB2.out.size
      have hnb : ¬ (Value.slice p3 i q3).ownBlock = some w1.heap.size := fun e => by have := (HO2'.out.lt _ e).1; omega
      gi_wp2_with fail
      have hfol : Try.prog.follows Departure.mixedOrders = true := by kernel_rfl
      gi_region_with_o (refine ⟨trivial, rfl, ?_⟩; gi_at_call 41; refine (CallsIn.inRound l (callsIn_wide.2 (small_row b0 b1 b2 b3 _ _ _ _ rfl huq (by exact HRP2.out)))).mono ?_; rintro e W9 ⟨rfl, hb9⟩; have c90 := (hb9.cell (p := ⟨w1.heap.size, 2, none⟩) lt2).trans c32; have f90 := (hb9.frozen (p := ⟨w1.heap.size, 2, none⟩) lt2).trans f30; have c91 := (World.cell?_alloc_lt W9 (.cells #[.int .i64 (quad b0 b1 b2 b3)] 3) ⟨w1.heap.size, 2, none⟩ (World.block_lt_of_cell? W9 _ c90)).trans c90; have s9 : W2.heap.size ≤ W9.heap.size := hb9.size; obtain ⟨g, cap, wz, hrun, hoz, hkz⟩ := app_elem (P := Try.prog) 23 3 8 (.int .i64 0) (.int .i64 (quad b0 b1 b2 b3)) Try.underlying23 info_int rfl (by omega) rfl (own_below HO2'.out (below_of_drew hb9) (Nat.le_refl _)) (by omega) (by omega); have cz := (hkz.cell (p := ⟨w1.heap.size, 2, none⟩) (show w1.heap.size < W9.heap.size by omega) hnb).trans c90; have fz := (hkz.frozen (p := ⟨w1.heap.size, 2, none⟩) (show w1.heap.size < W9.heap.size by omega) hnb).trans f90)
      all_goals gi_wp2
      all_goals exact FIN.out W9 wz g cap (below_of_drew hb9) hoz hkz _
    · have dv : decide (1 ≤ quad b0 b1 b2 b3 ∧ quad b0 b1 b2 b3 < 4294967296) = false := by simp; omega
      rw [dv]
      clear dv
      have q2 : W2.heap[w.heap.size]? = some (.cells #[.slice none 0 0, .slice none 0 0, .slice none 0 0] 25 (0, 0)) := by
        rw [HB2.out.block _ (by omega), HK3.out.block _ (by omega) (by omega), b13.block _ (by omega)]
        exact G2.out
      have q3 : W2.heap[w.heap.size + 1]? = some (.cells #[.int .i64 0] 26 (0, 0)) := by
        rw [HB2.out.block _ (by omega), HK3.out.block _ (by omega) (by omega), b13.block _ (by omega)]
        exact G3.out
      have c20 := cell_of_heap q2 0
      have c21 := cell_of_heap q2 1
      have c22 := cell_of_heap q2 2
      have f20 : ∀ i, W2.frozen? ⟨w.heap.size, i, none⟩ = false := fun i => by simp [World.frozen?, q2]
      have c3 := box_cell q3
      have f3 := free_of_one q3
      have Q2 := Lib.hid q2; clear q2
      have Q3 := Lib.hid q3; clear q3
      have sW2 := HB2.out.size
      have hbelow : Below w.heap.size w W2 := by
        have e1 : Below w.heap.size w w1 := (((Below.refl _ _).alloc (Nat.le_refl _) _).alloc (by simp) _).trans (HB.out.mono (by simp; omega))
        have e2 : Below w.heap.size w w3 := e1.trans (b13.mono (by omega))
        have e3 : Kept (fun k => w.heap.size ≤ k) w W := (Kept.of_below e2 (fun k h _ => h)).then HK3.out (fun k h1 (h2 : k = w1.heap.size) => by omega)
        have e4 := e3.andBelow HB2.out
        exact Kept.below (e4.mono (fun k h1 h2 => by omega))
      have hnall : ¬ ∀ x ∈ quads left, 1 ≤ x ∧ x < 4294967296 := fun h => hv (h _ (List.mem_of_getElem? HQ2.out)).1
      have HNALL := Lib.hid hnall; clear hnall
      gi_wp2
      refine ⟨((((((keepsFrom_below HB2.out).trans ((KeepsOthers.setCell _ _ _).from _)).trans ((KeepsOthers.setCell _ _ _).from _)).trans ((KeepsOthers.setCell _ _ _).from _)).trans ((KeepsOthers.setCell _ _ _).from _))), rfl, HNALL.out, ?_, ?_, (((hbelow.setCell (Nat.le_refl _) _).setCell (Nat.le_refl _) _).setCell (Nat.le_refl _) _).setCell (Nat.le_succ _) _⟩
      · simp [World.setCell, Array.getElem?_modify, Q2.out]
      · simp [World.setCell, Array.getElem?_modify, Q3.out]
  case hI =>
    rintro i A B ⟨hall, v3, hL, ho3, hk3⟩ hk
    have hno : ∀ k, k < w3.heap.size → ¬ Beside (fun _ => False) w3.heap.size A k := fun k hlt h => by
      rcases h with h | ⟨h, _⟩
      · exact h
      · omega
    refine ⟨hall, v3, (hk.block _ (Array.getElem?_eq_some_iff.1 hL).1 (hno _ (by omega))).trans hL, own_kept ho3 hk (fun k hk' h => ?_), hk3.then hk (fun k hlt h => absurd h (hno k hlt))⟩
    rcases h with h | ⟨_, o, ho, hc⟩
    · exact h
    · have := own_cells ho3 hk' ho
      rw [this] at hc
      cases hc
  case hIx =>
    rintro c i A B ⟨rfl, hbad, g2', g3', hb'⟩ hk
    have hno : ∀ k, k < w3.heap.size → ¬ Beside (fun _ => False) w3.heap.size A k := fun k hlt h => by
      rcases h with h | ⟨h, _⟩
      · exact h
      · omega
    exact ⟨rfl, hbad, (hk.block _ (Array.getElem?_eq_some_iff.1 g2').1 (hno _ (by omega))).trans g2', (hk.block _ (Array.getElem?_eq_some_iff.1 g3').1 (hno _ (by omega))).trans g3',
      Kept.below ((Kept.of_below' hb' (fun _ => False)).then hk (fun k hlt h => absurd h (hno k (by omega))))⟩
  case h0 =>
    exact ⟨by simp, _, l3, by simpa [ints] using World.ownsRow_nil w3 w3.heap.size 3 1, Kept.refl _ _⟩
  case done =>
    rintro D W hD ⟨hall, v3, hL, ho3, hk3⟩ hK
    have hlen := quads_length N left HNN.out
    rw [List.take_of_length_le (Nat.le_of_eq hlen)] at hall ho3
    obtain ⟨p3, q3, rfl, -⟩ := own_slice ho3
    have c30 := cell_of_heap hL 0
    have c31 := cell_of_heap hL 1
    have c32 := cell_of_heap hL 2
    have q2 : W.heap[w.heap.size]? = some (.cells #[.slice none 0 0, .slice none 0 0, .slice none 0 0] 25 (0, 0)) := by
      rw [hk3.block _ (by omega) (by omega), b13.block _ (by omega)]
      exact G2.out
    have q3' : W.heap[w.heap.size + 1]? = some (.cells #[.int .i64 0] 26 (0, 0)) := by
      rw [hk3.block _ (by omega) (by omega), b13.block _ (by omega)]
      exact G3.out
    have c20 := cell_of_heap q2 0
    have c21 := cell_of_heap q2 1
    have c22 := cell_of_heap q2 2
    have f20 : ∀ i, W.frozen? ⟨w.heap.size, i, none⟩ = false := fun i => by simp [World.frozen?, q2]
    have c3 := box_cell q3'
    have f3 := free_of_one q3'
    have Q2 := Lib.hid q2; clear q2
    have Q3 := Lib.hid q3'; clear q3'
    have HL := Lib.hid hL; clear hL
    have HO3 := Lib.hid ho3; clear ho3
    have HK3 := Lib.hid hk3; clear hk3
    have HK := Lib.hid hK; clear hK
    have HLEN := Lib.hid hlen; clear hlen
    have HALL := Lib.hid hall; clear hall
    dsimp only
    go_wp2
    have n1' : w.heap.size ≠ D := by omega
    have n2' : w.heap.size + 1 ≠ D := by omega
    refine marks_ret1 (v := .tuple #[.agg #[.slice p1 n1.length q1, .slice p2 n2.length q2, .slice p3 (quads left).length q3], .int .i64 0]) rfl
      (by rw [heap_setCell_ne (Ne.symm n2'), heap_setCell_ne (Ne.symm n1'), heap_setCell_ne (Ne.symm n1'), heap_setCell_ne (Ne.symm n1')]; exact HK.out)
      (by simp [results, Try.results11, go_sem, cell_putObj n1', cell_putObj n2', c20, c21, c22, c3]) ?_
    have e1 : Below w.heap.size w w1 := (((Below.refl _ _).alloc (Nat.le_refl _) _).alloc (by simp) _).trans (HB.out.mono (by simp; omega))
    have e2 : Below w.heap.size w w3 := e1.trans (b13.mono (by omega))
    have e3 : Below w.heap.size w W := Kept.below (((Kept.of_below e2 (fun k h _ => h)).then HK3.out (fun k h1 (h2 : k = w1.heap.size) => by omega)).mono (fun k h1 (h2 : w.heap.size ≤ k) => by omega))
    have e4 := ((((e3.setCell (p := ⟨w.heap.size, 0, none⟩) (Nat.le_refl _) (.slice p1 n1.length q1)).setCell (p := ⟨w.heap.size, 1, none⟩) (Nat.le_refl _) (.slice p2 n2.length q2)).setCell (p := ⟨w.heap.size, 2, none⟩) (Nat.le_refl _) (.slice p3 (quads left).length q3)).setCell (p := ⟨w.heap.size + 1, 0, none⟩) (Nat.le_succ _) (.int .i64 0))
    have o1 : W.ownsRow (w.heap.size + 2) 5 1 (.slice p1 n1.length q1) n1.length (ints .u8 n1) := own_kept (own_below HO1.out b13 (Nat.le_refl _)) HK3.out (fun k hk (h : k = w1.heap.size) => by have := (HO1.out.lt k hk).2; omega)
    have o2 : W.ownsRow (w.heap.size + 2) 5 1 (.slice p2 n2.length q2) n2.length (ints .u8 n2) := own_kept (own_below HO2.out b13 (Nat.le_refl _)) HK3.out (fun k hk (h : k = w1.heap.size) => by have := (HO2.out.lt k hk).2; omega)
    have put : ∀ {V : World} {e n : Nat} {v : Value} {xs : List Value}, V.ownsRow (w.heap.size + 2) e 1 v n xs → (∀ k, v.ownBlock = some k → k ≠ D) → (V.putObj D (.deferred none)).ownsRow (w.heap.size + 2) e 1 v n xs :=
      fun h hne => own_kept h (kept_putObj (S := (· = D)) _ rfl) hne
    have sets : ∀ {e n : Nat} {v : Value} {xs : List Value}, W.ownsRow (w.heap.size + 2) e 1 v n xs → (∀ k, v.ownBlock = some k → k ≠ D) → (((((W.setCell ⟨w.heap.size, 0, none⟩ (.slice p1 n1.length q1)).setCell ⟨w.heap.size, 1, none⟩ (.slice p2 n2.length q2)).setCell ⟨w.heap.size, 2, none⟩ (.slice p3 (quads left).length q3)).setCell ⟨w.heap.size + 1, 0, none⟩ (.int .i64 0)).putObj D (.deferred none)).ownsRow w.heap.size e 1 v n xs :=
      fun h hne => own_base (put (ownsRow_setCell_below (ownsRow_setCell_below (ownsRow_setCell_below (ownsRow_setCell_below h (show w.heap.size < w.heap.size + 2 by omega) _) (show w.heap.size < w.heap.size + 2 by omega) _) (show w.heap.size < w.heap.size + 2 by omega) _) (show w.heap.size + 1 < w.heap.size + 2 by omega) _) hne) (by omega)
    have nocell : ∀ {e n : Nat} {v : Value} {xs : List Value} {b : Nat}, W.ownsRow b e 1 v n xs → ∀ k, v.ownBlock = some k → k ≠ D := fun h k hk hD => by
      subst hD
      have := own_cells h hk HK.out
      cases this
    refine ⟨e4.trans (below_putObj _ _ (by omega)), ?_⟩
    rw [if_pos HALL.out]
    exact ⟨_, _, _, rfl, sets o1 (nocell o1), sets o2 (nocell o2), sets (own_base HO3.out (by omega)) (nocell HO3.out)⟩
  case stop =>
    rintro D c i W hD hi ⟨rfl, hbad, g2', g3', hb'⟩ hK
    have c20 := cell_of_heap g2' 0
    have c21 := cell_of_heap g2' 1
    have c22 := cell_of_heap g2' 2
    have c3 := box_cell g3'
    have hne : D ≠ w.heap.size := by omega
    have hne' : D ≠ w.heap.size + 1 := by omega
    have HBAD := Lib.hid hbad; clear hbad
    dsimp only
    go_wp2
    have n1' : w.heap.size ≠ D := by omega
    have n2' : w.heap.size + 1 ≠ D := by omega
    refine marks_ret1 (v := .tuple #[.agg #[.slice none 0 0, .slice none 0 0, .slice none 0 0], .int .i64 3]) rfl hK
      (by simp [results, Try.results11, go_sem, cell_putObj n1', cell_putObj n2', c20, c21, c22, c3]) ?_
    refine ⟨hb'.trans (below_putObj _ _ (by omega)), ?_⟩
    rw [if_neg HBAD.out]
    rfl
end Go.Proofs.Ytaplndehoenghaa
