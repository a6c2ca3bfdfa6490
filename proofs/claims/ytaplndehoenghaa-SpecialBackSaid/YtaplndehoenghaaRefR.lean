/- The reference's ReadRetry. -/
import Derived.Test.YtaplndehoenghaaRefLaw
import Derived.Test.YtaplndehoenghaaRefNum
import Derived.Deep.RegionWith
import Derived.Deep.RegionLaw
import Derived.Deep.CutRange
import Derived.Deep.DrawnRows
namespace Go.Proofs.Ytaplndehoenghaa
open Go.RowKit
set_option linter.unusedVariables false

def noRetryRef : Ending := .returned (.tuple #[.agg #[.int .i64 0, .slice none 0 0, .slice none 0 0, .int .i64 0, .int .i64 0], .bool false])

theorem refRetry_no (a : Option Addr) (zs : List Int) (m c B : Nat) (w : World) (hm : zs.length = m) (hc : m ≤ c) (hl : m ≤ 1000000) (hB : B ≤ w.heap.size)
    (hr : Row w B a (ints .u8 zs)) (hu : IsU8 zs) (hn : headR 240 zs = none) :
    Calls Try.prog 14 #[.slice a m c] w fun e w' => e = noRetryRef ∧ Below w.heap.size w w' := by
  have hr2 := hr.alloc hB (.cells #[.int .i64 0, .slice none 0 0, .slice none 0 0, .int .i64 0, .int .i64 0] 38)
  have HR2 := Lib.hid hr2; clear hr2
  obtain ⟨n2, nb⟩ := one_new w (.cells #[.int .i64 0, .slice none 0 0, .slice none 0 0, .int .i64 0, .int .i64 0] 38)
  have N2 := Lib.hid n2; clear n2
  have NB := Lib.hid nb; clear nb
  have HM := Lib.hid hm; clear hm
  have HN := Lib.hid hn; clear hn
  go_enter Try.func14, Try.ntmps14
  go_wp2_with fail
  refine (start_no a zs 240 m c B _ HM.out hl hc (by simp; omega) hu (by omega) (by omega) HR2.out HN.out).mono ?_
  rintro e w1 ⟨rfl, hb⟩
  have g2 : w1.heap[w.heap.size]? = some (.cells #[.int .i64 0, .slice none 0 0, .slice none 0 0, .int .i64 0, .int .i64 0] 38 (0, 0)) := (hb.block _ (by simp)).trans N2.out
  have b0 := Lib.hid (NB.out.trans (hb.mono (by simp)))
  have cA := cells5 g2
  have fA := unfrozen g2
  clear g2 hb
  unfold noStart
  go_wp2
  refine bodyPost_ret (v := .tuple #[.agg #[.int .i64 0, .slice none 0 0, .slice none 0 0, .int .i64 0, .int .i64 0], .bool false]) (by simp [results, Try.results14, go_sem, cA]) rfl ⟨rfl, ?_⟩
  exact ((((b0.out.setCell (Nat.le_refl _) _).setCell (Nat.le_refl _) _).setCell (Nat.le_refl _) _).setCell (Nat.le_refl _) _).setCell (Nat.le_refl _) _

theorem refRetry_bad (a : Option Addr) (zs : List Int) (m c B : Nat) (w : World) (hm : zs.length = m) (hc : m ≤ c) (hl : m ≤ 1000000) (hB : B ≤ w.heap.size)
    (hr : Row w B a (ints .u8 zs)) (hu : IsU8 zs) (v : Int) (n1 n2 left : List Int) (hn : headR 240 zs = some (v, n1, n2, left)) (hbad : v = 0 ∨ left.length ≠ 8) :
    Calls Try.prog 14 #[.slice a m c] w fun e w' => e = noRetryRef ∧ Below w.heap.size w w' := by
  have hr2 := hr.alloc hB (.cells #[.int .i64 0, .slice none 0 0, .slice none 0 0, .int .i64 0, .int .i64 0] 38)
  have HR2 := Lib.hid hr2; clear hr2
  obtain ⟨n2', nb⟩ := one_new w (.cells #[.int .i64 0, .slice none 0 0, .slice none 0 0, .int .i64 0, .int .i64 0] 38)
  have N2 := Lib.hid n2'; clear n2'
  have NB := Lib.hid nb; clear nb
  have hvb := headR_u8 hu hn
  have hlb : left.length ≤ 1000000 := by omega
  have hv0 : 0 ≤ v ∧ v < 4294967296 := ⟨hvb.2.2.2.2.2.2.1, hvb.2.2.2.2.2.2.2⟩
  clear hvb
  have hbad' : ((v == 0) = true) ∨ ((v == 0) = false ∧ ((left.length : Int) != 8) = true) := by
    by_cases h1 : v = 0
    · exact .inl (by simp [h1])
    · exact .inr ⟨by simp [h1], by simp; omega⟩
  clear hbad
  have HN := Lib.hid hn; clear hn
  have HM := Lib.hid hm; clear hm
  rcases hbad' with d1 | ⟨d1, d2⟩
  all_goals
    go_enter Try.func14, Try.ntmps14
    go_wp2_with fail
    refine (start_yes a zs 240 m c B _ HM.out hl hc (by simp; omega) hu (by omega) (by omega) HR2.out v n1 n2 left HN.out).mono ?_
    rintro e w1 ⟨a1, a2, a3, c1, c2, c3, rfl, _, _, _, _, _, _, hb⟩
    have g2 : w1.heap[w.heap.size]? = some (.cells #[.int .i64 0, .slice none 0 0, .slice none 0 0, .int .i64 0, .int .i64 0] 38 (0, 0)) := (hb.block _ (by simp)).trans N2.out
    have b0 := Lib.hid (NB.out.trans (hb.mono (by simp)))
    have cA := cells5 g2
    have fA := unfrozen g2
    clear g2 hb
    go_wp2
    refine bodyPost_ret (v := .tuple #[.agg #[.int .i64 0, .slice none 0 0, .slice none 0 0, .int .i64 0, .int .i64 0], .bool false]) (by simp [results, Try.results14, go_sem, cA]) rfl ⟨rfl, ?_⟩
    exact ((((b0.out.setCell (Nat.le_refl _) _).setCell (Nat.le_refl _) _).setCell (Nat.le_refl _) _).setCell (Nat.le_refl _) _).setCell (Nat.le_refl _) _

/-- What the reference's ReadRetry hands back. -/
def RetryRef (B : Nat) (w : World) (v : Int) (n1 n2 : List Int) (t g : Int) (e : Ending) (w' : World) : Prop := Below w.heap.size w w' ∧
  if t = 0 ∨ g = 0 then e = noRetryRef
  else ∃ a1 a2 c1 c2, e = .returned (.tuple #[.agg #[.int .i64 v, .slice a1 n1.length c1, .slice a2 n2.length c2, .int .i64 t, .int .i64 g], .bool true]) ∧ Row w' B a1 (ints .u8 n1) ∧ Row w' B a2 (ints .u8 n2)

attribute [local go_sem ↓] Go.wp_at_zero Go.wp_at_succ

/-- Where the two numbers have been read. -/
def RetryCut (B : Nat) (w : World) (v : Int) (a1 a2 : Option Addr) (n1 n2 : List Int) (c1 c2 : Nat) (T G : Int) (p : Value) (W : World) : Prop :=
  ∃ q, p = .pointer (some ⟨q, 0, none⟩) ∧ W.heap[q]? = some (.cells #[.int .i64 v, .slice a1 n1.length c1, .slice a2 n2.length c2, .int .i64 T, .int .i64 G] 38 (0, 0)) ∧
    W.heap[w.heap.size]? = some (.cells #[.int .i64 0, .slice none 0 0, .slice none 0 0, .int .i64 0, .int .i64 0] 38 (0, 0)) ∧ Below w.heap.size w W ∧ Row W B a1 (ints .u8 n1) ∧ Row W B a2 (ints .u8 n2)

theorem set5 {W : World} {q t : Nat} {g : Nat × Nat} {x0 x1 x2 x3 x4 : Value} (h : W.heap[q]? = some (.cells #[x0, x1, x2, x3, x4] t g)) (y0 y1 y2 y3 y4 : Value) :
    (((((W.setCell ⟨q, 0, none⟩ y0).setCell ⟨q, 1, none⟩ y1).setCell ⟨q, 2, none⟩ y2).setCell ⟨q, 3, none⟩ y3).setCell ⟨q, 4, none⟩ y4).heap[q]? = some (.cells #[y0, y1, y2, y3, y4] t g) := by
  simp [World.setCell, Array.getElem?_modify, h]

theorem retryCut_of {B : Nat} {w w1 W : World} {v T G : Int} {a1 a2 : Option Addr} {n1 n2 : List Int} {c1 c2 q : Nat} (hk : Kept (fun _ => False) w1 W)
    (hq : W.heap[q]? = some (.cells #[.int .i64 v, .slice a1 n1.length c1, .slice a2 n2.length c2, .int .i64 T, .int .i64 G] 38 (0, 0)))
    (hz : w1.heap[w.heap.size]? = some (.cells #[.int .i64 0, .slice none 0 0, .slice none 0 0, .int .i64 0, .int .i64 0] 38 (0, 0))) (hb : Below w.heap.size w w1)
    (hB : B ≤ w1.heap.size) (h1 : Row w1 B a1 (ints .u8 n1)) (h2 : Row w1 B a2 (ints .u8 n2)) : RetryCut B w v a1 a2 n1 n2 c1 c2 T G (.pointer (some ⟨q, 0, none⟩)) W := by
  have hl : w.heap.size < w1.heap.size := (Array.getElem?_eq_some_iff.1 hz).1
  exact ⟨q, rfl, hq, (hk.block _ hl (fun h => h)).trans hz, hb.trans (hk.below.mono (by omega)), h1.kept hk hB (fun _ _ h => h), h2.kept hk hB (fun _ _ h => h)⟩

set_option maxRecDepth 100000 in
set_option maxHeartbeats 1000000 in
theorem refRetry_num (a : Option Addr) (zs : List Int) (m c B : Nat) (w : World) (hm : zs.length = m) (hc : m ≤ c) (hl : m ≤ 1000000) (hB : B ≤ w.heap.size)
    (hr : Row w B a (ints .u8 zs)) (hu : IsU8 zs) (v : Int) (n1 n2 : List Int) (t0 t1 t2 t3 g0 g1 g2 g3 : Int) (hn : headR 240 zs = some (v, n1, n2, [t0, t1, t2, t3, g0, g1, g2, g3])) (hv : v ≠ 0) :
    Calls Try.prog 14 #[.slice a m c] w (RetryRef B w v n1 n2 (numbered t0 t1 t2 t3) (numbered g0 g1 g2 g3)) := by
  have hr2 := hr.alloc hB (.cells #[.int .i64 0, .slice none 0 0, .slice none 0 0, .int .i64 0, .int .i64 0] 38)
  have HR2 := Lib.hid hr2; clear hr2
  obtain ⟨n2', nb⟩ := one_new w (.cells #[.int .i64 0, .slice none 0 0, .slice none 0 0, .int .i64 0, .int .i64 0] 38)
  have N2 := Lib.hid n2'; clear n2'
  have NB := Lib.hid nb; clear nb
  have hvb := headR_u8 hu hn
  have hv0 : 0 ≤ v ∧ v < 4294967296 := ⟨hvb.2.2.2.2.2.2.1, hvb.2.2.2.2.2.2.2⟩
  have hut : IsU8 [t0, t1, t2, t3] := fun z hz => hvb.2.2.1 z (by simp at hz ⊢; omega)
  have hug : IsU8 [g0, g1, g2, g3] := fun z hz => hvb.2.2.1 z (by simp at hz ⊢; omega)
  clear hvb
  have d1 : (v == 0) = false := by simp [hv]
  have HN := Lib.hid hn; clear hn
  have HM := Lib.hid hm; clear hm
  have HUT := Lib.hid hut; clear hut
  have HUG := Lib.hid hug; clear hug
  obtain ⟨T, hT⟩ : ∃ T, numbered t0 t1 t2 t3 = T := ⟨_, rfl⟩
  obtain ⟨G, hG⟩ : ∃ G, numbered g0 g1 g2 g3 = G := ⟨_, rfl⟩
  have HT := Lib.hid hT
  have HG := Lib.hid hG
  rw [hT, hG]
  clear hT hG
  go_enter Try.func14, Try.ntmps14
  go_wp2_with fail
  refine (start_yes a zs 240 m c B _ HM.out hl hc (by simp; omega) hu (by omega) (by omega) HR2.out v n1 n2 _ HN.out).mono ?_
  rintro e w1 ⟨a1, a2, a3, c1, c2, c3, rfl, r1, r2, r3, l1, l2, l3, hb⟩
  rw [show [t0, t1, t2, t3, g0, g1, g2, g3].length = 8 from rfl]
  have gz : w1.heap[w.heap.size]? = some (.cells #[.int .i64 0, .slice none 0 0, .slice none 0 0, .int .i64 0, .int .i64 0] 38 (0, 0)) := (hb.block _ (by simp)).trans N2.out
  have b0 := Lib.hid (NB.out.trans (hb.mono (by simp)))
  have c8 : (8 : Int) ≤ (c3 : Int) := by simp at l3; omega
  have c4 : (4 : Int) ≤ (c3 : Int) := by omega
  have rt : Row w1 B a3 (ints .u8 [t0, t1, t2, t3]) := by simpa [ints] using (r3.take 4)
  have rg : Row w1 B (cutAt a3 4 c3) (ints .u8 [g0, g1, g2, g3]) := by simpa [ints] using r3.cut 4 c3 l3
  have RT := Lib.hid rt; clear rt
  have RG := Lib.hid rg; clear rg
  have R1 := Lib.hid r1; clear r1
  have R2 := Lib.hid r2; clear r2
  have GG := Lib.hid gz; clear gz
  have hBz : Hid (B ≤ w1.heap.size) := Lib.hid (by have := hb.size; simp at this; omega)
  clear r3 hb l3
  have U := And.intro HUT.out HUG.out
  simp only [IsU8, List.mem_cons, List.not_mem_nil, or_false, forall_eq_or_imp, forall_eq] at U
  have HU := Lib.hid U; clear U
  go_wp2_with fail
  have ct : ∀ W, Kept (fun _ => False) w1 W → Calls Try.prog 45 #[.slice a3 4 c3] W fun x wx => x = .returned (.int .i64 T) ∧ Drawn W wx := fun W hW => by
    have := numbered_ref t0 t1 t2 t3 a3 c3 B W HU.out.1.1 HU.out.1.2.1 HU.out.1.2.2.1 HU.out.1.2.2.2 (RT.out.kept hW hBz.out (fun _ _ h => h))
    rwa [HT.out] at this
  have cg : ∀ W, Kept (fun _ => False) w1 W → Calls Try.prog 45 #[.slice (cutAt a3 4 c3) 4 (c3 - 4)] W fun x wx => x = .returned (.int .i64 G) ∧ Drawn W wx := fun W hW => by
    have := numbered_ref g0 g1 g2 g3 (cutAt a3 4 c3) (c3 - 4) B W HU.out.2.1 HU.out.2.2.1 HU.out.2.2.2.1 HU.out.2.2.2.2 (RG.out.kept hW hBz.out (fun _ _ h => h))
    rwa [HG.out] at this
  have CT := Lib.hid ct; clear ct
  have CG := Lib.hid cg; clear cg
  go_cut [9] from 30 to 40 (RetryCut B w v a1 a2 n1 n2 c1 c2 T G)
  case first =>
    (first | go_region_law
        (go_simp; first
        | (go_at_call_of 45 (Value.slice a3 4 c3); refine (CT.out _ (by repeat (with_reducible first | exact Kept.refl _ _ | refine Kept.alloc ?_ _ | refine Kept.drew ?_))).mono ?_; rintro x wx ⟨rfl, hx⟩; have DX := Lib.hid hx; clear hx)
        | (go_at_call 45; refine (CG.out _ (by repeat (with_reducible first | exact Kept.refl _ _ | refine Kept.alloc ?_ _ | refine Kept.drew ?_ | refine Kept.trans ?_ (DX.out.kept _)))).mono ?_; rintro x wy ⟨rfl, hy⟩; have DY := Lib.hid hy; clear hy; first | (have gi : wy.heap[wx.heap.size]? = some (.cells #[.int .i64 0, .slice none 0 0, .slice none 0 0, .int .i64 0, .int .i64 0] 38 (0, 0)) := (by rw [DY.out.heap]; exact heap_alloc_new wx _); have cA := cells5 gi; have fA := unfrozen gi; clear gi) | (have gi : wy.heap[w1.heap.size]? = some (.cells #[.int .i64 0, .slice none 0 0, .slice none 0 0, .int .i64 0, .int .i64 0] 38 (0, 0)) := (by rw [DY.out.heap, DX.out.heap]; exact heap_alloc_new w1 _); have cA := cells5 gi; have fA := unfrozen gi; clear gi) | skip)) | fail "no")
    all_goals (go_wp2_with fail; go_meet)
    · exact retryCut_of ((DX.out.kept _).trans (DY.out.kept _) |> fun h => (((Kept.refl _ w1).drew.trans h).alloc _)) (heap_alloc_new _ _) GG.out b0.out hBz.out R1.out R2.out
    · have kk : Kept (fun _ => False) w1 wy := ((Kept.refl _ w1).drew.trans (DX.out.kept _)).trans (((Kept.refl _ wx).alloc _).trans (DY.out.kept _))
      have lx : w1.heap.size ≤ wx.heap.size := ((Kept.refl (fun _ => False) w1).drew.trans (DX.out.kept _)).size
      exact retryCut_of (((((kk.setCell (p := ⟨_, 0, none⟩) (.inr lx) _).setCell (p := ⟨_, 1, none⟩) (.inr lx) _).setCell (p := ⟨_, 2, none⟩) (.inr lx) _).setCell (p := ⟨_, 3, none⟩) (.inr lx) _).setCell (p := ⟨_, 4, none⟩) (.inr lx) _)
        (set5 (by rw [DY.out.heap]; exact heap_alloc_new wx _) _ _ _ _ _) GG.out b0.out hBz.out R1.out R2.out
    · have kk : Kept (fun _ => False) w1 wy := ((Kept.refl _ w1).alloc _).drew.trans ((DX.out.kept _).trans (DY.out.kept _))
      have lx : w1.heap.size ≤ w1.heap.size := Nat.le_refl _
      exact retryCut_of (((((kk.setCell (p := ⟨_, 0, none⟩) (.inr lx) _).setCell (p := ⟨_, 1, none⟩) (.inr lx) _).setCell (p := ⟨_, 2, none⟩) (.inr lx) _).setCell (p := ⟨_, 3, none⟩) (.inr lx) _).setCell (p := ⟨_, 4, none⟩) (.inr lx) _)
        (set5 (by rw [DY.out.heap, DX.out.heap]; exact heap_alloc_new w1 _) _ _ _ _ _) GG.out b0.out hBz.out R1.out R2.out
  case rest =>
    obtain ⟨q, rfl, hq, hz, hb, hr1, hr2⟩ := hcut
    have cQ := cells5 hq
    have cA := cells5 hz
    have fA := unfrozen hz
    have HB := Lib.hid hb; clear hb
    have Q1 := Lib.hid hr1; clear hr1
    have Q2 := Lib.hid hr2; clear hr2
    clear hq hz
    by_cases hT : T = 0
    · have eT : (T == 0) = true := by simp [hT]
      go_wp2
      refine bodyPost_ret (v := .tuple #[.agg #[.int .i64 0, .slice none 0 0, .slice none 0 0, .int .i64 0, .int .i64 0], .bool false]) (by simp [results, Try.results14, go_sem, cA]) rfl ⟨?_, ?_⟩
      · exact ((((HB.out.setCell (Nat.le_refl _) _).setCell (Nat.le_refl _) _).setCell (Nat.le_refl _) _).setCell (Nat.le_refl _) _).setCell (Nat.le_refl _) _
      · rw [if_pos (.inl hT)]; rfl
    · have eT : (T == 0) = false := by simp [hT]
      by_cases hG : G = 0
      · have eG : (G == 0) = true := by simp [hG]
        go_wp2
        refine bodyPost_ret (v := .tuple #[.agg #[.int .i64 0, .slice none 0 0, .slice none 0 0, .int .i64 0, .int .i64 0], .bool false]) (by simp [results, Try.results14, go_sem, cA]) rfl ⟨?_, ?_⟩
        · exact ((((HB.out.setCell (Nat.le_refl _) _).setCell (Nat.le_refl _) _).setCell (Nat.le_refl _) _).setCell (Nat.le_refl _) _).setCell (Nat.le_refl _) _
        · rw [if_pos (.inr hG)]; rfl
      · have eG : (G == 0) = false := by simp [hG]
        go_wp2
        refine bodyPost_ret (v := .tuple #[.agg #[.int .i64 v, .slice a1 n1.length c1, .slice a2 n2.length c2, .int .i64 T, .int .i64 G], .bool true]) (by simp [results, Try.results14, go_sem, cA]) rfl ⟨?_, ?_⟩
        · exact ((((HB.out.setCell (Nat.le_refl _) _).setCell (Nat.le_refl _) _).setCell (Nat.le_refl _) _).setCell (Nat.le_refl _) _).setCell (Nat.le_refl _) _
        · rw [if_neg (by simp [hT, hG])]
          exact ⟨a1, a2, c1, c2, rfl, ((((Q1.out.setCell hB _).setCell hB _).setCell hB _).setCell hB _).setCell hB _, ((((Q2.out.setCell hB _).setCell hB _).setCell hB _).setCell hB _).setCell hB _⟩
end Go.Proofs.Ytaplndehoenghaa
