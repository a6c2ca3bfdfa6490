/- special.ReadRetry. -/
import Derived.Test.YtaplndehoenghaaSpD
import Derived.Test.YtaplndehoenghaaBaseB
namespace Go.Proofs.Ytaplndehoenghaa
open Go.RowKit
set_option linter.unusedVariables false

def noRetry : Ending := .returned (.tuple #[.agg #[.int .i64 0, .slice none 0 0, .slice none 0 0, .int .i64 0, .int .i64 0], .int .i64 3])
def retryBox : Obj := .cells #[.int .i64 0, .slice none 0 0, .slice none 0 0, .int .i64 0, .int .i64 0] 34

theorem readRetry_no (a : Option Addr) (zs : List Int) (m c : Nat) (w : World) (hm : zs.length = m) (hc : m ≤ c) (hl : m ≤ 1000000)
    (hr : Row w w.heap.size a (ints .u8 zs)) (hu : IsU8 zs) (hn : headR 240 zs = none) :
    Calls Try.prog 13 #[.slice a m c] w fun e w' => e = noRetry ∧ Below w.heap.size w w' := by
  have hr2 := hr.alloc (Nat.le_refl _) (.cells #[.int .i64 0, .slice none 0 0, .slice none 0 0, .int .i64 0, .int .i64 0] 34)
  have HR2 := Lib.hid hr2; clear hr2
  obtain ⟨n2, nb⟩ := one_new w (.cells #[.int .i64 0, .slice none 0 0, .slice none 0 0, .int .i64 0, .int .i64 0] 34)
  have N2 := Lib.hid n2; clear n2
  have NB := Lib.hid nb; clear nb
  have HM := Lib.hid hm; clear hm
  have HN := Lib.hid hn; clear hn
  go_enter Try.func13, Try.ntmps13
  go_wp2_with fail
  refine (headed_no 240 a zs m c _ HM.out hc hl (HR2.out.more (by simp)) hu HN.out).mono ?_
  rintro e w1 ⟨⟨v0, v1, v2, v3, rfl⟩, hb⟩
  have g2 : w1.heap[w.heap.size]? = some (.cells #[.int .i64 0, .slice none 0 0, .slice none 0 0, .int .i64 0, .int .i64 0] 34 (0, 0)) := (hb.block _ (by simp)).trans N2.out
  have b0 := Lib.hid (NB.out.trans (hb.mono (by simp)))
  have cA := cells5 g2
  have fA := unfrozen g2
  clear g2 hb
  go_wp2
  refine bodyPost_ret (v := .tuple #[.agg #[.int .i64 0, .slice none 0 0, .slice none 0 0, .int .i64 0, .int .i64 0], .int .i64 3]) (by simp [results, Try.results13, go_sem, cA]) rfl ⟨rfl, ?_⟩
  exact ((((b0.out.setCell (Nat.le_refl _) _).setCell (Nat.le_refl _) _).setCell (Nat.le_refl _) _).setCell (Nat.le_refl _) _).setCell (Nat.le_refl _) _

theorem readRetry_bad (a : Option Addr) (zs : List Int) (m c : Nat) (w : World) (hm : zs.length = m) (hc : m ≤ c) (hl : m ≤ 1000000)
    (hr : Row w w.heap.size a (ints .u8 zs)) (hu : IsU8 zs) (v : Int) (n1 n2 left : List Int) (hn : headR 240 zs = some (v, n1, n2, left)) (hbad : v = 0 ∨ left.length ≠ 8) :
    Calls Try.prog 13 #[.slice a m c] w fun e w' => e = noRetry ∧ Below w.heap.size w w' := by
  have hr2 := hr.alloc (Nat.le_refl _) (.cells #[.int .i64 0, .slice none 0 0, .slice none 0 0, .int .i64 0, .int .i64 0] 34)
  have HR2 := Lib.hid hr2; clear hr2
  obtain ⟨n2', nb⟩ := one_new w (.cells #[.int .i64 0, .slice none 0 0, .slice none 0 0, .int .i64 0, .int .i64 0] 34)
  have N2 := Lib.hid n2'; clear n2'
  have NB := Lib.hid nb; clear nb
  have hvb := headR_u8 hu hn
  have hlb : left.length ≤ 1000000 := by omega
  have hv0 : 0 ≤ v ∧ v < 4294967296 := ⟨hvb.2.2.2.2.2.2.1, hvb.2.2.2.2.2.2.2⟩
  clear hvb
  have hbad' : (decide (1 ≤ v ∧ v < 4294967296) = false) ∨ (decide (1 ≤ v ∧ v < 4294967296) = true ∧ ((left.length : Int) != 8) = true) := by
    by_cases h1 : v = 0
    · exact .inl (by simp; omega)
    · exact .inr ⟨by simp; omega, by simp; omega⟩
  clear hbad
  have HN := Lib.hid hn; clear hn
  have HM := Lib.hid hm; clear hm
  rcases hbad' with d1 | ⟨d1, d2⟩
  all_goals
    have D1 := Lib.hid d1; clear d1
    go_enter Try.func13, Try.ntmps13
    go_wp2_with fail
    refine (headed_yes 240 a zs m c _ HM.out hc hl (HR2.out.more (by simp)) hu v n1 n2 left HN.out).mono ?_
    rintro e w1 ⟨v1, v2, a', c', rfl, _, _, _, _, hb⟩
    have g2 : w1.heap[w.heap.size]? = some (.cells #[.int .i64 0, .slice none 0 0, .slice none 0 0, .int .i64 0, .int .i64 0] 34 (0, 0)) := (hb.block _ (by simp)).trans N2.out
    have b0 := Lib.hid (NB.out.trans (hb.mono (by simp)))
    have cA := cells5 g2
    have fA := unfrozen g2
    clear g2 hb
    go_wp2_with fail
    refine (version_any _ _).mono ?_
    rintro e w2 ⟨rfl, rfl⟩
    rw [D1.out]
    go_wp2
    refine bodyPost_ret (v := .tuple #[.agg #[.int .i64 0, .slice none 0 0, .slice none 0 0, .int .i64 0, .int .i64 0], .int .i64 3]) (by simp [results, Try.results13, go_sem, cA]) rfl ⟨rfl, ?_⟩
    exact ((((b0.out.setCell (Nat.le_refl _) _).setCell (Nat.le_refl _) _).setCell (Nat.le_refl _) _).setCell (Nat.le_refl _) _).setCell (Nat.le_refl _) _

theorem length_eight {zs : List Int} (h : zs.length = 8) : ∃ a b c d e f g i, zs = [a, b, c, d, e, f, g, i] := by
  match zs, h with
  | [a, b, c, d, e, f, g, i], _ => exact ⟨a, b, c, d, e, f, g, i, rfl⟩

/-- What ReadRetry hands back where the bytes behind the names are two numbers. -/
def RetryPost (w : World) (v : Int) (n1 n2 : List Int) (t g : Int) (k : Bool) (e : Ending) (w' : World) : Prop := Below w.heap.size w w' ∧
  if k = true then
    ∃ v1 v2, e = .returned (.tuple #[.agg #[.int .i64 v, v1, v2, .int .i64 t, .int .i64 g], .int .i64 0]) ∧ w'.ownsRow w.heap.size 5 1 v1 n1.length (ints .u8 n1) ∧ w'.ownsRow w.heap.size 5 1 v2 n2.length (ints .u8 n2)
  else e = noRetry

set_option maxRecDepth 100000 in
set_option maxHeartbeats 1000000 in
theorem readRetry_num (a : Option Addr) (zs : List Int) (m c : Nat) (w : World) (hm : zs.length = m) (hc : m ≤ c) (hl : m ≤ 1000000)
    (hr : Row w w.heap.size a (ints .u8 zs)) (hu : IsU8 zs) (v : Int) (n1 n2 : List Int) (t0 t1 t2 t3 g0 g1 g2 g3 : Int) (hn : headR 240 zs = some (v, n1, n2, [t0, t1, t2, t3, g0, g1, g2, g3])) (hv : 1 ≤ v) :
    Calls Try.prog 13 #[.slice a m c] w
      (RetryPost w v n1 n2 (numbered t0 t1 t2 t3) (numbered g0 g1 g2 g3) (decide (1 ≤ quad t0 t1 t2 t3 ∧ quad t0 t1 t2 t3 ≤ 65536) && decide (1 ≤ quad g0 g1 g2 g3 ∧ quad g0 g1 g2 g3 ≤ 65536))) := by
  have hr2 := hr.alloc (Nat.le_refl _) (.cells #[.int .i64 0, .slice none 0 0, .slice none 0 0, .int .i64 0, .int .i64 0] 34)
  have HR2 := Lib.hid hr2; clear hr2
  obtain ⟨n2', nb⟩ := one_new w (.cells #[.int .i64 0, .slice none 0 0, .slice none 0 0, .int .i64 0, .int .i64 0] 34)
  have N2 := Lib.hid n2'; clear n2'
  have NB := Lib.hid nb; clear nb
  have hvb := headR_u8 hu hn
  have hv0 : 0 ≤ v ∧ v < 4294967296 := ⟨hvb.2.2.2.2.2.2.1, hvb.2.2.2.2.2.2.2⟩
  have hut : IsU8 [t0, t1, t2, t3] := fun z hz => hvb.2.2.1 z (by simp at hz ⊢; omega)
  have hug : IsU8 [g0, g1, g2, g3] := fun z hz => hvb.2.2.1 z (by simp at hz ⊢; omega)
  clear hvb
  have d1 : decide (1 ≤ v ∧ v < 4294967296) = true := by simp; omega
  have HN := Lib.hid hn; clear hn
  have HM := Lib.hid hm; clear hm
  have D1 := Lib.hid d1; clear d1
  obtain ⟨k1, hk1⟩ : ∃ k1, decide (1 ≤ quad t0 t1 t2 t3 ∧ quad t0 t1 t2 t3 ≤ 65536) = k1 := ⟨_, rfl⟩
  obtain ⟨k2, hk2⟩ : ∃ k2, decide (1 ≤ quad g0 g1 g2 g3 ∧ quad g0 g1 g2 g3 ≤ 65536) = k2 := ⟨_, rfl⟩
  have K1 := Lib.hid hk1
  have K2 := Lib.hid hk2
  rw [hk1, hk2]
  clear hk1 hk2
  cases k1 <;> cases k2
  all_goals
    go_enter Try.func13, Try.ntmps13
    go_wp2_with fail
    refine (headed_yes 240 a zs m c _ HM.out hc hl (HR2.out.more (by simp)) hu v n1 n2 [t0, t1, t2, t3, g0, g1, g2, g3] HN.out).mono ?_
    rintro e w1 ⟨v1, v2, a', c', rfl, ho1, ho2, hrow, hcap, hb⟩
    have hz : w.heap.size + 1 ≤ w1.heap.size := by simpa using hb.size
    have s1 : w1.heap[w.heap.size]? = some (.cells #[.int .i64 0, .slice none 0 0, .slice none 0 0, .int .i64 0, .int .i64 0] 34 (0, 0)) := (hb.block _ (by simp)).trans N2.out
    have b1 := Lib.hid (NB.out.trans (hb.mono (by simp)))
    obtain ⟨p1, q1, rfl, -⟩ := own_slice ho1
    obtain ⟨p2, q2, rfl, -⟩ := own_slice ho2
    have O1 := Lib.hid ho1; clear ho1
    have O2 := Lib.hid ho2; clear ho2
    have S1 := Lib.hid s1; clear s1
    clear hb
    have c8 : (8 : Int) ≤ (c' : Int) := by simp at hcap; omega
    have rt : Row w1 w1.heap.size a' (ints .u8 [t0, t1, t2, t3]) := by simpa [ints] using (hrow.take 4).more (by simp; omega)
    have rg : Row w1 (w.heap.size + 1) (cutAt a' 4 c') (ints .u8 [g0, g1, g2, g3]) := by simpa [ints] using hrow.cut 4 c' hcap
    have RT := Lib.hid rt; clear rt
    have RG := Lib.hid rg; clear rg
    clear hrow
    go_wp2_with fail
    refine (version_any _ _).mono ?_
    rintro e w2 ⟨rfl, rfl⟩
    rw [D1.out]
    go_wp2_with fail
    refine (numbered_row t0 t1 t2 t3 _ _ _ _ rfl hut RT.out).mono ?_
    rintro e w3 ⟨rfl, hb3⟩
    rw [K1.out]
    have B3 := Lib.hid hb3; clear hb3
    have RG3 := Lib.hid ((RG.out.kept (Kept.of_below' B3.out (fun _ => False)) hz (fun _ _ h => h)).more (Nat.le_trans hz B3.out.size))
    go_wp2_with fail
    refine (numbered_row g0 g1 g2 g3 _ _ _ _ rfl hug RG3.out).mono ?_
    rintro e w4 ⟨rfl, hb4⟩
    rw [K2.out]
    have hb5 : Below w1.heap.size w1 w4 := B3.out.trans (hb4.mono B3.out.size)
    have s4 : w4.heap[w.heap.size]? = some (.cells #[.int .i64 0, .slice none 0 0, .slice none 0 0, .int .i64 0, .int .i64 0] 34 (0, 0)) := (hb5.block _ (by omega)).trans S1.out
    have b0 := Lib.hid (b1.out.trans (hb5.mono (by omega)))
    have cA := cells5 s4
    have fA := unfrozen s4
    have B5 := Lib.hid hb5; clear hb5
    clear s4 hb4
    go_wp2
  · refine bodyPost_ret (v := .tuple #[.agg #[.int .i64 0, .slice none 0 0, .slice none 0 0, .int .i64 0, .int .i64 0], .int .i64 3]) (by simp [results, Try.results13, go_sem, cA]) rfl ⟨?_, rfl⟩
    exact ((((b0.out.setCell (Nat.le_refl _) _).setCell (Nat.le_refl _) _).setCell (Nat.le_refl _) _).setCell (Nat.le_refl _) _).setCell (Nat.le_refl _) _
  · refine bodyPost_ret (v := .tuple #[.agg #[.int .i64 0, .slice none 0 0, .slice none 0 0, .int .i64 0, .int .i64 0], .int .i64 3]) (by simp [results, Try.results13, go_sem, cA]) rfl ⟨?_, rfl⟩
    exact ((((b0.out.setCell (Nat.le_refl _) _).setCell (Nat.le_refl _) _).setCell (Nat.le_refl _) _).setCell (Nat.le_refl _) _).setCell (Nat.le_refl _) _
  · refine bodyPost_ret (v := .tuple #[.agg #[.int .i64 0, .slice none 0 0, .slice none 0 0, .int .i64 0, .int .i64 0], .int .i64 3]) (by simp [results, Try.results13, go_sem, cA]) rfl ⟨?_, rfl⟩
    exact ((((b0.out.setCell (Nat.le_refl _) _).setCell (Nat.le_refl _) _).setCell (Nat.le_refl _) _).setCell (Nat.le_refl _) _).setCell (Nat.le_refl _) _
  · refine bodyPost_ret (v := .tuple #[.agg #[.int .i64 v, .slice p1 n1.length q1, .slice p2 n2.length q2, .int .i64 (numbered t0 t1 t2 t3), .int .i64 (numbered g0 g1 g2 g3)], .int .i64 0]) (by simp [results, Try.results13, go_sem, cA]) rfl ⟨?_, _, _, rfl, ?_, ?_⟩
    · exact ((((b0.out.setCell (Nat.le_refl _) _).setCell (Nat.le_refl _) _).setCell (Nat.le_refl _) _).setCell (Nat.le_refl _) _).setCell (Nat.le_refl _) _
    · exact own_base (ownsRow_setCell_below (ownsRow_setCell_below (ownsRow_setCell_below (ownsRow_setCell_below (ownsRow_setCell_below (own_below O1.out B5.out (Nat.le_refl _)) (show w.heap.size < _ by simp) _) (show w.heap.size < _ by simp) _) (show w.heap.size < _ by simp) _) (show w.heap.size < _ by simp) _) (show w.heap.size < _ by simp) _) (by simp)
    · exact own_base (ownsRow_setCell_below (ownsRow_setCell_below (ownsRow_setCell_below (ownsRow_setCell_below (ownsRow_setCell_below (own_below O2.out B5.out (Nat.le_refl _)) (show w.heap.size < _ by simp) _) (show w.heap.size < _ by simp) _) (show w.heap.size < _ by simp) _) (show w.heap.size < _ by simp) _) (show w.heap.size < _ by simp) _) (by simp)
end Go.Proofs.Ytaplndehoenghaa
