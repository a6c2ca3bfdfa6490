/- special.headed: a packet's first bytes: its version, both names, and what stands behind them. -/
import Derived.Test.YtaplndehoenghaaSpB
import Derived.Deep.RegionWith
import Derived.Deep.DrawnRows
namespace Go.Proofs.Ytaplndehoenghaa
open Go.RowKit
attribute [local go_sem ↓] Go.wp_at_zero Go.wp_at_succ

/-- What a call that fails hands back: five values, the last one false. -/
def HeadNo (e : Ending) : Prop := ∃ v0 v1 v2 v3, e = .returned (.tuple #[v0, v1, v2, v3, .bool false])

theorem headed_short (a : Option Addr) (m c : Nat) (first : Int) (w : World) (hl : m < 5) :
    Calls Try.prog 38 #[.slice a m c, .int .u8 first] w fun e w' => HeadNo e ∧ Below w.heap.size w w' := by
  have h5 : (m : Int) < 5 := by omega
  have d : decide ((m : Int) < 5) = true := by simp; omega
  go_enter Try.func38, Try.ntmps38
  go_wp2
  refine bodyPost_ret (v := .tuple #[.int .i64 0, .slice none 0 0, .slice none 0 0, .slice none 0 0, .bool false]) (by simp [results, Try.results38, go_sem]) rfl ?_
  exact ⟨⟨_, _, _, _, rfl⟩, (Below.refl _ _).alloc (Nat.le_refl _) _⟩

theorem headed_other (b o : Nat) (z first : Int) (m c : Nat) (w : World) (hl : 5 ≤ m) (hm : m ≤ 1000000) (hc : w.cell? ⟨b, o, none⟩ = some (.int .u8 z)) (hne : z ≠ first) :
    Calls Try.prog 38 #[.slice (some ⟨b, o, none⟩) m c, .int .u8 first] w fun e w' => HeadNo e ∧ Below w.heap.size w w' := by
  have d : ¬ m < 5 := by omega
  have d2 : (z == first) = false := by simp [hne]
  have d3 : (z != first) = true := by simp [hne]
  have d4 : (0 : Int) < m := by omega
  have hc' := (World.cell?_alloc_lt w (.cells #[.slice none 0 0] 22) ⟨b, o, none⟩ (World.block_lt_of_cell? w _ hc)).trans hc
  go_enter Try.func38, Try.ntmps38
  go_wp2
  refine bodyPost_ret (v := .tuple #[.int .i64 0, .slice none 0 0, .slice none 0 0, .slice none 0 0, .bool false]) (by simp [results, Try.results38, go_sem]) rfl ?_
  exact ⟨⟨_, _, _, _, rfl⟩, (Below.refl _ _).alloc (Nat.le_refl _) _⟩


/-- The four bytes behind the first. -/
theorem row_four {w : World} {B b o : Nat} {c : Nat} {f b0 b1 b2 b3 : Int} {rest : List Int} (hcap : rest.length + 5 ≤ c) (h : Row w B (some ⟨b, o, none⟩) (ints .u8 (f :: b0 :: b1 :: b2 :: b3 :: rest))) :
    Row w B (cutAt (some ⟨b, o, none⟩) 1 c) (ints .u8 [b0, b1, b2, b3]) ∧ Row w B (cutAt (some ⟨b, o, none⟩) 5 c) (ints .u8 rest) := by
  refine ⟨?_, ?_⟩
  · have := (h.cut 1 c (by simp; omega)).take 4
    simpa [ints] using this
  · have := h.cut 5 c (by simp; omega)
    simpa [ints] using this


set_option maxHeartbeats 4000000 in
theorem headed_core (b o : Nat) (first b0 b1 b2 b3 : Int) (rest : List Int) (c : Nat) (w : World) (hl : rest.length ≤ 1000000) (hcap : rest.length + 5 ≤ c)
    (hr : Row w w.heap.size (some ⟨b, o, none⟩) (ints .u8 (first :: b0 :: b1 :: b2 :: b3 :: rest))) (hu : IsU8 (first :: b0 :: b1 :: b2 :: b3 :: rest))
    (n1 l1 n2 l2 : List Int) (k1 k2 : Bool) (h1 : nameR rest = (n1, k1, l1)) (h2 : nameR l1 = (n2, k2, l2)) :
    Calls Try.prog 38 #[.slice (some ⟨b, o, none⟩) (rest.length + 5) c, .int .u8 first] w fun e w' => ∃ v1 v2 a' c',
      e = .returned (.tuple #[.int .i64 (quad b0 b1 b2 b3), v1, v2, .slice a' l2.length c', .bool (k1 && k2)]) ∧
      w'.ownsRow w.heap.size 5 1 v1 n1.length (ints .u8 n1) ∧ w'.ownsRow w.heap.size 5 1 v2 n2.length (ints .u8 n2) ∧
      Row w' w.heap.size a' (ints .u8 l2) ∧ l2.length ≤ c' ∧ Below w.heap.size w w' := by
  have d : ¬ rest.length + 5 < 5 := by omega
  have dI : ¬ (rest.length : Int) + 5 < 5 := by omega
  have d2 : (first == first) = true := by simp
  have d3 : (first != first) = false := by simp
  have d4 : (0 : Int) < rest.length + 5 := by omega
  have d5 : (rest.length : Int) + 5 ≤ c := by omega
  have d6 : (5 : Int) ≤ c := by omega
  have hu4 : IsU8 [b0, b1, b2, b3] := fun z hz => hu z (by simp at hz ⊢; omega)
  have hur : IsU8 rest := fun z hz => hu z (by simp; exact .inr (.inr (.inr (.inr (.inr hz)))))
  obtain ⟨_, hul, hll, _⟩ := nameR_u8 hur h1
  have hc : w.cell? ⟨b, o, none⟩ = some (.int .u8 first) := by simpa [Addr.add] using hr.adds 0 _ rfl
  have hc' := (World.cell?_alloc_lt w (.cells #[.slice none 0 0] 22) ⟨b, o, none⟩ (World.block_lt_of_cell? w _ hc)).trans hc
  obtain ⟨r4, r5⟩ := row_four hcap hr
  have R4 := Lib.hid r4; clear r4
  have R5 := Lib.hid r5; clear r5
  have HR := Lib.hid hr; clear hr
  have H1 := Lib.hid h1; clear h1
  have H2 := Lib.hid h2; clear h2
  have HU := Lib.hid hu; clear hu
  have HUL := Lib.hid hul; clear hul
  have HUR := Lib.hid hur; clear hur
  go_enter Try.func38, Try.ntmps38
  go_wp2_with fail
  have hbox := heap_alloc_new w (.cells #[.slice (cutAt (some ⟨b, o, none⟩) 5 c) rest.length (c - 5)] 22)
  have HB := Lib.hid hbox; clear hbox
  refine (name_any w.heap.size _ rest n1 l1 k1 _ _ _ rfl HB.out (by omega) (R5.out.alloc (Nat.le_refl _) _) HUR.out hl H1.out).mono ?_
  rintro e w1 ⟨v1, a1, c1, rfl, ho1, hb1, hr1, hc1, hk1⟩
  have HB1 := Lib.hid hb1; clear hb1
  have K1 := Lib.hid hk1; clear hk1
  have HO1 := Lib.hid ho1; clear ho1
  have HR1 := Lib.hid hr1; clear hr1
  go_wp2_with fail
  refine (name_any w.heap.size _ l1 n2 l2 k2 _ _ _ rfl HB1.out hc1 HR1.out HUL.out (by omega) H2.out).mono ?_
  rintro e w2 ⟨v2, a2, c2, rfl, ho2, hb2, hr2, hc2', hk2⟩
  have hc2 := box_cell hb2
  have hf2 := free_of_one hb2
  have hlt2 : w.heap.size < w2.heap.size := World.block_lt_of_cell? w2 ⟨w.heap.size, 0, none⟩ hc2
  have K2 := Lib.hid hk2; clear hk2
  have HB2 := Lib.hid hb2; clear hb2
  have HO2 := Lib.hid ho2; clear ho2
  have HR2 := Lib.hid hr2; clear hr2
  have ka : Kept (· = w.heap.size) w w2 := (((Kept.refl _ w).alloc _).trans K1.out).trans K2.out
  have KA := Lib.hid ka; clear ka
  have r42 : Row w2 w2.heap.size (cutAt (some ⟨b, o, none⟩) 1 c) (ints .u8 [b0, b1, b2, b3]) := (R4.out.kept KA.out (Nat.le_refl _) (fun k h1 (h2 : k = w.heap.size) => by omega)).more (by omega)
  have R42 := Lib.hid r42; clear r42
  have fin : ∀ (w9 : World) (u : Value) (hb9 : Below w2.heap.size w2 w9), (w9.setCell ⟨w.heap.size, 0, none⟩ u).ownsRow w.heap.size 5 1 v1 n1.length (ints .u8 n1) ∧ (w9.setCell ⟨w.heap.size, 0, none⟩ u).ownsRow w.heap.size 5 1 v2 n2.length (ints .u8 n2) ∧ Row (w9.setCell ⟨w.heap.size, 0, none⟩ u) w.heap.size a2 (ints .u8 l2) ∧ Below w.heap.size w (w9.setCell ⟨w.heap.size, 0, none⟩ u) := by
    intro w9 u hb9
    have o1 : w2.ownsRow (w.heap.size + 1) 5 1 v1 n1.length (ints .u8 n1) := by
      have := HO1.out
      simp only [World.size_alloc] at this
      exact own_kept this K2.out (fun k hk (h' : k = w.heap.size) => by have := (this.lt k hk).1; omega)
    have o2 : w2.ownsRow (w.heap.size + 1) 5 1 v2 n2.length (ints .u8 n2) := own_base HO2.out (by have := K1.out.size; simp at this; omega)
    have b9 : Below w.heap.size w w9 := Kept.below ((KA.out.andBelow hb9).mono (fun k h1 (h2 : k = w.heap.size) => by omega))
    have r9 : Row w9 w.heap.size a2 (ints .u8 l2) := HR2.out.kept (Kept.of_below' hb9 (fun _ => False)) (Nat.le_of_lt hlt2) (fun _ _ h => h)
    exact ⟨own_base (ownsRow_setCell_below (own_below o1 hb9 (Nat.le_refl _)) (Nat.lt_succ_self _) u) (Nat.le_succ _), own_base (ownsRow_setCell_below (own_below o2 hb9 (Nat.le_refl _)) (Nat.lt_succ_self _) u) (Nat.le_succ _), r9.setCell (p := ⟨w.heap.size, 0, none⟩) (Nat.le_refl _) u, b9.setCell (Nat.le_refl _) u⟩
  have FIN := Lib.hid fin; clear fin
  cases k1 <;> (go_wp2_with fail) <;> (first | go_region_with (go_at_call 41; refine (small_row b0 b1 b2 b3 _ _ _ _ rfl hu4 (by exact R42.out)).mono ?_; rintro e w9 ⟨rfl, hb9⟩; have hc9 := (hb9.cell (p := ⟨w.heap.size, 0, none⟩) hlt2).trans hc2; have hf9 := (hb9.frozen (p := ⟨w.heap.size, 0, none⟩) hlt2).trans hf2) | fail "no")
  all_goals go_wp2
  all_goals refine bodyPost_ret (v := .tuple #[.int .i64 (quad b0 b1 b2 b3), v1, v2, .slice a2 l2.length c2, .bool _]) (by simp [results, Try.results38, go_sem, hc9]; rfl) rfl ?_
  all_goals obtain ⟨f1, f2, f3, f4⟩ := FIN.out w9 (.slice a2 l2.length c2) (below_of_drew hb9)
  all_goals exact ⟨v1, v2, a2, c2, rfl, f1, f2, f3, hc2', f4⟩
end Go.Proofs.Ytaplndehoenghaa
