/- The closure that reads a name behind its length (special.headed). -/
import Derived.Test.YtaplndehoenghaaSpA
import Derived.Deep.QuietTactic
import Derived.BigQuiet
import Derived.RangeFuncBox
namespace Go.Proofs.Ytaplndehoenghaa
open Go.RowKit


theorem name_nil (R : Nat) (a : Option Addr) (c : Nat) (w : World) (hR : w.heap[R]? = some (.cells #[.slice a 0 c] 22 (0, 0))) :
    Calls Try.prog 63 #[.pointer (some ⟨R, 0, none⟩)] w fun e w' => e = .returned (.tuple #[.slice none 0 0, .bool false]) ∧ Kept (fun _ => False) w w' := by
  have hc := box_cell hR
  clear hR
  go_enter Try.func63, Try.ntmps63
  go_wp2
  go_quiet (fail)
  go_wp2
  go_ret2
  exact ⟨rfl, (Kept.refl _ _).drewN _⟩

theorem name_no (R b o : Nat) (z : Int) (rest : List Int) (c : Nat) (w : World) (hR : w.heap[R]? = some (.cells #[.slice (some ⟨b, o, none⟩) (rest.length + 1) c] 22 (0, 0)))
    (h0 : w.cell? ⟨b, o, none⟩ = some (.int .u8 z)) (hz : 0 ≤ z) (hz' : z < 256) (hl : rest.length ≤ 1000000) (hno : 20 < z ∨ rest.length < z) :
    Calls Try.prog 63 #[.pointer (some ⟨R, 0, none⟩)] w fun e w' => e = .returned (.tuple #[.slice none 0 0, .bool false]) ∧ Kept (fun _ => False) w w' := by
  have hc := box_cell hR
  clear hR
  have e0 : (((rest.length : Int) + 1) == 0) = false := by simp; omega
  have b0 : (0 : Int) < (rest.length : Int) + 1 := by omega
  by_cases h20 : 20 < z
  · have d : decide (20 < z) = true := by simp [h20]
    go_enter Try.func63, Try.ntmps63
    go_wp2
    go_quiet (fail)
    go_wp2
    go_ret2
    exact ⟨rfl, (Kept.refl _ _).drewN _⟩
  · have d : decide (20 < z) = false := by simp; omega
    have hlt : rest.length < z := by omega
    have d2 : decide ((rest.length : Int) < z) = true := by simp [hlt]
    go_enter Try.func63, Try.ntmps63
    go_wp2
    go_quiet (fail)
    go_wp2
    go_ret2
    exact ⟨rfl, (Kept.refl _ _).drewN _⟩

theorem name_yes (R b o n : Nat) (rest : List Int) (c : Nat) (w : World) (hR : w.heap[R]? = some (.cells #[.slice (some ⟨b, o, none⟩) (rest.length + 1) c] 22 (0, 0)))
    (hc : rest.length + 1 ≤ c) (hbR : b < R)
    (h0 : Row w R (some ⟨b, o, none⟩) (ints .u8 ((n : Int) :: rest))) (hn : n ≤ 20) (hl : rest.length ≤ 1000000) (hn' : n ≤ rest.length) :
    Calls Try.prog 63 #[.pointer (some ⟨R, 0, none⟩)] w fun e w' => ∃ v a' c', e = .returned (.tuple #[v, .bool true]) ∧
      w'.ownsRow w.heap.size 5 1 v n (ints .u8 (rest.take n)) ∧ w'.heap[R]? = some (.cells #[.slice a' (rest.drop n).length c'] 22 (0, 0)) ∧ Row w' R a' (ints .u8 (rest.drop n)) ∧ (rest.drop n).length ≤ c' ∧ Kept (· = R) w w' := by
  have hcell := box_cell hR
  have hz : w.cell? ⟨b, o, none⟩ = some (.int .u8 (n : Int)) := by simpa [Addr.add] using h0.adds 0 _ rfl
  have e0 : (((rest.length : Int) + 1) == 0) = false := by simp; omega
  have b0 : (0 : Int) < (rest.length : Int) + 1 := by omega
  have hn0 : (0 : Int) ≤ (n : Int) := by omega
  have hn1 : (n : Int) ≤ 20 := by omega
  have hn2 : (n : Int) ≤ (rest.length : Int) := by omega
  have d : decide (20 < (n : Int)) = false := by simp; omega
  have d2 : decide ((rest.length : Int) < (n : Int)) = false := by simp; omega
  have hcI : (rest.length : Int) + 1 ≤ (c : Int) := by omega
  have HR := Lib.hid hR; clear hR
  have H0 := Lib.hid h0; clear h0
  go_enter Try.func63, Try.ntmps63
  go_wp2
  go_quiet (fail)
  go_wp2_with fail
  have hd : Row (w.drewN nq) (w.drewN nq).heap.size (cutAt (some ⟨b, o, none⟩) 1 c) (ints .u8 (rest.take n)) := by
    have h1 := (H0.out.cut 1 c (by simp; omega)).take n
    rw [ints_drop, ints_take] at h1
    exact (h1.drewN nq).more (by have := World.block_lt_of_cell? w _ hcell; simpa using Nat.le_of_lt this)
  refine (clone_u8 _ (rest.take n) _ _ _ (by simp; omega) hd (by omega)).mono ?_
  rintro e w1 ⟨v, rfl, hown, hb1⟩
  have hR1 : w1.heap[R]? = some (.cells #[.slice (some ⟨b, o, none⟩) (rest.length + 1) c] 22 (0, 0)) := by
    rw [hb1.block R (by have := World.block_lt_of_cell? w _ hcell; simpa using this)]
    exact HR.out
  have hcell1 := box_cell hR1
  have hf1 := free_of_one hR1
  have hst := one_setCell (u := .slice (cutAt (some ⟨b, o, none⟩) (n + 1) c) (rest.length - n) (c - (n + 1))) hR1
  have HR1 := Lib.hid hR1; clear hR1
  have HS := Lib.hid hst; clear hst
  have HD := Lib.hid hd; clear hd
  go_wp2
  go_ret2
  have hk : Kept (· = R) w w1 := ((Kept.refl _ _).drewN nq).andBelow hb1
  refine ⟨v, cutAt (some ⟨b, o, none⟩) (n + 1) c, c - (n + 1), rfl, ?_, ?_, ?_, ?_, hk.setCell (.inl rfl) _⟩
  · have hlt := World.block_lt_of_cell? w _ hcell
    refine ownsRow_setCell_other hown ?_ _
    intro e
    have := (hown.lt _ e).1
    simp at this hlt
    omega
  · rw [HS.out]
    simp
  · have h1 := H0.out.cut (n + 1) c (by simp; omega)
    have h2 := (h1.drewN nq).kept (Kept.of_below' hb1 (fun _ => False)) (by have := World.block_lt_of_cell? w _ hcell; simpa using Nat.le_of_lt this) (by simp)
    have h3 := h2.setCell (p := ⟨R, 0, none⟩) (Nat.le_refl _) (.slice (cutAt (some ⟨b, o, none⟩) (n + 1) c) (rest.length - n) (c - (n + 1)))
    rw [ints_drop] at h3
    exact h3
  · simp
    omega
/-- A name behind its length, and what stands behind it. -/
def cutName : List Int → Option (List Int × List Int)
  | [] => none
  | z :: rest => if 20 < z ∨ (rest.length : Int) < z then none else some (rest.take z.toNat, rest.drop z.toNat)

theorem name_fails (R : Nat) (a : Option Addr) (zs : List Int) (m c : Nat) (w : World) (hm : zs.length = m) (hR : w.heap[R]? = some (.cells #[.slice a m c] 22 (0, 0)))
    (h0 : Row w R a (ints .u8 zs)) (hu : IsU8 zs) (hl : m ≤ 1000000) (hn : cutName zs = none) :
    Calls Try.prog 63 #[.pointer (some ⟨R, 0, none⟩)] w fun e w' => e = .returned (.tuple #[.slice none 0 0, .bool false]) ∧ Kept (fun _ => False) w w' := by
  subst hm
  rcases zs with _ | ⟨z, rest⟩
  · exact name_nil R a c w hR
  · obtain ⟨b, o, rfl, _, hc⟩ := h0.ints (by simp)
    have hz := hu z (by simp)
    refine name_no R b o z rest c w hR (by simpa using hc 0 (by simp)) hz.1 hz.2 (by simp at hl; omega) ?_
    simp only [cutName] at hn
    split at hn
    · assumption
    · cases hn

theorem name_reads (R : Nat) (a : Option Addr) (zs nm left : List Int) (m c : Nat) (w : World) (hm : zs.length = m) (hR : w.heap[R]? = some (.cells #[.slice a m c] 22 (0, 0)))
    (hcap : m ≤ c) (h0 : Row w R a (ints .u8 zs)) (hu : IsU8 zs) (hl : m ≤ 1000000) (hn : cutName zs = some (nm, left)) :
    Calls Try.prog 63 #[.pointer (some ⟨R, 0, none⟩)] w fun e w' => ∃ v a' c', e = .returned (.tuple #[v, .bool true]) ∧
      w'.ownsRow w.heap.size 5 1 v nm.length (ints .u8 nm) ∧ w'.heap[R]? = some (.cells #[.slice a' left.length c'] 22 (0, 0)) ∧ Row w' R a' (ints .u8 left) ∧ left.length ≤ c' ∧ Kept (· = R) w w' := by
  subst hm
  rcases zs with _ | ⟨z, rest⟩
  · cases hn
  · obtain ⟨b, o, rfl, hb, _⟩ := h0.ints (by simp)
    have hz := hu z (by simp)
    obtain ⟨n, rfl⟩ := Int.eq_ofNat_of_zero_le hz.1
    simp only [cutName] at hn
    split at hn
    · cases hn
    · rename_i hno
      simp only [Int.toNat_natCast, Option.some.injEq, Prod.mk.injEq] at hn
      obtain ⟨rfl, rfl⟩ := hn
      simp at hl hcap
      have := name_yes R b o n rest c w hR hcap hb h0 (by omega) (by omega) (by omega)
      rwa [show (rest.take n).length = n from by simp; omega]

theorem cutName_u8 {zs nm left : List Int} (hu : IsU8 zs) (h : cutName zs = some (nm, left)) : IsU8 nm ∧ IsU8 left ∧ left.length < zs.length ∧ nm.length ≤ 20 := by
  rcases zs with _ | ⟨z, rest⟩
  · cases h
  · simp only [cutName] at h
    split at h
    · cases h
    · simp only [Option.some.injEq, Prod.mk.injEq] at h
      obtain ⟨rfl, rfl⟩ := h
      refine ⟨fun x hx => hu x (by simp; exact .inr (List.mem_of_mem_take hx)), fun x hx => hu x (by simp; exact .inr (List.mem_of_mem_drop hx)), by simp; omega, by simp; omega⟩
/-- The name, whether there is one, and what is left. -/
def nameR (zs : List Int) : List Int × Bool × List Int := match cutName zs with
  | none => ([], false, zs)
  | some (nm, left) => (nm, true, left)

theorem name_any (R : Nat) (a : Option Addr) (zs nm left : List Int) (ok : Bool) (m c : Nat) (w : World) (hm : zs.length = m) (hR : w.heap[R]? = some (.cells #[.slice a m c] 22 (0, 0)))
    (hcap : m ≤ c) (h0 : Row w R a (ints .u8 zs)) (hu : IsU8 zs) (hl : m ≤ 1000000) (hn : nameR zs = (nm, ok, left)) :
    Calls Try.prog 63 #[.pointer (some ⟨R, 0, none⟩)] w fun e w' => ∃ v a' c', e = .returned (.tuple #[v, .bool ok]) ∧
      w'.ownsRow w.heap.size 5 1 v nm.length (ints .u8 nm) ∧ w'.heap[R]? = some (.cells #[.slice a' left.length c'] 22 (0, 0)) ∧ Row w' R a' (ints .u8 left) ∧ left.length ≤ c' ∧ Kept (· = R) w w' := by
  simp only [nameR] at hn
  split at hn
  · rename_i h
    simp only [Prod.mk.injEq] at hn
    obtain ⟨rfl, rfl, rfl⟩ := hn
    refine (name_fails R a zs m c w hm hR h0 hu hl h).mono ?_
    rintro e w' ⟨rfl, hk⟩
    have hlt := World.block_lt_of_cell? w ⟨R, 0, none⟩ (box_cell hR)
    refine ⟨_, a, c, rfl, World.ownsRow_nil _ _ _ _, ?_, h0.kept hk (by simpa using Nat.le_of_lt hlt) (fun _ _ h => h), by omega, hk.mono (fun _ _ h => h.elim)⟩
    rw [hk.block R hlt (fun h => h), hm]
    exact hR
  · rename_i nm' left' h
    simp only [Prod.mk.injEq] at hn
    obtain ⟨rfl, rfl, rfl⟩ := hn
    exact name_reads R a zs _ _ m c w hm hR hcap h0 hu hl h

theorem nameR_u8 {zs nm left : List Int} {ok : Bool} (hu : IsU8 zs) (h : nameR zs = (nm, ok, left)) : IsU8 nm ∧ IsU8 left ∧ left.length ≤ zs.length ∧ nm.length ≤ 20 := by
  simp only [nameR] at h
  split at h
  · simp only [Prod.mk.injEq] at h
    obtain ⟨rfl, rfl, rfl⟩ := h
    exact ⟨fun _ hx => by simp at hx, hu, Nat.le_refl _, by simp⟩
  · rename_i hc
    simp only [Prod.mk.injEq] at h
    obtain ⟨rfl, rfl, rfl⟩ := h
    have := cutName_u8 hu hc
    exact ⟨this.1, this.2.1, by omega, this.2.2.2⟩
end Go.Proofs.Ytaplndehoenghaa
