/- slices.Sort, slices.Compact, slices.ContainsFunc, bytes.Equal and slices.Equal, in this seat's words. -/
import Derived.Test.YtaplndehoenghaaDoorCloneI
import Derived.Test.YtaplndehoenghaaDoorShelf
import Derived.Lib.OwnBridge
import Derived.Lib.SortBridge
import Derived.Deep.QuietTactic
import Derived.BigQuiet
namespace Go.Proofs.YtaplndehoenghaaDoor
open Go.RowKit Go.Lib Go.Sort
set_option linter.unusedVariables false

/-- Sorted. -/
def sorted (zs : List Int) : List Int := zs.mergeSort fun x y => decide (x ≤ y)
theorem sorted_perm (zs : List Int) : (sorted zs).Perm zs := List.mergeSort_perm _ _
theorem sorted_len (zs : List Int) : (sorted zs).length = zs.length := (sorted_perm zs).length_eq
theorem sorted_le (zs : List Int) : (sorted zs).Pairwise (· ≤ ·) := by
  have := List.pairwise_mergeSort (le := fun (x y : Int) => decide (x ≤ y)) (by intro a b c; simp; omega) (by intro a b; simp; omega) zs
  exact this.imp (by simp)

theorem grow_below {w : World} {os : Array Obj} : Below w.heap.size w (grow w os) :=
  ⟨rfl, rfl, rfl, by simp [grow], fun k hk => by simp [grow, Array.getElem?_append, hk]⟩

theorem sort_copy (zs : List Int) (m n0 : Nat) (v : Value) (w : World) (hm : zs.length = m) (hl : m ≤ 1000000) (h : IsCopy n0 3 .i64 m zs v w) :
    Calls Tryd.prog 22 #[v] w fun e w' => e = .returned (.tuple #[]) ∧ IsCopy n0 3 .i64 m (sorted zs) v w' ∧ Kept (fun k => v.ownBlock = some k) w w' := by
  by_cases h0 : m = 0
  · subst h0
    obtain rfl : zs = [] := List.eq_nil_of_length_eq_zero hm
    obtain ⟨p, q, rfl, hq, ho⟩ := h
    refine (Tryd.slices_Sort_int_none p q w).mono ?_
    rintro e w' ⟨rfl, rfl⟩
    exact ⟨rfl, ⟨p, q, rfl, hq, by simpa [sorted] using ho⟩, Kept.refl _ _⟩
  · obtain ⟨p, q, rfl, hq, ho⟩ := h
    obtain ⟨g, cap, hv, -⟩ := ho.form (by omega)
    injection hv with h1
    subst h1
    obtain ⟨g', cap', hv', _, _, _, _, _, hH⟩ := holds_of_ownsRow (enc := Value.int .i64) ho (by simp)
    obtain rfl : g = g' := by injection hv' with h1; injection h1 with h1; injection h1
    subst hm
    refine (Tryd.slices_Sort_int g 0 q zs w hH (ho.lt g rfl).2 (by omega)).mono ?_
    rintro e w' ⟨rfl, n, os, rfl⟩
    have := ownsRow_putRow (enc := Value.int .i64) (q := n) (k := zs.length) (ys := sorted zs) ho (sorted_len zs) (Nat.le_refl _)
    rw [List.take_of_length_le (by rw [sorted_len]; exact Nat.le_refl _)] at this
    have hk : Kept (fun k => (Value.slice (some ⟨g, 0, none⟩) zs.length q).ownBlock = some k) w (putRow (Value.int .i64) (Sort.ahead w n) g 0 (sorted zs).toArray) :=
      ⟨rfl, rfl, rfl, by simp [putRow, mapBlock, Sort.ahead], fun k hk hn => by
        have : g ≠ k := fun e => hn (by rw [e]; rfl)
        simp [putRow, mapBlock, Sort.ahead, Array.getElem?_modify, this]⟩
    refine ⟨rfl, ⟨_, q, rfl, hq, ?_⟩, hk.andBelow (grow_below (os := os))⟩
    exact own_kept (S := fun _ => False) this (Kept.of_below' grow_below _) (fun _ _ h => h)

theorem compact_len (zs : List Int) (hs : zs.Pairwise (· ≤ ·)) : (compact zs).length = zs.length ↔ zs.Nodup := by
  have hk : (compact zs).length = ((List.range zs.length).filter (keeps zs.toArray)).length := by simp [compact, compactUpTo]
  rw [hk]
  have hget : ∀ j, j < zs.length → zs.toArray[j]! = zs[j]?.getD 0 := fun j hj => by simp [getElem!_pos, hj]
  constructor
  · intro h
    have hall : ∀ j ∈ List.range zs.length, keeps zs.toArray j = true := by
      have := List.length_filter_eq_length_iff.1 (h.trans List.length_range.symm)
      exact this
    have hadj : ∀ j, j + 1 < zs.length → zs[j]?.getD 0 ≠ zs[j + 1]?.getD 0 := fun j hj => by
      have := hall (j + 1) (List.mem_range.2 hj)
      simp only [keeps, decide_eq_true_eq] at this
      rcases this with h | h
      · omega
      · rw [hget _ hj, show j + 1 - 1 = j by omega, hget _ (by omega)] at h
        exact fun e => h e.symm
    rw [List.nodup_iff_pairwise_ne, List.pairwise_iff_getElem]
    intro i j hi hj hij
    have hle := List.pairwise_iff_getElem.1 hs
    have h1 := hadj i (by omega)
    rw [List.getElem?_eq_getElem (by omega), List.getElem?_eq_getElem (by omega)] at h1
    simp only [Option.getD_some] at h1
    have h2 := hle i (i + 1) (by omega) (by omega) (by omega)
    rcases Nat.lt_or_ge (i + 1) j with hlt | hge
    · have h3 := hle (i + 1) j (by omega) hj hlt
      omega
    · obtain rfl : j = i + 1 := by omega
      exact h1
  · intro h
    rw [List.filter_eq_self.2, List.length_range]
    intro j hj
    simp only [keeps, decide_eq_true_eq]
    rcases Nat.eq_zero_or_pos j with h0 | h0
    · exact .inl h0
    · right
      have hj' := List.mem_range.1 hj
      rw [hget j hj', hget (j - 1) (by omega), List.getElem?_eq_getElem hj', List.getElem?_eq_getElem (by omega)]
      simp only [Option.getD_some]
      have := (List.pairwise_iff_getElem.1 (List.nodup_iff_pairwise_ne.1 h)) (j - 1) j (by omega) hj' (by omega)
      exact fun e => this e.symm

theorem compact_copy (zs : List Int) (m n0 : Nat) (v : Value) (w : World) (hm : zs.length = m) (hl : m ≤ 1000000) (h : IsCopy n0 3 .i64 m zs v w) :
    Calls Tryd.prog 28 #[v] w fun e w' => ∃ a c, e = .returned (.slice a (compact zs).length c) ∧ Kept (fun k => v.ownBlock = some k) w w' := by
  by_cases h0 : m = 0
  · subst h0
    obtain rfl : zs = [] := List.eq_nil_of_length_eq_zero hm
    obtain ⟨p, q, rfl, hq, ho⟩ := h
    refine (Tryd.slices_Compact_int_empty p q w).mono ?_
    rintro e w' ⟨rfl, rfl⟩
    exact ⟨p, q, rfl, Kept.refl _ _⟩
  · obtain ⟨p, q, rfl, hq, ho⟩ := h
    obtain ⟨g, cap, hv, -⟩ := ho.form (by omega)
    injection hv with h1
    subst h1
    obtain ⟨g', cap', hv', _, _, _, _, _, hH⟩ := holds_of_ownsRow (enc := Value.int .i64) ho (by simp)
    obtain rfl : g = g' := by injection hv' with h1; injection h1 with h1; injection h1
    subst hm
    refine (Tryd.slices_Compact_int g 0 q zs w hH (by omega) hq).mono ?_
    rintro e w' ⟨rfl, n, rfl⟩
    exact ⟨_, q, rfl, ⟨rfl, rfl, rfl, by simp [putRow, mapBlock, Sort.ahead], fun k hk hn => by
        have : g ≠ k := fun e => hn (by rw [e]; rfl)
        simp [putRow, mapBlock, Sort.ahead, Array.getElem?_modify, this]⟩⟩

theorem version_any (n : Int) (w : World) :
    Calls Tryd.prog 24 #[.int .i64 n] w fun e w' => e = .returned (.bool (decide (1 ≤ n ∧ n < 4294967296))) ∧ w = w' := by
  by_cases h : 1 ≤ n
  · go_enter Tryd.func24, Tryd.ntmps24
    go_wp2
    go_ret
    exact ⟨by simp [h], rfl⟩
  · have h' : ¬ (1 ≤ n ∧ n < 4294967296) := by omega
    go_enter Tryd.func24, Tryd.ntmps24
    go_wp2
    go_ret
    exact ⟨by simp [h'], rfl⟩
theorem noVersion_any (n : Int) (w : World) :
    Calls Tryd.prog 27 #[.int .i64 n] w fun e w' => e = .returned (.bool (!decide (1 ≤ n ∧ n < 4294967296))) ∧ w = w' := by
  go_enter Tryd.func27, Tryd.ntmps27
  go_wp2_with fail
  refine (version_any _ _).mono ?_
  rintro e w' ⟨rfl, rfl⟩
  obtain ⟨b, hb⟩ : ∃ b, decide (1 ≤ n ∧ n < 4294967296) = b := ⟨_, rfl⟩
  rw [hb]
  have HB := Lib.hid hb; clear hb
  go_wp2
  go_ret
  refine ⟨?_, rfl⟩
  show Ending.returned (.bool (!b)) = _
  rw [← HB.out]

/-- Where the first wrong number is; -1: nowhere. -/
def wrongAt (zs : List Int) : Int := match zs.findIdx? (fun z => !decide (1 ≤ z ∧ z < 4294967296)) with | some i => (i : Int) | none => -1

theorem index_any (zs : List Int) (a : Option Addr) (m c B : Nat) (w : World) (hm : zs.length = m) (hl : m ≤ 1000000) (h : Row w B a (ints .i64 zs)) :
    Calls Tryd.prog 39 #[.slice a m c, .func (.func 27) #[] #[]] w fun e w' => e = .returned (.int .i64 (wrongAt zs)) ∧ w = w' := by
  have HM := Lib.hid hm; clear hm
  have HR := Lib.hid h; clear h
  go_enter Tryd.func39, Tryd.ntmps39
  go_wp2
  go_loopw [5, 8] (fun _ i wr => ∃ k : Nat, k ≤ m ∧ i = .int .i64 k ∧ (∀ z ∈ zs.take k, 1 ≤ z ∧ z < 4294967296) ∧ w = wr) (fun _ i _ => m - (intOf i).toNat)
  case atStart => exact ⟨0, Nat.zero_le _, rfl, by simp, rfl⟩
  case round =>
    obtain ⟨k, hk, rfl, hall, rfl⟩ := hrel
    have HA := Lib.hid hall; clear hall
    by_cases hlt : k < m
    · obtain ⟨b1, o1, rfl, _, r1⟩ := HR.out.ints (by intro e; have := HM.out; rw [e] at this; simp at this; omega)
      obtain ⟨z, hz⟩ : ∃ z, zs[k]? = some z := ⟨_, List.getElem?_eq_getElem (by have := HM.out; omega)⟩
      have x1 : w.cell? ⟨b1, o1 + k, none⟩ = some (.int .i64 z) := by
        have := r1 k (by have := HM.out; omega)
        rwa [hz] at this
      have hzt : zs.take (k + 1) = zs.take k ++ [z] := by rw [List.take_add_one, hz]; rfl
      have i1 : (k : Int) < (m : Int) := by omega
      have HZ := Lib.hid hz; clear hz
      have HZT := Lib.hid hzt; clear hzt
      clear r1
      go_wp2_with fail
      refine (noVersion_any z _).mono ?_
      rintro e w' ⟨rfl, rfl⟩
      by_cases hv : 1 ≤ z ∧ z < 4294967296
      · rw [decide_eq_true hv]
        have HV := Lib.hid hv; clear hv
        go_wp2
        go_roundw
        case rel =>
          refine ⟨k + 1, by omega, by simp, ?_, trivial⟩
          intro x hx
          rw [HZT.out] at hx
          rcases List.mem_append.1 hx with hx | hx
          · exact HA.out x hx
          · rw [List.mem_singleton.1 hx]; exact HV.out
        case measure => simp [intOf]; omega
      · rw [decide_eq_false hv]
        have HV := Lib.hid hv; clear hv
        go_wp2
        go_ret
        refine ⟨?_, rfl⟩
        have e1 : zs.findIdx? (fun z => !decide (1 ≤ z ∧ z < 4294967296)) = some k := by
          rw [List.findIdx?_eq_some_iff_getElem]
          obtain ⟨hlt2, hget⟩ := List.getElem?_eq_some_iff.1 HZ.out
          refine ⟨hlt2, by rw [hget, decide_eq_false HV.out]; rfl, fun j hj => ?_⟩
          have := HA.out zs[j] (List.mem_take_iff_getElem.2 ⟨j, by omega, rfl⟩)
          simp [this]
        show Ending.returned (.int .i64 (k : Int)) = _
        unfold wrongAt
        rw [e1]
    · have i1 : ¬ (k : Int) < (m : Int) := by omega
      go_wp2
      go_ret
      refine ⟨?_, rfl⟩
      have hkN : zs.take k = zs := List.take_of_length_le (by have := HM.out; omega)
      have hall := HA.out
      rw [hkN] at hall
      have e1 : zs.findIdx? (fun z => !decide (1 ≤ z ∧ z < 4294967296)) = none := by
        rw [List.findIdx?_eq_none_iff]
        intro x hx
        simp [hall x hx]
      show Ending.returned (.int .i64 (-1)) = _
      unfold wrongAt
      rw [e1]

theorem contains_any (zs : List Int) (a : Option Addr) (m c B : Nat) (w : World) (hm : zs.length = m) (hl : m ≤ 1000000) (h : Row w B a (ints .i64 zs)) :
    Calls Tryd.prog 26 #[.slice a m c, .func (.func 27) #[] #[]] w fun e w' => e = .returned (.bool (!decide (∀ z ∈ zs, 1 ≤ z ∧ z < 4294967296))) ∧ w = w' := by
  have e2 : (!decide (∀ z ∈ zs, 1 ≤ z ∧ z < 4294967296)) = decide (0 ≤ wrongAt zs) := by
    unfold wrongAt
    rcases hf : zs.findIdx? (fun z => !decide (1 ≤ z ∧ z < 4294967296)) with _ | i
    · rw [List.findIdx?_eq_none_iff] at hf
      have : ∀ z ∈ zs, 1 ≤ z ∧ z < 4294967296 := fun z hz => by simpa using hf z hz
      rw [decide_eq_true this]
      rfl
    · obtain ⟨hlt, hp, _⟩ := List.findIdx?_eq_some_iff_getElem.1 hf
      have : ¬ ∀ z ∈ zs, 1 ≤ z ∧ z < 4294967296 := fun h => by
        have := h zs[i] (List.getElem_mem hlt)
        simp [this] at hp
      rw [decide_eq_false this]
      simp
  rw [e2]
  clear e2
  obtain ⟨r, hr⟩ : ∃ r, wrongAt zs = r := ⟨_, rfl⟩
  have C := Lib.hid (index_any zs a m c B w hm hl h)
  rw [hr] at C
  rw [hr]
  clear hr hm h
  go_enter Tryd.func26, Tryd.ntmps26
  go_wp2_with fail
  refine C.out.mono ?_
  rintro e w' ⟨rfl, rfl⟩
  go_wp2
  go_ret
  exact ⟨rfl, rfl⟩
end Go.Proofs.YtaplndehoenghaaDoor
