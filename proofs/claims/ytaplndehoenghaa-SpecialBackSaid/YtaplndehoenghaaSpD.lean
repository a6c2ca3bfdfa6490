/- special.headed, whole: what it reads of any bytes. -/
import Derived.Test.YtaplndehoenghaaSpC
namespace Go.Proofs.Ytaplndehoenghaa
open Go.RowKit
set_option linter.unusedVariables false

/-- A packet's first bytes: its version, both names, what stands behind them. -/
def headR (first : Int) : List Int → Option (Int × List Int × List Int × List Int)
  | f :: b0 :: b1 :: b2 :: b3 :: rest =>
    if f = first then
      match cutName rest with
      | none => none
      | some (n1, l1) =>
        match cutName l1 with
        | none => none
        | some (n2, l2) => some (quad b0 b1 b2 b3, n1, n2, l2)
    else none
  | _ => none

theorem length_five {zs : List Int} (h : 5 ≤ zs.length) : ∃ f b0 b1 b2 b3 rest, zs = f :: b0 :: b1 :: b2 :: b3 :: rest := by
  match zs, h with
  | f :: b0 :: b1 :: b2 :: b3 :: rest, _ => exact ⟨f, b0, b1, b2, b3, rest, rfl⟩

theorem headed_no (first : Int) (a : Option Addr) (zs : List Int) (m c : Nat) (w : World) (hm : zs.length = m) (hc : m ≤ c) (hl : m ≤ 1000000)
    (hr : Row w w.heap.size a (ints .u8 zs)) (hu : IsU8 zs) (hn : headR first zs = none) :
    Calls Try.prog 38 #[.slice a m c, .int .u8 first] w fun e w' => HeadNo e ∧ Below w.heap.size w w' := by
  rcases Nat.lt_or_ge m 5 with h5 | h5
  · exact headed_short a m c first w h5
  · obtain ⟨f, b0, b1, b2, b3, rest, rfl⟩ := length_five (zs := zs) (by omega)
    obtain ⟨b, o, rfl, _, hcell⟩ := hr.ints (by simp)
    have h0 : w.cell? ⟨b, o, none⟩ = some (.int .u8 f) := by simpa using hcell 0 (by simp)
    by_cases hf : f = first
    · subst hf
      simp at hm
      subst hm
      obtain ⟨⟨n1, k1, l1⟩, h1⟩ : ∃ x, nameR rest = x := ⟨_, rfl⟩
      obtain ⟨⟨n2, k2, l2⟩, h2⟩ : ∃ x, nameR l1 = x := ⟨_, rfl⟩
      refine (headed_core b o f b0 b1 b2 b3 rest c w (by omega) hc hr hu n1 l1 n2 l2 k1 k2 h1 h2).mono ?_
      rintro e w' ⟨v1, v2, a', c', rfl, _, _, _, _, hb⟩
      have hk : (k1 && k2) = false := by
        simp only [headR, if_true] at hn
        simp only [nameR] at h1
        split at h1
        · simp only [Prod.mk.injEq] at h1
          rw [← h1.2.1]; rfl
        · rename_i nm left hc1
          simp only [Prod.mk.injEq] at h1
          obtain ⟨rfl, rfl, rfl⟩ := h1
          rw [hc1] at hn
          simp only [nameR] at h2
          split at h2
          · simp only [Prod.mk.injEq] at h2
            rw [← h2.2.1]; rfl
          · rename_i hc2
            simp [hc2] at hn
      exact ⟨⟨.int .i64 (quad b0 b1 b2 b3), v1, v2, .slice a' l2.length c', by rw [hk]⟩, hb⟩
    · exact headed_other b o f first m c w h5 hl h0 hf

theorem headed_yes (first : Int) (a : Option Addr) (zs : List Int) (m c : Nat) (w : World) (hm : zs.length = m) (hc : m ≤ c) (hl : m ≤ 1000000)
    (hr : Row w w.heap.size a (ints .u8 zs)) (hu : IsU8 zs) (v : Int) (n1 n2 left : List Int) (hn : headR first zs = some (v, n1, n2, left)) :
    Calls Try.prog 38 #[.slice a m c, .int .u8 first] w fun e w' => ∃ v1 v2 a' c',
      e = .returned (.tuple #[.int .i64 v, v1, v2, .slice a' left.length c', .bool true]) ∧
      w'.ownsRow w.heap.size 5 1 v1 n1.length (ints .u8 n1) ∧ w'.ownsRow w.heap.size 5 1 v2 n2.length (ints .u8 n2) ∧
      Row w' w.heap.size a' (ints .u8 left) ∧ left.length ≤ c' ∧ Below w.heap.size w w' := by
  rcases zs with _ | ⟨f, _ | ⟨b0, _ | ⟨b1, _ | ⟨b2, _ | ⟨b3, rest⟩⟩⟩⟩⟩ <;> simp only [headR] at hn
  · cases hn
  · cases hn
  · cases hn
  · cases hn
  · cases hn
  · split at hn
    · rename_i hf
      subst hf
      cases h1 : cutName rest with
      | none => simp [h1] at hn
      | some p =>
        obtain ⟨x1, y1⟩ := p
        simp only [h1] at hn
        cases h2 : cutName y1 with
        | none => simp [h2] at hn
        | some q =>
          obtain ⟨x2, y2⟩ := q
          simp only [h2, Option.some.injEq, Prod.mk.injEq] at hn
          obtain ⟨rfl, rfl, rfl, rfl⟩ := hn
          simp at hm
          subst hm
          obtain ⟨b, o, rfl, _, _⟩ := hr.ints (by simp)
          exact headed_core b o f b0 b1 b2 b3 rest c w (by omega) hc hr hu x1 y1 x2 y2 true true (by simp [nameR, h1]) (by simp [nameR, h2])
    · cases hn

theorem headR_u8 {first : Int} {zs : List Int} {v : Int} {n1 n2 left : List Int} (hu : IsU8 zs) (hn : headR first zs = some (v, n1, n2, left)) :
    IsU8 n1 ∧ IsU8 n2 ∧ IsU8 left ∧ left.length ≤ zs.length ∧ n1.length ≤ 20 ∧ n2.length ≤ 20 ∧ 0 ≤ v ∧ v < 4294967296 := by
  rcases zs with _ | ⟨f, _ | ⟨b0, _ | ⟨b1, _ | ⟨b2, _ | ⟨b3, rest⟩⟩⟩⟩⟩ <;> simp only [headR] at hn
  · cases hn
  · cases hn
  · cases hn
  · cases hn
  · cases hn
  · split at hn
    · cases h1 : cutName rest with
      | none => simp [h1] at hn
      | some p =>
        obtain ⟨x1, y1⟩ := p
        simp only [h1] at hn
        cases h2 : cutName y1 with
        | none => simp [h2] at hn
        | some q =>
          obtain ⟨x2, y2⟩ := q
          simp only [h2, Option.some.injEq, Prod.mk.injEq] at hn
          obtain ⟨rfl, rfl, rfl, rfl⟩ := hn
          have u1 := cutName_u8 (fun z hz => hu z (by simp; exact .inr (.inr (.inr (.inr (.inr hz)))))) h1
          have u2 := cutName_u8 u1.2.1 h2
          have q := quad_bd b0 b1 b2 b3 (fun z hz => hu z (by simp at hz ⊢; omega))
          exact ⟨u1.1, u2.1, u2.2.1, by simp; omega, u1.2.2.2, u2.2.2.2, q.1, q.2⟩
    · cases hn
end Go.Proofs.Ytaplndehoenghaa
