/- special.WriteList of any list; the bytes that are written, read. -/
import Derived.Test.YtaplndehoenghaaWRetry
namespace Go.Proofs.Ytaplndehoenghaa
open Go.RowKit
set_option linter.unusedVariables false
attribute [local go_sem ↓] app_hide

/-- A list's bytes, or none. -/
def listTT (xs ys vs : List Int) : List Int := if 20 < xs.length ∨ 20 < ys.length ∨ vs.length < 1 ∨ 16 < vs.length ∨ ¬ (∀ x ∈ vs, 1 ≤ x ∧ x < 4294967296) then [] else listW xs ys vs

theorem listTT_good {xs ys vs : List Int} (h : listTT xs ys vs ≠ []) : (xs.length ≤ 20 ∧ ys.length ≤ 20 ∧ 1 ≤ vs.length ∧ vs.length ≤ 16) ∧ (∀ x ∈ vs, 1 ≤ x ∧ x < 4294967296) ∧ listTT xs ys vs = listW xs ys vs := by
  unfold listTT at h ⊢
  split at h
  · exact absurd rfl h
  · rename_i h2
    rw [if_neg h2]
    have h3 : ∀ x ∈ vs, 1 ≤ x ∧ x < 4294967296 := Decidable.byContradiction fun h3 => h2 (.inr (.inr (.inr (.inr h3))))
    exact ⟨⟨by omega, by omega, by omega, by omega⟩, h3, rfl⟩
theorem listTT_back {xs ys vs : List Int} (h : listTT xs ys vs ≠ []) (hx : IsU8 xs) (hy : IsU8 ys) : listT (listTT xs ys vs) = (xs, ys, vs, true) ∧ retryT (listTT xs ys vs) = (0, [], [], 0, 0, false) ∧ IsU8 (listTT xs ys vs) := by
  obtain ⟨⟨h1, h2, h3, h4⟩, h5, h6⟩ := listTT_good h
  rw [h6]
  exact ⟨listT_own xs ys vs h1 h2 h3 h4 h5, retryT_list xs ys vs, listW_u8 xs ys vs hx hy h1 h2⟩
theorem listTT_len (xs ys vs : List Int) : (listTT xs ys vs).length ≤ 1000 := by
  by_cases h : listTT xs ys vs = []
  · rw [h]; simp
  · obtain ⟨⟨h1, h2, h3, h4⟩, h5, h6⟩ := listTT_good h
    rw [h6, listW, List.length_append, flat_four_len]
    simp [headW, four]
    omega

theorem retryTT_good {v : Int} {xs ys : List Int} {t g : Int} (h : retryTT v xs ys t g ≠ []) : (xs.length ≤ 20 ∧ ys.length ≤ 20) ∧ (1 ≤ v ∧ v < 4294967296) ∧ (1 ≤ t ∧ t ≤ 65536) ∧ (1 ≤ g ∧ g ≤ 65536) ∧ retryTT v xs ys t g = retryW v xs ys t g := by
  unfold retryTT at h ⊢
  split at h
  · exact absurd rfl h
  · rename_i h2
    rw [if_neg h2]
    have hb : bodyT v xs ys t ≠ [] := fun e => h2 (.inl e)
    have hg : numT g ≠ [] := fun e => h2 (.inr e)
    have hg2 : 1 ≤ g ∧ g ≤ 65536 := by
      unfold numT at hg
      split at hg
      · exact absurd rfl hg
      · omega
    unfold bodyT at hb ⊢
    split at hb
    · exact absurd rfl hb
    · rename_i h3
      rw [if_neg h3]
      have hh : headT 240 v xs ys ≠ [] := fun e => h3 (.inl e)
      have ht : numT t ≠ [] := fun e => h3 (.inr (.inl e))
      have hv : 1 ≤ v ∧ v < 4294967296 := Decidable.byContradiction fun e => h3 (.inr (.inr e))
      have ht2 : 1 ≤ t ∧ t ≤ 65536 := by
        unfold numT at ht
        split at ht
        · exact absurd rfl ht
        · omega
      have hx : xs.length ≤ 20 ∧ ys.length ≤ 20 := by
        unfold headT at hh
        split at hh
        · exact absurd rfl hh
        · omega
      exact ⟨hx, hv, ht2, hg2, by simp [retryW]⟩
theorem retryTT_back {v : Int} {xs ys : List Int} {t g : Int} (h : retryTT v xs ys t g ≠ []) (hx : IsU8 xs) (hy : IsU8 ys) :
    retryT (retryTT v xs ys t g) = (v, xs, ys, t, g, true) ∧ listT (retryTT v xs ys t g) = ([], [], [], false) ∧ IsU8 (retryTT v xs ys t g) := by
  obtain ⟨⟨h1, h2⟩, h3, h4, h5, h6⟩ := retryTT_good h
  rw [h6]
  exact ⟨retryT_own v xs ys t g h1 h2 h3 h4 h5, listT_retry v xs ys t g, retryW_u8 v xs ys t g hx hy h1 h2⟩
theorem retryTT_len (v : Int) (xs ys : List Int) (t g : Int) : (retryTT v xs ys t g).length ≤ 1000 := by
  by_cases h : retryTT v xs ys t g = []
  · rw [h]; simp
  · obtain ⟨⟨h1, h2⟩, h3, h4, h5, h6⟩ := retryTT_good h
    rw [h6]
    simp [retryW, headW, four]
    omega

set_option maxRecDepth 100000 in
theorem writeList_none (a b p : Option Addr) (xs ys vs : List Int) (m k N c d q : Nat) (w : World) (hm : xs.length = m) (hk : ys.length = k) (hN : vs.length = N) (lm : m ≤ 1000) (lk : k ≤ 1000) (lN : N ≤ 1000)
    (hx : Row w w.heap.size a (ints .u8 xs)) (hy : Row w w.heap.size b (ints .u8 ys)) (hbad : 20 < m ∨ 20 < k ∨ N < 1 ∨ 16 < N) :
    Calls Try.prog 18 #[.agg #[.slice a m c, .slice b k d, .slice p N q]] w fun e w' => e = .returned (.slice none 0 0) ∧ Below w.heap.size w w' := by
  obtain ⟨g1, nb⟩ := one_new w (.cells #[.slice a m c, .slice b k d, .slice p N q] 25)
  have G1 := Lib.hid g1; clear g1
  have NB := Lib.hid nb; clear nb
  have HX := Lib.hid hx; clear hx
  have HY := Lib.hid hy; clear hy
  have HM := Lib.hid hm; clear hm
  have HK := Lib.hid hk; clear hk
  have HBAD := Lib.hid hbad; clear hbad
  have cA := cells3 G1.out
  clear hN
  have ez : 20 < m ∨ 20 < k → (headT 128 0 xs ys).length = 0 := fun h => by
    have := HM.out
    have := HK.out
    unfold headT; rw [if_pos (by omega)]; rfl
  have HEZ := Lib.hid ez; clear ez
  go_enter Try.func18, Try.ntmps18
  go_wp2_with fail
  refine (head_any 128 0 a b xs ys m k c d _ HM.out HK.out lm lk (by omega) (by omega) (by omega) (by omega) ((HX.out.below NB.out).more (by simp)) ((HY.out.below NB.out).more (by simp))).mono ?_
  rintro e w2 ⟨v, rfl, ho, hb⟩
  have g2 : w2.heap[w.heap.size]? = some (.cells #[.slice a m c, .slice b k d, .slice p N q] 25 (0, 0)) := (hb.block _ (by simp)).trans G1.out
  have cB := cells3 g2
  have G2 := Lib.hid g2; clear g2
  have HB := Lib.hid (NB.out.trans (hb.mono (by simp))); clear hb
  have B3 := headT_len 128 0 xs ys
  obtain ⟨L, hL⟩ : ∃ L, (headT 128 0 xs ys).length = L := ⟨_, rfl⟩
  rw [hL] at ho B3
  have HL := Lib.hid hL; clear hL
  obtain ⟨p1, q1, rfl, l1, -⟩ := ho
  by_cases z : L = 0
  · subst z
    go_wp2
    go_ret
    exact ⟨rfl, HB.out⟩
  · have d0 : ((L : Int) == 0) = false := beq_eq_false_iff_ne.2 (by omega)
    have hmk : ¬ (20 < m ∨ 20 < k) := fun h => z (HL.out.symm.trans (HEZ.out h))
    have hN : N < 1 ∨ 16 < N := by have := HBAD.out; omega
    rcases Nat.lt_or_ge N 1 with h1 | h1
    · have d2 : decide ((N : Int) < 1) = true := by simp; omega
      clear hmk hN
      go_wp2
      go_ret
      exact ⟨rfl, HB.out⟩
    · have d2 : decide ((N : Int) < 1) = false := by simp; omega
      have d3 : decide (16 < (N : Int)) = true := by simp; omega
      clear hmk hN
      go_wp2
      go_ret
      exact ⟨rfl, HB.out⟩

theorem writeList_all (a b p : Option Addr) (xs ys vs : List Int) (m k N c d q : Nat) (w : World) (hm : xs.length = m) (hk : ys.length = k) (hN : vs.length = N) (lm : m ≤ 1000) (lk : k ≤ 1000) (lN : N ≤ 1000)
    (hx : Row w w.heap.size a (ints .u8 xs)) (hy : Row w w.heap.size b (ints .u8 ys)) (hv : Row w w.heap.size p (ints .i64 vs)) (hvb : ∀ x ∈ vs, -9223372036854775808 ≤ x ∧ x ≤ 9223372036854775807) :
    Calls Try.prog 18 #[.agg #[.slice a m c, .slice b k d, .slice p N q]] w fun e w' => ∃ v, e = .returned v ∧ IsCopy w.heap.size 5 .u8 (listTT xs ys vs).length (listTT xs ys vs) v w' ∧ Below w.heap.size w w' := by
  by_cases h : 20 < m ∨ 20 < k ∨ N < 1 ∨ 16 < N
  · refine (writeList_none a b p xs ys vs m k N c d q w hm hk hN lm lk lN hx hy h).mono ?_
    rintro e w' ⟨rfl, hb⟩
    have e1 : listTT xs ys vs = [] := by unfold listTT; rw [if_pos (by rcases h with h | h | h | h <;> omega)]
    rw [e1]
    exact ⟨_, rfl, copy_none _ _ _ _, hb⟩
  · refine (writeList_any a b p xs ys vs m k N c d q w hm hk hN (by omega) (by omega) (by omega) (by omega) hx hy hv hvb).mono ?_
    rintro e w' ⟨hb, hp⟩
    by_cases ha : ∀ x ∈ vs, 1 ≤ x ∧ x < 4294967296
    · rw [if_pos ha] at hp
      obtain ⟨v, rfl, ho⟩ := hp
      have e1 : listTT xs ys vs = listW xs ys vs := by
        unfold listTT
        rw [if_neg]
        rintro (h1 | h1 | h1 | h1 | h1)
        · omega
        · omega
        · omega
        · omega
        · exact h1 ha
      rw [e1]
      exact ⟨v, rfl, copy_own ho, hb⟩
    · rw [if_neg ha] at hp
      subst hp
      have e1 : listTT xs ys vs = [] := by unfold listTT; rw [if_pos (.inr (.inr (.inr (.inr ha))))]
      rw [e1]
      exact ⟨_, rfl, copy_none _ _ _ _, hb⟩
end Go.Proofs.Ytaplndehoenghaa
