/- The plain law of the reference's start: what it reads is what headed reads. -/
import Derived.Test.YtaplndehoenghaaRefSt
import Derived.Test.YtaplndehoenghaaSpD
namespace Go.Proofs.Ytaplndehoenghaa
open Go.RowKit
set_option linter.unusedVariables false

theorem takeM_err (zs : List Int) (n : Nat) (s : Nat × Int) (h : s.2 ≠ 0) : takeM zs n s = ([], s) := by simp [takeM, h]
theorem takeM_ok (zs : List Int) (n p : Nat) (hp : p ≤ zs.length) : takeM zs n (p, 0) = if (zs.drop p).length < n then ([], p, 2) else ((zs.drop p).take n, p + n, 0) := by
  unfold takeM
  rw [List.length_drop]
  simp only [ne_eq, not_true_eq_false, if_false]
  by_cases h : zs.length < p + n
  · rw [if_pos h, if_pos (by omega)]
  · rw [if_neg h, if_neg (by omega)]
theorem mostM_err (zs : List Int) (n : Nat) (s : Nat × Int) (h : s.2 ≠ 0) : mostM zs n s = ([], s) := by
  have : mostE n s.2 = s.2 := by simp [mostE, beq_eq_false_iff_ne.2 h]
  rw [mostM, this, takeM_err _ _ _ h]
theorem needM_err (is : Bool) (k : Int) (s : Nat × Int) (h : s.2 ≠ 0) : needM is k s = s := by simp [needM, beq_eq_false_iff_ne.2 h]

def nameM (zs : List Int) (s : Nat × Int) : List Int × Nat × Int := mostM zs (numV (takeM zs 1 s).1).toNat (takeM zs 1 s).2
theorem nameM_err (zs : List Int) (s : Nat × Int) (h : s.2 ≠ 0) : nameM zs s = ([], s) := by
  unfold nameM
  rw [takeM_err _ _ _ h, mostM_err _ _ _ h]

theorem nameM_eq (zs : List Int) (p : Nat) (hp : p ≤ zs.length) (hu : IsU8 zs) : match cutName (zs.drop p) with
    | none => (nameM zs (p, 0)).2.2 ≠ 0
    | some (nm, left) => ∃ q, nameM zs (p, 0) = (nm, q, 0) ∧ q ≤ zs.length ∧ zs.drop q = left := by
  unfold nameM
  rw [takeM_ok zs 1 p hp]
  rcases h : zs.drop p with _ | ⟨z, r⟩
  · simp [cutName, mostM_err]
  · have hz := hu z (List.mem_of_mem_drop (i := p) (by rw [h]; simp))
    have hl : zs.length = p + 1 + r.length := by
      have := congrArg List.length h
      simp at this
      omega
    have hd : zs.drop (p + 1) = r := by rw [← List.drop_drop, h]; rfl
    have hn : numV [z] = z := by simp [numV]
    rw [if_neg (by simp), List.take_succ_cons, List.take_zero]
    dsimp only
    rw [hn]
    unfold mostM mostE
    dsimp only [cutName]
    by_cases h20 : 20 < z
    · rw [if_pos (.inl h20)]
      have : ¬ ((z.toNat : Int) ≤ 20) := by omega
      rw [show ((0 : Int) == 0 && !decide ((z.toNat : Int) ≤ 20)) = true by rw [decide_eq_false this]; rfl, cond_true, takeM_err _ _ _ (by simp)]
      simp
    · have : ((z.toNat : Int) ≤ 20) := by omega
      rw [show ((0 : Int) == 0 && !decide ((z.toNat : Int) ≤ 20)) = false by rw [decide_eq_true this]; rfl, cond_false, takeM_ok _ _ _ (by omega), hd]
      by_cases hr : (r.length : Int) < z
      · rw [if_pos (.inr hr), if_pos (by omega)]
        simp
      · rw [if_neg (by omega), if_neg (by omega)]
        exact ⟨p + 1 + z.toNat, rfl, by omega, by rw [← List.drop_drop, hd]⟩

theorem start_law (first : Int) (zs : List Int) (hu : IsU8 zs) : match headR first zs with
    | none => (s6 zs first).2 ≠ 0
    | some (v, n1, n2, left) => (s6 zs first).2 = 0 ∧ startV zs first = v ∧ startTo zs first = n1 ∧ startFrom zs first = n2 ∧ zs.drop (s6 zs first).1 = left := by
  have e4 : s4 zs first = (nameM zs (s2 zs first)).2 := rfl
  have e6 : s6 zs first = (nameM zs (s4 zs first)).2 := rfl
  have eT : startTo zs first = (nameM zs (s2 zs first)).1 := rfl
  have eF : startFrom zs first = (nameM zs (s4 zs first)).1 := rfl
  have err2 : (s2 zs first).2 ≠ 0 → (s6 zs first).2 ≠ 0 := fun h => by rw [e6, e4, nameM_err _ _ h, nameM_err _ _ h]; exact h
  have err1 : (s1 zs first).2 ≠ 0 → (s6 zs first).2 ≠ 0 := fun h => err2 (by rw [s2, takeM_err _ _ _ h]; exact h)
  rcases zs with _ | ⟨f, r⟩
  · simp only [headR]
    refine err1 ?_
    rw [s1, takeM_ok _ _ _ (by simp)]
    simp [needM]
  have h1 : takeM (f :: r) 1 (0, 0) = ([f], 1, 0) := by rw [takeM_ok _ _ _ (by simp)]; simp
  have hs1 : s1 (f :: r) first = needM (f == first) 3 (1, 0) := by rw [s1, h1]; simp [numV]
  by_cases hf : f = first
  · subst hf
    have hs1' : s1 (f :: r) f = (1, 0) := by rw [hs1]; simp [needM]
    have h2 : takeM (f :: r) 4 (1, 0) = if r.length < 4 then ([], 1, 2) else (r.take 4, 5, 0) := by rw [takeM_ok _ _ _ (by simp)]; simp
    rcases r with _ | ⟨b0, _ | ⟨b1, _ | ⟨b2, _ | ⟨b3, rest⟩⟩⟩⟩
    · exact err2 (by rw [s2, hs1', h2]; simp)
    · exact err2 (by rw [s2, hs1', h2]; simp)
    · exact err2 (by rw [s2, hs1', h2]; simp)
    · exact err2 (by rw [s2, hs1', h2]; simp)
    · rw [if_neg (by simp)] at h2
      have hs2 : s2 (f :: b0 :: b1 :: b2 :: b3 :: rest) f = (5, 0) := by rw [s2, hs1', h2]
      have hv : startV (f :: b0 :: b1 :: b2 :: b3 :: rest) f = quad b0 b1 b2 b3 := by
        rw [startV, hs1', h2]
        simp [numV, quad]
        omega
      simp only [headR, if_true]
      have n1 := nameM_eq (f :: b0 :: b1 :: b2 :: b3 :: rest) 5 (by simp) hu
      rw [show (f :: b0 :: b1 :: b2 :: b3 :: rest).drop 5 = rest from rfl] at n1
      rw [hs2] at e4 eT
      rcases hc : cutName rest with _ | ⟨nm, l1⟩
      · rw [hc] at n1
        dsimp only at n1 ⊢
        rw [e6, nameM_err _ _ (by rw [e4]; exact n1), e4]
        exact n1
      · rw [hc] at n1
        dsimp only at n1 ⊢
        obtain ⟨q, hq, hl, hd⟩ := n1
        have n2 := nameM_eq (f :: b0 :: b1 :: b2 :: b3 :: rest) q hl hu
        rw [hd] at n2
        have hs4 : s4 (f :: b0 :: b1 :: b2 :: b3 :: rest) f = (q, 0) := by rw [e4, hq]
        rw [hs4] at e6 eF
        rcases hc2 : cutName l1 with _ | ⟨nm2, l2⟩
        · rw [hc2] at n2
          dsimp only at n2 ⊢
          rw [e6]
          exact n2
        · rw [hc2] at n2
          dsimp only at n2 ⊢
          obtain ⟨q2, hq2, hl2, hd2⟩ := n2
          rw [e6, eF, eT, hq2, hq]
          exact ⟨rfl, hv, rfl, rfl, hd2⟩
  · have : headR first (f :: r) = none := by
      rcases r with _ | ⟨b0, _ | ⟨b1, _ | ⟨b2, _ | ⟨b3, rest⟩⟩⟩⟩ <;> simp [headR, hf]
    rw [this]
    exact err1 (by rw [hs1]; simp [needM, beq_eq_false_iff_ne.2 hf])

def noStart : Ending := .returned (.tuple #[.int .i64 0, .slice none 0 0, .slice none 0 0, .slice none 0 0, .bool false])

theorem start_no (a : Option Addr) (zs : List Int) (first : Int) (m c B : Nat) (w : World) (hm : zs.length = m) (hl : m ≤ 1000000) (hc : m ≤ c) (hB : B ≤ w.heap.size) (hu : IsU8 zs) (f0 : 0 ≤ first) (f1 : first < 256)
    (hr : Row w B a (ints .u8 zs)) (hn : headR first zs = none) :
    Calls Try.prog 42 #[.slice a m c, .int .u8 first] w fun x w' => x = noStart ∧ Below w.heap.size w w' := by
  refine (start_any a zs first m c B w hm hl hc hB hu f0 f1 hr).mono ?_
  intro x w' h
  have := start_law first zs hu
  rw [hn] at this
  rw [StartPost, if_pos this] at h
  exact h

theorem start_yes (a : Option Addr) (zs : List Int) (first : Int) (m c B : Nat) (w : World) (hm : zs.length = m) (hl : m ≤ 1000000) (hc : m ≤ c) (hB : B ≤ w.heap.size) (hu : IsU8 zs) (f0 : 0 ≤ first) (f1 : first < 256)
    (hr : Row w B a (ints .u8 zs)) (v : Int) (n1 n2 left : List Int) (hn : headR first zs = some (v, n1, n2, left)) :
    Calls Try.prog 42 #[.slice a m c, .int .u8 first] w fun x w' => ∃ a1 a2 a3 c1 c2 c3, x = .returned (.tuple #[.int .i64 v, .slice a1 n1.length c1, .slice a2 n2.length c2, .slice a3 left.length c3, .bool true]) ∧
      Row w' B a1 (ints .u8 n1) ∧ Row w' B a2 (ints .u8 n2) ∧ Row w' B a3 (ints .u8 left) ∧ n1.length ≤ c1 ∧ n2.length ≤ c2 ∧ left.length ≤ c3 ∧ Below w.heap.size w w' := by
  refine (start_any a zs first m c B w hm hl hc hB hu f0 f1 hr).mono ?_
  intro x w' h
  have := start_law first zs hu
  rw [hn] at this
  obtain ⟨z, h1, h2, h3, h4⟩ := this
  rw [StartPost, if_neg (by simp [z]), h1, h2, h3, h4] at h
  exact h
end Go.Proofs.Ytaplndehoenghaa
