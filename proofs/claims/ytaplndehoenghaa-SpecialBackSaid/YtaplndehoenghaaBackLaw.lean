/- The plain law: what is written is read as it was. -/
import Derived.Test.YtaplndehoenghaaUni
import Derived.Test.YtaplndehoenghaaWList
namespace Go.Proofs.Ytaplndehoenghaa
open Go.RowKit
set_option linter.unusedVariables false

theorem cutName_own (xs rest : List Int) (h : xs.length ≤ 20) : cutName ((xs.length : Int) :: (xs ++ rest)) = some (xs, rest) := by
  unfold cutName
  dsimp only
  rw [if_neg (by simp only [List.length_append]; omega)]
  simp

theorem headR_own (first n : Int) (xs ys rest : List Int) (hx : xs.length ≤ 20) (hy : ys.length ≤ 20) (h0 : 0 ≤ n) (h1 : n < 4294967296) :
    headR first (headW first n xs ys ++ rest) = some (n, xs, ys, rest) := by
  have e : headW first n xs ys ++ rest = first :: (n / 16777216 % 256) :: (n / 65536 % 256) :: (n / 256 % 256) :: (n % 256) :: ((xs.length : Int) :: (xs ++ ((ys.length : Int) :: (ys ++ rest)))) := by
    simp [headW, four]
  rw [e]
  simp only [headR, if_true, cutName_own _ _ hx, cutName_own _ _ hy]
  have : quad (n / 16777216 % 256) (n / 65536 % 256) (n / 256 % 256) (n % 256) = n := by unfold quad; omega
  rw [this]

theorem headR_other (first other n : Int) (xs ys rest : List Int) (h : other ≠ first) : headR first (headW other n xs ys ++ rest) = none := by
  have e : headW other n xs ys ++ rest = other :: (n / 16777216 % 256) :: (n / 65536 % 256) :: (n / 256 % 256) :: (n % 256) :: ((xs.length : Int) :: (xs ++ ((ys.length : Int) :: (ys ++ rest)))) := by
    simp [headW, four]
  rw [e]
  simp only [headR, if_neg h]

theorem quads_four : ∀ (vs : List Int), (∀ x ∈ vs, 1 ≤ x ∧ x < 4294967296) → quads (vs.flatMap four) = vs
  | [], _ => rfl
  | v :: vs, h => by
    have hv := h v (by simp)
    have ih := quads_four vs (fun x hx => h x (by simp [hx]))
    have e : (v :: vs).flatMap four = (v / 16777216 % 256) :: (v / 65536 % 256) :: (v / 256 % 256) :: (v % 256) :: vs.flatMap four := by simp [four]
    rw [e]
    simp only [quads, ih]
    have : quad (v / 16777216 % 256) (v / 65536 % 256) (v / 256 % 256) (v % 256) = v := by unfold quad; omega
    rw [this]

theorem listT_own (xs ys vs : List Int) (hx : xs.length ≤ 20) (hy : ys.length ≤ 20) (h1 : 1 ≤ vs.length) (h2 : vs.length ≤ 16) (hv : ∀ x ∈ vs, 1 ≤ x ∧ x < 4294967296) : listT (listW xs ys vs) = (xs, ys, vs, true) := by
  rw [listT, listW, headR_own 128 0 xs ys _ hx hy (by omega) (by omega)]
  dsimp only
  rw [if_neg (by rw [flat_four_len]; omega), quads_four vs hv, if_pos (fun x hx => (hv x hx).1)]

theorem retryT_list (xs ys vs : List Int) : retryT (listW xs ys vs) = (0, [], [], 0, 0, false) := by
  rw [retryT, listW, headR_other 240 128 _ _ _ _ (by omega)]

/-- A retry's bytes. -/
def retryW (v : Int) (xs ys : List Int) (t g : Int) : List Int := headW 240 v xs ys ++ (four t ++ four g)

theorem numbered_four (t : Int) (h1 : 1 ≤ t) (h2 : t ≤ 65536) : numbered (t / 16777216 % 256) (t / 65536 % 256) (t / 256 % 256) (t % 256) = t := by
  have : quad (t / 16777216 % 256) (t / 65536 % 256) (t / 256 % 256) (t % 256) = t := by unfold quad; omega
  rw [numbered, this, if_pos ⟨h1, h2⟩]

theorem retryT_own (v : Int) (xs ys : List Int) (t g : Int) (hx : xs.length ≤ 20) (hy : ys.length ≤ 20) (hv : 1 ≤ v ∧ v < 4294967296) (ht : 1 ≤ t ∧ t ≤ 65536) (hg : 1 ≤ g ∧ g ≤ 65536) :
    retryT (retryW v xs ys t g) = (v, xs, ys, t, g, true) := by
  rw [retryT, retryW, headR_own 240 v xs ys _ hx hy (by omega) hv.2]
  have e : four t ++ four g = [t / 16777216 % 256, t / 65536 % 256, t / 256 % 256, t % 256, g / 16777216 % 256, g / 65536 % 256, g / 256 % 256, g % 256] := by simp [four]
  rw [e]
  dsimp only
  rw [numbered_four t ht.1 ht.2, numbered_four g hg.1 hg.2, if_pos ⟨by omega, by omega, by omega⟩]

theorem listT_retry (v : Int) (xs ys : List Int) (t g : Int) : listT (retryW v xs ys t g) = ([], [], [], false) := by
  rw [listT, retryW, headR_other 128 240 _ _ _ _ (by omega)]

theorem four_u8 (n : Int) : IsU8 (four n) := by
  intro z hz
  simp [four] at hz
  omega
theorem headW_u8 (first n : Int) (xs ys : List Int) (f0 : 0 ≤ first) (f1 : first < 256) (hx : IsU8 xs) (hy : IsU8 ys) (lx : xs.length ≤ 20) (ly : ys.length ≤ 20) : IsU8 (headW first n xs ys) := by
  intro z hz
  simp only [headW, List.mem_append, List.mem_singleton] at hz
  rcases hz with ((((rfl | h) | rfl) | h) | rfl) | h
  · exact ⟨f0, f1⟩
  · exact four_u8 n z h
  · omega
  · exact hx z h
  · omega
  · exact hy z h
theorem listW_u8 (xs ys vs : List Int) (hx : IsU8 xs) (hy : IsU8 ys) (lx : xs.length ≤ 20) (ly : ys.length ≤ 20) : IsU8 (listW xs ys vs) := by
  intro z hz
  rcases List.mem_append.1 hz with h | h
  · exact headW_u8 128 0 xs ys (by omega) (by omega) hx hy lx ly z h
  · obtain ⟨v, _, hv⟩ := List.mem_flatMap.1 h
    exact four_u8 v z hv
theorem retryW_u8 (v : Int) (xs ys : List Int) (t g : Int) (hx : IsU8 xs) (hy : IsU8 ys) (lx : xs.length ≤ 20) (ly : ys.length ≤ 20) : IsU8 (retryW v xs ys t g) := by
  intro z hz
  rcases List.mem_append.1 hz with h | h
  · exact headW_u8 240 v xs ys (by omega) (by omega) hx hy lx ly z h
  · rcases List.mem_append.1 h with h | h
    · exact four_u8 t z h
    · exact four_u8 g z h
end Go.Proofs.Ytaplndehoenghaa
