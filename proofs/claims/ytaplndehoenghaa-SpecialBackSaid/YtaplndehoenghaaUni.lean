/- Both readers, one statement each: what the bytes are. -/
import Derived.Test.YtaplndehoenghaaRefLL
import Derived.Test.YtaplndehoenghaaRefR
import Derived.Test.YtaplndehoenghaaSpH
namespace Go.Proofs.Ytaplndehoenghaa
open Go.RowKit
set_option linter.unusedVariables false

/-- What bytes are, as a list. -/
def listT (zs : List Int) : List Int × List Int × List Int × Bool := match headR 128 zs with
  | none => ([], [], [], false)
  | some (v, n1, n2, left) => if v ≠ 0 ∨ left.length = 0 ∨ left.length % 4 ≠ 0 ∨ 64 < left.length then ([], [], [], false) else if ∀ x ∈ quads left, 1 ≤ x then (n1, n2, quads left, true) else ([], [], [], false)

theorem quads_bd : ∀ (l : List Int), IsU8 l → ∀ x ∈ quads l, 0 ≤ x ∧ x < 4294967296
  | a :: b :: c :: d :: r, hu, x, hx => by
    simp only [quads, List.mem_cons] at hx
    rcases hx with rfl | hx
    · exact quad_bd a b c d (fun z hz => hu z (by simp at hz ⊢; omega))
    · exact quads_bd r (fun z hz => hu z (by simp [hz])) x hx
  | [], _, x, hx => by simp [quads] at hx
  | [_], _, x, hx => by simp [quads] at hx
  | [_, _], _, x, hx => by simp [quads] at hx
  | [_, _, _], _, x, hx => by simp [quads] at hx

def ListOut (w : World) (T : List Int × List Int × List Int × Bool) (last : Value) (e : Ending) (w' : World) : Prop :=
  ∃ a1 a2 a3 c1 c2 c3, e = .returned (.tuple #[.agg #[.slice a1 T.1.length c1, .slice a2 T.2.1.length c2, .slice a3 T.2.2.1.length c3], last]) ∧
    Row w' w'.heap.size a1 (ints .u8 T.1) ∧ Row w' w'.heap.size a2 (ints .u8 T.2.1) ∧ Row w' w'.heap.size a3 (ints .i64 T.2.2.1) ∧ Below w.heap.size w w'

theorem out_noList (w : World) {e : Ending} {w' : World} (h : e = noList ∧ Below w.heap.size w w') : ListOut w ([], [], [], false) (.int .i64 3) e w' :=
  ⟨none, none, none, 0, 0, 0, h.1, Row.nil _ _ _, Row.nil _ _ _, Row.nil _ _ _, h.2⟩
theorem out_noListRef (w : World) {e : Ending} {w' : World} (h : e = noListRef ∧ Below w.heap.size w w') : ListOut w ([], [], [], false) (.bool false) e w' :=
  ⟨none, none, none, 0, 0, 0, h.1, Row.nil _ _ _, Row.nil _ _ _, Row.nil _ _ _, h.2⟩

theorem readList_any (a : Option Addr) (zs : List Int) (m c : Nat) (w : World) (hm : zs.length = m) (hc : m ≤ c) (hl : m ≤ 1000000) (hr : Row w w.heap.size a (ints .u8 zs)) (hu : IsU8 zs) :
    Calls Try.prog 11 #[.slice a m c] w (ListOut w (listT zs) (.int .i64 (bif (listT zs).2.2.2 then 0 else 3))) := by
  rcases hn : headR 128 zs with _ | ⟨v, n1, n2, left⟩
  · have ht : listT zs = ([], [], [], false) := by rw [listT, hn]
    rw [ht]
    exact (readList_no a zs m c w hm hc hl hr hu hn).mono fun e w' h => out_noList w h
  · by_cases hb : v ≠ 0 ∨ left.length = 0 ∨ left.length % 4 ≠ 0 ∨ 64 < left.length
    · have ht : listT zs = ([], [], [], false) := by rw [listT, hn]; simp only [if_pos hb]
      rw [ht]
      exact (readList_bad a zs m c w hm hc hl hr hu v n1 n2 left hn hb).mono fun e w' h => out_noList w h
    · have h1 : v = 0 := by omega
      have h2 : left.length ≠ 0 ∧ left.length % 4 = 0 ∧ left.length ≤ 64 := by omega
      subst h1
      have hq := quads_bd left (headR_u8 hu hn).2.2.1
      refine (readList_loop a zs m c w hm hc hl hr hu n1 n2 left hn (left.length / 4) (by omega) (by omega) (by omega)).mono ?_
      rintro e w' ⟨hb', h⟩
      by_cases ha : ∀ x ∈ quads left, 1 ≤ x
      · have ht : listT zs = (n1, n2, quads left, true) := by rw [listT, hn]; simp only [if_neg hb, if_pos ha]
        rw [if_pos (fun x hx => ⟨ha x hx, (hq x hx).2⟩)] at h
        obtain ⟨v1, v2, v3, rfl, o1, o2, o3⟩ := h
        obtain ⟨p1, q1, rfl, -⟩ := own_slice o1
        obtain ⟨p2, q2, rfl, -⟩ := own_slice o2
        obtain ⟨p3, q3, rfl, -⟩ := own_slice o3
        rw [ht]
        exact ⟨p1, p2, p3, q1, q2, q3, rfl, Row.of_own o1, Row.of_own o2, Row.of_own o3, hb'⟩
      · have ht : listT zs = ([], [], [], false) := by rw [listT, hn]; simp only [if_neg hb, if_neg ha]
        rw [if_neg (fun h => ha fun x hx => (h x hx).1)] at h
        rw [ht]
        exact out_noList w ⟨h, hb'⟩

theorem refList_any (a : Option Addr) (zs : List Int) (m c B : Nat) (w : World) (hm : zs.length = m) (hc : m ≤ c) (hl : m ≤ 1000000) (hB : B ≤ w.heap.size) (hr : Row w B a (ints .u8 zs)) (hu : IsU8 zs) :
    Calls Try.prog 12 #[.slice a m c] w (ListOut w (listT zs) (.bool (listT zs).2.2.2)) := by
  rcases hn : headR 128 zs with _ | ⟨v, n1, n2, left⟩
  · have ht : listT zs = ([], [], [], false) := by rw [listT, hn]
    rw [ht]
    exact (refList_no a zs m c B w hm hc hl hB hr hu hn).mono fun e w' h => out_noListRef w h
  · by_cases hb : v ≠ 0 ∨ left.length = 0 ∨ left.length % 4 ≠ 0 ∨ 64 < left.length
    · have ht : listT zs = ([], [], [], false) := by rw [listT, hn]; simp only [if_pos hb]
      rw [ht]
      exact (refList_bad a zs m c B w hm hc hl hB hr hu v n1 n2 left hn hb).mono fun e w' h => out_noListRef w h
    · have h1 : v = 0 := by omega
      have h2 : left.length ≠ 0 ∧ left.length % 4 = 0 ∧ left.length ≤ 64 := by omega
      subst h1
      refine (refList_loop a zs m c B w hm hc hl hB hr hu n1 n2 left hn (left.length / 4) (by omega) (by omega) (by omega)).mono ?_
      rintro e w' ⟨hb', h⟩
      by_cases ha : ∀ x ∈ quads left, 1 ≤ x
      · have ht : listT zs = (n1, n2, quads left, true) := by rw [listT, hn]; simp only [if_neg hb, if_pos ha]
        rw [if_pos ha] at h
        obtain ⟨a1, a2, c1, c2, v3, rfl, r1, r2, o3⟩ := h
        obtain ⟨p3, q3, rfl, -⟩ := own_slice o3
        have hs := hb'.size
        rw [ht]
        exact ⟨a1, a2, p3, c1, c2, q3, rfl, r1.more (by omega), r2.more (by omega), Row.of_own o3, hb'⟩
      · have ht : listT zs = ([], [], [], false) := by rw [listT, hn]; simp only [if_neg hb, if_neg ha]
        rw [if_neg ha] at h
        rw [ht]
        exact out_noListRef w ⟨h, hb'⟩

/-- What bytes are, as a retry. -/
def retryT (zs : List Int) : Int × List Int × List Int × Int × Int × Bool := match headR 240 zs with
  | some (v, n1, n2, [t0, t1, t2, t3, g0, g1, g2, g3]) => if v ≠ 0 ∧ numbered t0 t1 t2 t3 ≠ 0 ∧ numbered g0 g1 g2 g3 ≠ 0 then (v, n1, n2, numbered t0 t1 t2 t3, numbered g0 g1 g2 g3, true) else (0, [], [], 0, 0, false)
  | _ => (0, [], [], 0, 0, false)

def RetryOut (w : World) (T : Int × List Int × List Int × Int × Int × Bool) (last : Value) (e : Ending) (w' : World) : Prop :=
  ∃ a1 a2 c1 c2, e = .returned (.tuple #[.agg #[.int .i64 T.1, .slice a1 T.2.1.length c1, .slice a2 T.2.2.1.length c2, .int .i64 T.2.2.2.1, .int .i64 T.2.2.2.2.1], last]) ∧
    Row w' w'.heap.size a1 (ints .u8 T.2.1) ∧ Row w' w'.heap.size a2 (ints .u8 T.2.2.1) ∧ Below w.heap.size w w'

theorem out_noRetry (w : World) {e : Ending} {w' : World} (h : e = noRetry ∧ Below w.heap.size w w') : RetryOut w (0, [], [], 0, 0, false) (.int .i64 3) e w' :=
  ⟨none, none, 0, 0, h.1, Row.nil _ _ _, Row.nil _ _ _, h.2⟩
theorem out_noRetryRef (w : World) {e : Ending} {w' : World} (h : e = noRetryRef ∧ Below w.heap.size w w') : RetryOut w (0, [], [], 0, 0, false) (.bool false) e w' :=
  ⟨none, none, 0, 0, h.1, Row.nil _ _ _, Row.nil _ _ _, h.2⟩

theorem numbered_zero (a b c d : Int) : numbered a b c d ≠ 0 ↔ (1 ≤ quad a b c d ∧ quad a b c d ≤ 65536) := by
  unfold numbered
  split <;> omega

theorem retryT_bad {zs : List Int} {v : Int} {n1 n2 left : List Int} (hn : headR 240 zs = some (v, n1, n2, left)) (h : v = 0 ∨ left.length ≠ 8) : retryT zs = (0, [], [], 0, 0, false) := by
  rw [retryT, hn]
  by_cases h8 : left.length = 8
  · obtain ⟨a, b, c, d, e, f, g, i, rfl⟩ := length_eight h8
    have : v = 0 := by omega
    simp [this]
  · split
    · rename_i h1
      simp only [Option.some.injEq, Prod.mk.injEq] at h1
      obtain ⟨_, _, _, rfl⟩ := h1
      simp at h8
    · rfl

theorem readRetry_any (a : Option Addr) (zs : List Int) (m c : Nat) (w : World) (hm : zs.length = m) (hc : m ≤ c) (hl : m ≤ 1000000) (hr : Row w w.heap.size a (ints .u8 zs)) (hu : IsU8 zs) :
    Calls Try.prog 13 #[.slice a m c] w (RetryOut w (retryT zs) (.int .i64 (bif (retryT zs).2.2.2.2.2 then 0 else 3))) := by
  rcases hn : headR 240 zs with _ | ⟨v, n1, n2, left⟩
  · have ht : retryT zs = (0, [], [], 0, 0, false) := by rw [retryT, hn]
    rw [ht]
    exact (readRetry_no a zs m c w hm hc hl hr hu hn).mono fun e w' h => out_noRetry w h
  · by_cases hb : v = 0 ∨ left.length ≠ 8
    · rw [retryT_bad hn hb]
      exact (readRetry_bad a zs m c w hm hc hl hr hu v n1 n2 left hn hb).mono fun e w' h => out_noRetry w h
    · obtain ⟨t0, t1, t2, t3, g0, g1, g2, g3, rfl⟩ := length_eight (zs := left) (by omega)
      have hv := headR_u8 hu hn
      refine (readRetry_num a zs m c w hm hc hl hr hu v n1 n2 t0 t1 t2 t3 g0 g1 g2 g3 hn (by omega)).mono ?_
      rintro e w' ⟨hb', h⟩
      have hv0 : v ≠ 0 := by omega
      by_cases hk : numbered t0 t1 t2 t3 ≠ 0 ∧ numbered g0 g1 g2 g3 ≠ 0
      · have ht : retryT zs = (v, n1, n2, numbered t0 t1 t2 t3, numbered g0 g1 g2 g3, true) := by rw [retryT, hn]; simp only [if_pos (And.intro hv0 hk)]
        rw [if_pos (by rw [decide_eq_true ((numbered_zero _ _ _ _).1 hk.1), decide_eq_true ((numbered_zero _ _ _ _).1 hk.2)]; rfl)] at h
        obtain ⟨v1, v2, rfl, o1, o2⟩ := h
        obtain ⟨p1, q1, rfl, -⟩ := own_slice o1
        obtain ⟨p2, q2, rfl, -⟩ := own_slice o2
        rw [ht]
        exact ⟨p1, p2, q1, q2, rfl, Row.of_own o1, Row.of_own o2, hb'⟩
      · have ht : retryT zs = (0, [], [], 0, 0, false) := by rw [retryT, hn]; simp only [if_neg (show ¬ (v ≠ 0 ∧ numbered t0 t1 t2 t3 ≠ 0 ∧ numbered g0 g1 g2 g3 ≠ 0) from fun h => hk h.2)]
        rw [if_neg (fun hd => hk (by
          rw [Bool.and_eq_true, decide_eq_true_eq, decide_eq_true_eq] at hd
          exact ⟨(numbered_zero _ _ _ _).2 hd.1, (numbered_zero _ _ _ _).2 hd.2⟩))] at h
        rw [ht]
        exact out_noRetry w ⟨h, hb'⟩

theorem refRetry_any (a : Option Addr) (zs : List Int) (m c B : Nat) (w : World) (hm : zs.length = m) (hc : m ≤ c) (hl : m ≤ 1000000) (hB : B ≤ w.heap.size) (hr : Row w B a (ints .u8 zs)) (hu : IsU8 zs) :
    Calls Try.prog 14 #[.slice a m c] w (RetryOut w (retryT zs) (.bool (retryT zs).2.2.2.2.2)) := by
  rcases hn : headR 240 zs with _ | ⟨v, n1, n2, left⟩
  · have ht : retryT zs = (0, [], [], 0, 0, false) := by rw [retryT, hn]
    rw [ht]
    exact (refRetry_no a zs m c B w hm hc hl hB hr hu hn).mono fun e w' h => out_noRetryRef w h
  · by_cases hb : v = 0 ∨ left.length ≠ 8
    · rw [retryT_bad hn hb]
      exact (refRetry_bad a zs m c B w hm hc hl hB hr hu v n1 n2 left hn hb).mono fun e w' h => out_noRetryRef w h
    · obtain ⟨t0, t1, t2, t3, g0, g1, g2, g3, rfl⟩ := length_eight (zs := left) (by omega)
      have hv0 : v ≠ 0 := by omega
      refine (refRetry_num a zs m c B w hm hc hl hB hr hu v n1 n2 t0 t1 t2 t3 g0 g1 g2 g3 hn hv0).mono ?_
      rintro e w' ⟨hb', h⟩
      by_cases hk : numbered t0 t1 t2 t3 ≠ 0 ∧ numbered g0 g1 g2 g3 ≠ 0
      · have ht : retryT zs = (v, n1, n2, numbered t0 t1 t2 t3, numbered g0 g1 g2 g3, true) := by rw [retryT, hn]; simp only [if_pos (And.intro hv0 hk)]
        rw [if_neg (by omega)] at h
        obtain ⟨a1, a2, c1, c2, rfl, r1, r2⟩ := h
        have hs := hb'.size
        rw [ht]
        exact ⟨a1, a2, c1, c2, rfl, r1.more (by omega), r2.more (by omega), hb'⟩
      · have ht : retryT zs = (0, [], [], 0, 0, false) := by rw [retryT, hn]; simp only [if_neg (show ¬ (v ≠ 0 ∧ numbered t0 t1 t2 t3 ≠ 0 ∧ numbered g0 g1 g2 g3 ≠ 0) from fun h => hk h.2)]
        rw [if_pos (by omega)] at h
        rw [ht]
        exact out_noRetryRef w ⟨h, hb'⟩
end Go.Proofs.Ytaplndehoenghaa
