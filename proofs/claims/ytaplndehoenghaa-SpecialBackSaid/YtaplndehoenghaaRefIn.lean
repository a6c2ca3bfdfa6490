/- The reference's reader of bytes (shibbolethref05.In). -/
import Derived.Test.YtaplndehoenghaaBaseB
import Derived.Deep.QuietTactic
import Derived.BigQuiet
namespace Go.Proofs.Ytaplndehoenghaa
open Go.RowKit
set_option linter.unusedVariables false

/-- The reader's block: its bytes, where it stands, its error. -/
def InBox (w : World) (R : Nat) (a : Option Addr) (m c p : Nat) (e : Int) : Prop := w.heap[R]? = some (.cells #[.slice a m c, .int .i64 p, .int .i64 e] 121 (0, 0))
theorem InBox.lt {w : World} {R m c p : Nat} {a : Option Addr} {e : Int} (h : InBox w R a m c p e) : R < w.heap.size := (Array.getElem?_eq_some_iff.1 h).1
theorem InBox.drawn {w w' : World} {R m c p : Nat} {a : Option Addr} {e : Int} (h : InBox w R a m c p e) (hd : Drawn w w') : InBox w' R a m c p e := by
  unfold InBox at *
  rw [hd.heap]
  exact h
theorem InBox.other {w : World} {R m c p : Nat} {a : Option Addr} {e : Int} (h : InBox w R a m c p e) {S : Nat → Prop} {w' : World} (hk : Kept S w w') (hn : ¬ S R) : InBox w' R a m c p e := by
  have hl := h.lt
  unfold InBox at *
  rw [hk.block R hl hn]
  exact h
theorem InBox.setAt {w : World} {R m c p : Nat} {a : Option Addr} {e : Int} (h : InBox w R a m c p e) (q : Nat) : InBox (w.setCell ⟨R, 1, none⟩ (.int .i64 q)) R a m c q e := by
  unfold InBox at *
  simp [World.setCell, Array.getElem?_modify, h]
theorem InBox.setE {w : World} {R m c p : Nat} {a : Option Addr} {e : Int} (h : InBox w R a m c p e) (q : Int) : InBox (w.setCell ⟨R, 2, none⟩ (.int .i64 q)) R a m c p q := by
  unfold InBox at *
  simp [World.setCell, Array.getElem?_modify, h]

/-- Taking n bytes: they, the new place, the new error. -/
def takeM (zs : List Int) (n : Nat) (s : Nat × Int) : List Int × Nat × Int :=
  if s.2 ≠ 0 then ([], s.1, s.2) else if zs.length < s.1 + n then ([], s.1, 2) else ((zs.drop s.1).take n, s.1 + n, 0)

theorem take_any (R : Nat) (a : Option Addr) (zs : List Int) (m c p n B : Nat) (e : Int) (w : World) (hm : zs.length = m) (hl : m ≤ 1000000) (hn : n ≤ 1000000) (hc : m ≤ c) (hp : p ≤ m) (hB : B ≤ R)
    (hI : InBox w R a m c p e) (hr : Row w B a (ints .u8 zs)) :
    Calls Try.prog 84 #[.pointer (some ⟨R, 0, none⟩), .int .i64 n] w fun x w' => ∃ a' c', x = .returned (.slice a' (takeM zs n (p, e)).1.length c') ∧
      Row w' B a' (ints .u8 (takeM zs n (p, e)).1) ∧ (takeM zs n (p, e)).1.length ≤ c' ∧ InBox w' R a m c (takeM zs n (p, e)).2.1 (takeM zs n (p, e)).2.2 ∧ Kept (fun k => k = R) w w' := by
  have cA := cells3 hI
  have fA := unfrozen hI
  have HI := Lib.hid hI; clear hI
  have HR := Lib.hid hr; clear hr
  have HM := Lib.hid hm; clear hm
  by_cases he : e = 0
  · subst he
    by_cases hs : m < p + n
    · have d2 : decide ((m : Int) - (p : Int) < (n : Int)) = true := by simp; omega
      have b1 : (p : Int) ≤ (m : Int) := by omega
      go_enter Try.func84, Try.ntmps84
      go_wp2
      go_quiet (fail)
      go_wp2
      go_ret
      have et : takeM zs n (p, 0) = ([], p, 2) := by simp [takeM, HM.out, hs]
      rw [et]
      exact ⟨none, 0, rfl, Row.nil _ _ _, Nat.le_refl _, (HI.out.drawn ((Drawn.refl _).drewN _)).setE 2, ((Kept.refl (fun k => k = R) w).drewN _).setCell (p := ⟨R, 2, none⟩) (.inl rfl) _⟩
    · have d2 : decide ((m : Int) - (p : Int) < (n : Int)) = false := by simp; omega
      have b1 : (p : Int) ≤ (m : Int) := by omega
      have b2 : (p : Int) + (n : Int) ≤ (c : Int) := by omega
      go_enter Try.func84, Try.ntmps84
      go_wp2
      go_quiet (fail)
      go_wp2
      go_quiet (fail)
      go_wp2
      go_ret
      have et : takeM zs n (p, 0) = ((zs.drop p).take n, p + n, 0) := by simp [takeM, HM.out, hs]
      rw [et]
      have le : ((zs.drop p).take n).length = n := by simp [HM.out]; omega
      refine ⟨cutAt a p c, c - p, ?_, ?_, ?_, ?_, ?_⟩
      · rw [le]
        simp [go_sem]
      · exact ((((HR.out.cut p c (by simp [HM.out]; omega)).take n).drewN _).setCell hB _).drewN _ |> fun h => by simpa [ints, List.map_drop, List.map_take] using h
      · rw [le]; omega
      · rw [show (p : Int) + (n : Int) = ((p + n : Nat) : Int) by omega]
        exact ((HI.out.drawn ((Drawn.refl _).drewN _)).setAt (p + n)).drawn ((Drawn.refl _).drewN _)
      · exact (((Kept.refl (fun k => k = R) w).drewN _).setCell (p := ⟨R, 1, none⟩) (.inl rfl) _).drewN _
  · have d1 : (e == 0) = false := beq_eq_false_iff_ne.2 he
    go_enter Try.func84, Try.ntmps84
    go_wp2
    go_quiet (fail)
    go_wp2
    go_ret
    have et : takeM zs n (p, e) = ([], p, e) := by simp [takeM, he]
    rw [et]
    exact ⟨none, 0, rfl, Row.nil _ _ _, Nat.le_refl _, HI.out.drawn ((Drawn.refl _).drewN _), (Kept.refl (fun k => k = R) w).drewN _⟩

/-- Needing. -/
theorem need_any (R : Nat) (a : Option Addr) (m c p : Nat) (is : Bool) (k e : Int) (w : World) (hI : InBox w R a m c p e) :
    Calls Try.prog 66 #[.pointer (some ⟨R, 0, none⟩), .bool is, .int .i64 k] w fun x w' => x = .returned (.tuple #[]) ∧ InBox w' R a m c p (bif e == 0 && !is then k else e) ∧ Kept (fun k => k = R) w w' := by
  have cA := cells3 hI
  have fA := unfrozen hI
  have HI := Lib.hid hI; clear hI
  cases h1 : e == 0 <;> cases is <;>
    (go_enter Try.func66, Try.ntmps66
     go_wp2
     go_end0
     first
     | exact ⟨rfl, HI.out.drawn ((Drawn.refl _)), (Kept.refl (fun k => k = R) w)⟩
     | exact ⟨rfl, HI.out.setE k, (Kept.refl (fun k => k = R) w).setCell (p := ⟨R, 2, none⟩) (.inl rfl) _⟩)

/-- The error behind a need of at most twenty. -/
def mostE (n : Nat) (e : Int) : Int := bif e == 0 && !decide ((n : Int) ≤ 20) then 4 else e

/-- Taking at most so many. -/
def mostM (zs : List Int) (n : Nat) (s : Nat × Int) : List Int × Nat × Int := takeM zs n (s.1, mostE n s.2)

theorem most_any (R : Nat) (a : Option Addr) (zs : List Int) (m c p n B : Nat) (e : Int) (w : World) (hm : zs.length = m) (hl : m ≤ 1000000) (hn : n ≤ 1000000) (hc : m ≤ c) (hp : p ≤ m) (hB : B ≤ R)
    (hI : InBox w R a m c p e) (hr : Row w B a (ints .u8 zs)) :
    Calls Try.prog 68 #[.pointer (some ⟨R, 0, none⟩), .int .i64 n, .int .i64 20] w fun x w' => ∃ a' c', x = .returned (.slice a' (mostM zs n (p, e)).1.length c') ∧
      Row w' B a' (ints .u8 (mostM zs n (p, e)).1) ∧ (mostM zs n (p, e)).1.length ≤ c' ∧ InBox w' R a m c (mostM zs n (p, e)).2.1 (mostM zs n (p, e)).2.2 ∧ Kept (fun k => k = R) w w' := by
  have HI := Lib.hid hI; clear hI
  have HR := Lib.hid hr; clear hr
  have HM := Lib.hid hm; clear hm
  have c1 := (need_any R a m c p (decide ((n : Int) ≤ 20)) 4 e w HI.out)
  rw [show (bif e == 0 && !decide ((n : Int) ≤ 20) then (4 : Int) else e) = mostE n e from rfl] at c1
  have C1 := Lib.hid c1; clear c1
  go_enter Try.func68, Try.ntmps68
  go_wp2_with fail
  refine C1.out.mono ?_
  rintro x w1 ⟨rfl, I1, k1⟩
  have H1 := Lib.hid (And.intro I1 k1); clear I1 k1
  go_wp2_with fail
  refine (take_any R a zs m c p n B _ _ HM.out hl hn hc hp hB H1.out.1 (HR.out.keep fun q hq => H1.out.2.cell ?_ ?_)).mono ?_
  · have := HI.out.lt; omega
  · intro h; omega
  rintro x w2 ⟨a', c', rfl, r2, l2, I2, k2⟩
  go_wp2
  go_ret
  exact ⟨a', c', rfl, r2, l2, I2, H1.out.2.trans k2⟩

theorem foldl_bound (zs : List Int) (hu : IsU8 zs) : ∀ x : Int, 0 ≤ x → 0 ≤ zs.foldl (fun x z => 256 * x + z) x ∧ zs.foldl (fun x z => 256 * x + z) x < (x + 1) * 256 ^ zs.length := by
  induction zs with
  | nil => intro x hx; simp; omega
  | cons z zs ih =>
    intro x hx
    have hz := hu z (by simp)
    have h := ih (fun y hy => hu y (by simp [hy])) (256 * x + z) (by omega)
    refine ⟨h.1, Int.lt_of_lt_of_le h.2 ?_⟩
    rw [List.length_cons, Int.pow_succ, show (x + 1) * (256 ^ zs.length * 256) = ((x + 1) * 256) * 256 ^ zs.length by rw [Int.mul_comm (256 ^ zs.length), Int.mul_assoc]]
    exact Int.mul_le_mul_of_nonneg_right (by omega) (Int.pow_nonneg (by omega))

/-- The number that bytes are. -/
def numV (zs : List Int) : Int := zs.foldl (fun x z => 256 * x + z) 0

theorem numV_snoc (zs : List Int) (z : Int) : numV (zs ++ [z]) = 256 * numV zs + z := by simp [numV]
theorem numV_bd (zs : List Int) (hu : IsU8 zs) : 0 ≤ numV zs ∧ numV zs < 256 ^ zs.length := by
  have := foldl_bound zs hu 0 (by omega)
  simpa [numV] using this
theorem numV_take (zs : List Int) (hu : IsU8 zs) (k : Nat) (hk : k ≤ 3) : 0 ≤ numV (zs.take k) ∧ numV (zs.take k) ≤ 16777216 := by
  have h := numV_bd (zs.take k) (fun z hz => hu z (List.mem_of_mem_take hz))
  refine ⟨h.1, Int.le_of_lt (Int.lt_of_lt_of_le h.2 ?_)⟩
  have : (zs.take k).length ≤ 3 := by simp; omega
  match (zs.take k).length, this with
  | 0, _ => decide
  | 1, _ => decide
  | 2, _ => decide
  | 3, _ => decide
def Num4 (zs : List Int) (n : Nat) (R : Nat) (a : Option Addr) (m c p : Nat) (e : Int) (w : World) (x : Ending) (w' : World) : Prop :=
  x = .returned (.int .i64 (numV (takeM zs n (p, e)).1)) ∧ InBox w' R a m c (takeM zs n (p, e)).2.1 (takeM zs n (p, e)).2.2 ∧ Kept (fun k => k = R) w w'

theorem num_any (R : Nat) (a : Option Addr) (zs : List Int) (m c p n B : Nat) (e : Int) (w : World) (hm : zs.length = m) (hl : m ≤ 1000000) (hn : n ≤ 4) (hc : m ≤ c) (hp : p ≤ m) (hB : B ≤ R) (hu : IsU8 zs)
    (hI : InBox w R a m c p e) (hr : Row w B a (ints .u8 zs)) :
    Calls Try.prog 67 #[.pointer (some ⟨R, 0, none⟩), .int .i64 n] w (Num4 zs n R a m c p e w) := by
  obtain ⟨ts, hts⟩ : ∃ ts, (takeM zs n (p, e)).1 = ts := ⟨_, rfl⟩
  have ul : ts.length ≤ 4 ∧ IsU8 ts := by
    rw [← hts]
    unfold takeM
    split
    · exact ⟨by simp, fun z hz => by simp at hz⟩
    split
    · exact ⟨by simp, fun z hz => by simp at hz⟩
    · exact ⟨by simp; omega, fun z hz => hu z (List.mem_of_mem_drop (List.mem_of_mem_take hz))⟩
  have C1 := Lib.hid (take_any R a zs m c p n B e w hm hl (by omega) hc hp hB hI hr)
  clear hI hr hm hl hc hu hn
  unfold Num4
  rw [hts] at C1
  rw [hts]
  have HT := Lib.hid hts; clear hts
  have UL := Lib.hid ul; clear ul
  obtain ⟨t, ht⟩ : ∃ t, ts.length = t := ⟨_, rfl⟩
  rw [ht] at C1
  have HTL := Lib.hid ht; clear ht
  go_enter Try.func67, Try.ntmps67
  go_wp2_with fail
  refine C1.out.mono ?_
  rintro x w1 ⟨a', c', rfl, r1, l1, I1, k1⟩
  have H1 := Lib.hid (And.intro r1 (And.intro I1 k1)); clear I1 k1 r1
  go_wp2
  go_loopw [7, 6] (fun i v wr => ∃ k : Nat, i = .int .i64 k ∧ v = .int .i64 (numV (ts.take k)) ∧ k ≤ t ∧ Drawn w1 wr) (fun i _ _ => t - (intOf i).toNat)
  case atStart => exact ⟨0, by simp, by simp [numV], Nat.zero_le _, Drawn.refl _⟩
  case round =>
    obtain ⟨k, rfl, rfl, hk, hd⟩ := hrel
    have t4 : t ≤ 4 := by have := UL.out.1; have := HTL.out; omega
    by_cases hlt : k < t
    · have l2 := HTL.out
      obtain ⟨b1, o1, rfl, _, q1⟩ := H1.out.1.ints (by rintro rfl; simp at l2; omega)
      have x1 : wr.cell? ⟨b1, o1 + k, none⟩ = some (.int .u8 (ts[k]?.getD 0)) := (hd.cell _).trans (q1 k (by omega))
      clear q1
      have i1 : (k : Int) < (t : Int) := by omega
      have i0 : (0 : Int) ≤ (k : Int) := by omega
      have n2 : numV (ts.take (k + 1)) = 256 * numV (ts.take k) + ts[k]?.getD 0 := by
        rw [List.take_add_one, List.getElem?_eq_getElem (by omega : k < ts.length), Option.toList_some, numV_snoc]
        rfl
      have N2 := Lib.hid n2; clear n2
      have b1 := (numV_take ts UL.out.2 k (by omega)).1
      have b2 := (numV_take ts UL.out.2 k (by omega)).2
      have b3 : 0 ≤ ts[k]?.getD 0 ∧ ts[k]?.getD 0 < 256 := by
        rw [List.getElem?_eq_getElem (by omega : k < ts.length)]
        exact UL.out.2 _ (List.getElem_mem _)
      have b4 := b3.1
      have b5 := b3.2
      clear b3
      clear l2
      generalize numV (ts.take k) = A at *
      generalize ts[k]?.getD 0 = Z at *
      go_wp2
      go_roundw
      case rel => exact ⟨k + 1, by simp, by rw [N2.out], by omega, hd⟩
      case measure => simp [intOf]; omega
    · have i1 : ¬ (k : Int) < (t : Int) := by omega
      go_wp2
      go_ret
      refine ⟨?_, H1.out.2.1.drawn hd, H1.out.2.2.trans (hd.kept _)⟩
      have : ts.take k = ts := List.take_of_length_le (by have := HTL.out; omega)
      rw [this]
      rfl
end Go.Proofs.Ytaplndehoenghaa
