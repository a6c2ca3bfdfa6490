/- The reference's start of a packet. -/
import Derived.Test.YtaplndehoenghaaRefIn
namespace Go.Proofs.Ytaplndehoenghaa
open Go.RowKit
set_option linter.unusedVariables false

/-- The reader stands at s, since w0. -/
def St (zs : List Int) (R : Nat) (a : Option Addr) (m c : Nat) (w0 w : World) (s : Nat × Int) : Prop :=
  InBox w R a m c s.1 s.2 ∧ s.1 ≤ m ∧ Kept (fun k => k = R) w0 w

/-- What does not change. -/
structure Src (zs : List Int) (R : Nat) (a : Option Addr) (m c B : Nat) (w0 : World) : Prop where
  len : zs.length = m
  small : m ≤ 1000000
  cap : m ≤ c
  le : B ≤ R
  lt : R < w0.heap.size
  u8 : IsU8 zs
  row : Row w0 B a (ints .u8 zs)

theorem Src.at {zs : List Int} {R : Nat} {a : Option Addr} {m c B : Nat} {w0 w : World} (h : Src zs R a m c B w0) (hk : Kept (fun k => k = R) w0 w) : Row w B a (ints .u8 zs) :=
  h.row.keep fun q hq => hk.cell (by have := h.le; have := h.lt; omega) (fun e => by have := h.le; omega)

theorem Src.across {zs : List Int} {R : Nat} {a : Option Addr} {m c B : Nat} {w0 w w' : World} (h : Src zs R a m c B w0) (hk : Kept (fun k => k = R) w0 w) (hk' : Kept (fun k => k = R) w0 w') {b : Option Addr} {xs : List Value} (hr : Row w B b xs) : Row w' B b xs :=
  hr.keep fun q hq => (hk'.cell (by have := h.le; have := h.lt; omega) (fun e => by have := h.le; omega)).trans (hk.cell (by have := h.le; have := h.lt; omega) (fun e => by have := h.le; omega)).symm

theorem takeM_le (zs : List Int) (m n : Nat) (s : Nat × Int) (hm : zs.length = m) (hs : s.1 ≤ m) : (takeM zs n s).2.1 ≤ m := by
  unfold takeM
  split
  · exact hs
  split
  · exact hs
  · simp only; omega
theorem takeM_u8 (zs : List Int) (n : Nat) (s : Nat × Int) (hu : IsU8 zs) : IsU8 (takeM zs n s).1 := by
  unfold takeM
  split
  · exact fun z hz => by simp at hz
  split
  · exact fun z hz => by simp at hz
  · exact fun z hz => hu z (List.mem_of_mem_drop (List.mem_of_mem_take hz))
theorem takeM_len (zs : List Int) (n : Nat) (s : Nat × Int) : (takeM zs n s).1.length ≤ n := by
  unfold takeM
  split
  · simp
  split
  · simp
  · simp; omega

theorem num_st {zs : List Int} {R : Nat} {a : Option Addr} {m c B : Nat} {w0 w : World} {s : Nat × Int} (h0 : Src zs R a m c B w0) (hs : St zs R a m c w0 w s) (n : Nat) (hn : n ≤ 4) :
    Calls Try.prog 67 #[.pointer (some ⟨R, 0, none⟩), .int .i64 n] w fun x w' => x = .returned (.int .i64 (numV (takeM zs n s).1)) ∧ St zs R a m c w0 w' (takeM zs n s).2 := by
  refine (num_any R a zs m c s.1 n B s.2 w h0.len h0.small hn h0.cap hs.2.1 h0.le h0.u8 hs.1 (h0.at hs.2.2)).mono ?_
  rintro x w' ⟨hx, hI, hk⟩
  exact ⟨hx, hI, takeM_le zs m n s h0.len hs.2.1, hs.2.2.trans hk⟩

def needM (is : Bool) (k : Int) (s : Nat × Int) : Nat × Int := (s.1, bif s.2 == 0 && !is then k else s.2)

theorem need_st {zs : List Int} {R : Nat} {a : Option Addr} {m c : Nat} {w0 w : World} {s : Nat × Int} (hs : St zs R a m c w0 w s) (is : Bool) (k : Int) :
    Calls Try.prog 66 #[.pointer (some ⟨R, 0, none⟩), .bool is, .int .i64 k] w fun x w' => x = .returned (.tuple #[]) ∧ St zs R a m c w0 w' (needM is k s) := by
  refine (need_any R a m c s.1 is k s.2 w hs.1).mono ?_
  rintro x w' ⟨hx, hI, hk⟩
  exact ⟨hx, hI, hs.2.1, hs.2.2.trans hk⟩

theorem most_st {zs : List Int} {R : Nat} {a : Option Addr} {m c B : Nat} {w0 w : World} {s : Nat × Int} (h0 : Src zs R a m c B w0) (hs : St zs R a m c w0 w s) (n : Int) (n0 : 0 ≤ n) (hn : n ≤ 1000000) :
    Calls Try.prog 68 #[.pointer (some ⟨R, 0, none⟩), .int .i64 n, .int .i64 20] w fun x w' => ∃ a' c', x = .returned (.slice a' (mostM zs n.toNat s).1.length c') ∧
      Row w' B a' (ints .u8 (mostM zs n.toNat s).1) ∧ (mostM zs n.toNat s).1.length ≤ c' ∧ St zs R a m c w0 w' (mostM zs n.toNat s).2 ∧ Kept (fun k => k = R) w w' := by
  have h := most_any R a zs m c s.1 n.toNat B s.2 w h0.len h0.small (by omega) h0.cap hs.2.1 h0.le hs.1 (h0.at hs.2.2)
  rw [Int.toNat_of_nonneg n0] at h
  refine h.mono ?_
  rintro x w' ⟨a', c', hx, hr, hl, hI, hk⟩
  exact ⟨a', c', hx, hr, hl, ⟨hI, takeM_le zs m _ _ h0.len hs.2.1, hs.2.2.trans hk⟩, hk⟩

/-- The states of the start, one behind the other. -/
def s1 (zs : List Int) (first : Int) : Nat × Int := needM (numV (takeM zs 1 (0, 0)).1 == first) 3 (takeM zs 1 (0, 0)).2
def s2 (zs : List Int) (first : Int) : Nat × Int := (takeM zs 4 (s1 zs first)).2
def s3 (zs : List Int) (first : Int) : Nat × Int := (takeM zs 1 (s2 zs first)).2
def n3 (zs : List Int) (first : Int) : Int := numV (takeM zs 1 (s2 zs first)).1
def s4 (zs : List Int) (first : Int) : Nat × Int := (mostM zs (n3 zs first).toNat (s3 zs first)).2
def s5 (zs : List Int) (first : Int) : Nat × Int := (takeM zs 1 (s4 zs first)).2
def n5 (zs : List Int) (first : Int) : Int := numV (takeM zs 1 (s4 zs first)).1
def s6 (zs : List Int) (first : Int) : Nat × Int := (mostM zs (n5 zs first).toNat (s5 zs first)).2
def startV (zs : List Int) (first : Int) : Int := numV (takeM zs 4 (s1 zs first)).1
def startTo (zs : List Int) (first : Int) : List Int := (mostM zs (n3 zs first).toNat (s3 zs first)).1
def startFrom (zs : List Int) (first : Int) : List Int := (mostM zs (n5 zs first).toNat (s5 zs first)).1

def StartPost (B : Nat) (zs : List Int) (first : Int) (w : World) (x : Ending) (w' : World) : Prop :=
  if (s6 zs first).2 ≠ 0 then x = .returned (.tuple #[.int .i64 0, .slice none 0 0, .slice none 0 0, .slice none 0 0, .bool false]) ∧ Below w.heap.size w w'
  else ∃ a1 a2 a3 c1 c2 c3, x = .returned (.tuple #[.int .i64 (startV zs first), .slice a1 (startTo zs first).length c1, .slice a2 (startFrom zs first).length c2, .slice a3 (zs.drop (s6 zs first).1).length c3, .bool true]) ∧
    Row w' B a1 (ints .u8 (startTo zs first)) ∧ Row w' B a2 (ints .u8 (startFrom zs first)) ∧ Row w' B a3 (ints .u8 (zs.drop (s6 zs first).1)) ∧
    (startTo zs first).length ≤ c1 ∧ (startFrom zs first).length ≤ c2 ∧ (zs.drop (s6 zs first).1).length ≤ c3 ∧ Below w.heap.size w w'

theorem n_byte (zs : List Int) (s : Nat × Int) (hu : IsU8 zs) : 0 ≤ numV (takeM zs 1 s).1 ∧ numV (takeM zs 1 s).1 ≤ 1000000 := by
  have h := numV_bd _ (takeM_u8 zs 1 s hu)
  refine ⟨h.1, Int.le_of_lt (Int.lt_of_lt_of_le h.2 ?_)⟩
  have := takeM_len zs 1 s
  match (takeM zs 1 s).1.length, this with
  | 0, _ => decide
  | 1, _ => decide

set_option maxHeartbeats 1000000 in
theorem start_any (a : Option Addr) (zs : List Int) (first : Int) (m c B : Nat) (w : World) (hm : zs.length = m) (hl : m ≤ 1000000) (hc : m ≤ c) (hB : B ≤ w.heap.size) (hu : IsU8 zs) (f0 : 0 ≤ first) (f1 : first < 256)
    (hr : Row w B a (ints .u8 zs)) :
    Calls Try.prog 42 #[.slice a m c, .int .u8 first] w (StartPost B zs first w) := by
  obtain ⟨w0, hw0⟩ : ∃ w0, w.alloc (.cells #[.slice a m c, .int .i64 0, .int .i64 0] 121) = w0 := ⟨_, rfl⟩
  have h0 : Src zs w.heap.size a m c B w0 := ⟨hm, hl, hc, hB, by rw [← hw0]; exact (Array.getElem?_eq_some_iff.1 (heap_alloc_new w _)).1, hu, by rw [← hw0]; exact hr.alloc hB _⟩
  have hs : St zs w.heap.size a m c w0 w0 (0, 0) := ⟨by rw [← hw0]; exact heap_alloc_new _ _, Nat.zero_le _, Kept.refl _ _⟩
  have HB : Hid (Below w.heap.size w w0) := Lib.hid (by rw [← hw0]; exact (Below.refl _ _).alloc (Nat.le_refl _) _)
  have H0 := Lib.hid h0; clear h0
  have HS := Lib.hid hs; clear hs
  have HW := Lib.hid hw0; clear hw0
  have HM := Lib.hid hm; clear hm
  clear hr hB hc
  go_enter Try.func42, Try.ntmps42
  go_wp2_with fail
  rw [HW.out]
  refine (num_st H0.out HS.out 1 (by omega)).mono ?_
  rintro x w1 ⟨rfl, k1⟩
  have K1 := Lib.hid k1; clear k1
  go_wp2_with fail
  refine (need_st K1.out _ 3).mono ?_
  rintro x w2 ⟨rfl, k2⟩
  have K2 := Lib.hid (show St zs w.heap.size a m c w0 w2 (s1 zs first) from k2); clear k2
  go_wp2_with fail
  refine (num_st H0.out K2.out 4 (by omega)).mono ?_
  rintro x w3 ⟨rfl, k3⟩
  have K3 := Lib.hid (show St zs w.heap.size a m c w0 w3 (s2 zs first) from k3); clear k3
  go_wp2_with fail
  refine (num_st H0.out K3.out 1 (by omega)).mono ?_
  rintro x w4 ⟨rfl, k4⟩
  have K4 := Lib.hid (show St zs w.heap.size a m c w0 w4 (s3 zs first) from k4); clear k4
  go_wp2_with fail
  refine (most_st H0.out K4.out _ (n_byte _ _ H0.out.u8).1 (n_byte _ _ H0.out.u8).2).mono ?_
  rintro x w5 ⟨a1, c1, rfl, r1, l1, k5, t1⟩
  have K5 := Lib.hid (show St zs w.heap.size a m c w0 w5 (s4 zs first) from k5); clear k5
  have R1 := Lib.hid (And.intro r1 l1); clear r1 l1 t1
  go_wp2_with fail
  refine (num_st H0.out K5.out 1 (by omega)).mono ?_
  rintro x w6 ⟨rfl, k6⟩
  have K6 := Lib.hid (show St zs w.heap.size a m c w0 w6 (s5 zs first) from k6); clear k6
  go_wp2_with fail
  refine (most_st H0.out K6.out _ (n_byte _ _ H0.out.u8).1 (n_byte _ _ H0.out.u8).2).mono ?_
  rintro x w7 ⟨a2, c2, rfl, r2, l2, k7, t2⟩
  have K7 := Lib.hid (show St zs w.heap.size a m c w0 w7 (s6 zs first) from k7); clear k7
  have R2 := Lib.hid (And.intro r2 l2); clear r2 l2 t2
  have cA := cells3 K7.out.1
  have below : Hid (Below w.heap.size w w7) := Lib.hid (HB.out.trans ((Kept.of_below (S := fun k => k = w.heap.size) (Below.refl w0.heap.size w0) (fun k h1 h2 => by omega)).trans K7.out.2.2 |> fun h => ⟨h.os, h.tape, h.output, by have := HB.out.size; have := h.size; omega, fun k hk => h.block k (by have := HB.out.size; omega) (by omega)⟩))
  by_cases he : (s6 zs first).2 = 0
  · have b0 : ((s6 zs first).2 != 0) = false := by simp [he]
    have le := K7.out.2.1
    have b1 : ((s6 zs first).1 : Int) ≤ (m : Int) := by omega
    go_wp2_with fail
    go_quiet (fail)
    go_wp2
    refine bodyPost_ret (v := .tuple #[.int .i64 (startV zs first), .slice a1 (startTo zs first).length c1, .slice a2 (startFrom zs first).length c2, .slice (cutAt a (s6 zs first).1 c) (m - (s6 zs first).1) (c - (s6 zs first).1), .bool true]) (by simp [results, Try.results42, go_sem, startV, startTo, startFrom, n3, n5]) rfl ?_
    rw [StartPost, if_neg (by simp [he])]
    have ln : (zs.drop (s6 zs first).1).length = m - (s6 zs first).1 := by simp [HM.out]
    refine ⟨a1, a2, cutAt a (s6 zs first).1 c, c1, c2, c - (s6 zs first).1, by rw [ln], (H0.out.across K5.out.2.2 K7.out.2.2 R1.out.1).drewN _, R2.out.1.drewN _, ?_, R1.out.2, R2.out.2, ?_, (below.out.trans (((Drawn.refl w7).drewN _).below _))⟩
    · have := ((H0.out.at K7.out.2.2).cut (s6 zs first).1 c (by simp [HM.out]; exact H0.out.cap)).drewN nq
      simpa [ints, List.map_drop] using this
    · rw [ln]; have := H0.out.cap; omega
  · have b0 : ((s6 zs first).2 != 0) = true := by simp [he]
    go_wp2_with fail
    refine bodyPost_ret (v := .tuple #[.int .i64 0, .slice none 0 0, .slice none 0 0, .slice none 0 0, .bool false]) (by simp [results, Try.results42, go_sem]) rfl ?_
    rw [StartPost, if_pos he]
    exact ⟨rfl, below.out⟩
end Go.Proofs.Ytaplndehoenghaa
