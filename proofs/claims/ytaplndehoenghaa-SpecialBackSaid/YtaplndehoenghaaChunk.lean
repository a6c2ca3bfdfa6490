/- slices.Chunk of bytes: what it yields. -/
import Derived.Test.YtaplndehoenghaaRange
import Derived.Deep.QuietTactic
import Derived.BigQuiet
namespace Go.Proofs.Ytaplndehoenghaa
open Go.RowKit
set_option linter.unusedVariables false

theorem chunk_makes (a : Option Addr) (m c : Nat) (w : World) :
    Calls Try.prog 39 #[.slice a m c, .int .i64 4] w fun e w' =>
      e = .returned (.func (.func 65) #[] #[.pointer (some ⟨w.heap.size, 0, none⟩), .pointer (some ⟨w.heap.size + 1, 0, none⟩)]) ∧
      (w.alloc (.cells #[.slice a m c] 22)).alloc (.cells #[.int .i64 4] 3) = w' := by
  have hmf : ∀ (fn : Fn) (first cap : Array Value) (w : World), (Instr.makeFunc fn first cap).run Try.prog w = .ok (.func fn first cap) w := fun _ _ _ _ => rfl
  go_enter Try.func39, Try.ntmps39
  go_wp2
  go_ret
  exact ⟨rfl, rfl⟩

/-- The i-th piece of four. -/
def piece (a : Option Addr) (i : Nat) : Array Value := #[.slice (cutAt a (4 * i) (4 * i + 4)) 4 4]

theorem chunk_gen (a : Option Addr) (m c N B1 B2 : Nat) (w : World) (hm : m = 4 * N) (hc : m ≤ c) (hN : N ≤ 1000000) (T : World → World → Prop)
    (hT : ∀ A B k, k = B1 ∨ k = B2 → k < A.heap.size → T A B → B.heap[k]? = A.heap[k]?)
    (h1 : w.heap[B1]? = some (.cells #[.slice a m c] 22 (0, 0))) (h2 : w.heap[B2]? = some (.cells #[.int .i64 4] 3 (0, 0))) :
    Gen Try.prog 65 #[.pointer (some ⟨B1, 0, none⟩), .pointer (some ⟨B2, 0, none⟩)] N (fun _ => False) T (fun i args _ => args = piece a i) w := by
  intro l J Jx W hTw hJ hJx hY h0
  have hgt : ∀ {A : World} {k : Nat} {o : Obj}, A.heap[k]? = some o → k < A.heap.size := fun h => (Array.getElem?_eq_some_iff.1 h).1
  have k1 := (hT w W B1 (.inl rfl) (hgt h1) hTw).trans h1
  have k2 := (hT w W B2 (.inr rfl) (hgt h2) hTw).trans h2
  have HJ := Lib.hid hJ; clear hJ
  have HJx := Lib.hid hJx; clear hJx
  have HT := Lib.hid hT; clear hT
  have HY := Lib.hid hY; clear hY
  have HM := Lib.hid hm; clear hm
  have K1 := Lib.hid k1; clear k1
  have K2 := Lib.hid k2; clear k2
  clear h1 h2
  refine callsIn_of_wp Try.func65 rfl trivial ?_ rfl
  simp only [Try.ntmps65, List.size_toArray, List.length_cons, List.length_nil, Nat.reduceAdd, Nat.reduceSub, Array.replicate_succ, Array.replicate_zero, List.push_toArray, List.append_toArray, List.nil_append, List.cons_append]
  gi_wp2
  gi_loopw [4] (fun i wr => ∃ k : Nat, i = .int .i64 (4 * (k : Int)) ∧ k ≤ N ∧ J k wr ∧ wr.heap[B1]? = some (.cells #[.slice a m c] 22 (0, 0)) ∧ wr.heap[B2]? = some (.cells #[.int .i64 4] 3 (0, 0)))
    (fun i _ => m - (intOf i).toNat)
  case atStart => exact ⟨0, by simp, Nat.zero_le _, h0, K1.out, K2.out⟩
  case round =>
    obtain ⟨k, rfl, hk, hj, b1, b2⟩ := hrel
    have c1 := box_cell b1
    have c2 := box_cell b2
    have HB1 := Lib.hid b1; clear b1
    have HB2 := Lib.hid b2; clear b2
    have hmN : (m : Int) = 4 * (N : Int) := by have := HM.out; omega
    by_cases hlt : k < N
    · have i1 : (4 * (k : Int)) < (m : Int) := by omega
      have i2 : (4 * (k : Int)) + 4 ≤ (m : Int) := by omega
      have i3 : (m : Int) ≤ (c : Int) := by omega
      clear hmN
      have i4 : (0 : Int) ≤ 4 * (k : Int) := by omega
      have i5 : (4 : Int) ≤ (m : Int) - 4 * (k : Int) := by omega
      gi_wp2
      refine (wpIn_wide (n := 0)).2 ?_
      go_quiet (fail)
      have hj' : J k (wr.drewN nq) := HJ.out k wr _ hj ((Kept.refl _ _).drewN _)
      obtain ⟨fn, tmps, assign, body, hy, hR⟩ := HY.out k (piece a k) (wr.drewN nq) hlt hj' rfl
      simp only [piece] at hy
      gi_wp2
      refine ⟨rfl, hR.mono ?_⟩
      rintro e W3 (⟨rfl, hJ3, hk3⟩ | ⟨rfl, hJx3⟩)
      · have b31 := (HT.out _ _ B1 (.inl rfl) (hgt (show (wr.drewN nq).heap[B1]? = _ from HB1.out)) hk3).trans HB1.out
        have b32 := (HT.out _ _ B2 (.inr rfl) (hgt (show (wr.drewN nq).heap[B2]? = _ from HB2.out)) hk3).trans HB2.out
        have c32 := box_cell b32
        have H31 := Lib.hid b31; clear b31
        have H32 := Lib.hid b32; clear b32
        gi_wp2
        go_roundw
        case rel => exact ⟨k + 1, by simp; omega, by omega, hJ3, H31.out, H32.out⟩
        case measure => simp [intOf]; omega
      · gi_wp2
        refine bodyPost_ret (results_none rfl _ _ _) rfl ?_
        exact ⟨⟨_, rfl⟩, .inr ⟨k, hlt, hJx3⟩⟩
    · have i1 : ¬ (4 * (k : Int)) < (m : Int) := by omega
      clear hmN
      gi_wp2
      go_end0
      exact ⟨⟨_, rfl⟩, .inl (by rwa [show k = N from by omega] at hj)⟩
end Go.Proofs.Ytaplndehoenghaa
