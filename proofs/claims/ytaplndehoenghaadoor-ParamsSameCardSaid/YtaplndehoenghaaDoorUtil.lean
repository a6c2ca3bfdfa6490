/- Small words on copies and rows that are read. -/
import Derived.Test.YtaplndehoenghaaDoorCopy
namespace Go.Proofs.YtaplndehoenghaaDoor
open Go.RowKit
set_option linter.unusedVariables false

theorem copy_none (w : World) (n0 e : Nat) (k : IntKind) : IsCopy n0 e k 0 [] (.slice none 0 0) w := ⟨none, 0, rfl, Nat.le_refl _, World.ownsRow_nil _ _ _ _⟩

theorem copy_own {w : World} {n0 e : Nat} {k : IntKind} {zs : List Int} {v : Value} (h : w.ownsRow n0 e 1 v zs.length (ints k zs)) : IsCopy n0 e k zs.length zs v w := by
  obtain ⟨p, q, rfl, hq, -⟩ := own_slice h
  exact ⟨p, q, rfl, hq, h⟩

theorem IsCopy.base {n0 n1 e m : Nat} {k : IntKind} {zs : List Int} {v : Value} {w : World} (h : IsCopy n0 e k m zs v w) (hb : n1 ≤ n0) : IsCopy n1 e k m zs v w := by
  obtain ⟨p, q, rfl, hq, ho⟩ := h
  exact ⟨p, q, rfl, hq, own_base ho hb⟩
theorem IsCopy.below {n0 e m : Nat} {k : IntKind} {zs : List Int} {v : Value} {w w' : World} (h : IsCopy n0 e k m zs v w) (hb : Below w.heap.size w w') : IsCopy n0 e k m zs v w' := h.kept (Kept.of_below' hb (fun _ => False)) (fun _ h => h.elim)

/-- Integers that are read. -/
def IsRead (k : IntKind) (m : Nat) (zs : List Int) (v : Value) (w : World) : Prop := ∃ p q, v = .slice p m q ∧ m ≤ q ∧ Row w w.heap.size p (ints k zs)
theorem IsRead.below {k : IntKind} {m : Nat} {zs : List Int} {v : Value} {w w' : World} (h : IsRead k m zs v w) (hb : Below w.heap.size w w') : IsRead k m zs v w' := by
  obtain ⟨p, q, rfl, hq, hr⟩ := h
  exact ⟨p, q, rfl, hq, (hr.below hb).more hb.size⟩
theorem IsCopy.read {n0 e : Nat} {k : IntKind} {m : Nat} {zs : List Int} {v : Value} {w : World} (h : IsCopy n0 e k m zs v w) : IsRead k m zs v w := by
  obtain ⟨p, q, rfl, hq, ho⟩ := h
  exact ⟨p, q, rfl, hq, Row.of_own ho⟩

theorem copy_own' {w : World} {n0 e m : Nat} {k : IntKind} {zs : List Int} {v : Value} (h : w.ownsRow n0 e 1 v m (ints k zs)) : IsCopy n0 e k m zs v w := by
  obtain ⟨p, q, rfl, hq, -⟩ := own_slice h
  exact ⟨p, q, rfl, hq, h⟩
theorem IsCopy.own {w : World} {n0 e m : Nat} {k : IntKind} {zs : List Int} {v : Value} (h : IsCopy n0 e k m zs v w) : w.ownsRow n0 e 1 v m (ints k zs) := by
  obtain ⟨p, q, rfl, hq, ho⟩ := h
  exact ho
theorem IsCopy.len {w : World} {n0 e m : Nat} {k : IntKind} {zs : List Int} {v : Value} (h : IsCopy n0 e k m zs v w) : zs.length = m := by
  obtain ⟨p, q, rfl, hq, ho⟩ := h
  simpa using ho.1

/-- append of integers that are read, onto an owned row. -/
theorem app_copy {W : World} {B n m c e t bytes Br : Nat} {k : IntKind} {v : Value} {xs ys : List Int} {A : Option Addr} (ht : Tryd.prog.underlying t = some (.slice e)) (hinfo : (Tryd.prog.info? e).map (fun i => (i.zero, i.size, i.bytes)) = some (some (.int k 0), 1, bytes)) (hby : bytes ≤ 64)
    (ho : IsCopy B e k n xs v W) (hB : B ≤ W.heap.size) (hm : ys.length = m) (hr : Row W Br A (ints k ys)) (hn : n + m ≤ 1000000) :
    ∃ v' wz, (appSem #[t, t] t #[v, .slice A m c]).run Tryd.prog W = .ok v' wz ∧ IsCopy B e k (n + m) (xs ++ ys) v' wz ∧ Kept (fun k => v.ownBlock = some k) W wz := by
  obtain ⟨i0, hi, hz0, hz1, hz2⟩ := info_parts hinfo
  have hb : (n + m) * bytes ≤ 140737488355328 := by
    have : (n + m) * bytes ≤ (n + m) * 64 := Nat.mul_le_mul_left _ hby
    omega
  obtain ⟨v', wz, hrun, hoz, hgz, _⟩ := run_app (P := Tryd.prog) W B t t e i0 (.int k 0) 1 bytes ht hi hz0 hz1 hz2 rfl (by omega) v n (ints k xs) ho.own Br A m c (ints k ys) (by simp [hm]) hr (ints_one _ _) (by simp only [maxLen]; omega) hb hB
  rw [ints_append] at hoz
  exact ⟨v', wz, hrun, copy_own' hoz, (Kept.refl _ _).grown hgz fun k hk => .inl hk⟩
/-- .. where nothing below B0 turns by it. -/
theorem kept_below {W0 W wz : World} {v : Value} (hb : Below W0.heap.size W0 W) (hk : Kept (fun k => v.ownBlock = some k) W wz) (hB : ∀ k, v.ownBlock = some k → W0.heap.size ≤ k) : Below W0.heap.size W0 wz :=
  Kept.below ((Kept.of_below' hb (fun _ => False)).then hk (fun i h1 h2 => by have := hB i h2; omega))
theorem IsCopy.low {w : World} {n0 e m : Nat} {k : IntKind} {zs : List Int} {v : Value} (h : IsCopy n0 e k m zs v w) : ∀ j, v.ownBlock = some j → n0 ≤ j := fun j hj => (h.own.lt j hj).1
end Go.Proofs.YtaplndehoenghaaDoor
