/- What quarters do: plain arithmetic of the turning function. -/
import Derived.Test.YtpbklojdmkpkcaaDoorTurnB
namespace Go.Proofs.YtpbklojdmkpkcaaDoor
theorem rotL_low {m m' x y : Int} (h : m % 16384 = m' % 16384) : ∀ k, k ≤ 14 → rotL m x y k = rotL m' x y k
  | 0, _ => rfl
  | k + 1, hk => by
    have ih := rotL_low (x := x) (y := y) h k (by omega)
    have e : m / 2 ^ (13 - k) % 2 = m' / 2 ^ (13 - k) % 2 := by
      obtain ⟨j, hj, hj2⟩ : ∃ j, 13 - k = j ∧ j ≤ 13 := ⟨13 - k, rfl, by omega⟩
      rw [hj]
      rcases j with _ | _ | _ | _ | _ | _ | _ | _ | _ | _ | _ | _ | _ | _ | j
      all_goals first | (exfalso; omega) | (simp only [Nat.reduceAdd, Nat.zero_add, Int.reducePow]; omega)
    simp only [rotL, ih, e]
/-- The way behind the low bits. -/
def lowF (x y a : Int) : Except Int (Int × Int) := rotL (a % 65536) x y 14
theorem lowF_add (x y a c : Int) : lowF x y (a + 16384 * c) = lowF x y a := rotL_low (by omega) 14 (by omega)
def turns (r : Except Int (Int × Int)) (q : Nat) : Except Int (Int × Int) := match r with
  | .error e => .error e
  | .ok u => .ok (qt u q)
theorem rotF_is (x y a : Int) : rotF x y a = turns (lowF x y a) (a % 65536 / 16384).toNat := by unfold rotF rotM turns lowF; rfl
theorem qt_4 (u : Int × Int) : qt u 4 = u := by simp [qt]
theorem turns_1 (r : Except Int (Int × Int)) (q : Nat) : valX (turns r (q + 1)) = -(valY (turns r q)) ∧ valY (turns r (q + 1)) = valX (turns r q) ∧ errW (turns r (q + 1)) = errW (turns r q) := by
  cases r with
  | error e => exact ⟨rfl, rfl, rfl⟩
  | ok u => exact ⟨rfl, rfl, rfl⟩
theorem turns_4 (r : Except Int (Int × Int)) : turns r 4 = turns r 0 := by
  cases r with
  | error e => rfl
  | ok u => show Except.ok (qt u 4) = _; rw [qt_4]; rfl
theorem rotF_1 (x y a : Int) : valX (rotF x y (a + 16384)) = -(valY (rotF x y a)) ∧ valY (rotF x y (a + 16384)) = valX (rotF x y a) ∧ errW (rotF x y (a + 16384)) = errW (rotF x y a) := by
  rw [rotF_is, rotF_is, show a + 16384 = a + 16384 * 1 from by omega, lowF_add]
  have h := turns_1 (lowF x y a) (a % 65536 / 16384).toNat
  rcases Int.lt_or_le (a % 65536) 49152 with hq | hq
  · rw [show ((a + 16384 * 1) % 65536 / 16384).toNat = (a % 65536 / 16384).toNat + 1 from by omega]; exact h
  · have e : (a % 65536 / 16384).toNat = 3 := by omega
    rw [show ((a + 16384 * 1) % 65536 / 16384).toNat = 0 from by omega, ← turns_4]
    rw [e] at h ⊢
    exact h
theorem rotF_2 (x y a : Int) : valX (rotF x y (a + 32768)) = -(valX (rotF x y a)) ∧ valY (rotF x y (a + 32768)) = -(valY (rotF x y a)) ∧ errW (rotF x y (a + 32768)) = errW (rotF x y a) := by
  have h1 := rotF_1 x y a
  have h2 := rotF_1 x y (a + 16384)
  rw [show a + 16384 + 16384 = a + 32768 from by omega] at h2
  rw [h2.1, h2.2.1, h2.2.2, h1.1, h1.2.1, h1.2.2]
  exact ⟨rfl, rfl, rfl⟩
theorem rotF_4 (x y a : Int) : rotF x y (a + 65536) = rotF x y a := by unfold rotF; rw [show (a + 65536) % 65536 = a % 65536 from by omega]
theorem rotF_4' (x y a : Int) : rotF x y (a - 65536) = rotF x y a := by unfold rotF; rw [show (a - 65536) % 65536 = a % 65536 from by omega]
theorem rotF_0 (x y : Int) : rotF x y 0 = .ok (x, y) := by
  have e : ∀ k, k ≤ 14 → rotL 0 x y k = .ok (x, y) := by
    intro k
    induction k with
    | zero => intro _; rfl
    | succ k ih => intro hk; simp [rotL, ih (by omega)]
  unfold rotF rotM
  rw [show (0 : Int) % 65536 = 0 from rfl, e 14 (by omega)]; rfl
end Go.Proofs.YtpbklojdmkpkcaaDoor
