/- An angle's direction, and its mirror's: plain arithmetic. -/
import Derived.Test.YtpbklojdmkpkcaaDoorMirA
namespace Go.Proofs.YtpbklojdmkpkcaaDoor
set_option linter.unusedSimpArgs false
set_option linter.unusedVariables false
theorem grow_get (tx ty : Nat) : ∀ (l : List Nat) (i : Nat), (grow tx ty l)[i]? = (l[i / 2]?).map fun p => if i % 2 = 0 then p else pby tx ty p
  | [], i => by simp [grow]
  | p :: r, 0 => by simp [grow, force_eq]
  | p :: r, 1 => by simp [grow, force_eq]
  | p :: r, i + 2 => by
    have h := grow_get tx ty r i
    rw [show (i + 2) / 2 = i / 2 + 1 from by omega, show (i + 2) % 2 = i % 2 from by omega]
    simp only [grow, force_eq, List.getElem?_cons_succ]
    exact h
theorem grow_length (tx ty : Nat) : ∀ l : List Nat, (grow tx ty l).length = 2 * l.length
  | [] => rfl
  | p :: r => by simp only [grow, force_eq, List.length_cons, grow_length tx ty r]; omega
theorem lev_length : ∀ k, (lev k).length = 2 ^ k
  | 0 => rfl
  | k + 1 => by rw [lev, grow_length, lev_length k, Nat.pow_succ]; omega
theorem rd_int (n : Nat) : (((n : Nat) : Int) + 9223372036854775808) / 18446744073709551616 = ((rd n : Nat) : Int) := by unfold rd; omega
theorem mag_nat (x : Nat) : mag (x : Int) = x := by unfold mag; rw [if_neg (by omega)]
theorem mag_natN (x : Nat) : mag (-(x : Int)) = x := by unfold mag; split <;> omega
theorem neg_nat (x : Nat) : neg (x : Int) = false := by unfold neg; rw [decide_eq_false_iff_not]; omega
theorem neg_natN (x : Nat) (h : x ≠ 0) : neg (-(x : Int)) = true := by unfold neg; rw [decide_eq_true_iff]; omega
theorem tell_pos (r : Nat) (h : r < 170141183460469231731687303715884105728) : tell (r : Int) false = .ok (r : Int) := by
  unfold tell; rw [if_neg (by omega)]; rfl
theorem tell_neg (r : Nat) (h : r < 170141183460469231731687303715884105728) : tell (r : Int) true = .ok (-(r : Int)) := by
  unfold tell; rw [if_neg (by omega)]; rfl
theorem rd_zero (d : Nat) : rd (0 * d) = 0 := by rw [Nat.zero_mul]; decide
theorem mulF_is (a b : Int) : mulF a b = tell ((mag a * mag b + 9223372036854775808) / 18446744073709551616) (neg a != neg b) := rfl
theorem mulF_nat (x d : Nat) (h : rd (x * d) < 170141183460469231731687303715884105728) : mulF (x : Int) (d : Int) = .ok (rd (x * d) : Nat) := by
  rw [mulF_is, mag_nat, mag_nat, neg_nat, neg_nat, ← Int.natCast_mul, rd_int]
  exact tell_pos _ h
theorem mulF_natN (x d : Nat) (h : rd (x * d) < 170141183460469231731687303715884105728) : mulF (-(x : Int)) (d : Int) = .ok (-((rd (x * d) : Nat) : Int)) := by
  rw [mulF_is, mag_natN, mag_nat, neg_nat, ← Int.natCast_mul, rd_int]
  by_cases hx : x = 0
  · subst hx
    rw [rd_zero]
    rfl
  · rw [neg_natN x hx]
    exact tell_neg _ h
theorem addF_ok (a b : Int) (h : -170141183460469231731687303715884105728 < a + b ∧ a + b < 170141183460469231731687303715884105728) : addF a b = .ok (a + b) := by unfold addF; rw [if_pos h]
theorem pXY (x y N : Nat) (h : y < N) : (x * N + y) / N = x ∧ (x * N + y) % N = y := by
  have hN : 0 < N := by omega
  refine ⟨?_, ?_⟩
  · rw [Nat.add_comm, Nat.add_mul_div_right _ _ hN, Nat.div_eq_of_lt h, Nat.zero_add]
  · rw [Nat.add_comm, Nat.add_mul_mod_self_right, Nat.mod_eq_of_lt h]
theorem pX_mk (x y : Nat) (h : y < 340282366920938463463374607431768211456) : pX (x * 340282366920938463463374607431768211456 + y) = x := (pXY x y _ h).1
theorem pY_mk (x y : Nat) (h : y < 340282366920938463463374607431768211456) : pY (x * 340282366920938463463374607431768211456 + y) = y := (pXY x y _ h).2
theorem byF_of (x y dx dy : Int) (A B C D M : Nat) (hM : M < 85070591730234615865843651857942052864) (a1 : mulF x dx = .ok (A : Int)) (a2 : mulF y dx = .ok (B : Int)) (a3 : mulF (-y) dy = .ok (-(C : Int))) (a4 : mulF x dy = .ok (D : Int)) (h1 : C ≤ A) (h2 : A ≤ M) (h3 : B + D ≤ M) :
    byF x y dx dy = .ok (((A - C : Nat) : Int), ((B + D : Nat) : Int)) := by
  have p1 : byP x dx y = .ok ((A : Int), (B : Int)) := by unfold byP; rw [a1, a2]; rfl
  have p2 : byP (-y) dy x = .ok (-(C : Int), (D : Int)) := by unfold byP; rw [a3, a4]; rfl
  have p3 : byS x y dx dy = .ok ((A : Int) + -(C : Int), (B : Int) + (D : Int)) := by
    unfold byS; rw [p1, p2]
    show both (addF (A : Int) (-(C : Int))) (addF (B : Int) (D : Int)) = _
    rw [addF_ok _ _ (by omega), addF_ok _ _ (by omega)]; rfl
  unfold byF
  rw [p1, p2, p3]
  simp only [errW, bne_self_eq_false, Bool.false_eq_true, if_false]
  have e1 : ((A - C : Nat) : Int) = (A : Int) + -(C : Int) := by omega
  have e2 : ((B + D : Nat) : Int) = (B : Int) + (D : Int) := by omega
  rw [e1, e2]
theorem pby_is (tx ty p : Nat) (h : (Nat.ble (rd (pY p * ty)) (rd (pX p * tx)) && (Nat.ble (rd (pX p * tx)) 73786976294838206464 && Nat.ble (rd (pY p * tx) + rd (pX p * ty)) 73786976294838206464)) = true) :
    pby tx ty p = (rd (pX p * tx) - rd (pY p * ty)) * 340282366920938463463374607431768211456 + (rd (pY p * tx) + rd (pX p * ty)) := by
  unfold pby; rw [h, cond_true]
theorem pby_no (tx ty p : Nat) (h : (Nat.ble (rd (pY p * ty)) (rd (pX p * tx)) && (Nat.ble (rd (pX p * tx)) 73786976294838206464 && Nat.ble (rd (pY p * tx) + rd (pX p * ty)) 73786976294838206464)) = false) : pby tx ty p = 0 := by
  unfold pby; rw [h, cond_false]
theorem pby_ok (tx ty p : Nat) (h : pby tx ty p ≠ 0) : byF (pX p) (pY p) tx ty = .ok ((pX (pby tx ty p) : Int), (pY (pby tx ty p) : Int)) := by
  cases hc : (Nat.ble (rd (pY p * ty)) (rd (pX p * tx)) && (Nat.ble (rd (pX p * tx)) 73786976294838206464 && Nat.ble (rd (pY p * tx) + rd (pX p * ty)) 73786976294838206464))
  · exact absurd (pby_no tx ty p hc) h
  · rw [pby_is tx ty p hc]
    simp only [Bool.and_eq_true, Nat.ble_eq] at hc
    obtain ⟨h1, h2, h3⟩ := hc
    have a1 := mulF_nat (pX p) tx
    have a2 := mulF_nat (pY p) tx
    have a3 := mulF_natN (pY p) ty
    have a4 := mulF_nat (pX p) ty
    clear h
    revert a1 a2 a3 a4 h1 h2 h3
    generalize rd (pX p * tx) = A
    generalize rd (pY p * tx) = B
    generalize rd (pY p * ty) = C
    generalize rd (pX p * ty) = D
    intro h1 h2 h3 a1 a2 a3 a4
    rw [pX_mk _ _ (by omega), pY_mk _ _ (by omega)]
    exact byF_of _ _ _ _ A B C D 73786976294838206464 (by decide) (a1 (by omega)) (a2 (by omega)) (a3 (by omega)) (a4 (by omega)) h1 h2 h3
theorem lev_rot (m : Int) : ∀ k, k ≤ 14 → ∀ p, (lev k)[(m % 16384 / 2 ^ (14 - k)).toNat]? = some p → p ≠ 0 → rotL m 18446744073709551616 0 k = .ok ((pX p : Int), (pY p : Int))
  | 0, _, p, h, _ => by
    have e0 : (m % 16384 / (2 : Int) ^ (14 - 0 : Nat)).toNat = 0 := by simp only [Nat.sub_zero, Int.reducePow]; omega
    rw [e0] at h
    simp only [lev, List.getElem?_cons_zero, Option.some.injEq] at h
    subst h
    rfl
  | k + 1, hk, p, h, hp => by
    have e : (m % 16384 / 2 ^ (14 - (k + 1))).toNat / 2 = (m % 16384 / 2 ^ (14 - k)).toNat ∧ ((m % 16384 / 2 ^ (14 - (k + 1))).toNat % 2 : Nat) = (m / 2 ^ (13 - k) % 2) := by
      rw [show 14 - (k + 1) = 13 - k from by omega, show 14 - k = 13 - k + 1 from by omega]
      obtain ⟨j, hj, hj2⟩ : ∃ j, 13 - k = j ∧ j ≤ 13 := ⟨13 - k, rfl, by omega⟩
      rw [hj]
      rcases j with _ | _ | _ | _ | _ | _ | _ | _ | _ | _ | _ | _ | _ | _ | j
      all_goals first | (exfalso; omega) | (simp only [Nat.reduceAdd, Nat.zero_add, Int.reducePow]; omega)
    rw [lev, grow_get, e.1, Option.map_eq_some_iff] at h
    obtain ⟨q, hq, hqp⟩ := h
    have tn := tab_lt k
    split at hqp
    · subst hqp
      rename_i hz
      exact rotL_skip (lev_rot m k (by omega) q hq hp) (by rw [beq_iff_eq]; omega)
    · rename_i hz
      subst hqp
      have hq0 : q ≠ 0 := by
        intro h0; subst h0
        exact hp (by simp [pby, pX, pY, rd])
      rw [rotL_by (lev_rot m k (by omega) q hq hq0) (by rw [beq_eq_false_iff_ne]; omega)]
      have hb := pby_ok (tabX k).toNat (tabY k).toNat q hp
      rw [Int.toNat_of_nonneg tn.1, Int.toNat_of_nonneg tn.2.2.1] at hb
      exact hb
theorem mirs_get : ∀ (l s : List Nat), mirs l s = true → ∀ (i p q : Nat), l[i]? = some p → s[i]? = some q → (nearN (pX p) (pY q) = true ∧ nearN (pY p) (pX q) = true) ∧ 0 < p ∧ 0 < q
  | [], s, h, i, p, q, hp, hq => by simp at hp
  | a :: r, [], h, i, p, q, hp, hq => by simp at hq
  | a :: r, b :: s, h, i, p, q, hp, hq => by
    rw [mirs] at h
    cases hc : ((nearN (pX a) (pY b) && nearN (pY a) (pX b)) && (Nat.blt 0 a && Nat.blt 0 b))
    · rw [hc] at h; cases h
    · rw [hc] at h
      rcases i with _ | i
      · simp only [List.getElem?_cons_zero, Option.some.injEq] at hp hq
        subst hp; subst hq
        simp only [Bool.and_eq_true, Nat.blt_eq] at hc
        exact hc
      · simp only [List.getElem?_cons_succ] at hp hq
        exact mirs_get r s h i p q hp hq
/-- The low bits' direction, and their mirror's. -/
theorem low_mir (m m' : Int) (h : m % 16384 ≠ 0) (h' : m' % 16384 = 16384 - m % 16384) :
    ∃ x y x' y' : Int, rotL m 18446744073709551616 0 14 = .ok (x, y) ∧ rotL m' 18446744073709551616 0 14 = .ok (x', y') ∧
      -1099511627776 ≤ x - y' ∧ x - y' ≤ 1099511627776 ∧ -1099511627776 ≤ y - x' ∧ y - x' ≤ 1099511627776 := by
  obtain ⟨L, hL⟩ : ∃ L, L = lev 14 := ⟨_, rfl⟩
  have hl : L.length = 16384 := by rw [hL]; exact lev_length 14
  have hR := lev_rot m 14 (by omega)
  have hR' := lev_rot m' 14 (by omega)
  have hM := mir_low
  rw [← hL] at hR hR' hM
  obtain ⟨i, hi⟩ : ∃ i : Nat, (m % 16384).toNat = i + 1 := ⟨(m % 16384).toNat - 1, by omega⟩
  have hi2 : i < 16383 := by omega
  have hp : (i + 1) < L.length := by rw [hl]; omega
  have hq : (16383 - i) < L.length := by rw [hl]; omega
  have g1 : L.tail[i]? = some L[i + 1] := by rw [List.getElem?_tail]; exact List.getElem?_eq_getElem hp
  have g2 : L.tail.reverse[i]? = some L[16383 - i] := by
    rw [List.getElem?_reverse (by rw [List.length_tail, hl]; omega), List.length_tail, hl, List.getElem?_tail]
    rw [show 16384 - 1 - 1 - i + 1 = 16383 - i from by omega]
    exact List.getElem?_eq_getElem hq
  obtain ⟨⟨n1, n2⟩, p0, q0⟩ := mirs_get _ _ hM i _ _ g1 g2
  have k1 : (m % 16384 / (2 : Int) ^ (14 - 14 : Nat)).toNat = i + 1 := by simp only [Nat.sub_self, Int.pow_zero, Int.ediv_one]; exact hi
  have k2 : (m' % 16384 / (2 : Int) ^ (14 - 14 : Nat)).toNat = 16383 - i := by simp only [Nat.sub_self, Int.pow_zero, Int.ediv_one]; omega
  have r1 := hR L[i + 1] (by rw [k1]; exact List.getElem?_eq_getElem hp) (by omega)
  have r2 := hR' L[16383 - i] (by rw [k2]; exact List.getElem?_eq_getElem hq) (by omega)
  simp only [nearN, Bool.and_eq_true, Nat.ble_eq] at n1 n2
  exact ⟨_, _, _, _, r1, r2, by omega, by omega, by omega, by omega⟩
/-- An angle below nought is the mirror of that above, nearly. -/
theorem of_mirror (a : Int) :
    (-1099511627776 ≤ valX (ofF a) - valX (ofF (-a)) ∧ valX (ofF a) - valX (ofF (-a)) ≤ 1099511627776) ∧
    (-1099511627776 ≤ valY (ofF a) + valY (ofF (-a)) ∧ valY (ofF a) + valY (ofF (-a)) ≤ 1099511627776) := by
  unfold ofF rotF
  by_cases h0 : a % 16384 = 0
  · have z : ∀ m : Int, m % 16384 = 0 → rotL m 18446744073709551616 0 14 = .ok (18446744073709551616, 0) := by
      intro m hm
      rw [rotL_low (m' := 0) (by omega) 14 (by omega)]
      rfl
    rw [rotM_ok (z (a % 65536) (by omega)), rotM_ok (z (-a % 65536) (by omega))]
    obtain ⟨c, hc⟩ : ∃ c : Nat, (a % 65536 / 16384).toNat = c := ⟨_, rfl⟩
    have : c = 0 ∧ (-a % 65536 / 16384).toNat = 0 ∨ c = 1 ∧ (-a % 65536 / 16384).toNat = 3 ∨ c = 2 ∧ (-a % 65536 / 16384).toNat = 2 ∨ c = 3 ∧ (-a % 65536 / 16384).toNat = 1 := by omega
    rcases this with ⟨c0, c1⟩ | ⟨c0, c1⟩ | ⟨c0, c1⟩ | ⟨c0, c1⟩ <;> (rw [hc, c0, c1]; simp [qt, valX, valY])
  · obtain ⟨x, y, x', y', e1, e2, n1, n2, n3, n4⟩ := low_mir (a % 65536) (-a % 65536) (by omega) (by omega)
    rw [rotM_ok e1, rotM_ok e2]
    obtain ⟨c, hc⟩ : ∃ c : Nat, (a % 65536 / 16384).toNat = c := ⟨_, rfl⟩
    have : c = 0 ∧ (-a % 65536 / 16384).toNat = 3 ∨ c = 1 ∧ (-a % 65536 / 16384).toNat = 2 ∨ c = 2 ∧ (-a % 65536 / 16384).toNat = 1 ∨ c = 3 ∧ (-a % 65536 / 16384).toNat = 0 := by omega
    rcases this with ⟨c0, c1⟩ | ⟨c0, c1⟩ | ⟨c0, c1⟩ | ⟨c0, c1⟩ <;> (rw [hc, c0, c1]; simp only [qt, valX, valY]; omega)
end Go.Proofs.YtpbklojdmkpkcaaDoor
