import Derived.Test.YtpbklojdmkpkcaaDoorG14
/- A round rail: its angle and its way are plain. -/
namespace Go.Proofs.YtpbklojdmkpkcaaDoor
open Go Go.RowKit
set_option linter.unusedVariables false
set_option linter.unusedSimpArgs false
set_option maxRecDepth 100000
theorem div_small {x d : Int} (hx : 0 ≤ x) (hd : 0 < d) (h : (x * 36893488147419103232 + d) / (2 * d) < 170141183460469231731687303715884105728) : divF x d = .ok ((x * 36893488147419103232 + d) / (2 * d)) := by
  have e1 : mag x = x := by unfold mag; rw [if_neg (by omega)]
  have e2 : neg x = false := by unfold neg; rw [decide_eq_false_iff_not]; omega
  have e3 : mag d = d := by unfold mag; rw [if_neg (by omega)]
  have e4 : neg d = false := by unfold neg; rw [decide_eq_false_iff_not]; omega
  unfold divF; rw [if_neg (by omega), e1, e2, e3, e4]; exact tell_lt _ h
theorem kep_round (r : Rail) (h : r.Ecc = ⟨0, 0⟩) (x : Int) (x0 : 0 ≤ x) (x1 : x ≤ 65536) : kepS (r, x, ()) 0 = (mkx (x * 281474976710656), 0) := by
  have he : num r.Ecc = 0 := by rw [h]; exact num_lo 0
  have ec : stepF .div (num (mkx (6283185307179586 * 18446744073709551616))) (num (mkx (1000000000000000 * 18446744073709551616))) = .ok 115904311329233956680 := by
    simp only [num_mk]; kernel_rfl
  have ep : stepF .mul (num r.Ecc) (num (mkx (valY (ofF x)))) = .ok 0 := by
    rw [num_mk, he]; show mulF 0 _ = _
    unfold mulF; rw [show mag 0 * mag (valY (ofF x)) = 0 from by rw [show mag 0 = 0 from rfl, Int.zero_mul]]
    cases (neg 0 != neg (valY (ofF x))) <;> rfl
  have eq : stepF .div (num (mkx 0)) (num (mkx 115904311329233956680)) = .ok 0 := by simp only [num_mk]; kernel_rfl
  have ef : stepF .div (num (mkx (x * 18446744073709551616))) (num (mkx (65536 * 18446744073709551616))) = .ok (x * 281474976710656) := by
    simp only [num_mk]; show divF _ _ = _
    rw [div_small (by omega) (by omega) (by omega)]; congr 1; omega
  have es : stepF .sub (num (mkx (x * 281474976710656))) (num (mkx 0)) = .ok (x * 281474976710656) := by
    simp only [num_mk]; show addF _ (-0) = _; unfold addF; rw [if_pos (by omega)]; congr 1; omega
  unfold kepS
  simp only [do_ok ec, do_ok ep, do_ok eq, do_ok ef, do_ok es]
theorem mean_round (r : Rail) (h1 : 0 ≤ r.Phase ∧ r.Phase < 65536) (h2 : r.Period = 65536) (t : Int) (t0 : 0 ≤ t) (t1 : t < 65536) :
    meanS (r, t, ()) 0 = (mkx ((r.Phase + t) % 65536 * 281474976710656), 0) := by
  have ea : stepF .div (num (mkx (r.Phase * 18446744073709551616))) (num (mkx (65536 * 18446744073709551616))) = .ok (r.Phase * 281474976710656) := by
    simp only [num_mk]; show divF _ _ = _
    rw [div_small (by omega) (by omega) (by omega)]; congr 1; omega
  have et : t.tmod 65536 = t := by rw [Int.tmod_eq_emod_of_nonneg t0]; omega
  have eb : stepF .div (num (mkx (t * 18446744073709551616))) (num (mkx (65536 * 18446744073709551616))) = .ok (t * 281474976710656) := by
    simp only [num_mk]; show divF _ _ = _
    rw [div_small (by omega) (by omega) (by omega)]; congr 1; omega
  have es : stepF .add (num (mkx (r.Phase * 281474976710656))) (num (mkx (t * 281474976710656))) = .ok ((r.Phase + t) * 281474976710656) := by
    simp only [num_mk]; show addF _ _ = _; unfold addF; rw [if_pos (by omega)]; congr 1; omega
  have ed : 65536 ≤ r.Phase + t → stepF .sub (num (mkx ((r.Phase + t) * 281474976710656))) (num (mkx (1 * 18446744073709551616))) = .ok ((r.Phase + t) % 65536 * 281474976710656) := by
    intro hh
    simp only [num_mk]; show addF _ (-_) = _; unfold addF; rw [if_pos (by omega)]; congr 1; omega
  unfold meanS
  simp only [h2, et, do_ok ea, do_ok eb, do_ok es, num_mk]
  by_cases c : 65536 ≤ r.Phase + t
  · rw [if_pos (by unfold cmpS; rw [if_neg (by omega)]; split <;> decide)]
    exact do_ok (ed c)
  · rw [if_neg (by unfold cmpS; rw [if_pos (by omega)]; decide)]
    rw [show (r.Phase + t) % 65536 = r.Phase + t from by omega]
theorem bis_round (r : Rail) (h : r.Ecc = ⟨0, 0⟩) (y : Int) : ∀ (k : Nat) (l : Int), 0 ≤ l → l ≤ y → y < l + (2 : Int) ^ k → l + (2 : Int) ^ k ≤ 65536 → bisS r (mkx (y * 281474976710656)) k (l, l + (2 : Int) ^ k, 0) = (y, y + 1, 0)
  | 0, l, h0, h1, h2, h3 => by
    simp only [Int.pow_zero] at h2 ⊢
    obtain rfl : y = l := by omega
    rfl
  | k + 1, l, h0, h1, h2, h3 => by
    have hp : (0 : Int) < (2 : Int) ^ k := Int.pow_pos (by decide)
    have e : (2 : Int) ^ (k + 1) = (2 : Int) ^ k + (2 : Int) ^ k := by rw [Int.pow_succ]; omega
    rw [e] at h2 h3 ⊢
    have hd : (l + (l + ((2 : Int) ^ k + (2 : Int) ^ k))) / 2 = l + (2 : Int) ^ k := by omega
    rw [bisS_succ]
    simp only [hd, kep_round r h (l + (2 : Int) ^ k) (by omega) (by omega), cmpS_le, num_mk]
    by_cases c : (l + (2 : Int) ^ k) * 281474976710656 ≤ y * 281474976710656
    · rw [if_pos c, show l + ((2 : Int) ^ k + (2 : Int) ^ k) = l + (2 : Int) ^ k + (2 : Int) ^ k from by omega]
      exact bis_round r h y k (l + (2 : Int) ^ k) (by omega) (by omega) (by omega) (by omega)
    · rw [if_neg c]
      exact bis_round r h y k l h0 h1 (by omega) (by omega)
theorem ang_round (r : Rail) (h : r.Ecc = ⟨0, 0⟩) (h1 : 0 ≤ r.Phase ∧ r.Phase < 65536) (h2 : r.Period = 65536) (t : Int) (t0 : 0 ≤ t) (t1 : t < 65536) : angS r t = ((r.Phase + t) % 65536, 0) := by
  have e : angZ r t = ((r.Phase + t) % 65536, (r.Phase + t) % 65536 + 1, 0) := by
    unfold angZ; rw [mean_round r h1 h2 t t0 t1]
    exact bis_round r h _ 16 0 (by omega) (by omega) (by simp only [Nat.reducePow, Int.reducePow]; omega) (by decide)
  unfold angS
  rw [if_neg (by omega), e]; rfl
end Go.Proofs.YtpbklojdmkpkcaaDoor
/- A round rail: its way, and its length. -/
namespace Go.Proofs.YtpbklojdmkpkcaaDoor
open Go Go.RowKit
set_option linter.unusedVariables false
set_option linter.unusedSimpArgs false
set_option maxRecDepth 100000
theorem qt_bd (x y B : Int) (hx : -B ≤ x ∧ x ≤ B) (hy : -B ≤ y ∧ y ≤ B) : ∀ q, (-B ≤ (qt (x, y) q).1 ∧ (qt (x, y) q).1 ≤ B) ∧ (-B ≤ (qt (x, y) q).2 ∧ (qt (x, y) q).2 ≤ B)
  | 0 => ⟨hx, hy⟩
  | q + 1 => by
    have := qt_bd x y B hx hy q
    show (-B ≤ -(qt (x, y) q).2 ∧ -(qt (x, y) q).2 ≤ B) ∧ (-B ≤ (qt (x, y) q).1 ∧ (qt (x, y) q).1 ≤ B)
    omega
theorem qt_sq (x y : Int) : ∀ q, (qt (x, y) q).1 * (qt (x, y) q).1 + (qt (x, y) q).2 * (qt (x, y) q).2 = x * x + y * y
  | 0 => rfl
  | q + 1 => by
    show -(qt (x, y) q).2 * -(qt (x, y) q).2 + (qt (x, y) q).1 * (qt (x, y) q).1 = _
    rw [Int.neg_mul_neg, Int.add_comm]; exact qt_sq x y q
/-- A direction: its bounds, and its square. -/
theorem of_bd (a : Int) : ∃ x y : Int, ofF a = .ok (x, y) ∧ (-36893488147419103232 ≤ x ∧ x ≤ 36893488147419103232) ∧ (-36893488147419103232 ≤ y ∧ y ≤ 36893488147419103232) ∧
    18446744073709547519 * 18446744073709551616 ≤ x * x + y * y ∧ x * x + y * y ≤ 18446744073709555713 * 18446744073709551616 := by
  obtain ⟨p, h1, h2, h3⟩ := of_dir a
  unfold longN at h2
  simp only [Bool.and_eq_true, Nat.blt_eq, Nat.ble_eq] at h2
  obtain ⟨⟨_, h4, h5⟩, h6, h7⟩ := h2
  have hb := qt_bd (pX p) (pY p) 36893488147419103232 (by omega) (by omega) (a % 65536 / 16384).toNat
  have hs := qt_sq (pX p) (pY p) (a % 65536 / 16384).toNat
  have hx : ((pX p : Int) * (pX p : Int)) = ((pX p * pX p : Nat) : Int) := by rw [Int.natCast_mul]
  have hy : ((pY p : Int) * (pY p : Int)) = ((pY p * pY p : Nat) : Int) := by rw [Int.natCast_mul]
  rw [hx, hy] at hs
  refine ⟨_, _, h3, hb.1, hb.2, ?_, ?_⟩ <;> (rw [hs]; unfold rd at h4 h5; omega)
theorem mul_int {n x : Int} (n0 : 0 ≤ n) (n1 : n ≤ 4096) (hx : -147573952589676412928 ≤ x ∧ x ≤ 147573952589676412928) : mulF (n * 18446744073709551616) x = .ok (n * x) := by
  have e1 : mag (n * 18446744073709551616) = n * 18446744073709551616 := by unfold mag; rw [if_neg (by omega)]
  have e2 : neg (n * 18446744073709551616) = false := by unfold neg; rw [decide_eq_false_iff_not]; omega
  have hm : 0 ≤ mag x ∧ mag x ≤ 147573952589676412928 := by unfold mag; split <;> omega
  have k : n * mag x ≤ 4096 * mag x := Int.mul_le_mul_of_nonneg_right n1 hm.1
  have k0 : 0 ≤ n * mag x := Int.mul_nonneg n0 hm.1
  unfold mulF
  rw [e1, e2, Int.mul_right_comm]
  have e3 : (n * mag x * 18446744073709551616 + 9223372036854775808) / 18446744073709551616 = n * mag x := by omega
  rw [e3, tell_lt _ (by omega)]
  congr 1
  unfold neg mag
  by_cases c : x < 0
  · rw [if_pos c, decide_eq_true c]; show -(n * -x) = n * x; rw [Int.mul_neg, Int.neg_neg]
  · rw [if_neg c, decide_eq_false c]; rfl
theorem root_one : sqrtF 18446744073709551616 = .ok 18446744073709551616 := by kernel_rfl
theorem rot_0 (x y : Int) : rotF x y 0 = .ok (x, y) := by kernel_rfl
theorem ell_round (r : Rail) (n : Int) (n0 : 0 ≤ n) (n1 : n ≤ 256) (h : r.Ecc = ⟨0, 0⟩) (hl : r.Long = mkx (n * 18446744073709551616)) (a x y : Int) (ha : ofF a = .ok (x, y))
    (hx : -36893488147419103232 ≤ x ∧ x ≤ 36893488147419103232) (hy : -36893488147419103232 ≤ y ∧ y ≤ 36893488147419103232) : ellS r a = ((mkx (n * x), mkx (n * y)), 0) := by
  have z : num (⟨0, 0⟩ : Fx) = 0 := num_lo 0
  have e1 : stepF .sub (num (mkx (valX (ofF a)))) (num r.Ecc) = .ok x := by
    rw [h, z, num_mk, ha]; show addF x (-0) = _; unfold addF; rw [if_pos (by omega)]; congr 1; omega
  have e2 : stepF .mul (num r.Long) (num (mkx x)) = .ok (n * x) := by
    rw [hl]; simp only [num_mk]; exact mul_int n0 (by omega) (by omega)
  have e3 : stepF .mul (num r.Ecc) (num r.Ecc) = .ok 0 := by rw [h, z]; kernel_rfl
  have e4 : stepF .sub (num (mkx (1 * 18446744073709551616))) (num (mkx 0)) = .ok 18446744073709551616 := by simp only [num_mk]; kernel_rfl
  have e5 : stepF .root (num (mkx 18446744073709551616)) (num (mkx 18446744073709551616)) = .ok 18446744073709551616 := by simp only [num_mk]; exact root_one
  have e6 : stepF .mul (num r.Long) (num (mkx 18446744073709551616)) = .ok (n * 18446744073709551616) := by
    rw [hl]; simp only [num_mk]; exact mul_int n0 (by omega) (by omega)
  have e7 : stepF .mul (num (mkx (n * 18446744073709551616))) (num (mkx (valY (ofF a)))) = .ok (n * y) := by
    rw [ha]; simp only [num_mk]; exact mul_int n0 (by omega) (by show _ ≤ y ∧ y ≤ _; omega)
  unfold ellS
  simp only [do_ok e1, do_ok e2, do_ok e3, do_ok e4, do_ok e5, do_ok e6, do_ok e7]
theorem own_round (r : Rail) (n : Int) (n0 : 0 ≤ n) (n1 : n ≤ 256) (h : r.Ecc = ⟨0, 0⟩) (hl : r.Long = mkx (n * 18446744073709551616)) (ht : r.Turn = 0) (t a x y : Int) (hang : angS r t = (a, 0)) (ha : ofF a = .ok (x, y))
    (hx : -36893488147419103232 ≤ x ∧ x ≤ 36893488147419103232) (hy : -36893488147419103232 ≤ y ∧ y ≤ 36893488147419103232) : ownS r t = (⟨mkx (n * x), mkx (n * y)⟩, 0) := by
  have e := ell_round r n n0 n1 h hl a x y ha hx hy
  unfold ownS
  rw [hang]
  simp only [e, ht, num_mk, rot_0]
  rw [if_neg (by omega), if_neg (by omega)]; rfl
end Go.Proofs.YtpbklojdmkpkcaaDoor
/- A round rail: its length. -/
namespace Go.Proofs.YtpbklojdmkpkcaaDoor
open Go Go.RowKit
set_option linter.unusedVariables false
set_option linter.unusedSimpArgs false
set_option maxRecDepth 100000
theorem sqL_sq (n : Int) : ∀ (k : Nat) (s : Int), s * s ≤ n → n < (s + 2 ^ k) * (s + 2 ^ k) → sqL n k s * sqL n k s ≤ n ∧ n < (sqL n k s + 1) * (sqL n k s + 1)
  | 0, s, h1, h2 => ⟨h1, by rw [Int.pow_zero] at h2; exact h2⟩
  | k + 1, s, h1, h2 => by
    simp only [sqL]
    split
    · refine sqL_sq n k _ (by assumption) ?_
      rw [show s + 2 ^ k + 2 ^ k = s + (2 : Int) ^ (k + 1) from by rw [Int.pow_succ]; omega]; exact h2
    · exact sqL_sq n k s h1 (by omega)
theorem isq_sq {n : Int} (h0 : 0 ≤ n) (h1 : n < 115792089237316195423570985008687907853269984665640564039457584007913129639936) : isq n * isq n ≤ n ∧ n < (isq n + 1) * (isq n + 1) :=
  sqL_sq n 128 0 (by omega) (by simp only [Int.zero_add]; rw [show ((2 : Int) ^ 128) * 2 ^ 128 = 115792089237316195423570985008687907853269984665640564039457584007913129639936 from by decide]; exact h1)
theorem mmc (a b c d : Int) : a * b * (c * d) = a * c * (b * d) := by ac_rfl
theorem mag_sq (x : Int) : mag x * mag x = x * x := by
  unfold mag; split
  · exact Int.neg_mul_neg x x
  · rfl
theorem sqs (n c : Int) : (n * 18446744073709551616 + c) * (n * 18446744073709551616 + c) = n * n * 340282366920938463463374607431768211456 + 2 * (n * c) * 18446744073709551616 + c * c := by
  have e1 : n * 18446744073709551616 * (n * 18446744073709551616) = n * n * 340282366920938463463374607431768211456 := by rw [mmc]; rfl
  have e2 : n * 18446744073709551616 * c = n * c * 18446744073709551616 := Int.mul_right_comm _ _ _
  have e3 : c * (n * 18446744073709551616) = n * c * 18446744073709551616 := by rw [Int.mul_comm c]; exact e2
  rw [Int.add_mul, Int.mul_add, Int.mul_add, e1, e2, e3]; omega
theorem sq_mono {a b : Int} (h0 : 0 ≤ a) (h : a ≤ b) : a * a ≤ b * b := Int.mul_le_mul h h h0 (by omega)
theorem mul_sq {x : Int} (h : x * x < 5708990770823839524233143877797980545530986496) : mulF x x = .ok ((x * x + 9223372036854775808) / 18446744073709551616) := by
  have h0 : 0 ≤ x * x := by rw [← mag_sq]; exact Int.mul_nonneg (by unfold mag; split <;> omega) (by unfold mag; split <;> omega)
  unfold mulF; rw [mag_sq]
  rw [show (neg x != neg x) = false from by cases neg x <;> rfl]
  exact tell_lt _ (by omega)
theorem len_round {n x y : Int} (n0 : 1 ≤ n) (n1 : n ≤ 256) (hx : -36893488147419103232 ≤ x ∧ x ≤ 36893488147419103232) (hy : -36893488147419103232 ≤ y ∧ y ≤ 36893488147419103232)
    (s0 : 18446744073709547519 * 18446744073709551616 ≤ x * x + y * y) (s1 : x * x + y * y ≤ 18446744073709555713 * 18446744073709551616) :
    ∃ l, lenF (n * x) (n * y) = .ok l ∧ n * 18446744073709551616 - 1099511627776 ≤ l ∧ l ≤ n * 18446744073709551616 + 1099511627776 := by
  obtain ⟨q, hq⟩ : ∃ q, q = n * n := ⟨_, rfl⟩
  have q0 : 0 ≤ q := by rw [hq]; exact Int.mul_nonneg (by omega) (by omega)
  have q1 : q ≤ 256 * n := by rw [hq]; exact Int.mul_le_mul_of_nonneg_right n1 (by omega)
  have ex : n * x * (n * x) = q * (x * x) := by rw [hq, mmc]
  have ey : n * y * (n * y) = q * (y * y) := by rw [hq, mmc]
  have es : q * (x * x) + q * (y * y) = q * (x * x + y * y) := (Int.mul_add _ _ _).symm
  have p1 : q * (x * x + y * y) ≤ q * (18446744073709555713 * 18446744073709551616) := Int.mul_le_mul_of_nonneg_left s1 q0
  have p0 : q * (18446744073709547519 * 18446744073709551616) ≤ q * (x * x + y * y) := Int.mul_le_mul_of_nonneg_left s0 q0
  have x0 : 0 ≤ q * (x * x) := Int.mul_nonneg q0 (by rw [← mag_sq]; exact Int.mul_nonneg (by unfold mag; split <;> omega) (by unfold mag; split <;> omega))
  have y0 : 0 ≤ q * (y * y) := Int.mul_nonneg q0 (by rw [← mag_sq]; exact Int.mul_nonneg (by unfold mag; split <;> omega) (by unfold mag; split <;> omega))
  have ax := mul_sq (x := n * x) (by rw [ex]; omega)
  have ay := mul_sq (x := n * y) (by rw [ey]; omega)
  rw [ex] at ax; rw [ey] at ay
  obtain ⟨A, hA⟩ : ∃ A, A = (q * (x * x) + 9223372036854775808) / 18446744073709551616 := ⟨_, rfl⟩
  obtain ⟨B, hB⟩ : ∃ B, B = (q * (y * y) + 9223372036854775808) / 18446744073709551616 := ⟨_, rfl⟩
  rw [← hA] at ax; rw [← hB] at ay
  generalize q * (x * x) = X at *
  generalize q * (y * y) = Y at *
  generalize q * (x * x + y * y) = S at *
  have hab : 0 ≤ A ∧ 0 ≤ B ∧ A < 2854495385411919762116571938898990272765493248 ∧ B < 2854495385411919762116571938898990272765493248 := by omega
  have hd : dotF (n * x) (n * y) (n * x) (n * y) = .ok (A + B) := by
    unfold dotF both; rw [ax, ay]; show addF A B = _; unfold addF; rw [if_pos (by omega)]
  have hi := isq_sq (n := (A + B) * 18446744073709551616) (by omega) (by omega)
  have hm : mag (A + B) = A + B := by unfold mag; rw [if_neg (by omega)]
  obtain ⟨l, hl⟩ : ∃ l, l = isq ((A + B) * 18446744073709551616) := ⟨_, rfl⟩
  have l0 := (isq_bd ((A + B) * 18446744073709551616)).1
  rw [← hl] at hi l0
  have u : l ≤ n * 18446744073709551616 + 1099511627776 := by
    refine Int.not_lt.1 fun c => ?_
    have := sq_mono (a := n * 18446744073709551616 + 1099511627776) (b := l) (by omega) (by omega)
    rw [sqs, ← hq] at this
    omega
  have d : n * 18446744073709551616 - 1099511627776 ≤ l := by
    refine Int.not_lt.1 fun c => ?_
    have := sq_mono (a := l + 1) (b := n * 18446744073709551616 + -1099511627776) (by omega) (by omega)
    rw [sqs, ← hq] at this
    omega
  refine ⟨l, ?_, d, u⟩
  unfold lenF; rw [hd]; show sqrtF (A + B) = _
  unfold sqrtF; rw [if_neg (by omega), hm, ← hl]; exact tell_lt _ (by omega)
end Go.Proofs.YtpbklojdmkpkcaaDoor
