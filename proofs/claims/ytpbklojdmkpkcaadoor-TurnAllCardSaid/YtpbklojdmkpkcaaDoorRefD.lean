/- The reference's wide numbers: products, words; as contracts. -/
import Derived.Test.YtpbklojdmkpkcaaDoorCons
namespace Go.Proofs.YtpbklojdmkpkcaaDoor
open Go Go.RowKit
set_option linter.unusedVariables false
set_option linter.unusedSimpArgs false
set_option maxRecDepth 100000
abbrev wu (x : Int) : Int := IntKind.u64.wrap x
abbrev andU (x y : Int) : Int := IntKind.u64.wrap ↑(BitVec.ofInt 64 x &&& BitVec.ofInt 64 y).toNat
abbrev orU (x y : Int) : Int := IntKind.u64.wrap ↑(BitVec.ofInt 64 x ||| BitVec.ofInt 64 y).toNat
theorem wu_id (x : Int) (h : 0 ≤ x ∧ x < 18446744073709551616) : wu x = x := by unfold wu; rw [IntKind.wrap_u64]; omega
theorem bv_toNat (x : Int) (h : 0 ≤ x ∧ x < 18446744073709551616) : (BitVec.ofInt 64 x).toNat = x.toNat := by
  simp only [BitVec.toNat_ofInt]
  congr 1
  simp only [Nat.reducePow]
  omega
theorem and32 (x : Int) (h : 0 ≤ x ∧ x < 18446744073709551616) : andU x 4294967295 = x % 4294967296 := by
  unfold andU
  rw [BitVec.toNat_and, bv_toNat x h, bv_toNat 4294967295 (by decide)]
  rw [show (4294967295 : Int).toNat = 2 ^ 32 - 1 from rfl, Nat.and_two_pow_sub_one_eq_mod, IntKind.wrap_u64]
  omega
theorem or32 (q y : Int) (hq : 0 ≤ q ∧ q < 4294967296) (hy : 0 ≤ y ∧ y < 4294967296) : orU (q * 4294967296) y = q * 4294967296 + y := by
  unfold orU
  rw [BitVec.toNat_or, bv_toNat _ (by omega), bv_toNat y (by omega)]
  obtain ⟨n, rfl⟩ : ∃ n : Nat, q = n := ⟨q.toNat, by omega⟩
  obtain ⟨k, rfl⟩ : ∃ n : Nat, y = n := ⟨y.toNat, by omega⟩
  have e1 : ((n : Int) * 4294967296).toNat = 2 ^ 32 * n := by omega
  rw [e1, Int.toNat_natCast, ← Nat.two_pow_add_eq_or_of_lt (by omega), IntKind.wrap_u64]
  omega
def prodS (a b : Int) : Fx :=
  ⟨wu (wu (wu (a.fdiv (2 ^ 32) * b.fdiv (2 ^ 32)) + (wu (wu (a.fdiv (2 ^ 32) * andU b 4294967295) + (wu (andU a 4294967295 * andU b 4294967295)).fdiv (2 ^ 32))).fdiv (2 ^ 32)) +
      (wu (wu (andU a 4294967295 * b.fdiv (2 ^ 32)) + andU (wu (wu (a.fdiv (2 ^ 32) * andU b 4294967295) + (wu (andU a 4294967295 * andU b 4294967295)).fdiv (2 ^ 32))) 4294967295)).fdiv (2 ^ 32)),
    orU (wu (wu (wu (andU a 4294967295 * b.fdiv (2 ^ 32)) + andU (wu (wu (a.fdiv (2 ^ 32) * andU b 4294967295) + (wu (andU a 4294967295 * andU b 4294967295)).fdiv (2 ^ 32))) 4294967295) * 2 ^ 32)) (andU (wu (andU a 4294967295 * andU b 4294967295)) 4294967295)⟩
theorem mul_bd {a b n : Int} (ha : 0 ≤ a ∧ a ≤ n) (hb : 0 ≤ b ∧ b ≤ n) : 0 ≤ a * b ∧ a * b ≤ n * n :=
  ⟨Int.mul_nonneg ha.1 hb.1, Int.mul_le_mul ha.2 hb.2 hb.1 (by omega)⟩
theorem prodS_ok (a b : Int) [ha : U a] [hb : U b] : prodS a b = mkx (a * b) := by
  have ha := ha.h
  have hb := hb.h
  unfold prodS
  rw [and32 a ha, and32 b hb]
  simp only [show ∀ x : Int, x.fdiv (2 ^ 32) = x / 4294967296 from fun x => Int.fdiv_eq_ediv_of_nonneg x (by decide)]
  have e : a * b = (a / 4294967296 * 4294967296 + a % 4294967296) * (b / 4294967296 * 4294967296 + b % 4294967296) := by
    rw [show a / 4294967296 * 4294967296 + a % 4294967296 = a from by omega, show b / 4294967296 * 4294967296 + b % 4294967296 = b from by omega]
  rw [e]
  have h1 : 0 ≤ a / 4294967296 ∧ a / 4294967296 ≤ 4294967295 := by omega
  have h0 : 0 ≤ a % 4294967296 ∧ a % 4294967296 ≤ 4294967295 := by omega
  have g1 : 0 ≤ b / 4294967296 ∧ b / 4294967296 ≤ 4294967295 := by omega
  have g0 : 0 ≤ b % 4294967296 ∧ b % 4294967296 ≤ 4294967295 := by omega
  generalize a / 4294967296 = a1 at *
  generalize a % 4294967296 = a0 at *
  generalize b / 4294967296 = b1 at *
  generalize b % 4294967296 = b0 at *
  clear e ha hb
  have k11 := mul_bd h1 g1
  have k10 := mul_bd h1 g0
  have k01 := mul_bd h0 g1
  have k00 := mul_bd h0 g0
  have e : (a1 * 4294967296 + a0) * (b1 * 4294967296 + b0) = a1 * b1 * 18446744073709551616 + (a1 * b0 + a0 * b1) * 4294967296 + a0 * b0 := by
    rw [Int.add_mul, Int.mul_add, Int.mul_add]
    rw [show a1 * 4294967296 * (b1 * 4294967296) = a1 * b1 * 18446744073709551616 from by rw [Int.mul_right_comm, ← Int.mul_assoc a1 b1, Int.mul_assoc (a1 * b1)]; rfl]
    rw [show a1 * 4294967296 * b0 = a1 * b0 * 4294967296 from by rw [Int.mul_right_comm]]
    rw [← Int.mul_assoc a0 b1]
    omega
  rw [e]
  clear e
  generalize a1 * b1 = p11 at *
  generalize a1 * b0 = p10 at *
  generalize a0 * b1 = p01 at *
  generalize a0 * b0 = p00 at *
  clear h1 h0 g1 g0
  simp only [Int.reduceMul] at k11 k10 k01 k00
  rw [wu_id p11 (by omega), wu_id p10 (by omega), wu_id p01 (by omega), wu_id p00 (by omega)]
  rw [wu_id (p10 + p00 / 4294967296) (by omega), and32 _ (by omega), wu_id (p01 + (p10 + p00 / 4294967296) % 4294967296) (by omega), and32 p00 (by omega)]
  rw [wu_id (p11 + (p10 + p00 / 4294967296) / 4294967296) (by omega), wu_id _ (by omega)]
  unfold mkx hi lo
  have e2 : wu ((p01 + (p10 + p00 / 4294967296) % 4294967296) * 2 ^ 32) = (p01 + (p10 + p00 / 4294967296) % 4294967296) % 4294967296 * 4294967296 := by
    unfold wu; rw [IntKind.wrap_u64]; omega
  rw [e2, or32 _ _ (by omega) (by omega)]
  congr 1 <;> omega
def E0 : List (Ent Tryd.prog tid TabI) := []
theorem k_r1_product : C2 Tryd.prog TabI 111 (cI .u64) (cI .u64) cTw.enc (fun a b => U a ∧ U b) fun a b => mkx (a * b) :=
  .ev (fun _ _ => []) mixed (mkOrc_ok (l := E0) (x := []) trivial) Tryd.func111 (by decide) fun a b h => by
    refine ⟨?_⟩
    have e : evPure Tryd.prog (mkOrc E0 []) Tryd.f111 [] [(cI .u64).enc a, (cI .u64).enc b] =
      .chk (decide ((0 : Int) ≤ 32)) (.chk (decide ((0 : Int) ≤ 32)) (.chk (decide ((0 : Int) ≤ 32)) (.chk (decide ((0 : Int) ≤ 32)) (.chk (decide ((0 : Int) ≤ 32)) (.chk (decide ((0 : Int) ≤ 32)) (.ret (cTw.enc (prodS a b)))))))) := by kernel_rfl
    rw [e]
    haveI := h.1; haveI := h.2
    rw [prodS_ok]
    exact ⟨by decide, by decide, by decide, by decide, by decide, by decide, rfl⟩
/-- Four words. -/
def num4 (a : Vc) : Int := num a.X * 340282366920938463463374607431768211456 + num a.Y
def mk4 (n : Int) : Vc := ⟨mkx (n / 340282366920938463463374607431768211456), mkx (n % 340282366920938463463374607431768211456)⟩
def ok4 (a : Vc) : Prop := okT a.X ∧ okT a.Y
theorem num_T (a : Fx) (h : okT a) : 0 ≤ num a ∧ num a < 340282366920938463463374607431768211456 := by
  have h1 := h.1.h
  have h2 := h.2.h
  unfold num val2; omega
theorem okT_mk (n : Int) (h : 0 ≤ n ∧ n < 340282366920938463463374607431768211456) : okT (mkx n) := ⟨⟨by show 0 ≤ hi n ∧ hi n < _; unfold hi; omega⟩, lo_U n⟩
theorem ok4_mk (n : Int) (h : 0 ≤ n ∧ n < 115792089237316195423570985008687907853269984665640564039457584007913129639936) : ok4 (mk4 n) := ⟨okT_mk _ (by omega), okT_mk _ (by omega)⟩
instance (a : Vc) : Decidable (ok4 a) := inferInstanceAs (Decidable (okT a.X ∧ okT a.Y))
theorem num4_mk (n : Int) : num4 (mk4 n) = n := by unfold num4 mk4; rw [num_mk, num_mk]; omega
theorem mk4_num (a : Vc) (h : ok4 a) : mk4 (num4 a) = a := by
  have h1 := num_T a.X h.1
  have h2 := num_T a.Y h.2
  unfold mk4 num4
  rw [show (num a.X * 340282366920938463463374607431768211456 + num a.Y) / 340282366920938463463374607431768211456 = num a.X from by omega, show (num a.X * 340282366920938463463374607431768211456 + num a.Y) % 340282366920938463463374607431768211456 = num a.Y from by omega, mk_num _ h.1.2, mk_num _ h.2.2]
def plusS (a : Vc) (b : Fx) (c : Bool) : Vc := mk4 ((num4 a + num b * (bif c then 18446744073709551616 else 340282366920938463463374607431768211456)) % 115792089237316195423570985008687907853269984665640564039457584007913129639936)
theorem num_lo (x : Int) : num ⟨0, x⟩ = x := by show 0 * 18446744073709551616 + x = x; omega
theorem num_hi (x : Int) : num ⟨x, 0⟩ = x * 18446744073709551616 := by show x * 18446744073709551616 + 0 = x * 18446744073709551616; omega
theorem okT_lo (x : Int) (h : U x) : okT ⟨0, x⟩ := ⟨(inferInstance : U 0), h⟩
theorem okT_hi (x : Int) (h : U x) : okT ⟨x, 0⟩ := ⟨h, (inferInstance : U 0)⟩
abbrev m2 (n : Int) : Int := n % 340282366920938463463374607431768211456
theorem k_r1_plus : C3 Tryd.prog TabI 112 cFo cTw cB cFo.enc (fun a b _ => ok4 a ∧ okT b) plusS :=
  .ev (fun _ _ _ => []) mixed (mkOrc_ok (l := L0) (x := []) trivial) Tryd.func112 (by decide) fun a b c h => by
    refine ⟨?_⟩
    have e : evPure Tryd.prog (mkOrc L0 []) Tryd.f112 [] [cFo.enc a, cTw.enc b, cB.enc c] =
      .ite (!c) (.chk (decide (okT a.X ∧ okT b)) (.ret (cFo.enc ⟨mkx (m2 (num a.X + num b)), a.Y⟩)))
        (.chk (decide (okT a.Y ∧ okT ⟨b.l, 0⟩)) (.ite (decide ((340282366920938463463374607431768211456 : Int) ≤ num a.Y + num ⟨b.l, 0⟩))
          (.chk (decide (okT ⟨0, b.h⟩ ∧ okT ⟨0, 1⟩)) (.chk (decide (okT a.X ∧ okT (mkx (m2 (num ⟨0, b.h⟩ + num ⟨0, 1⟩))))) (.ret (cFo.enc ⟨mkx (m2 (num a.X + num (mkx (m2 (num ⟨0, b.h⟩ + num ⟨0, 1⟩))))), mkx (m2 (num a.Y + num ⟨b.l, 0⟩))⟩))))
          (.chk (decide (okT a.X ∧ okT ⟨0, b.h⟩)) (.ret (cFo.enc ⟨mkx (m2 (num a.X + num ⟨0, b.h⟩)), mkx (m2 (num a.Y + num ⟨b.l, 0⟩))⟩))))) := by kernel_rfl
    rw [e]
    clear e
    obtain ⟨ha, hb⟩ := h
    have t1 := num_T _ ha.1
    have t2 := num_T _ ha.2
    have t3 := num_T _ hb
    have u1 := hb.1.h
    have u2 := hb.2.h
    have eb : num b = b.h * 18446744073709551616 + b.l := rfl
    simp only [Tr.holds, num_lo, num_hi, num_mk, decide_eq_true_eq]
    have fin : ∀ x y : Int, ∀ v : Vc, v = mk4 (x * 340282366920938463463374607431768211456 + y) → cFo.enc v = cFo.enc (mk4 (x * 340282366920938463463374607431768211456 + y)) := fun x y v h => by rw [h]
    refine ⟨fun hc => ⟨⟨ha.1, hb⟩, ?_⟩, fun hc => ⟨⟨ha.2, okT_hi _ hb.2⟩, fun hd => ⟨⟨okT_lo _ hb.1, okT_lo _ (inferInstance : U 1)⟩, ⟨ha.1, okT_mk _ (by unfold m2; omega)⟩, ?_⟩, fun hd => ⟨⟨ha.1, okT_lo _ hb.1⟩, ?_⟩⟩⟩
    · have hc : c = false := by simpa using hc
      subst hc
      refine congrArg cFo.enc ?_
      unfold plusS mk4 num4
      rw [cond_false]
      congr 1
      · congr 1; unfold m2; omega
      · rw [← mk_num a.Y ha.2.2]; congr 1; rw [num_mk]; omega
    · have hc : c = true := by simpa using hc
      subst hc
      (try rw [decide_eq_true_iff] at hd)
      refine congrArg cFo.enc ?_
      unfold plusS mk4 num4
      rw [cond_true]
      congr 1 <;> (congr 1; unfold m2; omega)
    · have hc : c = true := by simpa using hc
      subst hc
      (try rw [decide_eq_false_iff_not] at hd)
      refine congrArg cFo.enc ?_
      unfold plusS mk4 num4
      rw [cond_true]
      congr 1 <;> (congr 1; unfold m2; omega)
def L1 : List (Ent Tryd.prog tid TabI) := e2 k_r1_product Tryd.func111 :: e3 k_r1_plus Tryd.func112 :: L0
end Go.Proofs.YtpbklojdmkpkcaaDoor
