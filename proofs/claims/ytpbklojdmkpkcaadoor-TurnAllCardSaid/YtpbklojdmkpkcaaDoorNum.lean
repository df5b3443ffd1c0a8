/- Plain arithmetic of words, two-word and four-word numbers: no program in sight. -/
namespace Go.Proofs.YtpbklojdmkpkcaaDoor

/-- The upper part of a number of two words. -/
def hi (a : Int) : Int := a / 18446744073709551616
/-- The lower word. -/
def lo (a : Int) : Int := a % 18446744073709551616
/-- The upper, and the lower, half of a number of four words. -/
def hi2 (a : Int) : Int := a / 340282366920938463463374607431768211456
def lo2 (a : Int) : Int := a % 340282366920938463463374607431768211456

/-- A word, a number of two words, of four words, a number with a point. -/
class U (a : Int) : Prop where
  h : 0 ≤ a ∧ a < 18446744073709551616
class T (a : Int) : Prop where
  h : 0 ≤ a ∧ a < 340282366920938463463374607431768211456
class Q (a : Int) : Prop where
  h : 0 ≤ a ∧ a < 115792089237316195423570985008687907853269984665640564039457584007913129639936
class F (a : Int) : Prop where
  h : -170141183460469231731687303715884105728 < a ∧ a < 170141183460469231731687303715884105728

theorem hi_lo (a : Int) : hi a * 18446744073709551616 + lo a = a := by unfold hi lo; omega
theorem lo_U (a : Int) : U (lo a) := ⟨by unfold lo; omega⟩
instance (a : Int) : U (lo a) := lo_U a
instance hi_U (a : Int) [h : T a] : U (hi a) := ⟨by have := h.h; unfold hi; omega⟩
instance (a : Int) [h : Q a] : T (hi2 a) := ⟨by have := h.h; unfold hi2; omega⟩
instance (a : Int) : T (lo2 a) := ⟨by unfold lo2; omega⟩
theorem hi_mk {h l : Int} (hl : U l) : hi (h * 18446744073709551616 + l) = h := by have := hl.h; unfold hi; omega
theorem lo_mk {h l : Int} (hl : U l) : lo (h * 18446744073709551616 + l) = l := by have := hl.h; unfold lo; omega

/-- Modulo 2^128, and whether that is less. -/
def mod2 (a : Int) : Int := a % 340282366920938463463374607431768211456
instance (a : Int) : T (mod2 a) := ⟨by unfold mod2; omega⟩
theorem mod2_of (a : Int) [h : T a] : mod2 a = a := by have := h.h; unfold mod2; omega
/-- Whether a sum of two numbers of two words is beyond, a difference below nought. -/
def over2 (a : Int) : Bool := decide (340282366920938463463374607431768211456 ≤ a)
def below (a : Int) : Bool := decide (a < 0)
/-- Modulo 2^256. -/
def mod4 (a : Int) : Int := a % 115792089237316195423570985008687907853269984665640564039457584007913129639936
instance (a : Int) : Q (mod4 a) := ⟨by unfold mod4; omega⟩
theorem mod4_of (a : Int) [h : Q a] : mod4 a = a := by have := h.h; unfold mod4; omega
instance (a : Int) [h : T a] : Q a := ⟨by have := h.h; omega⟩

/-- A carry, a borrow, by a name. -/
def car (x y c : Int) : Int := (x + y + c) / 18446744073709551616
def bor (x y c : Int) : Int := if x < y + c then 1 else 0
def sum (x y c : Int) : Int := (x + y + c) % 18446744073709551616
def dif (x y c : Int) : Int := (x - y - c) % 18446744073709551616
instance (x y c : Int) : U (sum x y c) := ⟨by unfold sum; omega⟩
instance (x y c : Int) : U (dif x y c) := ⟨by unfold dif; omega⟩
theorem car_01 (x y c : Int) (hx : U x) (hy : U y) (hc : 0 ≤ c ∧ c ≤ 1) : 0 ≤ car x y c ∧ car x y c ≤ 1 := by
  have := hx.h; have := hy.h; unfold car; omega
theorem bor_01 (x y c : Int) : 0 ≤ bor x y c ∧ bor x y c ≤ 1 := by unfold bor; split <;> omega

/-- The number of two words, of four words. -/
def val2 (h l : Int) : Int := h * 18446744073709551616 + l
def val4 (a b c d : Int) : Int := val2 a b * 340282366920938463463374607431768211456 + val2 c d
instance (h l : Int) [hh : U h] [hl : U l] : T (val2 h l) := ⟨by have := hh.h; have := hl.h; unfold val2; omega⟩
instance (a b c d : Int) [ha : U a] [hb : U b] [hc : U c] [hd : U d] : Q (val4 a b c d) := ⟨by have := ha.h; have := hb.h; have := hc.h; have := hd.h; unfold val4 val2; omega⟩
theorem val2_hi_lo (a : Int) : val2 (hi a) (lo a) = a := by unfold val2 hi lo; omega
theorem hi_val2 (h l : Int) [hl : U l] : hi (val2 h l) = h := by have := hl.h; unfold val2 hi; omega
theorem lo_val2 (h l : Int) [hl : U l] : lo (val2 h l) = l := by have := hl.h; unfold val2 lo; omega
theorem hi2_val4 (a b c d : Int) [hc : U c] [hd : U d] : hi2 (val4 a b c d) = val2 a b := by have := hc.h; have := hd.h; unfold val4 val2 hi2; omega
theorem lo2_val4 (a b c d : Int) [hc : U c] [hd : U d] : lo2 (val4 a b c d) = val2 c d := by have := hc.h; have := hd.h; unfold val4 val2 lo2; omega
theorem val4_of (a : Int) : val4 (hi (hi2 a)) (lo (hi2 a)) (hi (lo2 a)) (lo (lo2 a)) = a := by unfold val4; rw [val2_hi_lo, val2_hi_lo]; unfold hi2 lo2; omega
instance : U 0 := ⟨by decide⟩
instance : U 1 := ⟨by decide⟩
theorem val2_00 : val2 0 0 = 0 := by decide
theorem val2_0 (a : Int) : val2 0 a = a := by unfold val2; omega
theorem val4_0 (a b : Int) : val4 0 0 a b = val2 a b := by unfold val4; rw [val2_00]; omega

theorem add_hi (ah al bh bl : Int) [h1 : U ah] [h2 : U al] [h3 : U bh] [h4 : U bl] : sum ah bh (car al bl 0) = hi (mod2 (val2 ah al + val2 bh bl)) := by
  have := h1.h; have := h2.h; have := h3.h; have := h4.h; unfold sum car hi mod2 val2; omega
theorem add_lo (ah al bh bl : Int) : sum al bl 0 = lo (mod2 (val2 ah al + val2 bh bl)) := by unfold sum lo mod2 val2; omega
theorem add_over (ah al bh bl : Int) [h1 : U ah] [h2 : U al] [h3 : U bh] [h4 : U bl] : decide (0 < car ah bh (car al bl 0)) = over2 (val2 ah al + val2 bh bl) := by
  have := h1.h; have := h2.h; have := h3.h; have := h4.h; unfold over2 car val2; rw [decide_eq_decide]; omega
theorem sub_hi (ah al bh bl : Int) [h1 : U ah] [h2 : U al] [h3 : U bh] [h4 : U bl] : dif ah bh (bor al bl 0) = hi (mod2 (val2 ah al - val2 bh bl)) := by
  have := h1.h; have := h2.h; have := h3.h; have := h4.h; unfold dif bor hi mod2 val2; split <;> omega
theorem sub_lo (ah al bh bl : Int) : dif al bl 0 = lo (mod2 (val2 ah al - val2 bh bl)) := by unfold dif lo mod2 val2; omega
theorem sub_below (ah al bh bl : Int) [h1 : U ah] [h2 : U al] [h3 : U bh] [h4 : U bl] : decide (0 < bor ah bh (bor al bl 0)) = below (val2 ah al - val2 bh bl) := by
  have := h1.h; have := h2.h; have := h3.h; have := h4.h; unfold below bor val2; rw [decide_eq_decide]; repeat' split
  all_goals omega

/-- How much a number is without its sign; whether it is below nought. -/
def mag (a : Int) : Int := if a < 0 then -a else a
def neg (a : Int) : Bool := decide (a < 0)
instance (a : Int) [h : F a] : T (mag a) := ⟨by have := h.h; unfold mag; split <;> omega⟩
theorem sign_bit (a : Int) [h : F a] : (hi a / 9223372036854775808 == 0) = !neg a := by
  have := h.h; unfold neg hi; rw [Bool.eq_iff_iff]; simp; omega
/-- The number of a size (modulo 2^128, of two's complement). -/
def signed (n : Int) : Int := (n + 170141183460469231731687303715884105728) % 340282366920938463463374607431768211456 - 170141183460469231731687303715884105728
instance (a : Int) [h : F a] : F (-a) := ⟨by have := h.h; omega⟩
theorem signed_of (n : Int) [h : F n] : signed n = n := by have := h.h; unfold signed; omega

theorem mag_pos (a : Int) [h : F a] (hn : neg a = false) : hi a % 18446744073709551616 = hi (mag a) ∧ lo a = lo (mag a) := by
  have := h.h; unfold neg at hn; have hn := of_decide_eq_false hn; unfold mag; rw [if_neg hn]; unfold hi; omega
theorem mag_neg (a : Int) [h : F a] (hn : neg a = true) : mod2 (val2 0 0 - val2 (hi a % 18446744073709551616) (lo a)) = mag a := by
  have := h.h; unfold neg at hn; have hn := of_decide_eq_true hn; unfold mag; rw [if_pos hn]; unfold mod2 val2 hi lo; omega
/-- What a size's number is: modulo 2^128. -/
def ofSize (n : Int) (b : Bool) : Int := signed (bif b then -n else n)
theorem ofSize_pos (h l : Int) [h1 : U h] [h2 : U l] : ((h + 9223372036854775808) % 18446744073709551616 - 9223372036854775808) = hi (ofSize (val2 h l) false) ∧ l = lo (ofSize (val2 h l) false) := by
  have := h1.h; have := h2.h; unfold ofSize signed val2 hi lo; simp only [cond_false]; omega
theorem ofSize_neg (h l : Int) [h1 : U h] [h2 : U l] : ((hi (mod2 (val2 0 0 - val2 h l)) + 9223372036854775808) % 18446744073709551616 - 9223372036854775808) = hi (ofSize (val2 h l) true) ∧ lo (mod2 (val2 0 0 - val2 h l)) = lo (ofSize (val2 h l) true) := by
  have := h1.h; have := h2.h; unfold ofSize signed val2 hi lo mod2; simp only [cond_true]; omega

end Go.Proofs.YtpbklojdmkpkcaaDoor
