/- How the program's values are spelled; contracts of functions that only compute; the library's intrinsics. -/
import Derived.Test.YtpbklojdmkpkcaaDoorProg
import Derived.Test.YtpbklojdmkpkcaaDoorNum
import Derived.WalkKit
import Derived.WalkSpells
import Derived.Laws.Externs
namespace Go.Proofs.YtpbklojdmkpkcaaDoor
open Go.RowKit
set_option linter.unusedSimpArgs false
set_option linter.unusedVariables false

abbrev two (a : Int) : Value := .agg #[.int .u64 (hi a), .int .u64 (lo a)]
abbrev four (a : Int) : Value := .agg #[.int .u64 (hi (hi2 a)), .int .u64 (lo (hi2 a)), .int .u64 (hi (lo2 a)), .int .u64 (lo (lo2 a))]
abbrev fx (a : Int) : Value := .agg #[.int .i64 (hi a), .int .u64 (lo a)]
abbrev vec (x y : Int) : Value := .agg #[.int .i64 (hi x), .int .u64 (lo x), .int .i64 (hi y), .int .u64 (lo y)]

/-- A call that only computes: it answers v, and of what was there nothing has turned. -/
def Gives (f : FuncId) (args : Array Value) (v : Value) : Prop :=
  ∀ w : World, Calls Tryd.prog f args w fun e w' => e = .returned v ∧ Below w.heap.size w w'

/-- What stays behind a call: cells and marks, and (in the forms in which simp asks) that a block that lay there lies there still. -/
theorem bcell {W w1 : World} (hb : Below W.heap.size W w1) :
    (∀ b o, b < W.heap.size → w1.cell? ⟨b, o, none⟩ = W.cell? ⟨b, o, none⟩) ∧ (∀ b o, b < W.heap.size → w1.frozen? ⟨b, o, none⟩ = W.frozen? ⟨b, o, none⟩) ∧
    (∀ b, b < W.heap.size → b < w1.heap.size) ∧ (∀ b, b < W.heap.size → b ≤ w1.heap.size) ∧ (∀ b, b < W.heap.size → b ≤ w1.heap.size + 1) ∧
    (∀ b, b < W.heap.size → b ≤ w1.heap.size + 1 + 1) ∧ (∀ b, b < W.heap.size → b ≤ w1.heap.size + 1 + 1 + 1) ∧ (∀ b, b < W.heap.size → b < w1.heap.size + 1) ∧ (∀ b, b < W.heap.size → b < w1.heap.size + 1 + 1) ∧
    (∀ b, b < W.heap.size → b < w1.heap.size + 1 + 1 + 1) ∧ (∀ b, b < W.heap.size → b < w1.heap.size + 1 + 1 + 1 + 1) :=
  ⟨fun b o h => hb.cell (p := ⟨b, o, none⟩) h, fun b o h => hb.frozen (p := ⟨b, o, none⟩) h, fun b h => Nat.lt_of_lt_of_le h hb.size,
    fun b h => by have := hb.size; omega, fun b h => by have := hb.size; omega, fun b h => by have := hb.size; omega, fun b h => by have := hb.size; omega,
    fun b h => by have := hb.size; omega, fun b h => by have := hb.size; omega, fun b h => by have := hb.size; omega, fun b h => by have := hb.size; omega⟩

def add64Entry : Array Value → Sem Value := fun args => do
  let (x, y, c) ← Extern.MathBitsCarry.three "Add64" args
  pure (Extern.MathBitsCarry.pair ((x + y + c) % Extern.MathBitsCarry.m64) ((x + y + c) / Extern.MathBitsCarry.m64))
def sub64Entry : Array Value → Sem Value := fun args => do
  let (x, y, b) ← Extern.MathBitsCarry.three "Sub64" args
  pure (Extern.MathBitsCarry.pair ((x + Extern.MathBitsCarry.m64 - y - b) % Extern.MathBitsCarry.m64) (if x < y + b then 1 else 0))

theorem run_add64e (x y b : Nat) (hb : b ≤ 1) (w : World) :
    (add64Entry #[.int .u64 x, .int .u64 y, .int .u64 b]).run Tryd.prog w =
      .ok (.tuple #[.int .u64 (((x + y + b) % 18446744073709551616 : Nat) : Int), .int .u64 (((x + y + b) / 18446744073709551616 : Nat) : Int)]) w := by
  have : b = 0 ∨ b = 1 := by omega
  rcases this with rfl | rfl <;> rfl
theorem run_sub64e (x y b : Nat) (hb : b ≤ 1) (w : World) :
    (sub64Entry #[.int .u64 x, .int .u64 y, .int .u64 b]).run Tryd.prog w =
      .ok (.tuple #[.int .u64 (((x + 18446744073709551616 - y - b) % 18446744073709551616 : Nat) : Int), .int .u64 ((if x < y + b then 1 else 0 : Nat) : Int)]) w := by
  have : b = 0 ∨ b = 1 := by omega
  rcases this with rfl | rfl <;> rfl

theorem run_add64 (x y c : Int) (hx : U x) (hy : U y) (hc : 0 ≤ c ∧ c ≤ 1) (w : World) :
    (callFunc 149 #[.int .u64 x, .int .u64 y, .int .u64 c]).run Tryd.prog w =
      .ok (.value (.tuple #[.int .u64 (sum x y c), .int .u64 (car x y c)])) w := by
  obtain ⟨x, rfl⟩ := Int.eq_ofNat_of_zero_le hx.h.1
  obtain ⟨y, rfl⟩ := Int.eq_ofNat_of_zero_le hy.h.1
  obtain ⟨c, rfl⟩ := Int.eq_ofNat_of_zero_le hc.1
  rw [run_callFunc_extern Tryd.func149 (by kernel_rfl) (by kernel_rfl) (by kernel_rfl) (e := add64Entry) (by kernel_rfl), run_add64e x y c (by omega)]
  simp only [Result.andThen, sum, car]
  congr 5
theorem run_sub64 (x y b : Int) (hx : U x) (hy : U y) (hb : 0 ≤ b ∧ b ≤ 1) (w : World) :
    (callFunc 159 #[.int .u64 x, .int .u64 y, .int .u64 b]).run Tryd.prog w =
      .ok (.value (.tuple #[.int .u64 (dif x y b), .int .u64 (bor x y b)])) w := by
  have h1 := hx.h; have h2 := hy.h
  obtain ⟨x, rfl⟩ := Int.eq_ofNat_of_zero_le hx.h.1
  obtain ⟨y, rfl⟩ := Int.eq_ofNat_of_zero_le hy.h.1
  obtain ⟨b, rfl⟩ := Int.eq_ofNat_of_zero_le hb.1
  rw [run_callFunc_extern Tryd.func159 (by kernel_rfl) (by kernel_rfl) (by kernel_rfl) (e := sub64Entry) (by kernel_rfl), run_sub64e x y b (by omega)]
  have e1 : (((x + 18446744073709551616 - y - b) % 18446744073709551616 : Nat) : Int) = ((x : Int) - y - b) % 18446744073709551616 := by omega
  have e2 : ((if x < y + b then 1 else 0 : Nat) : Int) = if (x : Int) < y + b then 1 else 0 := by split <;> split <;> omega
  simp only [Result.andThen, dif, bor]
  rw [e1, e2]
theorem run_add64_0 (x y : Int) (hx : U x) (hy : U y) (w : World) :
    (callFunc 149 #[.int .u64 x, .int .u64 y, .int .u64 0]).run Tryd.prog w =
      .ok (.value (.tuple #[.int .u64 (sum x y 0), .int .u64 (car x y 0)])) w := run_add64 x y 0 hx hy (by decide) w
theorem run_sub64_0 (x y : Int) (hx : U x) (hy : U y) (w : World) :
    (callFunc 159 #[.int .u64 x, .int .u64 y, .int .u64 0]).run Tryd.prog w =
      .ok (.value (.tuple #[.int .u64 (dif x y 0), .int .u64 (bor x y 0)])) w := run_sub64 x y 0 hx hy (by decide) w

instance (x : Int) : U (IntKind.u64.wrap x) := ⟨by rw [IntKind.wrap_u64]; omega⟩

theorem idx4_0 (a b c d : Value) (w : World) : (Instr.index 190 (.agg #[a, b, c, d]) (.int .i64 0)).run Tryd.prog w = .ok a w := by kernel_rfl
theorem idx4_1 (a b c d : Value) (w : World) : (Instr.index 190 (.agg #[a, b, c, d]) (.int .i64 1)).run Tryd.prog w = .ok b w := by kernel_rfl
theorem idx4_2 (a b c d : Value) (w : World) : (Instr.index 190 (.agg #[a, b, c, d]) (.int .i64 2)).run Tryd.prog w = .ok c w := by kernel_rfl
theorem idx4_3 (a b c d : Value) (w : World) : (Instr.index 190 (.agg #[a, b, c, d]) (.int .i64 3)).run Tryd.prog w = .ok d w := by kernel_rfl
theorem idx2_0 (a b : Value) (w : World) : (Instr.index 193 (.agg #[a, b]) (.int .i64 0)).run Tryd.prog w = .ok a w := by kernel_rfl
theorem idx2_1 (a b : Value) (w : World) : (Instr.index 193 (.agg #[a, b]) (.int .i64 1)).run Tryd.prog w = .ok b w := by kernel_rfl

theorem wrapU (x : Int) [h : U x] : IntKind.u64.wrap x = x := by have := h.h; rw [IntKind.wrap_u64]; omega
theorem beyond (x : Int) [h : U x] : x / 2 / 9223372036854775808 = 0 := by have := h.h; omega
theorem or_0 (x : Int) [h : U x] : bits .or .u64 x 0 = x := by
  have := h.h
  rw [Go.u64_or x 0 (by omega) (by omega) (by omega) (by omega)]
  simp
  omega

theorem shl_beyond (x : Int) : IntKind.u64.wrap (IntKind.u64.wrap (x * 2) * 9223372036854775808) = 0 := by rw [IntKind.wrap_u64, IntKind.wrap_u64]; omega
theorem or_parts (x y : Int) (k : Nat) (hk : k ≤ 64) (hx : 0 ≤ x ∧ x < 2 ^ k) (hy : 0 ≤ y) (h : y * 2 ^ k + x < 18446744073709551616) : bits .or .u64 x (y * 2 ^ k) = y * 2 ^ k + x := by
  have hp : (0 : Int) < 2 ^ k := Int.pow_pos (by decide)
  have hm : 0 ≤ y * 2 ^ k := Int.mul_nonneg hy (Int.le_of_lt hp)
  rw [Go.u64_or x _ (by omega) (by omega) (by omega) (by omega)]
  obtain ⟨X, rfl⟩ := Int.eq_ofNat_of_zero_le hx.1
  obtain ⟨Y, rfl⟩ := Int.eq_ofNat_of_zero_le hy
  have e : ((Y : Int) * 2 ^ k).toNat = Y * 2 ^ k := by
    have : ((Y * 2 ^ k : Nat) : Int) = (Y : Int) * 2 ^ k := by push_cast; rfl
    rw [← this]; rfl
  have hX : X < 2 ^ k := by
    have h2 := hx.2
    have : ((2 ^ k : Nat) : Int) = 2 ^ k := by push_cast; rfl
    rw [← this] at h2; exact Int.ofNat_lt.1 h2
  rw [e, Int.toNat_natCast, Nat.or_comm, Nat.mul_comm Y, ← Nat.two_pow_add_eq_or_of_lt hX]
  push_cast; rw [Int.mul_comm]
/-- A word of a shift by one. -/
def shr1 (h l : Int) : Int := h % 2 * 9223372036854775808 + l / 2
theorem or_shr1 (h l : Int) [hl : U l] : bits .or .u64 (l / 2) (IntKind.u64.wrap (IntKind.u64.wrap (h * 2) * 4611686018427387904)) = shr1 h l := by
  have := hl.h
  have e : IntKind.u64.wrap (IntKind.u64.wrap (h * 2) * 4611686018427387904) = (h % 2) * 2 ^ 63 := by rw [IntKind.wrap_u64, IntKind.wrap_u64]; omega
  rw [e, or_parts (l / 2) (h % 2) 63 (by decide) (by omega) (by omega) (by omega)]
  rfl
instance (h l : Int) [hl : U l] : U (shr1 h l) := ⟨by have := hl.h; unfold shr1; omega⟩
instance (l : Int) [hl : U l] : U (l / 2) := ⟨by have := hl.h; omega⟩

theorem wrap64_is (n : Int) : wrap64 n = (n + 9223372036854775808) % 18446744073709551616 - 9223372036854775808 := by unfold wrap64; omega

theorem bel_step {B : Nat} {w X W1 : World} (hb : Below X.heap.size X W1) (h : Below B w X) (hB : B ≤ X.heap.size) : Below B w W1 := h.trans (hb.mono hB)

end Go.Proofs.YtpbklojdmkpkcaaDoor
