/- The directions of the low bits, by numbers: each beside its mirror. -/
import Derived.Test.YtpbklojdmkpkcaaDoorQuart
namespace Go.Proofs.YtpbklojdmkpkcaaDoor
/-- A number is known before one goes on. -/
def force (n : Nat) (k : Nat → List Nat) : List Nat := Nat.rec (k 0) (fun m _ => k (m + 1)) n
theorem force_eq (n : Nat) (k : Nat → List Nat) : force n k = k n := by cases n <;> rfl
def rd (n : Nat) : Nat := (n + 9223372036854775808) / 18446744073709551616
def pX (p : Nat) : Nat := p / 340282366920938463463374607431768211456
def pY (p : Nat) : Nat := p % 340282366920938463463374607431768211456
/-- A way by one direction of the table; nought where that is no way of the first quarter. -/
def pby (tx ty p : Nat) : Nat :=
  bif Nat.ble (rd (pY p * ty)) (rd (pX p * tx)) && (Nat.ble (rd (pX p * tx)) 73786976294838206464 && Nat.ble (rd (pY p * tx) + rd (pX p * ty)) 73786976294838206464)
  then (rd (pX p * tx) - rd (pY p * ty)) * 340282366920938463463374607431768211456 + (rd (pY p * tx) + rd (pX p * ty)) else 0
def grow (tx ty : Nat) : List Nat → List Nat
  | [] => []
  | p :: r => force (pby tx ty p) fun q => p :: q :: grow tx ty r
def lev : Nat → List Nat
  | 0 => [18446744073709551616 * 340282366920938463463374607431768211456]
  | k + 1 => grow (tabX k).toNat (tabY k).toNat (lev k)
def nearN (p q : Nat) : Bool := Nat.ble p (q + 1099511627776) && Nat.ble q (p + 1099511627776)
def mirs : List Nat → List Nat → Bool
  | p :: r, q :: s => bif (nearN (pX p) (pY q) && nearN (pY p) (pX q)) && (Nat.blt 0 p && Nat.blt 0 q) then mirs r s else false
  | [], [] => true
  | _, _ => false
set_option maxRecDepth 1000000 in
theorem mir_low : mirs (lev 14).tail (lev 14).tail.reverse = true := by decide +kernel
end Go.Proofs.YtpbklojdmkpkcaaDoor
