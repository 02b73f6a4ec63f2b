/- Bits of limbs; bits.Mul64. -/
import Derived.Test.YtddnmijnpieokaaS15
set_option linter.unusedVariables false
set_option linter.unusedSimpArgs false
set_option maxRecDepth 10000
namespace Go.Ab
open Go.Proofs Go.Num

theorem ishr_nat (x n : Nat) : ishr .u64 (x : Int) (n : Int) = ((x / 2 ^ min n 64 : Nat) : Int) := by
  unfold ishr
  rw [Int.toNat_natCast, show IntKind.bits .u64 = 64 from rfl]
  have : ((2 : Int) ^ min n 64) = ((2 ^ min n 64 : Nat) : Int) := by simp
  rw [this, Int.fdiv_eq_ediv_of_nonneg _ (Int.natCast_nonneg _)]
  exact (Int.natCast_ediv _ _).symm

theorem iand_low {x : Nat} (hx : x < 18446744073709551616) : iand .u64 (x : Int) 4294967295 = ((x % 4294967296 : Nat) : Int) := by
  unfold iand
  rw [show IntKind.bits .u64 = 64 from rfl, wrapU]
  have e1 : BitVec.ofInt 64 (x : Int) = BitVec.ofNat 64 x := rfl
  have e2 : BitVec.ofInt 64 4294967295 = BitVec.ofNat 64 4294967295 := rfl
  rw [e1, e2, BitVec.toNat_and, BitVec.toNat_ofNat, BitVec.toNat_ofNat]
  rw [Nat.mod_eq_of_lt (show x < 2 ^ 64 from hx), Nat.mod_eq_of_lt (show 4294967295 < 2 ^ 64 from by decide)]
  rw [show (4294967295 : Nat) = 2 ^ 32 - 1 from rfl, Nat.and_two_pow_sub_one_eq_mod]
  have := Nat.mod_lt x (show 0 < 2 ^ 32 by decide)
  omega

def mul64 (a1 a2 : Int) : Int × Int := ((IntKind.wrap .u64 ((IntKind.wrap .u64 ((IntKind.wrap .u64 ((ishr .u64 a1 32) * (ishr .u64 a2 32))) + (ishr .u64 (IntKind.wrap .u64 ((IntKind.wrap .u64 ((ishr .u64 a1 32) * (iand .u64 a2 4294967295))) + (ishr .u64 (IntKind.wrap .u64 ((iand .u64 a1 4294967295) * (iand .u64 a2 4294967295))) 32))) 32))) + (ishr .u64 (IntKind.wrap .u64 ((iand .u64 (IntKind.wrap .u64 ((IntKind.wrap .u64 ((ishr .u64 a1 32) * (iand .u64 a2 4294967295))) + (ishr .u64 (IntKind.wrap .u64 ((iand .u64 a1 4294967295) * (iand .u64 a2 4294967295))) 32))) 4294967295) + (IntKind.wrap .u64 ((iand .u64 a1 4294967295) * (ishr .u64 a2 32))))) 32))), IntKind.wrap .u64 (a1 * a2))

theorem math_bits_Mul64_spec (a1 a2 : Int) {h : AH} : go (.fn F.math_bits_Mul64 [.int .u64 a1, .int .u64 a2]) h = some (.tup [.int .u64 (mul64 a1 a2).1, .int .u64 (mul64 a1 a2).2], h) := u_math_bits_Mul64 a1 a2 h

theorem mul_parts (x1 x0 y1 y0 : Nat) : (x1 * 4294967296 + x0) * (y1 * 4294967296 + y0) = x1 * y1 * 18446744073709551616 + (x1 * y0 + x0 * y1) * 4294967296 + x0 * y0 := by
  rw [Nat.add_mul, Nat.mul_add, Nat.mul_add]
  have e1 : x1 * 4294967296 * (y1 * 4294967296) = x1 * y1 * 18446744073709551616 := by
    rw [Nat.mul_mul_mul_comm]
  have e2 : x1 * 4294967296 * y0 = x1 * y0 * 4294967296 := by rw [Nat.mul_right_comm]
  have e3 : x0 * (y1 * 4294967296) = x0 * y1 * 4294967296 := by rw [Nat.mul_assoc]
  rw [e1, e2, e3]
  omega

theorem mul64_eq {x y : Nat} (hx : x < B) (hy : y < B) : mul64 (x : Int) (y : Int) = (((x * y / B : Nat) : Int), ((x * y % B : Nat) : Int)) := by
  have hx : x < 18446744073709551616 := hx
  have hy : y < 18446744073709551616 := hy
  unfold mul64
  have s1 := ishr_nat x 32
  have s2 := ishr_nat y 32
  have a1 := iand_low hx
  have a2 := iand_low hy
  have p32 : (2 : Nat) ^ min 32 64 = 4294967296 := rfl
  rw [p32] at s1 s2
  rw [show ((32 : Nat) : Int) = 32 from rfl] at s1 s2
  rw [s1, s2, a1, a2]
  generalize hx1 : x / 4294967296 = x1
  generalize hx0 : x % 4294967296 = x0
  generalize hy1 : y / 4294967296 = y1
  generalize hy0 : y % 4294967296 = y0
  have ex : x = x1 * 4294967296 + x0 := by omega
  have ey : y = y1 * 4294967296 + y0 := by omega
  have l1 : x1 ≤ 4294967295 := by omega
  have l2 : x0 ≤ 4294967295 := by omega
  have l3 : y1 ≤ 4294967295 := by omega
  have l4 : y0 ≤ 4294967295 := by omega
  have b1 : x1 * y1 ≤ 4294967295 * 4294967295 := Nat.mul_le_mul l1 l3
  have b2 : x1 * y0 ≤ 4294967295 * 4294967295 := Nat.mul_le_mul l1 l4
  have b3 : x0 * y1 ≤ 4294967295 * 4294967295 := Nat.mul_le_mul l2 l3
  have b4 : x0 * y0 ≤ 4294967295 * 4294967295 := Nat.mul_le_mul l2 l4
  have key := mul_parts x1 x0 y1 y0
  rw [← ex, ← ey] at key
  have w1 : IntKind.wrap .u64 (((x0 : Nat) : Int) * ((y0 : Nat) : Int)) = ((x0 * y0 : Nat) : Int) := by rw [wrapU, ← Int.natCast_mul]; omega
  have w2 : IntKind.wrap .u64 (((x1 : Nat) : Int) * ((y0 : Nat) : Int)) = ((x1 * y0 : Nat) : Int) := by rw [wrapU, ← Int.natCast_mul]; omega
  have w3 : IntKind.wrap .u64 (((x0 : Nat) : Int) * ((y1 : Nat) : Int)) = ((x0 * y1 : Nat) : Int) := by rw [wrapU, ← Int.natCast_mul]; omega
  have w4 : IntKind.wrap .u64 (((x1 : Nat) : Int) * ((y1 : Nat) : Int)) = ((x1 * y1 : Nat) : Int) := by rw [wrapU, ← Int.natCast_mul]; omega
  rw [w1, w2, w3, w4]
  have lo : IntKind.wrap .u64 ((x : Int) * (y : Int)) = ((x * y % B : Nat) : Int) := by
    rw [wrapU, ← Int.natCast_mul]
    rfl
  rw [lo]
  generalize x0 * y0 = p at *
  generalize x1 * y0 = q at *
  generalize x0 * y1 = u at *
  generalize x1 * y1 = v at *
  have s3 := ishr_nat p 32
  rw [p32] at s3
  rw [show ((32 : Nat) : Int) = 32 from rfl] at s3
  rw [s3]
  have w5 : IntKind.wrap .u64 (((q : Nat) : Int) + ((p / 4294967296 : Nat) : Int)) = ((q + p / 4294967296 : Nat) : Int) := by rw [wrapU]; omega
  rw [w5]
  have ht : q + p / 4294967296 < 18446744073709551616 := by omega
  have s4 := ishr_nat (q + p / 4294967296) 32
  rw [p32] at s4
  rw [show ((32 : Nat) : Int) = 32 from rfl] at s4
  rw [s4, iand_low ht]
  generalize ht' : q + p / 4294967296 = t at *
  have w6 : IntKind.wrap .u64 (((t % 4294967296 : Nat) : Int) + ((u : Nat) : Int)) = ((t % 4294967296 + u : Nat) : Int) := by rw [wrapU]; omega
  rw [w6]
  have s5 := ishr_nat (t % 4294967296 + u) 32
  rw [p32] at s5
  rw [show ((32 : Nat) : Int) = 32 from rfl] at s5
  rw [s5]
  have w7 : IntKind.wrap .u64 (((v : Nat) : Int) + ((t / 4294967296 : Nat) : Int)) = ((v + t / 4294967296 : Nat) : Int) := by rw [wrapU]; omega
  rw [w7]
  have w8 : IntKind.wrap .u64 (((v + t / 4294967296 : Nat) : Int) + (((t % 4294967296 + u) / 4294967296 : Nat) : Int)) = ((v + t / 4294967296 + (t % 4294967296 + u) / 4294967296 : Nat) : Int) := by rw [wrapU]; omega
  rw [w8]
  have hi : v + t / 4294967296 + (t % 4294967296 + u) / 4294967296 = x * y / 18446744073709551616 := by
    rw [key]
    omega
  rw [hi]

end Go.Ab
