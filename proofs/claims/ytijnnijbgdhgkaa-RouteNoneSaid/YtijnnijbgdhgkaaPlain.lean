/-
  Numbers in 64 bits are mixed so that each step can be undone: the plain laws of the statements on routes; no program in sight.
-/
import Derived.Laws.Bits64
import Derived.Laws.Bits128
import Derived.RowKit
namespace Go.Proofs.Ytijnnijbgdhgkaa
open Go.RowKit (wrap64)

/-- A number that is moved down and put over itself is taken off again by three rounds. -/
theorem un3 (y : BitVec 64) (n : Nat) (h : 64 ≤ n + n + n + n) :
    (y ^^^ y >>> n) ^^^ (((y ^^^ y >>> n) ^^^ (((y ^^^ y >>> n) ^^^ ((y ^^^ y >>> n) >>> n)) >>> n)) >>> n) = y := by
  apply BitVec.eq_of_getLsbD_eq
  intro i hi
  have h1 : y.getLsbD (n + (n + (n + (n + i)))) = false := BitVec.getLsbD_of_ge _ _ (by omega)
  simp only [BitVec.getLsbD_xor, BitVec.getLsbD_ushiftRight, h1]
  cases y.getLsbD i <;> cases y.getLsbD (n+i) <;> cases y.getLsbD (n+(n+i)) <;> cases y.getLsbD (n+(n+(n+i))) <;> rfl

theorem inv1 (y : BitVec 64) : y * 0xbf58476d1ce4e5b9#64 * 0x96de1b173f119089#64 = y := by
  rw [BitVec.mul_assoc]
  have : 0xbf58476d1ce4e5b9#64 * 0x96de1b173f119089#64 = 1#64 := by decide
  rw [this]; exact BitVec.mul_one y
theorem inv2 (y : BitVec 64) : y * 0x94d049bb133111eb#64 * 0x319642b2d24d8ec3#64 = y := by
  rw [BitVec.mul_assoc]
  have : 0x94d049bb133111eb#64 * 0x319642b2d24d8ec3#64 = 1#64 := by decide
  rw [this]; exact BitVec.mul_one y

def stB (z : BitVec 64) (n : Nat) (m : BitVec 64) : BitVec 64 := (z ^^^ z >>> n) * m
def mixB (x : Int) : BitVec 64 := stB (stB (stB (BitVec.ofInt 64 x + 0x9e3779b97f4a7c15#64) 30 0xbf58476d1ce4e5b9#64) 27 0x94d049bb133111eb#64) 31 1#64
def unB (z : BitVec 64) (n : Nat) : BitVec 64 := z ^^^ ((z ^^^ ((z ^^^ (z >>> n)) >>> n)) >>> n)

theorem unB_of (y : BitVec 64) (n : Nat) (h : 64 ≤ n + n + n + n) : unB (y ^^^ y >>> n) n = y := un3 y n h

/-- What the law reckons back is the number. -/
theorem back_of (x : Int) : unB (unB (unB (mixB x) 31 * 0x319642b2d24d8ec3#64) 27 * 0x96de1b173f119089#64) 30 - 0x9e3779b97f4a7c15#64 = BitVec.ofInt 64 x := by
  unfold mixB stB
  rw [BitVec.mul_one, unB_of _ 31 (by omega), inv2, unB_of _ 27 (by omega), inv1, unB_of _ 30 (by omega)]
  exact BitVec.add_sub_cancel _ _

theorem ofInt_inj {x y : Int} (hx : -9223372036854775808 ≤ x ∧ x ≤ 9223372036854775807) (hy : -9223372036854775808 ≤ y ∧ y ≤ 9223372036854775807)
    (h : BitVec.ofInt 64 x = BitVec.ofInt 64 y) : x = y := by
  have h2 := congrArg BitVec.toNat h
  simp only [BitVec.toNat_ofInt, Nat.reducePow] at h2
  omega

theorem mixB_inj {x y : Int} (hx : -9223372036854775808 ≤ x ∧ x ≤ 9223372036854775807) (hy : -9223372036854775808 ≤ y ∧ y ≤ 9223372036854775807)
    (h : mixB x = mixB y) : x = y := by
  apply ofInt_inj hx hy
  rw [← back_of x, ← back_of y, h]

/-! ### the model's words -/
theorem bv_add (a : BitVec 64) (b : BitVec 64) : IntKind.u64.wrap ((a.toNat : Int) + (b.toNat : Int)) = ((a + b).toNat : Int) := by
  rw [IntKind.wrap_u64, BitVec.toNat_add]; omega
theorem bv_mul (a : BitVec 64) (b : BitVec 64) : IntKind.u64.wrap ((a.toNat : Int) * (b.toNat : Int)) = ((a * b).toNat : Int) := by
  rw [IntKind.wrap_u64, BitVec.toNat_mul, ← Int.natCast_mul, Int.natCast_emod]; rfl
theorem bv_sub (a : BitVec 64) (b : BitVec 64) : IntKind.u64.wrap ((a.toNat : Int) - (b.toNat : Int)) = ((a - b).toNat : Int) := by
  rw [IntKind.wrap_u64, BitVec.toNat_sub]
  have := a.isLt; have := b.isLt
  omega
theorem bv_ofInt (x : Int) : IntKind.u64.wrap x = ((BitVec.ofInt 64 x).toNat : Int) := by
  rw [IntKind.wrap_u64, BitVec.toNat_ofInt]; omega
theorem bv_xor (a b : BitVec 64) : bits .xor .u64 (a.toNat : Int) (b.toNat : Int) = ((a ^^^ b).toNat : Int) := by
  rw [bits_xor_u64_nat _ _ a.isLt b.isLt, BitVec.toNat_xor]
theorem bv_shr (a : BitVec 64) (n : Nat) : (a.toNat : Int) / ((2 ^ n : Nat) : Int) = ((a >>> n).toNat : Int) := by
  rw [BitVec.toNat_ushiftRight, Nat.shiftRight_eq_div_pow, ← Int.natCast_ediv]


theorem st_1 (A : BitVec 64) : IntKind.u64.wrap (bits .xor .u64 (A.toNat : Int) ((A.toNat : Int) / 1073741824) * 13787848793156543929) = ((stB A 30 0xbf58476d1ce4e5b9#64).toNat : Int) := by
  have h := bv_shr A 30
  simp only [Nat.reducePow] at h
  rw [show (1073741824 : Int) = ((1073741824 : Nat) : Int) from rfl, h, bv_xor]
  exact bv_mul _ 0xbf58476d1ce4e5b9#64
theorem st_2 (A : BitVec 64) : IntKind.u64.wrap (bits .xor .u64 (A.toNat : Int) ((A.toNat : Int) / 134217728) * 10723151780598845931) = ((stB A 27 0x94d049bb133111eb#64).toNat : Int) := by
  have h := bv_shr A 27
  simp only [Nat.reducePow] at h
  rw [show (134217728 : Int) = ((134217728 : Nat) : Int) from rfl, h, bv_xor]
  exact bv_mul _ 0x94d049bb133111eb#64
theorem st_x (A : BitVec 64) : bits .xor .u64 (A.toNat : Int) ((A.toNat : Int) / 2147483648) = ((stB A 31 1#64).toNat : Int) := by
  have h := bv_shr A 31
  simp only [Nat.reducePow] at h
  rw [show (2147483648 : Int) = ((2147483648 : Nat) : Int) from rfl, h, bv_xor]
  unfold stB
  rw [BitVec.mul_one]
theorem wrap_bv (A : BitVec 64) : IntKind.u64.wrap (A.toNat : Int) = (A.toNat : Int) := by
  rw [IntKind.wrap_u64]; have := A.isLt; omega
theorem st_0 (x : Int) : IntKind.u64.wrap (IntKind.u64.wrap x + 11400714819323198485) = ((BitVec.ofInt 64 x + 0x9e3779b97f4a7c15#64).toNat : Int) := by
  have e : ((0x9e3779b97f4a7c15#64).toNat : Int) = 11400714819323198485 := by decide
  have h := bv_add (BitVec.ofInt 64 x) 0x9e3779b97f4a7c15#64
  rw [e] at h
  rw [bv_ofInt x]; exact h


/-! ### the same behind one name, so that the walk leaves it as it is -/
def tn (b : BitVec 64) : Int := (b.toNat : Int)
def b0 (x : Int) : BitVec 64 := BitVec.ofInt 64 x + 0x9e3779b97f4a7c15#64
theorem tn_0 (x : Int) : IntKind.u64.wrap (IntKind.u64.wrap x + 11400714819323198485) = tn (b0 x) := st_0 x
theorem tn_1 (A : BitVec 64) : IntKind.u64.wrap (bits .xor .u64 (tn A) (tn A / 1073741824) * 13787848793156543929) = tn (stB A 30 0xbf58476d1ce4e5b9#64) := st_1 A
theorem tn_2 (A : BitVec 64) : IntKind.u64.wrap (bits .xor .u64 (tn A) (tn A / 134217728) * 10723151780598845931) = tn (stB A 27 0x94d049bb133111eb#64) := st_2 A
theorem tn_3 (A : BitVec 64) : bits .xor .u64 (tn A) (tn A / 2147483648) = tn (stB A 31 1#64) := st_x A
theorem tn_w (A : BitVec 64) : IntKind.u64.wrap (tn A) = tn A := wrap_bv A
theorem tn_pos (A : BitVec 64) : 0 ≤ tn A := Int.natCast_nonneg _


theorem u64_of (n : Int) (h : 1 ≤ n) (h2 : n ≤ 9223372036854775807) : IntKind.u64.wrap n = n := by
  rw [IntKind.wrap_u64]; omega
theorem tmod_of (A : BitVec 64) (n : Int) (_h : 1 ≤ n) : (tn A).tmod n = tn A % n := Int.tmod_eq_emod_of_nonneg (tn_pos A)
theorem mod_in (A : BitVec 64) (n : Int) (h : 1 ≤ n) : 0 ≤ tn A % n ∧ tn A % n < n := ⟨Int.emod_nonneg _ (by omega), Int.emod_lt_of_pos _ (by omega)⟩
theorem wrap_of (A : BitVec 64) (n : Int) (h : 1 ≤ n) (h2 : n ≤ 9223372036854775807) : wrap64 (tn A % n) = tn A % n := by
  have := mod_in A n h
  unfold wrap64
  omega


theorem un_d (z : BitVec 64) (n : Nat) (d : Int) (hd : d = ((2 ^ n : Nat) : Int)) :
    bits .xor .u64 (tn z) (bits .xor .u64 (tn z) (bits .xor .u64 (tn z) (tn z / d) / d) / d) = tn (unB z n) := by
  subst hd
  unfold tn unB
  rw [bv_shr, bv_xor, bv_shr, bv_xor, bv_shr, bv_xor]
theorem tn_eq (a b : BitVec 64) : (tn a == tn b) = decide (a = b) := by
  unfold tn
  by_cases h : a = b
  · subst h; simp
  · rw [decide_eq_false h, beq_eq_false_iff_ne]
    intro e
    exact h (BitVec.eq_of_toNat_eq (by omega))


def bk1 (A : BitVec 64) : BitVec 64 := A * 0x319642b2d24d8ec3#64
def bk2 (A : BitVec 64) : BitVec 64 := A * 0x96de1b173f119089#64
def bk3 (A : BitVec 64) : BitVec 64 := A - 0x9e3779b97f4a7c15#64
theorem tn_b1 (A : BitVec 64) : IntKind.u64.wrap (tn A * 3573116690164977347) = tn (bk1 A) := bv_mul A 0x319642b2d24d8ec3#64
theorem tn_b2 (A : BitVec 64) : IntKind.u64.wrap (tn A * 10871156337175269513) = tn (bk2 A) := bv_mul A 0x96de1b173f119089#64
theorem tn_b3 (A : BitVec 64) : IntKind.u64.wrap (tn A - 11400714819323198485) = tn (bk3 A) := by
  have e : ((0x9e3779b97f4a7c15#64).toNat : Int) = 11400714819323198485 := by decide
  have h := bv_sub A 0x9e3779b97f4a7c15#64
  rw [e] at h
  exact h
def bi (x : Int) : BitVec 64 := BitVec.ofInt 64 x
theorem tn_bi (x : Int) : IntKind.u64.wrap x = tn (bi x) := bv_ofInt x
theorem tn_back (x : Int) : bk3 (unB (bk2 (unB (bk1 (unB (mixB x) 31)) 27)) 30) = bi x := back_of x
theorem mix_apart {x y : Int} (hx : -9223372036854775808 ≤ x ∧ x ≤ 9223372036854775807) (hy : -9223372036854775808 ≤ y ∧ y ≤ 9223372036854775807) (h : ¬ x = y) :
    (tn (mixB x) == tn (mixB y)) = false := by
  rw [tn_eq, decide_eq_false_iff_not]
  exact fun e => h (mixB_inj hx hy e)


theorem i64_and63 (n : Int) : bits .and .i64 n 63 = n % 64 := by
  have h127 : (BitVec.ofInt 64 63).toNat = 2 ^ 6 - 1 := by decide
  have key : (BitVec.ofInt 64 n &&& BitVec.ofInt 64 63).toNat = (n % ((2 ^ 64 : Nat) : Int)).toNat % 2 ^ 6 := by
    rw [BitVec.toNat_and, BitVec.toNat_ofInt, h127, Nat.and_two_pow_sub_one_eq_mod]
  show IntKind.i64.wrap ((BitVec.ofInt 64 n &&& BitVec.ofInt 64 63).toNat : Nat) = n % 64
  rw [key, IntKind.wrap_i64]
  omega
theorem i64_and30 (n : Int) : bits .and .i64 n 1073741823 = n % 1073741824 := by
  have h127 : (BitVec.ofInt 64 1073741823).toNat = 2 ^ 30 - 1 := by decide
  have key : (BitVec.ofInt 64 n &&& BitVec.ofInt 64 1073741823).toNat = (n % ((2 ^ 64 : Nat) : Int)).toNat % 2 ^ 30 := by
    rw [BitVec.toNat_and, BitVec.toNat_ofInt, h127, Nat.and_two_pow_sub_one_eq_mod]
  show IntKind.i64.wrap ((BitVec.ofInt 64 n &&& BitVec.ofInt 64 1073741823).toNat : Nat) = n % 1073741824
  rw [key, IntKind.wrap_i64]
  omega

end Go.Proofs.Ytijnnijbgdhgkaa
