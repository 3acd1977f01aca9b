/- Part of the proofs: the verified interpreter for the program's functions, or lemmas on what they compute; no condition. -/
import Derived.Test.YtoocidelbmbgcaaOctetSealsLp
namespace Go.Ai
/-! ### Bits of numbers below 2^64 -/
theorem wrap_u64_nat (n : Nat) : veiled.wrap .u64 n = ((n % 18446744073709551616 : Nat) : Int) := by rw [wrap_u64]; rfl
theorem wrap_u64_id {n : Nat} (h : n < 18446744073709551616) : veiled.wrap .u64 n = n := by rw [wrap_u64_nat, Nat.mod_eq_of_lt h]
theorem wrap_u8 (n : Int) : veiled.wrap .u8 n = n % 256 := by
  rw [veiled_real]; show IntKind.u8.wrap n = _
  simp [IntKind.wrap, IntKind.bits, IntKind.signed]
theorem wrap_u8_nat (n : Nat) : veiled.wrap .u8 n = ((n % 256 : Nat) : Int) := by rw [wrap_u8]; rfl
theorem wrap_u32 (n : Int) : veiled.wrap .u32 n = n % 4294967296 := by
  rw [veiled_real]; show IntKind.u32.wrap n = _
  simp [IntKind.wrap, IntKind.bits, IntKind.signed]
theorem rw_u64 (n : Int) : IntKind.u64.wrap n = n % 18446744073709551616 := by simp [IntKind.wrap, IntKind.bits, IntKind.signed]
theorem rw_u8 (n : Int) : IntKind.u8.wrap n = n % 256 := by simp [IntKind.wrap, IntKind.bits, IntKind.signed]
theorem ofInt_nat (w n : Nat) : BitVec.ofInt w (n : Int) = BitVec.ofNat w n := BitVec.ofInt_natCast w n
theorem or_u64 {a b : Nat} (ha : a < 18446744073709551616) (hb : b < 18446744073709551616) : veiled.or .u64 a b = ((a ||| b : Nat) : Int) := by
  have h : a ||| b < 2 ^ 64 := Nat.or_lt_two_pow ha hb
  rw [veiled_real]
  show IntKind.u64.wrap (BitVec.ofInt 64 a ||| BitVec.ofInt 64 b).toNat = _
  rw [rw_u64, ofInt_nat, ofInt_nat, BitVec.toNat_or, BitVec.toNat_ofNat, BitVec.toNat_ofNat, Nat.mod_eq_of_lt ha, Nat.mod_eq_of_lt hb]
  omega
theorem and_u64 {a b : Nat} (ha : a < 18446744073709551616) (hb : b < 18446744073709551616) : veiled.and .u64 a b = ((a &&& b : Nat) : Int) := by
  have h : a &&& b < 2 ^ 64 := Nat.and_lt_two_pow a hb
  rw [veiled_real]
  show IntKind.u64.wrap (BitVec.ofInt 64 a &&& BitVec.ofInt 64 b).toNat = _
  rw [rw_u64, ofInt_nat, ofInt_nat, BitVec.toNat_and, BitVec.toNat_ofNat, BitVec.toNat_ofNat, Nat.mod_eq_of_lt ha, Nat.mod_eq_of_lt hb]
  omega
theorem xor_u64 {a b : Nat} (ha : a < 18446744073709551616) (hb : b < 18446744073709551616) : veiled.xor .u64 a b = ((a ^^^ b : Nat) : Int) := by
  have h : a ^^^ b < 2 ^ 64 := Nat.xor_lt_two_pow ha hb
  rw [veiled_real]
  show IntKind.u64.wrap (BitVec.ofInt 64 a ^^^ BitVec.ofInt 64 b).toNat = _
  rw [rw_u64, ofInt_nat, ofInt_nat, BitVec.toNat_xor, BitVec.toNat_ofNat, BitVec.toNat_ofNat, Nat.mod_eq_of_lt ha, Nat.mod_eq_of_lt hb]
  omega
theorem and_u8 {a b : Nat} (ha : a < 256) (hb : b < 256) : veiled.and .u8 a b = ((a &&& b : Nat) : Int) := by
  have h : a &&& b < 2 ^ 8 := Nat.and_lt_two_pow a hb
  rw [veiled_real]
  show IntKind.u8.wrap (BitVec.ofInt 8 a &&& BitVec.ofInt 8 b).toNat = _
  rw [rw_u8, ofInt_nat, ofInt_nat, BitVec.toNat_and, BitVec.toNat_ofNat, BitVec.toNat_ofNat, Nat.mod_eq_of_lt ha, Nat.mod_eq_of_lt hb]
  omega
theorem or_u8 {a b : Nat} (ha : a < 256) (hb : b < 256) : veiled.or .u8 a b = ((a ||| b : Nat) : Int) := by
  have h : a ||| b < 2 ^ 8 := Nat.or_lt_two_pow ha hb
  rw [veiled_real]
  show IntKind.u8.wrap (BitVec.ofInt 8 a ||| BitVec.ofInt 8 b).toNat = _
  rw [rw_u8, ofInt_nat, ofInt_nat, BitVec.toNat_or, BitVec.toNat_ofNat, BitVec.toNat_ofNat, Nat.mod_eq_of_lt ha, Nat.mod_eq_of_lt hb]
  omega
theorem xor_u8 {a b : Nat} (ha : a < 256) (hb : b < 256) : veiled.xor .u8 a b = ((a ^^^ b : Nat) : Int) := by
  have h : a ^^^ b < 2 ^ 8 := Nat.xor_lt_two_pow ha hb
  rw [veiled_real]
  show IntKind.u8.wrap (BitVec.ofInt 8 a ^^^ BitVec.ofInt 8 b).toNat = _
  rw [rw_u8, ofInt_nat, ofInt_nat, BitVec.toNat_xor, BitVec.toNat_ofNat, BitVec.toNat_ofNat, Nat.mod_eq_of_lt ha, Nat.mod_eq_of_lt hb]
  omega
theorem shl_u64 (a : Nat) {k : Nat} (hk : k ≤ 64) : veiled.shl .u64 a k = ((a * 2 ^ k % 18446744073709551616 : Nat) : Int) := by
  rw [veiled_real]
  show IntKind.u64.wrap ((a : Int) * 2 ^ (min (k : Int).toNat 64)) = _
  rw [rw_u64, Int.toNat_natCast, Nat.min_eq_left hk, show ((2 : Int) ^ k) = ((2 ^ k : Nat) : Int) from (Int.natCast_pow 2 k).symm, ← Int.natCast_mul]
  rfl
theorem shr_u64 (a : Nat) {k : Nat} (hk : k ≤ 64) : veiled.shr .u64 a k = ((a / 2 ^ k : Nat) : Int) := by
  rw [veiled_real]
  show (a : Int).fdiv (2 ^ (min (k : Int).toNat 64)) = _
  rw [Int.toNat_natCast, Nat.min_eq_left hk, Int.fdiv_eq_ediv_of_nonneg _ (Int.pow_nonneg (by omega))]
  norm_cast
end Go.Ai
