/- Part of the proofs: the verified interpreter for the program's functions, or lemmas on what they compute; no condition. -/
import Derived.Test.YtoocidelbmbgcaaOctetSealsOc5
namespace Go.Proofs.Ytoocidelbmbgcaa.Oc
open Go.Ai
/-! ### counted -/
theorem and128 {c : Nat} (h : c < 256) : (veiled.and .u8 (c : Int) 128 != 0) = decide (128 ≤ c) := by
  have e := and_u8 h (show 128 < 256 by omega)
  rw [show ((128 : Nat) : Int) = 128 from rfl] at e
  rw [e]
  have : ∀ c : Fin 256, ((((c.1 &&& 128 : Nat) : Int) != 0) = decide (128 ≤ c.1)) := by decide +kernel
  exact this ⟨c, h⟩
theorem and127 {c : Nat} (h : c < 256) : veiled.and .u8 (c : Int) 127 = ((c % 128 : Nat) : Int) := by
  have e := and_u8 h (show 127 < 256 by omega)
  rw [show ((127 : Nat) : Int) = 127 from rfl] at e
  rw [e, show (127 : Nat) = 2 ^ 7 - 1 from rfl, Nat.and_two_pow_sub_one_eq_mod]
theorem and127u {c : Nat} (h : c < 256) : veiled.wrap .u64 (veiled.and .u8 (c : Int) 127) = ((c % 128 : Nat) : Int) := by
  rw [and127 h, wrap_u64_id (by omega)]
theorem pow128 (i : Nat) : 2 ^ (7 * i) = 128 ^ i := by rw [Nat.pow_mul]
theorem pow128_le {i : Nat} (h : 4 ≤ i) : 268435456 ≤ 128 ^ i := by
  have := Nat.pow_le_pow_right (n := 128) (by omega) h
  omega
/-- A group that fits is added by 'or'. -/
theorem group_add {n v i : Nat} (hn : n < 128 ^ i) (hv : v < 128) (hi : i ≤ 3) : n ||| (v * 2 ^ (7 * i) % 18446744073709551616) = n + v * 128 ^ i ∧ n + v * 128 ^ i < 128 ^ (i + 1) ∧ v * 2 ^ (7 * i) % 18446744073709551616 / 2 ^ (7 * i) = v := by
  rw [pow128]
  have h1 : v * 128 ^ i < 128 ^ (i + 1) := by rw [Nat.pow_succ, Nat.mul_comm]; exact Nat.mul_lt_mul_of_pos_left hv (Nat.pow_pos (by omega))
  have h2 : 128 ^ (i + 1) ≤ 268435456 := by
    have := Nat.pow_le_pow_right (n := 128) (by omega) (show i + 1 ≤ 4 by omega)
    omega
  have h3 : n + v * 128 ^ i < 128 ^ (i + 1) := by
    have : (v + 1) * 128 ^ i ≤ 128 * 128 ^ i := Nat.mul_le_mul_right _ (by omega)
    rw [Nat.pow_succ]
    rw [Nat.add_mul] at this
    omega
  rw [Nat.mod_eq_of_lt (by omega)]
  refine ⟨?_, h3, Nat.mul_div_cancel _ (Nat.pow_pos (by omega))⟩
  rw [← pow128] at hn ⊢
  rw [Nat.or_comm, ← Nat.shiftLeft_eq, ← Nat.shiftLeft_add_eq_or_of_lt hn, Nat.add_comm]
/-- One from the fifth on is too much, if it is not 0. -/
theorem group_big {v i : Nat} (hv : v < 128) (h0 : v ≠ 0) (hi : 4 ≤ i) (_ : i ≤ 9) (n : Nat) :
    v * 2 ^ (7 * i) % 18446744073709551616 / 2 ^ (7 * i) ≠ v ∨ 4194304 < n ||| (v * 2 ^ (7 * i) % 18446744073709551616) := by
  by_cases h : v * 2 ^ (7 * i) < 18446744073709551616
  · right
    have h1 := Nat.right_le_or (n := n) (m := v * 2 ^ (7 * i) % 18446744073709551616)
    rw [Nat.mod_eq_of_lt h] at h1 ⊢
    have h2 := pow128_le hi
    have h3 : 1 * 128 ^ i ≤ v * 128 ^ i := Nat.mul_le_mul_right _ (by omega)
    rw [pow128] at h1 ⊢
    omega
  · left
    intro e
    have h1 := Nat.div_mul_le_self (v * 2 ^ (7 * i) % 18446744073709551616) (2 ^ (7 * i))
    rw [e] at h1
    have h2 := Nat.mod_lt (v * 2 ^ (7 * i)) (show 0 < 18446744073709551616 by omega)
    omega
theorem cd_stop {c i n : Nat} (cs : List Nat) (h : ¬ 128 ≤ c) : cd (c :: cs) i n = if 0 < i ∧ c = 0 then (0, 0, 2) else if 4194304 < n + c * 128 ^ i then (0, 0, 4) else (n + c * 128 ^ i, i + 1, 0) := by
  rw [cd, if_neg h]
theorem cd_long {c i n : Nat} (cs : List Nat) (h : ¬ 128 ≤ c) (h0 : c ≠ 0) (hi : 4 ≤ i) : cd (c :: cs) i n = (0, 0, 4) := by
  rw [cd_stop cs h, if_neg (by omega), if_pos]
  have h1 := pow128_le hi
  have h3 : 1 * 128 ^ i ≤ c * 128 ^ i := Nat.mul_le_mul_right _ (by omega)
  omega
theorem out65 (a b e : Int) : sel (sel (some (0, [AV.int .i64 a, .int .i64 b, .int .i64 e])) x651) x652 = some (.tup [.int .i64 a, .int .i64 b, .int .i64 e], []) := by
  rw [u651_0, u652_1]
/-- What follows a last group. -/
theorem tail65 (ov : Bool) (q i : Nat) (hq : q < 18446744073709551616) (hi : i < 9223372036854775807) :
    sel (sel (br ov (some (0, [AV.int .i64 0, .int .i64 0, .int .i64 4])) (br (decide ((q : Int) > 4611686018427387904)) (some (0, [AV.int .i64 0, .int .i64 0, .int .i64 4]))
      (br (decide ((4194304 : Int) < 0)) (some (0, [AV.int .i64 0, .int .i64 0, .int .i64 4])) (br (decide ((q : Int) > veiled.wrap .u64 4194304)) (some (0, [AV.int .i64 0, .int .i64 0, .int .i64 4]))
        (some (1, [AV.int .u64 q, AV.int .i64 i])))))) x651) x652
      = some (if ov = true ∨ 4194304 < q then (.tup [.int .i64 0, .int .i64 0, .int .i64 4], []) else (.tup [.int .i64 q, .int .i64 ((i + 1 : Nat) : Int), .int .i64 0], [])) := by
  have hw : veiled.wrap .u64 4194304 = 4194304 := wrap_u64_id (n := 4194304) (by omega)
  rw [hw]
  cases ov
  · by_cases h : 4194304 < q
    · rw [if_pos (Or.inr h)]
      by_cases h2 : (q : Int) > 4611686018427387904
      · rw [br_f rfl, br_t (decide_eq_true h2), out65]
      · rw [br_f rfl, br_f (decide_eq_false h2), br_f (decide_eq_false (by omega)), br_t (decide_eq_true (by omega)), out65]
    · rw [if_neg (by simp; omega), br_f rfl, br_f (decide_eq_false (by omega)), br_f (decide_eq_false (by omega)), br_f (decide_eq_false (by omega)), u651_1, u652_1,
        wrap_i64 (by omega) (by omega), wrap_i64_succ hi]
  · rw [if_pos (Or.inl rfl), br_t rfl, out65]
end Go.Proofs.Ytoocidelbmbgcaa.Oc
