/- Part of the proofs: the verified interpreter for the program's functions, or lemmas on what they compute; no condition. -/
import Derived.Test.YtoocidelbmbgcaaOctetSealsOc13
namespace Go.Proofs.Ytoocidelbmbgcaa.Oc
open Go.Ai
/-! ### The sum tells bytes apart -/
def stepN (t c : Nat) : Nat := (t ^^^ c) * 1099511628211 % 18446744073709551616
theorem sumStep_nat {t c : Nat} (ht : t < 18446744073709551616) (hc : c < 256) : sumStep t (bI c) = (stepN t c : Nat) := by
  show wU (xU t (wU c) * 1099511628211) = _
  rw [wU, wU, xU, wrap_u64_id (by omega), xor_u64 ht (by omega), show ((t ^^^ c : Nat) : Int) * 1099511628211 = (((t ^^^ c) * 1099511628211 : Nat) : Int) from (Int.natCast_mul _ _).symm, wrap_u64_nat]
  rfl
theorem stepN_lt (t c : Nat) : stepN t c < 18446744073709551616 := Nat.mod_lt _ (by omega)
theorem fold_nat : ∀ (bs : List Nat) (t : Nat), t < 18446744073709551616 → (∀ b ∈ bs, b < 256) → (bs.map bI).foldl sumStep (t : Int) = (bs.foldl stepN t : Nat)
  | [], t, _, _ => rfl
  | c :: bs, t, ht, hb => by
    rw [List.map_cons, List.foldl_cons, List.foldl_cons, sumStep_nat ht (hb c (by simp)), fold_nat bs _ (stepN_lt t c) fun b hb' => hb b (List.mem_cons_of_mem _ hb')]
theorem mul_inj {a b : Nat} (ha : a < 18446744073709551616) (hb : b < 18446744073709551616) (h : a * 1099511628211 % 18446744073709551616 = b * 1099511628211 % 18446744073709551616) : a = b := by
  have e : ∀ x : Nat, x * 1099511628211 % 18446744073709551616 * 14886173955864302971 % 18446744073709551616 = x % 18446744073709551616 := by
    intro x
    have : x * 1099511628211 * 14886173955864302971 = x + 18446744073709551616 * (x * 887285111055) := by omega
    rw [Nat.mod_mul_mod, this, Nat.add_mul_mod_self_left]
  have h1 := e a
  have h2 := e b
  rw [h] at h1
  rw [h1, Nat.mod_eq_of_lt ha, Nat.mod_eq_of_lt hb] at h2
  exact h2
theorem xor_inj_left {t t' c : Nat} (h : t ^^^ c = t' ^^^ c) : t = t' := by
  have := congrArg (· ^^^ c) h
  simpa [Nat.xor_assoc] using this
theorem xor_inj_right {t c c' : Nat} (h : t ^^^ c = t ^^^ c') : c = c' := by
  rw [Nat.xor_comm t, Nat.xor_comm t] at h
  exact xor_inj_left h
theorem stepN_inj {t t' c : Nat} (ht : t < 18446744073709551616) (ht' : t' < 18446744073709551616) (hc : c < 256) (h : stepN t c = stepN t' c) : t = t' :=
  xor_inj_left (mul_inj (Nat.xor_lt_two_pow (n := 64) ht (by omega)) (Nat.xor_lt_two_pow (n := 64) ht' (by omega)) h)
theorem stepN_ne {t c c' : Nat} (ht : t < 18446744073709551616) (hc : c < 256) (hc' : c' < 256) (h : c ≠ c') : stepN t c ≠ stepN t c' := fun e =>
  h (xor_inj_right (mul_inj (Nat.xor_lt_two_pow (n := 64) ht (by omega)) (Nat.xor_lt_two_pow (n := 64) ht (by omega)) e))
theorem foldN_lt : ∀ (bs : List Nat) (t : Nat), t < 18446744073709551616 → bs.foldl stepN t < 18446744073709551616
  | [], t, h => h
  | c :: bs, t, _ => foldN_lt bs _ (stepN_lt t c)
theorem foldN_inj : ∀ (bs : List Nat) (t t' : Nat), t < 18446744073709551616 → t' < 18446744073709551616 → (∀ b ∈ bs, b < 256) → bs.foldl stepN t = bs.foldl stepN t' → t = t'
  | [], t, t', _, _, _, h => h
  | c :: bs, t, t', ht, ht', hb, h => stepN_inj ht ht' (hb c (by simp)) (foldN_inj bs _ _ (stepN_lt t c) (stepN_lt t' c) (fun b hb' => hb b (List.mem_cons_of_mem _ hb')) h)
theorem foldN_set : ∀ (bs : List Nat) (t i c : Nat), t < 18446744073709551616 → (∀ b ∈ bs, b < 256) → c < 256 → (hi : i < bs.length) → bs[i] ≠ c → bs.foldl stepN t ≠ (bs.set i c).foldl stepN t
  | [], t, i, c, _, _, _, hi, _ => absurd hi (Nat.not_lt_zero _)
  | b :: bs, t, 0, c, ht, hb, hc, _, h => fun e =>
    stepN_ne ht (hb b (by simp)) hc h (foldN_inj bs _ _ (stepN_lt t b) (stepN_lt t c) (fun x hx => hb x (List.mem_cons_of_mem _ hx)) e)
  | b :: bs, t, i + 1, c, ht, hb, hc, hi, h => foldN_set bs (stepN t b) i c (stepN_lt t b) (fun x hx => hb x (List.mem_cons_of_mem _ hx)) hc (by rw [List.length_cons] at hi; omega) h
theorem sumV_nat {bs : List Nat} (hb : ∀ b ∈ bs, b < 256) : sumV (bs.map bI) = (bs.foldl stepN 14695981039346656037 : Nat) := by
  rw [sumV, hide_eq]
  exact fold_nat bs 14695981039346656037 (by omega) hb
/-! ### A count's bytes are read as what they are -/
def cntN : Nat → Nat → List Nat
  | 0, u => [u]
  | k + 1, u => if 127 < u then (u % 128 + 128) :: cntN k (u / 128) else [u]
theorem or128 {c : Nat} (h : c < 128) : c ||| 128 = c + 128 := by
  have : ∀ c : Fin 128, c.1 ||| 128 = c.1 + 128 := by decide +kernel
  exact this ⟨c, h⟩
theorem cntL_nat : ∀ (k u : Nat), u < 128 ^ (k + 1) → u < 18446744073709551616 → cntL k u = (cntN k u).map bI ∧ (∀ b ∈ cntN k u, b < 256)
  | 0, u, hu, _ => by
    have : u < 128 := by simpa using hu
    rw [cntL, cntN, wrap_u8_nat, Nat.mod_eq_of_lt (by omega)]
    exact ⟨rfl, fun b hb => by rw [List.mem_singleton] at hb; omega⟩
  | k + 1, u, hu, h6 => by
    rw [cntL, cntN]
    by_cases h : 127 < u
    · have ih := cntL_nat k (u / 128) (by
        rw [Nat.div_lt_iff_lt_mul (by omega)]
        rw [Nat.pow_succ] at hu
        exact hu) (by omega)
      have e1 : veiled.and .u64 (u : Int) 127 = ((u % 128 : Nat) : Int) := by
        have := and_u64 h6 (show 127 < 18446744073709551616 by omega)
        rw [show ((127 : Nat) : Int) = 127 from rfl] at this
        rw [this, show (127 : Nat) = 2 ^ 7 - 1 from rfl, Nat.and_two_pow_sub_one_eq_mod]
      have e2 : veiled.or .u8 (veiled.wrap .u8 (veiled.and .u64 (u : Int) 127)) 128 = ((u % 128 + 128 : Nat) : Int) := by
        have := or_u8 (a := u % 128) (b := 128) (by omega) (by omega)
        rw [show ((128 : Nat) : Int) = 128 from rfl] at this
        rw [e1, wrap_u8_nat, Nat.mod_eq_of_lt (by omega), this, or128 (by omega)]
      have e3 : veiled.shr .u64 (u : Int) 7 = ((u / 128 : Nat) : Int) := shr_u64 u (k := 7) (by omega)
      rw [decide_eq_true (by omega), cond_true, if_pos h, e2, e3, ih.1]
      refine ⟨rfl, fun b hb => ?_⟩
      rcases List.mem_cons.1 hb with rfl | hb
      · omega
      · exact ih.2 b hb
    · rw [decide_eq_false (by omega), cond_false, if_neg h, wrap_u8_nat, Nat.mod_eq_of_lt (by omega)]
      exact ⟨rfl, fun b hb => by rw [List.mem_singleton] at hb; omega⟩
theorem cd_cnt : ∀ (k u i n : Nat) (rest : List Nat), u < 128 ^ (k + 1) → n + u * 128 ^ i ≤ 4194304 → (0 < i → 0 < u) → cd (cntN k u ++ rest) i n = (n + u * 128 ^ i, i + (cntN k u).length, 0)
  | 0, u, i, n, rest, hu, hn, h0 => by
    have : u < 128 := by simpa using hu
    show cd (u :: rest) i n = _
    rw [cd_stop rest (by omega), if_neg (by omega), if_neg (by omega)]
    rfl
  | k + 1, u, i, n, rest, hu, hn, h0 => by
    rw [cntN]
    by_cases h : 127 < u
    · rw [if_pos h]
      show cd ((u % 128 + 128) :: (cntN k (u / 128) ++ rest)) i n = _
      have e : n + (u % 128 + 128 - 128) * 128 ^ i + u / 128 * 128 ^ (i + 1) = n + u * 128 ^ i := by
        rw [Nat.add_sub_cancel, Nat.pow_succ, ← Nat.mul_assoc, Nat.mul_right_comm (u / 128), Nat.add_assoc, ← Nat.add_mul, show u % 128 + u / 128 * 128 = u by omega]
      rw [cd, if_pos (by omega), cd_cnt k (u / 128) (i + 1) _ rest (by
        rw [Nat.div_lt_iff_lt_mul (by omega)]
        rw [Nat.pow_succ] at hu
        exact hu) (by rw [e]; exact hn) (fun _ => by omega), e, List.length_cons]
      simp; omega
    · rw [if_neg h]
      show cd (u :: rest) i n = _
      rw [cd_stop rest (by omega), if_neg (by omega), if_neg (by omega)]
      rfl
end Go.Proofs.Ytoocidelbmbgcaa.Oc
