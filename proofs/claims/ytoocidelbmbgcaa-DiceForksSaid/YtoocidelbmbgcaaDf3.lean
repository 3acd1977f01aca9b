/- Part of the proofs: the verified interpreter for the program's functions, or lemmas on what they compute; no condition. -/
import Derived.Test.YtoocidelbmbgcaaDf
namespace Go.Proofs.Ytoocidelbmbgcaa.Ai
open Go.Ai
theorem e3 (s : Int) (t u : ByteArray) : funK (cx l2) big F3 [.int .u64 s, .str t, .str u] =
    preK (okBytes (strAVs t)) (preK (okBytes (strAVs u)) (br (turn s != turn s) (some (.bool false, [])) (br (turn s != turn s) (some (.bool false, [])) (preK (okBytes (strAVs t)) (preK (okBytes (strAVs u))
      (br ((xU (nx s) (sumAV (strAVs t)) == xU (nx s) (sumAV (strAVs u))) == (sumAV (strAVs t) == sumAV (strAVs u)))
        (preK (okBytes (strAVs t)) (some (.bool (xU (nx s) (sumAV (strAVs t)) == xU (nx s) (sumAV (strAVs t))), [])))
        (some (.bool false, [])))))))) := by kernel_rfl

/-! ### The plain law -/
theorem wU_mod (n : Int) : wU n = n % 18446744073709551616 := by
  rw [wU, veiled_real]
  simp [real, IntKind.wrap, IntKind.bits, IntKind.signed]
theorem xU_eq (a b : Int) : xU a b = ((BitVec.ofInt 64 a ^^^ BitVec.ofInt 64 b).toNat : Int) := by
  have h := (BitVec.ofInt 64 a ^^^ BitVec.ofInt 64 b).isLt
  rw [xU, veiled_real]
  change IntKind.u64.wrap ((BitVec.ofInt 64 a ^^^ BitVec.ofInt 64 b).toNat : Int) = _
  simp only [IntKind.wrap, IntKind.bits, IntKind.signed]
  exact Int.emod_eq_of_lt (by omega) (by exact_mod_cast h)
theorem xU_inj {a b c : Int} (hb : 0 ≤ b ∧ b < 18446744073709551616) (hc : 0 ≤ c ∧ c < 18446744073709551616) : xU a b = xU a c ↔ b = c := by
  constructor
  · intro h
    rw [xU_eq, xU_eq] at h
    have h : BitVec.ofInt 64 a ^^^ BitVec.ofInt 64 b = BitVec.ofInt 64 a ^^^ BitVec.ofInt 64 c := BitVec.eq_of_toNat_eq (by exact_mod_cast h)
    have h : BitVec.ofInt 64 b = BitVec.ofInt 64 c := by
      have := congrArg (BitVec.ofInt 64 a ^^^ ·) h
      simpa [← BitVec.xor_assoc] using this
    have := congrArg BitVec.toNat h
    rw [BitVec.toNat_ofInt, BitVec.toNat_ofInt] at this
    omega
  · rintro rfl; rfl
theorem sum_range : ∀ (xs : List AV) (n : Int), 0 ≤ n ∧ n < 18446744073709551616 → 0 ≤ xs.foldl sumStep n ∧ xs.foldl sumStep n < 18446744073709551616
  | [], _, h => h
  | x :: xs, n, _ => by
    rw [List.foldl_cons]
    refine sum_range xs _ ?_
    unfold sumStep
    rw [wU_mod]
    omega
theorem sumAV_range (xs : List AV) : 0 ≤ sumAV xs ∧ sumAV xs < 18446744073709551616 := sum_range xs _ (by decide)
theorem okBytes_str {t : ByteArray} (h : t.size ≤ maxLen) : okBytes (strAVs t) = true := by
  have hl : (strAVs t).length = t.size := by rw [strAVs, List.length_map, Array.length_toList]; rfl
  simp only [okBytes, Bool.and_eq_true]
  refine ⟨List.all_eq_true.2 fun x hx => ?_, Nat.ble_eq_true_of_le ?_⟩
  · simp only [strAVs, List.mem_map] at hx
    obtain ⟨b, _, rfl⟩ := hx
    rfl
  · rw [hl]; exact Nat.le_trans h (by decide)
theorem law3 (s : Int) {t u : ByteArray} (ht : t.size ≤ maxLen) (hu : u.size ≤ maxLen) : funK (cx l2) big F3 [.int .u64 s, .str t, .str u] = some (.bool true, []) := by
  rw [e3, okBytes_str ht, okBytes_str hu]
  have h1 : (turn s != turn s) = false := by simp
  have h2 : ((xU (nx s) (sumAV (strAVs t)) == xU (nx s) (sumAV (strAVs u))) == (sumAV (strAVs t) == sumAV (strAVs u))) = true := by
    have hi := xU_inj (a := nx s) (sumAV_range (strAVs t)) (sumAV_range (strAVs u))
    generalize sumAV (strAVs t) = p at hi ⊢
    generalize sumAV (strAVs u) = q at hi ⊢
    generalize nx s = n at hi ⊢
    cases h3 : (p == q) with
    | true => rw [beq_iff_eq] at h3; subst h3; simp
    | false =>
      have h3 : p ≠ q := by simpa using h3
      have h4 : (xU n p == xU n q) = false := by simpa using fun e => h3 (hi.1 e)
      rw [h4]; rfl
  simp only [preK, h1, h2, br, beq_self_eq_true]
end Go.Proofs.Ytoocidelbmbgcaa.Ai
