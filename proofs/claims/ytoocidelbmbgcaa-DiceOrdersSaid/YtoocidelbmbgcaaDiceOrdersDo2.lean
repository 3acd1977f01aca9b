/- Part of the proofs: the verified interpreter for the program's functions, or lemmas on what they compute; no condition. -/
import Derived.Test.YtoocidelbmbgcaaDiceOrdersDo
import Derived.Test.YtoocidelbmbgcaaDiceOrdersLp
namespace Go.Proofs.Ytoocidelbmbgcaa.Bi
open Go.Ai
theorem wU_mod (n : Int) : wU n = n % 18446744073709551616 := by
  rw [wU, veiled_real]; simp [real, IntKind.wrap, IntKind.bits, IntKind.signed]
noncomputable def steps : Nat → Int → Int
  | 0, s => s
  | k + 1, s => steps k (turn s)
theorem turn_mod (s : Int) : turn s = (s + 11400714819323198485) % 18446744073709551616 := by rw [turn, wU_mod]
theorem steps_mod : ∀ (k : Nat) (s : Int), steps (k + 1) s = (s + (k + 1 : Nat) * 11400714819323198485) % 18446744073709551616
  | 0, s => by rw [steps, steps, turn_mod]; simp
  | k + 1, s => by
    rw [steps, steps_mod k, turn_mod]
    omega
theorem mix_zero : mix3 (mix2 (mix1 0)) = 0 := by
  simp only [mix3, mix2, mix1, wU, xU, veiled_real]; decide
theorem nx_zero {s : Int} (h : turn s = 0) : nx s = 0 := by rw [nx, h, mix_zero]
theorem steps_turn : ∀ (k : Nat) (s : Int), turn (steps k s) = steps (k + 1) s
  | 0, s => rfl
  | k + 1, s => by rw [steps, steps_turn k, steps, steps, steps]
theorem reaches (s : Int) : ∃ k : Nat, (k : Int) < 18446744073709551616 ∧ turn (steps k s) = 0 := by
  have h0 : 0 ≤ (-s * 17428512612931826493 - 1) % 18446744073709551616 := by omega
  obtain ⟨k, hk⟩ := Int.eq_ofNat_of_zero_le h0
  refine ⟨k, by omega, ?_⟩
  rw [steps_turn, steps_mod]
  omega
/-- Below's limit, what it answers, and its rounds. -/
noncomputable def lim (n : Int) : Int := wU (18446744073709551615 - veiled.rem (wU (0 - wU n)) (wU n))
noncomputable def valB (n s : Int) : Int := veiled.wrap .i64 (veiled.rem (nx s) (wU n))
noncomputable def runB (n : Int) : Nat → Int → Option (Int × Int)
  | 0, _ => none
  | f + 1, s => bif decide (nx s ≤ lim n) then some (valB n s, turn s) else runB n f (turn s)
theorem lim_pos (n : Int) : 0 ≤ lim n := by rw [lim, wU_mod]; omega
theorem runB_some (n : Int) : ∀ (k f : Nat) (s : Int), k < f → turn (steps k s) = 0 → ∃ p, runB n f s = some p
  | k, 0, s, h, _ => absurd h (Nat.not_lt_zero _)
  | 0, f + 1, s, _, e => by
    have : nx s ≤ lim n := by rw [nx_zero (s := s) e]; exact lim_pos n
    exact ⟨(valB n s, turn s), by simp [runB, this]⟩
  | k + 1, f + 1, s, h, e => by
    cases hd : decide (nx s ≤ lim n)
    · obtain ⟨p, hp⟩ := runB_some n k f (turn s) (by omega) e
      exact ⟨p, by rw [runB, hd]; exact hp⟩
    · exact ⟨_, by rw [runB, hd]; rfl⟩
theorem runB_val (n : Int) : ∀ (f : Nat) (s : Int) (p : Int × Int), runB n f s = some p → ∃ t, p.1 = valB n t
  | 0, s, p, h => by cases h
  | f + 1, s, p, h => by
    rw [runB] at h
    cases hd : decide (nx s ≤ lim n) <;> rw [hd] at h
    · exact runB_val n f _ p h
    · cases h; exact ⟨s, rfl⟩
theorem big_le : 18446744073709551616 ≤ big := by decide
theorem runB_big (n s : Int) : ∃ p, runB n big s = some p := by
  obtain ⟨k, hk, e⟩ := reaches s
  exact runB_some n k big s (by have := big_le; omega) e
noncomputable def belV : Int → Int → Int := hide fun n s => bif decide (n < 1) then 0 else match runB n big s with | some p => p.1 | none => 0
noncomputable def belS : Int → Int → Int := hide fun n s => bif decide (n < 1) then s else match runB n big s with | some p => p.2 | none => s
theorem belV_eq {n s : Int} {p : Int × Int} (h : 1 ≤ n) (e : runB n big s = some p) : belV n s = p.1 := by
  have : decide (n < 1) = false := by simp; omega
  rw [belV, hide_eq]; simp only [this, cond_false, e]
theorem belS_eq {n s : Int} {p : Int × Int} (h : 1 ≤ n) (e : runB n big s = some p) : belS n s = p.2 := by
  have : decide (n < 1) = false := by simp; omega
  rw [belS, hide_eq]; simp only [this, cond_false, e]
theorem belV_low {n s : Int} (h : n < 1) : belV n s = 0 := by rw [belV, hide_eq]; simp [h]
theorem belS_low {n s : Int} (h : n < 1) : belS n s = s := by rw [belS, hide_eq]; simp [h]
theorem xor_mod (a b : Int) : 0 ≤ xU a b ∧ xU a b < 18446744073709551616 := by
  have h : ∀ n : Int, 0 ≤ IntKind.u64.wrap n ∧ IntKind.u64.wrap n < 18446744073709551616 := by
    intro n
    have := wrap_u64 n
    rw [veiled_real] at this
    rw [show IntKind.u64.wrap n = _ from this]; omega
  rw [xU, veiled_real]
  exact h _
theorem valB_range {n : Int} (h : 1 ≤ n) (h' : n ≤ 9223372036854775807) (s : Int) : 0 ≤ valB n s ∧ valB n s < n := by
  have hx : 0 ≤ nx s := by rw [nx, mix3]; exact (xor_mod _ _).1
  have e : veiled.rem (nx s) (wU n) = nx s % n := by
    rw [wU_mod, veiled_real, Int.emod_eq_of_lt (by omega) (by omega)]
    exact Int.tmod_eq_emod_of_nonneg hx
  have h1 := Int.emod_nonneg (nx s) (show n ≠ 0 by omega)
  have h2 := Int.emod_lt_of_pos (nx s) (show 0 < n by omega)
  rw [valB, e, wrap_i64 (by omega) (by omega)]
  exact ⟨h1, h2⟩
theorem belV_range {n : Int} (h : 1 ≤ n) (h' : n ≤ 9223372036854775807) (s : Int) : 0 ≤ belV n s ∧ belV n s < n := by
  obtain ⟨p, hp⟩ := runB_big n s
  obtain ⟨t, ht⟩ := runB_val n _ _ _ hp
  rw [belV_eq h hp, ht]; exact valB_range h h' t
end Go.Proofs.Ytoocidelbmbgcaa.Bi
