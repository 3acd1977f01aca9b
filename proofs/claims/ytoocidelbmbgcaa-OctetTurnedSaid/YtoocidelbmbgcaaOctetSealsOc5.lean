/- Part of the proofs: the verified interpreter for the program's functions, or lemmas on what they compute; no condition. -/
import Derived.Test.YtoocidelbmbgcaaOctetSealsOc4
namespace Go.Proofs.Ytoocidelbmbgcaa.Oc
open Go.Ai
/-! ### closed -/
noncomputable def sB (s : Int) (k : Nat) : AV := .int .u8 (veiled.wrap .u8 (veiled.shr .u64 s (k : Int)))
theorem sumB_eq (s : Int) : sumB s = [sB s 56, sB s 48, sB s 40, sB s 32, sB s 24, sB s 16, sB s 8, sB s 0] := rfl
theorem step59 (k : Nat) (hk : k ≤ 7) (f : Nat) (xs : List AV) (s : Int) (hl : xs.length ≤ 140737488355327) :
    loopN b591 (f + 1) [.own 1 xs none, .int .u64 s, .int .i64 k] = loopN b591 f [.own 1 (xs ++ [sB s (8 * k)]) none, .int .u64 s, .int .i64 ((k : Int) - 1)] := by
  rw [loopN_succ, t591, br_t (decide_eq_true (by omega)), wrap_i64 (by omega) (by omega), preK_t (decide_eq_true (by omega)), okK_y (by simp; omega), wrap_i64 (by omega) (by omega)]
  rfl
theorem end59 (f : Nat) (xs : List AV) (s : Int) : loopN b591 (f + 1) [.own 1 xs none, .int .u64 s, .int .i64 (-1)] = some (0, [.own 1 xs none]) := by
  rw [loopN_succ, t591, br_f (decide_eq_false (by omega))]
theorem run59 (f : Nat) (xs : List AV) (s : Int) (hl : xs.length ≤ 140737488355320) : loopN b591 (f + 9) [.own 1 xs none, .int .u64 s, .int .i64 7] = some (0, [.own 1 (xs ++ sumB s) none]) := by
  rw [show (7 : Int) = ((7 : Nat) : Int) from rfl, step59 7 (by omega) _ _ _ (by omega),
    show ((7 : Nat) : Int) - 1 = ((6 : Nat) : Int) from rfl, step59 6 (by omega) _ _ _ (by simp; omega),
    show ((6 : Nat) : Int) - 1 = ((5 : Nat) : Int) from rfl, step59 5 (by omega) _ _ _ (by simp; omega),
    show ((5 : Nat) : Int) - 1 = ((4 : Nat) : Int) from rfl, step59 4 (by omega) _ _ _ (by simp; omega),
    show ((4 : Nat) : Int) - 1 = ((3 : Nat) : Int) from rfl, step59 3 (by omega) _ _ _ (by simp; omega),
    show ((3 : Nat) : Int) - 1 = ((2 : Nat) : Int) from rfl, step59 2 (by omega) _ _ _ (by simp; omega),
    show ((2 : Nat) : Int) - 1 = ((1 : Nat) : Int) from rfl, step59 1 (by omega) _ _ _ (by simp; omega),
    show ((1 : Nat) : Int) - 1 = ((0 : Nat) : Int) from rfl, step59 0 (by omega) _ _ _ (by simp; omega),
    show ((0 : Nat) : Int) - 1 = -1 from rfl, end59]
  simp only [List.append_assoc, List.cons_append, List.nil_append, sumB_eq, Nat.mul_zero, Nat.reduceMul]
theorem step25 (k : Nat) (hk : k ≤ 7) (f : Nat) (xs : List AV) (s : Int) (hl : xs.length ≤ 140737488355327) :
    loopN b251 (f + 1) [.own 1 xs none, .int .u64 s, .int .i64 k] = loopN b251 f [.own 1 (xs ++ [sB s (8 * k)]) none, .int .u64 s, .int .i64 ((k : Int) - 1)] := by
  have e : veiled.wrap .u64 (8 * (k : Int)) = ((8 * k : Nat) : Int) := by
    rw [wrap_u64]; omega
  rw [loopN_succ, t251, br_t (decide_eq_true (by omega)), wrap_i64 (n := 8 * (k : Int)) (by omega) (by omega), e, preK_t (decide_eq_true (by omega)), okK_y (by simp; omega), wrap_i64 (by omega) (by omega)]
  rfl
theorem end25 (f : Nat) (xs : List AV) (s : Int) : loopN b251 (f + 1) [.own 1 xs none, .int .u64 s, .int .i64 (-1)] = some (0, [.own 1 xs none]) := by
  rw [loopN_succ, t251, br_f (decide_eq_false (by omega))]
theorem run25 (f : Nat) (xs : List AV) (s : Int) (hl : xs.length ≤ 140737488355320) : loopN b251 (f + 9) [.own 1 xs none, .int .u64 s, .int .i64 7] = some (0, [.own 1 (xs ++ sumB s) none]) := by
  rw [show (7 : Int) = ((7 : Nat) : Int) from rfl, step25 7 (by omega) _ _ _ (by omega),
    show ((7 : Nat) : Int) - 1 = ((6 : Nat) : Int) from rfl, step25 6 (by omega) _ _ _ (by simp; omega),
    show ((6 : Nat) : Int) - 1 = ((5 : Nat) : Int) from rfl, step25 5 (by omega) _ _ _ (by simp; omega),
    show ((5 : Nat) : Int) - 1 = ((4 : Nat) : Int) from rfl, step25 4 (by omega) _ _ _ (by simp; omega),
    show ((4 : Nat) : Int) - 1 = ((3 : Nat) : Int) from rfl, step25 3 (by omega) _ _ _ (by simp; omega),
    show ((3 : Nat) : Int) - 1 = ((2 : Nat) : Int) from rfl, step25 2 (by omega) _ _ _ (by simp; omega),
    show ((2 : Nat) : Int) - 1 = ((1 : Nat) : Int) from rfl, step25 1 (by omega) _ _ _ (by simp; omega),
    show ((1 : Nat) : Int) - 1 = ((0 : Nat) : Int) from rfl, step25 0 (by omega) _ _ _ (by simp; omega),
    show ((0 : Nat) : Int) - 1 = -1 from rfl, end25]
  simp only [List.append_assoc, List.cons_append, List.nil_append, sumB_eq, Nat.mul_zero, Nat.reduceMul]
theorem big9 : big = 1180591620717411303415 + 9 := rfl
theorem g59 : ∀ args res outs, k59.G args = some (res, outs) → funK (cx [(17, k17)]) big F59 args = some (res, outs) := by
  intro args res outs h0
  obtain ⟨hp, h⟩ := preK_some h0; clear h0
  simp only [k59] at h hp
  split at h
  · rename_i xs
    simp only [Bool.and_eq_true] at hp
    rw [e59, ← h, preK_t hp.1, big9, run59 _ _ _ (Nat.le_of_ble_eq_true hp.2), u591_0, closV, hide_eq]
  · cases h
theorem s59 : Sound Try.prog 59 k59.pars k59.G := (cx_sound (sl_cons s17 sl_nil) ok59 big).spec g59
/-! ### Seal -/
theorem and_t {a b : Bool} (h : a = true) (k : b = true) : (a && b) = true := by rw [h, k]; rfl
theorem wrap_u8_byte (k : Int) : ∃ c : Nat, AV.int .u8 (veiled.wrap .u8 k) = bI c ∧ c < 256 := by
  rw [wrap_u8]
  obtain ⟨c, hc⟩ := Int.eq_ofNat_of_zero_le (show 0 ≤ k % 256 by omega)
  exact ⟨c, by rw [hc]; rfl, by omega⟩
theorem or_u8_byte (a b : Int) : ∃ c : Nat, AV.int .u8 (veiled.or .u8 a b) = bI c ∧ c < 256 := by
  rw [veiled_real]
  show ∃ c : Nat, AV.int .u8 (IntKind.u8.wrap (BitVec.ofInt 8 a ||| BitVec.ofInt 8 b).toNat) = bI c ∧ c < 256
  rw [rw_u8]
  obtain ⟨c, hc⟩ := Int.eq_ofNat_of_zero_le (show 0 ≤ ((BitVec.ofInt 8 a ||| BitVec.ofInt 8 b).toNat : Int) % 256 by omega)
  exact ⟨c, by rw [hc]; rfl, by omega⟩
theorem cntL_bytes : ∀ (k : Nat) (u : Int), (∀ x ∈ cntL k u, ∃ c : Nat, x = bI c ∧ c < 256) ∧ (cntL k u).length ≤ k + 1
  | 0, u => by
    rw [cntL]
    refine ⟨fun x hx => ?_, by simp⟩
    rw [List.mem_singleton] at hx
    subst hx
    exact wrap_u8_byte u
  | k + 1, u => by
    rw [cntL]
    cases decide (u > 127)
    · refine ⟨fun x hx => ?_, by simp⟩
      rw [cond_false, List.mem_singleton] at hx
      subst hx
      exact wrap_u8_byte u
    · have ih := cntL_bytes k (veiled.shr .u64 u 7)
      refine ⟨fun x hx => ?_, by rw [cond_true, List.length_cons]; omega⟩
      rw [cond_true] at hx
      rcases List.mem_cons.1 hx with rfl | hx
      · exact or_u8_byte _ _
      · exact ih.1 x hx
theorem cntV_bytes (n : Int) : (∀ x ∈ cntV n, ∃ c : Nat, x = bI c ∧ c < 256) ∧ (cntV n).length ≤ 11 := by
  rw [cntV, hide_eq]; exact cntL_bytes 10 _
/-- A record ahead of its sum. -/
theorem head_ok (k : Int) {xs : List AV} (h : okB xs = true) (hl : xs.length ≤ 4096) :
    okB (AV.int .u8 (veiled.wrap .u8 k) :: cntV (xs.length : Int) ++ xs) = true ∧ (AV.int .u8 (veiled.wrap .u8 k) :: cntV (xs.length : Int) ++ xs).length ≤ 4108 := by
  have hc := cntV_bytes (xs.length : Int)
  have hlen : (AV.int .u8 (veiled.wrap .u8 k) :: cntV (xs.length : Int) ++ xs).length ≤ 4108 := by simp; omega
  refine ⟨okB_mk (fun x hx => ?_) (by omega), hlen⟩
  rw [List.mem_append, List.mem_cons] at hx
  rcases hx with (rfl | hx) | hx
  · exact wrap_u8_byte k
  · exact hc.1 x hx
  · exact (okB_iff h).1 x hx
theorem sealL_in {k : Int} (h1 : 1 ≤ k) (h2 : k ≤ 255) (xs : List AV) : sealL k xs = closV (AV.int .u8 (veiled.wrap .u8 k) :: cntV (xs.length : Int) ++ xs) := by
  rw [sealL, hide_eq]
  simp only [and_t (decide_eq_true h1) (decide_eq_true h2), cond_true]
theorem sealL_out {k : Int} (h : ¬ (1 ≤ k ∧ k ≤ 255)) (xs : List AV) : sealL k xs = [] := by
  rw [sealL, hide_eq]
  have : (decide (1 ≤ k) && decide (k ≤ 255)) = false := by rw [← Bool.decide_and]; exact decide_eq_false h
  simp only [this, cond_false]
theorem sealE_in {k : Int} (h1 : 1 ≤ k) (h2 : k ≤ 255) : sealE k = 0 := by
  rw [sealE, hide_eq]
  simp only [and_t (decide_eq_true h1) (decide_eq_true h2), cond_true]
theorem sealE_out {k : Int} (h : ¬ (1 ≤ k ∧ k ≤ 255)) : sealE k = 1 := by
  rw [sealE, hide_eq]
  have : (decide (1 ≤ k) && decide (k ≤ 255)) = false := by rw [← Bool.decide_and]; exact decide_eq_false h
  simp only [this, cond_false]
theorem g22 : ∀ args res outs, k22.G args = some (res, outs) → funK (cx [(59, k59), (60, k60)]) big F22 args = some (res, outs) := by
  intro args res outs h0
  obtain ⟨hp, h⟩ := preK_some h0; clear h0
  simp only [k22] at h hp
  split at h
  · rename_i k xs
    simp only [Bool.and_eq_true] at hp
    have hl := Nat.le_of_ble_eq_true hp.2
    rw [e22, ← h]
    by_cases h1 : k < 1
    · rw [br_t (decide_eq_true h1), u221_0, sealL_out (by omega), sealE_out (by omega)]
    · rw [br_f (decide_eq_false h1)]
      by_cases h2 : k > 255
      · rw [br_t (decide_eq_true h2), u221_0, sealL_out (by omega), sealE_out (by omega)]
      · obtain ⟨a, b⟩ := head_ok k hp.1 hl
        rw [br_f (decide_eq_false h2), br_f (decide_eq_false (by omega)), u221_1, sealL_in (by omega) (by omega), sealE_in (by omega) (by omega)]
        have hc := cntV_bytes (xs.length : Int)
        refine (preK_t (show (decide (0 ≤ (xs.length : Int)) && decide ((xs.length : Int) ≤ 4194304)) = true from and_t (decide_eq_true (by omega)) (decide_eq_true (by omega))) _).trans ?_
        rw [okK_y (by simp; omega)]
        exact preK_t (and_t a (Nat.ble_eq_true_of_le (by omega))) _
  · cases h
theorem s22 : Sound Try.prog 22 k22.pars k22.G := (cx_sound (sl_cons s59 (sl_cons s60 sl_nil)) ok22 big).spec g22
theorem g25 : ∀ args res outs, k25.G args = some (res, outs) → funK (cx [(26, k26), (64, k64)]) big F25 args = some (res, outs) := by
  intro args res outs h0
  obtain ⟨hp, h⟩ := preK_some h0; clear h0
  simp only [k25] at h hp
  split at h
  · rename_i k xs
    simp only [Bool.and_eq_true, decide_eq_true_eq] at hp
    have hl := Nat.le_of_ble_eq_true hp.2.1
    obtain ⟨a, b⟩ := head_ok k hp.1 hl
    have hc := cntV_bytes (xs.length : Int)
    rw [e25, ← h, sealL_in (by omega) (by omega)]
    refine (preK_t (show (decide (0 ≤ (xs.length : Int)) && decide ((xs.length : Int) ≤ 4194304)) = true from and_t (decide_eq_true (by omega)) (decide_eq_true (by omega))) _).trans ?_
    rw [okK_y (by simp; omega), preK_t a, big9, run25 _ _ _ (by omega), u251_0, closV, hide_eq]
  · cases h
theorem s25 : Sound Try.prog 25 k25.pars k25.G := (cx_sound (sl_cons s26 (sl_cons s64 sl_nil)) ok25 big).spec g25
/-! ### Few, Pick -/
theorem g23 : ∀ args res outs, k23.G args = some (res, outs) → funK (cx []) big F23 args = some (res, outs) := by
  intro args res outs h0
  obtain ⟨hp, h⟩ := preK_some h0; clear h0
  simp only [k23] at h hp
  split at h
  · rename_i xs n
    simp only [Bool.and_eq_true, decide_eq_true_eq] at hp
    obtain ⟨hx, hl⟩ := okB_iff hp.1
    have e : List.take (if n < (xs.length : Int) then n else (xs.length : Int)).toNat xs = xs.take n.toNat := by
      split
      · rfl
      · rw [Int.toNat_natCast, List.take_length, List.take_of_length_le (by omega)]
    rw [e23, ← h, okK_y (by split <;> omega), e, fewV, hide_eq, okK_y (by simp; omega)]
    rfl
  · cases h
theorem s23 : Sound Try.prog 23 k23.pars k23.G := (cx_sound sl_nil ok23 big).spec g23
theorem g18 : ∀ args res outs, k18.G args = some (res, outs) → funK (cx []) big F18 args = some (res, outs) := by
  intro args res outs h0
  obtain ⟨hp, h⟩ := preK_some h0; clear h0
  simp only [k18] at h hp
  split at h
  · rename_i n m
    simp only [Bool.and_eq_true, decide_eq_true_eq] at hp
    have e : veiled.rem n m = Int.tmod n m := by rw [veiled_real]; rfl
    have h1 := Int.emod_nonneg n (show m ≠ 0 by omega)
    have h2 := Int.emod_lt_of_pos n (show 0 < m by omega)
    rw [e18, ← h, preK_t (decide_eq_true (by omega)), e, pickV, hide_eq]
    by_cases hn : 0 ≤ n
    · rw [Int.tmod_eq_emod_of_nonneg hn, br_f (decide_eq_false (by omega))]
    · have e2 : Int.tmod n m = n % m ∨ Int.tmod n m = n % m - m := by
        rw [Int.tmod_eq_emod]
        split
        · left; omega
        · right
          rw [show (m.natAbs : Int) = m by omega]
      have h3 : Int.tmod n m ≤ 0 := by
        have := Int.tmod_nonneg (a := -n) m (by omega)
        rw [Int.neg_tmod] at this; omega
      rcases e2 with e2 | e2
      · rw [e2] at h3 ⊢
        rw [br_f (decide_eq_false (by omega))]
      · rw [e2, br_t (decide_eq_true (by omega)), wrap_i64 (by omega) (by omega)]
        rw [show n % m - m + m = n % m by omega]
  · cases h
theorem s18 : Sound Try.prog 18 k18.pars k18.G := (cx_sound sl_nil ok18 big).spec g18
theorem pickV_range {n m : Int} (h : 1 ≤ m) : 0 ≤ pickV n m ∧ pickV n m < m := by
  rw [pickV, hide_eq]; exact ⟨Int.emod_nonneg n (by omega), Int.emod_lt_of_pos n (by omega)⟩
end Go.Proofs.Ytoocidelbmbgcaa.Oc
