/- Part of the proofs: the verified interpreter for the program's functions, or lemmas on what they compute; no condition. -/
import Derived.Test.YtoocidelbmbgcaaOctetSealsOcE
namespace Go.Proofs.Ytoocidelbmbgcaa.Oc
open Go.Ai
theorem big_gt : 1152921504606846976 < big := by decide
theorem isU8_iff {x : AV} (h : isU8 x = true) : ∃ c : Nat, x = bI c ∧ c < 256 := by
  cases x <;> simp only [isU8, Bool.false_eq_true] at h
  rename_i k n
  cases k <;> simp only [Bool.false_eq_true, Bool.and_eq_true, decide_eq_true_eq] at h
  obtain ⟨c, rfl⟩ := Int.eq_ofNat_of_zero_le h.1
  exact ⟨c, rfl, by omega⟩
theorem okB_iff {xs : List AV} (h : okB xs = true) : (∀ x ∈ xs, ∃ c : Nat, x = bI c ∧ c < 256) ∧ xs.length ≤ 140737488355328 := by
  simp only [okB, Bool.and_eq_true] at h
  exact ⟨fun x hx => isU8_iff (List.all_eq_true.1 h.1 x hx), Nat.le_of_ble_eq_true h.2⟩
theorem isU8_bI {c : Nat} (h : c < 256) : isU8 (bI c) = true := by
  simp only [isU8, bI, Bool.and_eq_true, decide_eq_true_eq]; omega
theorem okB_mk {xs : List AV} (h : ∀ x ∈ xs, ∃ c : Nat, x = bI c ∧ c < 256) (hl : xs.length ≤ 140737488355328) : okB xs = true := by
  rw [okB, Nat.ble_eq_true_of_le hl, Bool.and_true]
  refine List.all_eq_true.2 fun x hx => ?_
  obtain ⟨c, rfl, hc⟩ := h x hx
  exact isU8_bI hc
theorem fitI_bI {β : Type} (c : Nat) (K : Int → Option β) : fitI .u8 (bI c) K = K (c : Int) := fitI_i .u8 c K
/-! ### Sum -/
theorem loop171 (xs : List AV) (hx : ∀ x ∈ xs, ∃ c : Nat, x = bI c ∧ c < 256) (hl : xs.length ≤ 140737488355328) : ∀ (k i f : Nat) (n : Int), i + k = xs.length → k < f →
    loopN b171 f [.int .u64 n, .sl 1 xs, .int .i64 xs.length, .int .i64 i] = some (0, [.int .u64 ((xs.drop i).foldl sumStep n)])
  | k, i, 0, n, _, hf => absurd hf (Nat.not_lt_zero _)
  | 0, i, f + 1, n, hi, hf => by
    rw [loopN_succ, t171, br_f (decide_eq_false (by omega)), List.drop_of_length_le (by omega), List.foldl_nil]
  | k + 1, i, f + 1, n, hi, hf => by
    have hil : i < xs.length := by omega
    obtain ⟨c, hc, _⟩ := hx _ (List.getElem_mem hil)
    rw [loopN_succ, t171, br_t (decide_eq_true (by omega)), idxK_i i rfl hil, nthK_i (by rw [List.getElem?_eq_getElem hil, hc]), fitI_bI, wrap_i64_succ (by omega),
      List.drop_eq_getElem_cons hil, List.foldl_cons, ← loop171 xs hx hl k (i + 1) f _ (by omega) (by omega), hc]
    rfl
theorem loop261 (xs : List AV) (hx : ∀ x ∈ xs, ∃ c : Nat, x = bI c ∧ c < 256) (hl : xs.length ≤ 140737488355328) : ∀ (k i f : Nat) (n : Int), i + k = xs.length → k < f →
    loopN b261 f [.sl 1 xs, .int .u64 n, .int .i64 i] = some (0, [.int .u64 ((xs.drop i).foldl sumStep n)])
  | k, i, 0, n, _, hf => absurd hf (Nat.not_lt_zero _)
  | 0, i, f + 1, n, hi, hf => by
    rw [loopN_succ, t261, br_f (decide_eq_false (by omega)), List.drop_of_length_le (by omega), List.foldl_nil]
  | k + 1, i, f + 1, n, hi, hf => by
    have hil : i < xs.length := by omega
    obtain ⟨c, hc, _⟩ := hx _ (List.getElem_mem hil)
    rw [loopN_succ, t261, br_t (decide_eq_true (by omega)), idxK_i i rfl hil, nthK_i (by rw [List.getElem?_eq_getElem hil, hc]), fitI_bI, wrap_i64_succ (by omega),
      List.drop_eq_getElem_cons hil, List.foldl_cons, ← loop261 xs hx hl k (i + 1) f _ (by omega) (by omega), hc]
    rfl
theorem g17 : ∀ args res outs, k17.G args = some (res, outs) → funK (cx []) big F17 args = some (res, outs) := by
  intro args res outs h0
  obtain ⟨hp, h⟩ := preK_some h0; clear h0
  simp only [k17] at h hp
  split at h
  · rename_i xs
    obtain ⟨hx, hl⟩ := okB_iff hp
    rw [e17, ← h, show (0 : Int) = ((0 : Nat) : Int) from rfl, loop171 xs hx hl xs.length 0 big _ (by omega) (by have := big_gt; omega), u171_0, sumV, hide_eq, List.drop_zero]
  · cases h
theorem s17 : Sound Try.prog 17 k17.pars k17.G := (cx_sound sl_nil ok17 big).spec g17
theorem g26 : ∀ args res outs, k26.G args = some (res, outs) → funK (cx []) big F26 args = some (res, outs) := by
  intro args res outs h0
  obtain ⟨hp, h⟩ := preK_some h0; clear h0
  simp only [k26] at h hp
  split at h
  · rename_i xs
    obtain ⟨hx, hl⟩ := okB_iff hp
    rw [e26, ← h, show (0 : Int) = ((0 : Nat) : Int) from rfl, loop261 xs hx hl xs.length 0 big _ (by omega) (by have := big_gt; omega), u261_0, sumV, hide_eq, List.drop_zero]
  · cases h
theorem s26 : Sound Try.prog 26 k26.pars k26.G := (cx_sound sl_nil ok26 big).spec g26
/-! ### A count's bytes -/
theorem loop601 : ∀ (k f u : Nat) (xs : List AV), u < 128 ^ (k + 1) → u < 18446744073709551616 → k < f → xs.length + k + 1 ≤ 140737488355328 →
    sel (loopN b601 f [.own 1 xs none, .int .u64 u]) x601 = some (.own 1 (xs ++ cntL k u) none, [])
  | k, 0, u, xs, _, _, hf, _ => absurd hf (Nat.not_lt_zero _)
  | 0, f + 1, u, xs, hu, _, hf, hl => by
    rw [loopN_succ, t601, br_f (decide_eq_false (by omega)), u601_0, okK_y (by simp; omega), cntL]
  | k + 1, f + 1, u, xs, hu, h6, hf, hl => by
    rw [loopN_succ, t601, cntL]
    by_cases h : (u : Int) > 127
    · have hs : veiled.shr .u64 u 7 = ((u / 128 : Nat) : Int) := shr_u64 u (k := 7) (by omega)
      rw [br_t (decide_eq_true h), okK_y (by simp; omega), hs, loop601 k f _ _ (by
          rw [Nat.div_lt_iff_lt_mul (by omega)]
          rw [Nat.pow_succ] at hu
          exact hu) (by omega) (by omega) (by simp; omega), decide_eq_true h, cond_true, List.append_assoc]
      rfl
    · rw [br_f (decide_eq_false h), u601_0, okK_y (by simp; omega), decide_eq_false h]
      rfl
theorem loop641 : ∀ (k f u : Nat) (xs : List AV), u < 128 ^ (k + 1) → u < 18446744073709551616 → k < f → xs.length + k + 1 ≤ 140737488355328 →
    sel (loopN b641 f [.own 1 xs none, .int .u64 u]) x641 = some (.own 1 (xs ++ cntL k u) none, [])
  | k, 0, u, xs, _, _, hf, _ => absurd hf (Nat.not_lt_zero _)
  | 0, f + 1, u, xs, hu, _, hf, hl => by
    rw [loopN_succ, t641, br_f (decide_eq_false (by omega)), u641_0, okK_y (by simp; omega), cntL]
  | k + 1, f + 1, u, xs, hu, h6, hf, hl => by
    rw [loopN_succ, t641, cntL]
    by_cases h : (u : Int) > 127
    · have hs : veiled.shr .u64 u 7 = ((u / 128 : Nat) : Int) := shr_u64 u (k := 7) (by omega)
      rw [br_t (decide_eq_true h), okK_y (by simp; omega), hs, loop641 k f _ _ (by
          rw [Nat.div_lt_iff_lt_mul (by omega)]
          rw [Nat.pow_succ] at hu
          exact hu) (by omega) (by omega) (by simp; omega), decide_eq_true h, cond_true, List.append_assoc]
      rfl
    · rw [br_f (decide_eq_false h), u641_0, okK_y (by simp; omega), decide_eq_false h]
      rfl
theorem cntV_nat (n : Nat) : cntV n = cntL 10 (wU n) := by
  rw [cntV, hide_eq]
  show cntL 10 (wU (if (n : Int) < 0 then 0 else (n : Int))) = _
  rw [if_neg (by omega)]
theorem g60 : ∀ args res outs, k60.G args = some (res, outs) → funK (cx []) big F60 args = some (res, outs) := by
  intro args res outs h0
  obtain ⟨hp, h⟩ := preK_some h0; clear h0
  simp only [k60] at h hp
  split at h
  · rename_i xs n
    simp only [Bool.and_eq_true, decide_eq_true_eq] at hp
    have hl := Nat.le_of_ble_eq_true hp.1
    obtain ⟨m, rfl⟩ := Int.eq_ofNat_of_zero_le hp.2.1
    rw [e60, ← h, cntV_nat, if_neg (by omega), wU, wrap_u64_id (by omega), loop601 10 big m xs (by omega) (by omega) (by have := big_gt; omega) (by omega)]
  · cases h
theorem s60 : Sound Try.prog 60 k60.pars k60.G := (cx_sound sl_nil ok60 big).spec g60
theorem g64 : ∀ args res outs, k64.G args = some (res, outs) → funK (cx []) big F64 args = some (res, outs) := by
  intro args res outs h0
  obtain ⟨hp, h⟩ := preK_some h0; clear h0
  simp only [k64] at h hp
  split at h
  · rename_i xs n
    simp only [Bool.and_eq_true, decide_eq_true_eq] at hp
    have hl := Nat.le_of_ble_eq_true hp.1
    obtain ⟨m, rfl⟩ := Int.eq_ofNat_of_zero_le hp.2.1
    have hm : (if (m : Int) > 0 then (m : Int) else 0) = (m : Int) := by split <;> omega
    rw [e64, ← h, cntV_nat, hm, wU, wrap_u64_id (by omega), loop641 10 big m xs (by omega) (by omega) (by have := big_gt; omega) (by omega)]
  · cases h
theorem s64 : Sound Try.prog 64 k64.pars k64.G := (cx_sound sl_nil ok64 big).spec g64
end Go.Proofs.Ytoocidelbmbgcaa.Oc
