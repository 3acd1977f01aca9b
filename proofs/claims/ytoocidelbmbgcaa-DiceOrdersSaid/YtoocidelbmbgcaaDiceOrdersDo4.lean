/- Part of the proofs: the verified interpreter for the program's functions, or lemmas on what they compute; no condition. -/
import Derived.Test.YtoocidelbmbgcaaDiceOrdersDoE
namespace Go.Proofs.Ytoocidelbmbgcaa.Bi
open Go.Ai
theorem big_eq : big = 1180591620717411303424 := rfl
/-! ### Below -/
theorem loop57 (n : Int) (hn : wU n ≠ 0) : ∀ (f : Nat) (s : Int) (p : Int × Int), runB n f s = some p →
    loopN b571 f [.box [.agg [.int .u64 s]], .int .i64 n, .int .u64 (veiled.rem (wU (0 - wU n)) (wU n))] = some (0, [.box [.agg [.int .u64 p.2]], .int .i64 p.1])
  | 0, s, p, h => by cases h
  | f + 1, s, p, h => by
    rw [loopN_succ, t571]
    change br (decide (nx s ≤ lim n)) (preK (decide (wU n ≠ 0)) (some (0, [.box [.agg [.int .u64 (turn s)]], .int .i64 (valB n s)])))
      (loopN b571 f [.box [.agg [.int .u64 (turn s)]], .int .i64 n, .int .u64 (veiled.rem (wU (0 - wU n)) (wU n))]) = _
    rw [runB] at h
    cases hd : decide (nx s ≤ lim n) <;> rw [hd] at h
    · exact loop57 n hn f _ p h
    · cases h; rw [decide_eq_true hn]; rfl
theorem g57 : ∀ args res outs, k57.G args = some (res, outs) → funK (cx [(15, k15)]) big F57 args = some (res, outs) := by
  intro args res outs h0
  obtain ⟨hp, h⟩ := preK_some h0; clear h0
  simp only [k57] at h hp
  split at h
  · rename_i s n
    simp only [decide_eq_true_eq] at hp
    rw [e57, ← h]
    by_cases h1 : n < 1
    · rw [br_t (decide_eq_true h1), belV_low h1, belS_low h1]
    · obtain ⟨p, e⟩ := runB_big n s
      have hn : wU n ≠ 0 := by rw [wU_mod]; omega
      rw [br_f (decide_eq_false h1), preK_t (decide_eq_true (show veiled.wrap .u64 n ≠ 0 from hn))]
      have := loop57 n hn big s p e
      rw [show loopN b571 big [.box [.agg [.int .u64 s]], .int .i64 n, .int .u64 (veiled.rem (veiled.wrap .u64 (0 - veiled.wrap .u64 n)) (veiled.wrap .u64 n))] = _ from this, u571_0, belV_eq (by omega) e, belS_eq (by omega) e]
  · cases h
theorem s57 : Sound Try.prog 57 k57.pars k57.G := (cx_sound (sl_cons s15 sl_nil) ok57 big).spec g57
/-! ### asked, Draw -/
theorem loop58 (n : Int) (hn : n ≤ 9223372036854775807) (m : Nat) (hm : m ≤ 65536) : ∀ (k i f : Nat) (s : Int) (xs : List AV), i + k = m → xs.length = m → k < f →
    loopN b581 f [.fn 57 [.box [.agg [.int .u64 s]]] [], .int .i64 n, .own 1 xs none, .int .i64 m, .int .i64 i]
      = some (0, [.fn 57 [.box [.agg [.int .u64 (drawT n k s)]]] [], .own 1 (xs.take i ++ drawL n k s) none])
  | k, i, 0, s, xs, _, _, hf => absurd hf (Nat.not_lt_zero _)
  | 0, i, f + 1, s, xs, hi, hx, hf => by
    rw [loopN_succ, t581, br_f (decide_eq_false (by omega)), drawL, drawT, List.append_nil, List.take_of_length_le (by omega)]
  | k + 1, i, f + 1, s, xs, hi, hx, hf => by
    rw [loopN_succ, t581, br_t (decide_eq_true (by omega)), preK_t (decide_eq_true hn), idxK_i i rfl (by omega), wrap_i64_succ (by omega),
      loop58 n hn m hm k (i + 1) f _ _ (by omega) (by rw [List.length_set]; exact hx) (by omega), drawL, drawT, Nat.zero_add,
      List.take_succ_eq_append_getElem (by rw [List.length_set]; omega), List.getElem_set_self, List.take_set_of_le (Nat.le_refl _), List.append_assoc]
    rfl
theorem big_gt : 1152921504606846976 < big := by decide
theorem g58 : ∀ args res outs, k58.G args = some (res, outs) → funK (cx [(57, k57)]) big F58 args = some (res, outs) := by
  intro args res outs h0
  obtain ⟨hp, h⟩ := preK_some h0; clear h0
  simp only [k58] at h hp
  split at h
  · rename_i s n k
    simp only [Bool.and_eq_true, decide_eq_true_eq] at hp
    obtain ⟨m, rfl⟩ := Int.eq_ofNat_of_zero_le hp.2.1
    rw [e58, ← h, okK_y (by omega), List.length_replicate, Int.toNat_natCast,
      show (0 : Int) = ((0 : Nat) : Int) from rfl, loop58 n hp.1 m (by omega) m 0 big s _ (by omega) (by rw [List.length_replicate]) (by have := big_gt; omega),
      u581_0, drawV, drawS, hide_eq, hide_eq]
    rfl
  · cases h
theorem s58 : Sound Try.prog 58 k58.pars k58.G := (cx_sound (sl_cons s57 sl_nil) ok58 big).spec g58
theorem g21 : ∀ args res outs, k21.G args = some (res, outs) → funK (cx [(58, k58)]) big F21 args = some (res, outs) := by
  intro args res outs h0
  obtain ⟨hp, h⟩ := preK_some h0; clear h0
  simp only [k21] at h hp
  split at h
  · rename_i s n k
    simp only [Bool.and_eq_true, decide_eq_true_eq] at hp
    rw [e21, ← h, br_f (decide_eq_false (by omega))]
    by_cases hk : k < 1
    · obtain rfl : k = 0 := by omega
      rw [br_t (decide_eq_true hk), drawV, drawS, hide_eq, hide_eq]
      rfl
    · rw [br_f (decide_eq_false hk), br_f (decide_eq_false (by omega)), preK_t (by simp only [hp, decide_true, Bool.and_self])]
  · cases h
theorem s21 : Sound Try.prog 21 k21.pars k21.G := (cx_sound (sl_cons s58 sl_nil) ok21 big).spec g21
/-! ### Pick -/
theorem g18 : ∀ args res outs, k18.G args = some (res, outs) → funK (cx []) big F18 args = some (res, outs) := by
  intro args res outs h0
  obtain ⟨hp, h⟩ := preK_some h0; clear h0
  simp only [k18] at h hp
  split at h
  · rename_i n m
    simp only [Bool.and_eq_true, decide_eq_true_eq] at hp
    have e : veiled.rem n m = Int.tmod n m := by rw [veiled_real]; rfl
    have h1 := Int.emod_nonneg n (show m ≠ 0 by omega)
    have h2 := Int.emod_lt_of_pos n (show 0 < m by omega)
    rw [e18, ← h, preK_t (decide_eq_true (by omega)), e, pickV, hide_eq]
    by_cases hn : 0 ≤ n
    · rw [Int.tmod_eq_emod_of_nonneg hn, br_f (decide_eq_false (by omega))]
    · have e2 : Int.tmod n m = n % m ∨ Int.tmod n m = n % m - m := by
        rw [Int.tmod_eq_emod]
        split
        · left; omega
        · right
          rw [show (m.natAbs : Int) = m by omega]
      have h3 : Int.tmod n m ≤ 0 := by
        have := Int.tmod_nonneg (a := -n) m (by omega)
        rw [Int.neg_tmod] at this; omega
      rcases e2 with e2 | e2
      · rw [e2] at h3 ⊢
        rw [br_f (decide_eq_false (by omega))]
      · rw [e2, br_t (decide_eq_true (by omega)), wrap_i64 (by omega) (by omega)]
        rw [show n % m - m + m = n % m by omega]
  · cases h
theorem s18 : Sound Try.prog 18 k18.pars k18.G := (cx_sound sl_nil ok18 big).spec g18
theorem pickV_range {n m : Int} (h : 1 ≤ m) : 0 ≤ pickV n m ∧ pickV n m < m := by
  rw [pickV, hide_eq]; exact ⟨Int.emod_nonneg n (by omega), Int.emod_lt_of_pos n (by omega)⟩
/-! ### SameInts -/
theorem isI64_iff {x : AV} (h : isI64 x = true) : ∃ n, x = .int .i64 n := by
  cases x <;> simp [isI64] at h
  rename_i k n
  cases k <;> simp at h
  exact ⟨n, rfl⟩
theorem loop20 (xs ys : List AV) (hx : ∀ x ∈ xs, isI64 x = true) (hy : ∀ y ∈ ys, isI64 y = true) (he : xs.length = ys.length) (hl : xs.length ≤ 1099511627776) :
    ∀ (k i f : Nat), i + k = xs.length → k < f →
    loopN b201 f [.sl 1 xs, .sl 1 ys, .int .i64 i] = bif sameL (xs.drop i) (ys.drop i) then some (1, []) else some (0, [.bool false])
  | k, i, 0, _, hf => absurd hf (Nat.not_lt_zero _)
  | 0, i, f + 1, hi, hf => by
    rw [loopN_succ, t201, br_f (decide_eq_false (by omega)), List.drop_of_length_le (by omega), List.drop_of_length_le (by omega)]
    rfl
  | k + 1, i, f + 1, hi, hf => by
    have hix : i < xs.length := by omega
    have hiy : i < ys.length := by omega
    obtain ⟨a, ha⟩ := isI64_iff (hx _ (List.getElem_mem hix))
    obtain ⟨b, hb⟩ := isI64_iff (hy _ (List.getElem_mem hiy))
    rw [loopN_succ, t201, br_t (decide_eq_true (by omega)), idxK_i i rfl hix, nthK_i (by rw [List.getElem?_eq_getElem hix, ha]), fitI_i,
      idxK_i i rfl hiy, nthK_i (by rw [List.getElem?_eq_getElem hiy, hb]), fitI_i, List.drop_eq_getElem_cons hix, List.drop_eq_getElem_cons hiy, ha, hb, sameL, eqI]
    by_cases hab : a = b
    · subst hab
      rw [br_f (show (a != a) = false by simp), wrap_i64_succ (by omega), loop20 xs ys hx hy he hl k (i + 1) f (by omega) (by omega), beq_self_eq_true, Bool.true_and]
    · rw [br_t (show (a != b) = true by simpa using hab), show (a == b) = false by simpa using hab]
      rfl
theorem sameL_length : ∀ (xs ys : List AV), sameL xs ys = true → xs.length = ys.length
  | [], [], _ => rfl
  | [], _ :: _, h => by cases h
  | _ :: _, [], h => by cases h
  | x :: xs, y :: ys, h => by
    simp only [sameL, Bool.and_eq_true] at h
    simp [sameL_length xs ys h.2]
theorem okInts_iff {xs : List AV} (h : okInts xs = true) : (∀ x ∈ xs, isI64 x = true) ∧ xs.length ≤ 1099511627776 := by
  simp only [okInts, Bool.and_eq_true] at h
  exact ⟨fun x hx => List.all_eq_true.1 h.1 x hx, Nat.le_of_ble_eq_true h.2⟩
theorem g20 : ∀ args res outs, k20.G args = some (res, outs) → funK (cx []) big F20 args = some (res, outs) := by
  intro args res outs h0
  obtain ⟨hp, h⟩ := preK_some h0; clear h0
  simp only [k20] at h hp
  split at h
  · rename_i xs ys
    simp only [Bool.and_eq_true] at hp
    obtain ⟨hx, hl⟩ := okInts_iff hp.1
    obtain ⟨hy, hl'⟩ := okInts_iff hp.2
    rw [e20, ← h, sameV, hide_eq]
    by_cases he : xs.length = ys.length
    · rw [br_f (show ((xs.length : Int) != (ys.length : Int)) = false by simp [he]), show (0 : Int) = ((0 : Nat) : Int) from rfl, loop20 xs ys hx hy he hl xs.length 0 big (by omega) (by have := big_gt; omega)]
      cases hs : sameL (xs.drop 0) (ys.drop 0)
      · rw [List.drop_zero, List.drop_zero] at hs; rw [hs]; rfl
      · rw [List.drop_zero, List.drop_zero] at hs; rw [hs]; rfl
    · have : sameL xs ys = false := by
        cases hs : sameL xs ys
        · rfl
        · exact absurd (sameL_length _ _ hs) he
      rw [br_t (show ((xs.length : Int) != (ys.length : Int)) = true by simp; omega), this]
  · cases h
theorem s20 : Sound Try.prog 20 k20.pars k20.G := (cx_sound sl_nil ok20 big).spec g20
theorem sameL_refl : ∀ (xs : List AV), (∀ x ∈ xs, isI64 x = true) → sameL xs xs = true
  | [], _ => rfl
  | x :: xs, h => by
    obtain ⟨n, hn⟩ := isI64_iff (h x (List.mem_cons_self ..))
    rw [sameL, hn, eqI, sameL_refl xs fun y hy => h y (List.mem_cons_of_mem _ hy)]
    simp
end Go.Proofs.Ytoocidelbmbgcaa.Bi
