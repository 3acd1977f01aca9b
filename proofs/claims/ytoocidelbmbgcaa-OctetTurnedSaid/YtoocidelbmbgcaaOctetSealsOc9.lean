/- Part of the proofs: the verified interpreter for the program's functions, or lemmas on what they compute; no condition. -/
import Derived.Test.YtoocidelbmbgcaaOctetSealsOc8
namespace Go.Proofs.Ytoocidelbmbgcaa.Oc
open Go.Ai
/-! ### The document's Next -/
noncomputable def cont28 (bs : List Nat) (r : Nat × Nat × Nat) : Option (AV × List AV) := match r with
  | (n, a, e) => if e ≠ 0 then some (.tup [.int .i64 0, .own 1 [] none, .int .i64 0, .int .i64 (e : Nat)], []) else tail28 bs n a
theorem out28 (e : Int) : sel (sel (some (1, [AV.int .i64 0, .own 1 [] none, .int .i64 0, .int .i64 e])) x281) x283 = some (.tup [.int .i64 0, .own 1 [] none, .int .i64 0, .int .i64 e], []) := by
  rw [u281_1, u283_1]
theorem group_big8 {v i : Nat} (hv : v < 128) (h0 : v ≠ 0) (hi : 4 ≤ i) (h8 : i ≤ 8) (n : Nat) : 4194304 < n ||| (v * 2 ^ (7 * i) % 18446744073709551616) := by
  rcases group_big hv h0 hi (by omega) n with h | h
  · exfalso
    apply h
    have h1 : 2 ^ (7 * i) ≤ 2 ^ 56 := Nat.pow_le_pow_right (by omega) (by omega)
    have h2 : v * 2 ^ (7 * i) ≤ 127 * 2 ^ 56 := Nat.mul_le_mul (by omega) h1
    rw [Nat.mod_eq_of_lt (by omega), Nat.mul_div_cancel _ (Nat.pow_pos (by omega))]
  · exact h
theorem loop281 (bs : List Nat) (hb : ∀ b ∈ bs, b < 256) (hl : bs.length ≤ 140737488355328) (hpos : 0 < bs.length) : ∀ (cs : List Nat) (i f np n : Nat), bs.drop (i + 1) = cs → cs.length < f → np < 18446744073709551616 →
    (i ≤ 4 → np = n ∧ n < 128 ^ i) →
    sel (sel (loopN b281 f [.sl 1 (bs.map bI), .int .u64 np, .int .i64 ((i + 1 : Nat) : Int)]) x281) x283 = cont28 bs (cd cs i n)
  | cs, i, 0, np, n, _, hf, _, _ => absurd hf (Nat.not_lt_zero _)
  | [], i, f + 1, np, n, hd, hf, hp, hv => by
    have hi : bs.length ≤ i + 1 := by
      rcases Nat.lt_or_ge (i + 1) bs.length with h' | h'
      · rw [List.drop_eq_getElem_cons h'] at hd; cases hd
      · exact h'
    rw [loopN_succ, t281, br_t (decide_eq_true (by rw [List.length_map]; omega)), out28]
    rfl
  | c :: cs, i, f + 1, np, n, hd, hf, hp, hv => by
    obtain ⟨hg, hd', hil⟩ := drop_get hd
    have hc : c < 256 := hb c (List.mem_of_getElem? hg)
    have hf' : cs.length < f := by rw [List.length_cons] at hf; omega
    rw [loopN_succ, t281, br_f (decide_eq_false (by rw [List.length_map]; omega)), idxK_i (i + 1) rfl (by rw [List.length_map]; exact hil), nthK_i (bI_get hg), fitI_bI]
    simp only [and127u hc, wrap_i64_succ (show i + 1 < 9223372036854775807 by omega)]
    rw [show veiled.wrap .i64 (((i + 1 : Nat) : Int) - 1) = (i : Int) by rw [wrap_i64 (by omega) (by omega)]; omega,
      show veiled.wrap .i64 (7 * (i : Int)) = ((7 * i : Nat) : Int) by rw [wrap_i64 (by omega) (by omega)]; omega, wrap_u64_id (show 7 * i < 18446744073709551616 by omega)]
    by_cases h8 : i ≤ 8
    · have hS := shl_u64 (c % 128) (k := 7 * i) (by omega)
      have hlt := Nat.mod_lt (c % 128 * 2 ^ (7 * i)) (show 0 < 18446744073709551616 by omega)
      have hO := or_u64 hp hlt
      have hO' : np ||| (c % 128 * 2 ^ (7 * i) % 18446744073709551616) < 18446744073709551616 := Nat.or_lt_two_pow (n := 64) hp hlt
      rw [br_t (decide_eq_true (by omega)), preK_t (decide_eq_true (by omega)), hS, hO]
      by_cases h : 128 ≤ c
      · rw [br_f (decide_eq_false (by omega)), loop281 bs hb hl hpos cs (i + 1) f _ (n + (c - 128) * 128 ^ i) hd' hf' hO' (fun h4 => by
            obtain ⟨e, hn⟩ := hv (by omega)
            obtain ⟨k1, k2, k3⟩ := group_add hn (show c - 128 < 128 by omega) (show i ≤ 3 by omega)
            rw [show c % 128 = c - 128 by omega, e, k1]
            exact ⟨rfl, k2⟩), cd, if_pos h]
      · have hcm : c % 128 = c := by omega
        rw [br_t (decide_eq_true (by omega)), hcm]
        rw [hcm] at hO'
        by_cases hF : 0 < i ∧ c = 0
        · rw [br_t (show ((c : Int) == 0) = true by simp [hF.2]), br_t (decide_eq_true (by omega)), out28, cd_stop cs h, if_pos hF]; rfl
        · have hend : br ((c : Int) == 0)
              (br (decide (((i + 1 + 1 : Nat) : Int) > 2)) (some (1, [AV.int .i64 0, .own 1 [] none, .int .i64 0, .int .i64 2]))
                (some (0, [.sl 1 (bs.map bI), .int .u64 ((np ||| c * 2 ^ (7 * i) % 18446744073709551616 : Nat) : Int), .int .i64 ((i + 1 + 1 : Nat) : Int)])))
              (some (0, [.sl 1 (bs.map bI), .int .u64 ((np ||| c * 2 ^ (7 * i) % 18446744073709551616 : Nat) : Int), .int .i64 ((i + 1 + 1 : Nat) : Int)]))
              = some (0, [.sl 1 (bs.map bI), .int .u64 ((np ||| c * 2 ^ (7 * i) % 18446744073709551616 : Nat) : Int), .int .i64 ((i + 1 + 1 : Nat) : Int)]) := by
            by_cases h0 : c = 0
            · rw [br_t (show ((c : Int) == 0) = true by simp [h0]), br_f (decide_eq_false (by omega))]
            · rw [br_f (show ((c : Int) == 0) = false by simp [h0])]
          rw [hend, u281_0]
          by_cases h4 : 4 ≤ i
          · have hbig := group_big8 (show c < 128 by omega) (show c ≠ 0 by omega) h4 h8 np
            rw [u283_0, br_f (decide_eq_false (by omega)), br_t (decide_eq_true (by omega)), cd_long cs h (by omega) h4]
            rfl
          · obtain ⟨e, hn⟩ := hv (by omega)
            obtain ⟨k1, k2, k3⟩ := group_add hn (show c < 128 by omega) (show i ≤ 3 by omega)
            rw [e, k1, cd_stop cs h, if_neg hF]
            by_cases hm : 4194304 < n + c * 128 ^ i
            · rw [u283_0, br_f (decide_eq_false (by omega)), br_t (decide_eq_true (by omega)), if_pos hm]; rfl
            · rw [if_neg hm]
              exact after28 bs hb hl hpos (n + c * 128 ^ i) (i + 1) (by omega) (by omega)
    · rw [br_f (decide_eq_false (by omega))]
      by_cases h : 128 ≤ c
      · rw [br_f (decide_eq_false (by omega)), loop281 bs hb hl hpos cs (i + 1) f _ (n + (c - 128) * 128 ^ i) hd' hf' hp (fun h4 => by omega), cd, if_pos h]
      · rw [br_t (decide_eq_true (by omega))]
        by_cases h0 : c = 0
        · rw [br_t (show ((c : Int) == 0) = true by simp [h0]), br_t (decide_eq_true (by omega)), out28, cd_stop cs h, if_pos ⟨by omega, h0⟩]; rfl
        · rw [br_f (show ((c : Int) == 0) = false by simp [h0]), u281_0, u283_0, br_t (decide_eq_true (by omega)), cd_long cs h h0 (by omega)]; rfl
theorem nxt_cons (b : Nat) (bs : List Nat) : nxt ((b :: bs).map bI) = if b = 0 then (0, [], 0, 2) else match cd bs 0 0 with
    | (n, a, e) => if e ≠ 0 then (0, [], 0, (e : Int)) else if (b :: bs).length < 1 + a + n + 8 then (0, [], 0, 3)
      else if ((b :: bs).drop (1 + a + n)).take 8 ≠ (sumB (sumV (((b :: bs).take (1 + a + n)).map bI))).map toN then (0, [], 0, 13)
      else ((b : Int), (((b :: bs).take (1 + a + n)).drop (1 + a)).map bI, ((1 + a + n + 8 : Nat) : Int), 0) := by
  rw [show (b :: bs).map bI = bI b :: bs.map bI from rfl, nxt, toN_bI, map_toN_bI]
  simp only [← List.map_cons (f := bI), List.length_map, ← List.map_drop, ← List.map_take, map_toN_bI]
theorem g28 : ∀ args res outs, k28.G args = some (res, outs) → funK (cx [(26, k26)]) big F28 args = some (res, outs) := by
  intro args res outs h0
  obtain ⟨hp, h⟩ := preK_some h0; clear h0
  simp only [k28] at h hp
  split at h
  · rename_i xs
    obtain ⟨bs, rfl, hb, hl, _⟩ := okB_nat hp
    rw [e28, ← h, nxK, nxB, nxS, nxE, hide_eq, hide_eq, hide_eq, hide_eq]
    cases bs with
    | nil => rfl
    | cons b bs =>
      have hbb := hb b (by simp)
      rw [br_f (show ((((b :: bs).map bI).length : Int) == 0) = false by rw [List.length_map, List.length_cons]; simp; omega), idxK_i (n := 0) 0 rfl (by simp), nthK_i (show ((b :: bs).map bI)[0]? = some (bI b) from rfl), fitI_bI, nxt_cons]
      by_cases h : b = 0
      · rw [br_t (show ((b : Int) == 0) = true by simp [h]), if_pos h]
      · rw [br_f (show ((b : Int) == 0) = false by simp [h]), if_neg h]
        have hL := loop281 (b :: bs) hb hl (by simp) bs 0 big 0 0 rfl (by rw [List.length_cons] at hl; have := big_gt; omega) (by omega) (fun _ => ⟨rfl, by omega⟩)
        refine Eq.trans hL ?_
        obtain ⟨n, a, e⟩ := cd bs 0 0
        show (if e ≠ 0 then _ else tail28 (b :: bs) n a) = _
        by_cases he : e ≠ 0
        · simp only [if_pos he]
        · simp only [if_neg he, tail28]
          split
          · rfl
          · split
            · rfl
            · rfl
  · cases h
theorem s28 : Sound Try.prog 28 k28.pars k28.G := (cx_sound (sl_cons s26 sl_nil) ok28 big).spec g28
end Go.Proofs.Ytoocidelbmbgcaa.Oc
