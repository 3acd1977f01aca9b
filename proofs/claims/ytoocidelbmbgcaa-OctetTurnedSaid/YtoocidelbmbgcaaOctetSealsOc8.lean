/- Part of the proofs: the verified interpreter for the program's functions, or lemmas on what they compute; no condition. -/
import Derived.Test.YtoocidelbmbgcaaOctetSealsOc7
namespace Go.Proofs.Ytoocidelbmbgcaa.Oc
open Go.Ai
/-! ### The sum's eight bytes -/
theorem wU_range (n : Int) : ∃ s : Nat, wU n = s ∧ s < 18446744073709551616 := by
  rw [wU, wrap_u64]
  obtain ⟨s, hs⟩ := Int.eq_ofNat_of_zero_le (show 0 ≤ n % 18446744073709551616 by omega)
  exact ⟨s, hs, by omega⟩
theorem fold_range : ∀ (xs : List AV) (s : Nat), s < 18446744073709551616 → ∃ t : Nat, xs.foldl sumStep s = t ∧ t < 18446744073709551616
  | [], s, h => ⟨s, rfl, h⟩
  | x :: xs, s, h => by
    rw [List.foldl_cons]
    have : ∃ t : Nat, sumStep s x = t ∧ t < 18446744073709551616 := by
      cases x
      case int => exact wU_range _
      all_goals exact ⟨s, rfl, h⟩
    obtain ⟨t, e, ht⟩ := this
    rw [e]; exact fold_range xs t ht
theorem sumV_range (xs : List AV) : ∃ s : Nat, sumV xs = s ∧ s < 18446744073709551616 := by
  rw [sumV, hide_eq]
  exact fold_range xs 14695981039346656037 (by omega)
theorem sB_nat (s : Nat) {k : Nat} (hk : k ≤ 64) : sB s k = bI (s / 2 ^ k % 256) := by
  rw [sB, shr_u64 s hk, wrap_u8_nat]; rfl
theorem sumB_nat (s : Nat) : sumB s = [s / 72057594037927936 % 256, s / 281474976710656 % 256, s / 1099511627776 % 256, s / 4294967296 % 256, s / 16777216 % 256, s / 65536 % 256, s / 256 % 256, s % 256].map bI := by
  rw [sumB_eq, sB_nat s (by omega), sB_nat s (by omega), sB_nat s (by omega), sB_nat s (by omega), sB_nat s (by omega), sB_nat s (by omega), sB_nat s (by omega), sB_nat s (by omega)]
  simp only [List.map_cons, List.map_nil, Nat.reducePow, Nat.div_one]
theorem toN_bI (b : Nat) : toN (bI b) = b := Int.toNat_natCast b
theorem map_toN_bI (bs : List Nat) : (bs.map bI).map toN = bs := by
  rw [List.map_map]
  have : toN ∘ bI = id := funext toN_bI
  rw [this, List.map_id]
theorem len8 {l : List Nat} (h : l.length = 8) : ∃ a b c d e f g i, l = [a, b, c, d, e, f, g, i] := by
  match l, h with
  | [a, b, c, d, e, f, g, i], _ => exact ⟨a, b, c, d, e, f, g, i, rfl⟩
/-- Bytes as one number, the highest first. -/
def beV (l : List Nat) (h : Nat) : Nat := l.foldl (fun h c => h * 256 + c) h
theorem beV_sum {l : List Nat} (h8 : l.length = 8) (hb : ∀ b ∈ l, b < 256) {s : Nat} (hs : s < 18446744073709551616) : beV l 0 = s ↔ l = (sumB s).map toN := by
  obtain ⟨a, b, c, d, e, f, g, i, rfl⟩ := len8 h8
  have ha := hb a (by simp)
  have hb' := hb b (by simp)
  have hc := hb c (by simp)
  have hd := hb d (by simp)
  have he := hb e (by simp)
  have hf := hb f (by simp)
  have hg := hb g (by simp)
  have hi := hb i (by simp)
  rw [sumB_nat, map_toN_bI]
  simp only [beV, List.foldl_cons, List.foldl_nil, List.cons.injEq, and_true]
  constructor
  · intro h
    subst h
    refine ⟨?_, ?_, ?_, ?_, ?_, ?_, ?_, ?_⟩ <;> omega
  · rintro ⟨h1, h2, h3, h4, h5, h6, h7, h8⟩
    omega
theorem beV_lt : ∀ (l : List Nat) (h k : Nat), h < 256 ^ k → (∀ b ∈ l, b < 256) → beV l h < 256 ^ (k + l.length)
  | [], h, k, hh, _ => hh
  | c :: l, h, k, hh, hb => by
    have hc := hb c (by simp)
    have := beV_lt l (h * 256 + c) (k + 1) (by rw [Nat.pow_succ]; omega) fun b hb' => hb b (List.mem_cons_of_mem _ hb')
    rw [List.length_cons, show k + (l.length + 1) = k + 1 + l.length by omega]
    exact this
theorem or_add {h c : Nat} (hh : h < 72057594037927936) (hc : c < 256) : veiled.or .u64 (veiled.shl .u64 (h : Int) 8) (veiled.wrap .u64 (c : Int)) = ((h * 256 + c : Nat) : Int) := by
  have e := shl_u64 h (k := 8) (by omega)
  rw [show ((8 : Nat) : Int) = 8 from rfl] at e
  rw [e, wrap_u64_id (by omega), or_u64 (by omega) (by omega), Nat.mod_eq_of_lt (by omega)]
  have := Nat.shiftLeft_add_eq_or_of_lt (i := 8) (b := c) (by omega) h
  rw [Nat.shiftLeft_eq] at this
  rw [show h * 2 ^ 8 ||| c = h * 2 ^ 8 + c from this.symm]
theorem loop282 (bs : List Nat) (hb : ∀ b ∈ bs, b < 256) (hl : bs.length ≤ 140737488355328) (n a : Int) (z : Nat) (hz : z ≤ bs.length) : ∀ (k i f h j : Nat), i + k = z → k < f → h < 256 ^ j → j + k ≤ 8 →
    loopN b282 f [.sl 1 (bs.map bI), .int .u64 n, .int .i64 a, .int .i64 z, .int .u64 h, .int .i64 i] = some (0, [.sl 1 (bs.map bI), .int .u64 n, .int .i64 a, .int .i64 z, .int .u64 (beV ((bs.drop i).take k) h : Nat)])
  | k, i, 0, h, j, _, hf, _, _ => absurd hf (Nat.not_lt_zero _)
  | 0, i, f + 1, h, j, hi, hf, hh, hj => by
    rw [loopN_succ, t282, br_f (decide_eq_false (by omega)), List.take_zero]
    rfl
  | k + 1, i, f + 1, h, j, hi, hf, hh, hj => by
    have hil : i < bs.length := by omega
    have hc := hb _ (List.getElem_mem hil)
    have h7 : h < 72057594037927936 := by
      have := Nat.pow_le_pow_right (n := 256) (by omega) (show j ≤ 7 by omega)
      omega
    rw [loopN_succ, t282, br_t (decide_eq_true (by omega)), idxK_i i rfl (by rw [List.length_map]; exact hil), nthK_i (bI_get (List.getElem?_eq_getElem hil)), fitI_bI,
      or_add h7 hc, wrap_i64_succ (by omega), loop282 bs hb hl n a z hz k (i + 1) f _ (j + 1) (by omega) (by omega) (by rw [Nat.pow_succ]; omega) (by omega), List.drop_eq_getElem_cons hil, List.take_succ_cons]
    rfl
/-! ### What follows a count -/
noncomputable def tail28 (bs : List Nat) (n a : Nat) : Option (AV × List AV) :=
  if bs.length < 1 + a + n + 8 then some (.tup [.int .i64 0, .own 1 [] none, .int .i64 0, .int .i64 3], [])
  else if (bs.drop (1 + a + n)).take 8 ≠ (sumB (sumV ((bs.take (1 + a + n)).map bI))).map toN then some (.tup [.int .i64 0, .own 1 [] none, .int .i64 0, .int .i64 13], [])
  else some (.tup [.int .i64 (bs.headD 0 : Nat), .own 1 (((bs.take (1 + a + n)).drop (1 + a)).map bI) none, .int .i64 ((1 + a + n + 8 : Nat) : Int), .int .i64 0], [])
theorem okB_map {bs : List Nat} (hb : ∀ b ∈ bs, b < 256) (hl : bs.length ≤ 140737488355328) : okB (bs.map bI) = true :=
  okB_mk (fun x hx => by
    obtain ⟨b, hb', rfl⟩ := List.mem_map.1 hx
    exact ⟨b, rfl, hb b hb'⟩) (by rw [List.length_map]; exact hl)
theorem after28 (bs : List Nat) (hb : ∀ b ∈ bs, b < 256) (hl : bs.length ≤ 140737488355328) (h0 : 0 < bs.length) (n a : Nat) (hn : n ≤ 4194304) (ha : a ≤ 9) :
    sel (some (0, [.sl 1 (bs.map bI), .int .u64 n, .int .i64 ((a + 1 : Nat) : Int)])) x283 = tail28 bs n a := by
  rw [u283_0, br_f (decide_eq_false (by omega)), br_f (decide_eq_false (by omega)), List.length_map, wrap_i64 (n := (n : Int)) (by omega) (by omega),
    show veiled.wrap .i64 (((a + 1 : Nat) : Int) + (n : Int)) = ((1 + a + n : Nat) : Int) by rw [wrap_i64 (by omega) (by omega)]; omega,
    show veiled.wrap .i64 (((1 + a + n : Nat) : Int) + 8) = ((1 + a + n + 8 : Nat) : Int) by rw [wrap_i64 (by omega) (by omega)]; rfl,
    show veiled.wrap .i64 (((1 + a + n + 8 : Nat) : Int) - 8) = ((1 + a + n : Nat) : Int) by rw [wrap_i64 (by omega) (by omega)]; omega]
  by_cases h : bs.length < 1 + a + n + 8
  · rw [br_t (decide_eq_true (by omega)), tail28, if_pos h]
  · have hto : 1 + a + n + 8 ≤ bs.length := by omega
    obtain ⟨s, hs, hs'⟩ := sumV_range ((bs.take (1 + a + n)).map bI)
    have h8 : ((bs.drop (1 + a + n)).take 8).length = 8 := by rw [List.length_take, List.length_drop]; omega
    have hbe := beV_sum h8 (fun b hb' => hb b (List.mem_of_mem_drop (List.mem_of_mem_take hb'))) hs'
    rw [br_f (decide_eq_false (by omega)), tail28, if_neg h, show (0 : Int) = ((0 : Nat) : Int) from rfl,
      loop282 bs hb hl n _ (1 + a + n + 8) hto 8 (1 + a + n) big 0 0 (by omega) (by have := big_gt; omega) (by omega) (by omega), u282_0,
      show veiled.wrap .i64 (((1 + a + n + 8 : Nat) : Int) - 8) = ((1 + a + n : Nat) : Int) by rw [wrap_i64 (by omega) (by omega)]; omega,
      List.length_map, okK_y (by omega), Int.toNat_natCast, ← List.map_take, preK_t (okB_map (fun b hb' => hb b (List.mem_of_mem_take hb')) (by rw [List.length_take]; omega)), hs]
    by_cases hq : (bs.drop (1 + a + n)).take 8 = (sumB s).map toN
    · have : ((beV ((bs.drop (1 + a + n)).take 8) 0 : Nat) : Int) = (s : Int) := by rw [hbe.2 hq]
      rw [if_neg (fun k => k hq), br_f (show (((beV ((bs.drop (1 + a + n)).take 8) 0 : Nat) : Int) != (s : Int)) = false by simp [this]),
        idxK_i (n := 0) 0 rfl h0, nthK_i (bI_get (List.getElem?_eq_getElem h0)), fitI_bI, wrap_i64 (n := (n : Int)) (by omega) (by omega),
        show veiled.wrap .i64 (((a + 1 : Nat) : Int) + (n : Int)) = ((1 + a + n : Nat) : Int) by rw [wrap_i64 (by omega) (by omega)]; omega,
        okK_y (by omega), okK_y (by simp; omega), Int.toNat_natCast, Int.toNat_natCast, List.nil_append, ← List.map_take, ← List.map_drop, Nat.add_comm a 1]
      have hh : bs.headD 0 = bs[0] := by cases bs with | nil => cases h0 | cons b l => rfl
      have := hb _ (List.getElem_mem h0)
      rw [wrap_i64 (by omega) (by omega), hh]
      rfl
    · have : ¬ ((beV ((bs.drop (1 + a + n)).take 8) 0 : Nat) : Int) = (s : Int) := fun e => hq (hbe.1 (by omega))
      rw [if_pos hq, br_t (show (((beV ((bs.drop (1 + a + n)).take 8) 0 : Nat) : Int) != (s : Int)) = true by simpa using this)]
      rfl
end Go.Proofs.Ytoocidelbmbgcaa.Oc
