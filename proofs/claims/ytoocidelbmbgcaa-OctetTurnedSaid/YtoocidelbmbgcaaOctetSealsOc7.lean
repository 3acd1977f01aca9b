/- Part of the proofs: the verified interpreter for the program's functions, or lemmas on what they compute; no condition. -/
import Derived.Test.YtoocidelbmbgcaaOctetSealsOc6
namespace Go.Proofs.Ytoocidelbmbgcaa.Oc
open Go.Ai
theorem bI_get {bs : List Nat} {i c : Nat} (h : bs[i]? = some c) : (bs.map bI)[i]? = some (bI c) := by rw [List.getElem?_map, h]; rfl
theorem drop_get {bs : List Nat} {i c : Nat} {cs : List Nat} (h : bs.drop i = c :: cs) : bs[i]? = some c ∧ bs.drop (i + 1) = cs ∧ i < bs.length := by
  have hi : i < bs.length := by
    rcases Nat.lt_or_ge i bs.length with h' | h'
    · exact h'
    · rw [List.drop_of_length_le h'] at h; cases h
  rw [List.drop_eq_getElem_cons hi] at h
  injection h with h1 h2
  exact ⟨by rw [List.getElem?_eq_getElem hi, h1], h2, hi⟩
theorem fin65 {c i n q : Nat} {ov : Bool} (cs : List Nat) (h : ¬ 128 ≤ c) (hi : ¬ (0 < i ∧ c = 0)) (ho : ov = false) (hq : q = n + c * 128 ^ i) :
    (some (if ov = true ∨ 4194304 < q then (.tup [.int .i64 0, .int .i64 0, .int .i64 4], []) else (.tup [.int .i64 q, .int .i64 ((i + 1 : Nat) : Int), .int .i64 0], [])) : Option (AV × List AV))
      = some (.tup [.int .i64 ((cd (c :: cs) i n).1 : Nat), .int .i64 ((cd (c :: cs) i n).2.1 : Nat), .int .i64 ((cd (c :: cs) i n).2.2 : Nat)], []) := by
  subst ho hq
  rw [cd_stop cs h, if_neg hi]
  by_cases hm : 4194304 < n + c * 128 ^ i
  · rw [if_pos (Or.inr hm), if_pos hm]; rfl
  · rw [if_neg (by simp; omega), if_neg hm]; rfl
theorem loop65 (bs : List Nat) (hb : ∀ b ∈ bs, b < 256) (hl : bs.length ≤ 140737488355328) : ∀ (cs : List Nat) (i f np n : Nat) (ov : Bool), bs.drop i = cs → cs.length < f → np < 18446744073709551616 →
    (i ≤ 4 → ov = false ∧ np = n ∧ n < 128 ^ i) →
    sel (loopN b651 f [.int .i64 4194304, .int .u64 np, .bool ov, .sl 1 (bs.map bI), .int .i64 bs.length, .int .i64 i]) x652
      = some (.tup [.int .i64 ((cd cs i n).1 : Nat), .int .i64 ((cd cs i n).2.1 : Nat), .int .i64 ((cd cs i n).2.2 : Nat)], [])
  | cs, i, 0, np, n, ov, _, hf, _, _ => absurd hf (Nat.not_lt_zero _)
  | [], i, f + 1, np, n, ov, hd, hf, hp, hv => by
    have hi : bs.length ≤ i := by
      rcases Nat.lt_or_ge i bs.length with h' | h'
      · rw [List.drop_eq_getElem_cons h'] at hd; cases hd
      · exact h'
    rw [loopN_succ, t651, br_f (decide_eq_false (by omega)), u652_0]
    rfl
  | c :: cs, i, f + 1, np, n, ov, hd, hf, hp, hv => by
    obtain ⟨hg, hd', hil⟩ := drop_get hd
    have hc : c < 256 := hb c (List.mem_of_getElem? hg)
    have hf' : cs.length < f := by rw [List.length_cons] at hf; omega
    rw [loopN_succ, t651, br_t (decide_eq_true (by omega)), idxK_i i rfl (by rw [List.length_map]; exact hil), nthK_i (bI_get hg), fitI_bI]
    simp only [and127u hc, and128 hc, wrap_i64_succ (show i < 9223372036854775807 by omega)]
    rw [show veiled.wrap .i64 ((i : Int) * 7) = ((7 * i : Nat) : Int) by rw [wrap_i64 (by omega) (by omega)]; omega]
    by_cases h9 : i ≤ 9
    · have hS := shl_u64 (c % 128) (k := 7 * i) (by omega)
      have hlt := Nat.mod_lt (c % 128 * 2 ^ (7 * i)) (show 0 < 18446744073709551616 by omega)
      have hO := or_u64 hp hlt
      have hO' : np ||| (c % 128 * 2 ^ (7 * i) % 18446744073709551616) < 18446744073709551616 := Nat.or_lt_two_pow (n := 64) hp hlt
      have hR := shr_u64 (c % 128 * 2 ^ (7 * i) % 18446744073709551616) (k := 7 * i) (by omega)
      rw [br_f (decide_eq_false (by omega)), hS, hO, hR]
      cases ov with
      | true =>
        have hi5 : 5 ≤ i := by
          rcases Nat.lt_or_ge i 5 with h | h
          · exact absurd (hv (by omega)).1 (by simp)
          · exact h
        rw [br_t rfl, preK_t (decide_eq_true (by omega))]
        by_cases h : 128 ≤ c
        · rw [br_t (decide_eq_true h), loop65 bs hb hl cs (i + 1) f _ (n + (c - 128) * 128 ^ i) true hd' hf' hO' (fun h => by omega), cd, if_pos h]
        · rw [br_f (decide_eq_false h), br_t (decide_eq_true (by omega))]
          by_cases h0 : c = 0
          · rw [br_t (show ((c : Int) == 0) = true by simp [h0]), out65, cd_stop cs h, if_pos ⟨by omega, h0⟩]; rfl
          · rw [br_f (show ((c : Int) == 0) = false by simp [h0]), out65, cd_long cs h h0 (by omega)]; rfl
      | false =>
        rw [br_f rfl, preK_t (decide_eq_true (by omega)), preK_t (decide_eq_true (by omega)), preK_t (decide_eq_true (by omega))]
        by_cases h : 128 ≤ c
        · rw [br_t (decide_eq_true h), loop65 bs hb hl cs (i + 1) f _ (n + (c - 128) * 128 ^ i) _ hd' hf' hO' (fun h4 => by
            obtain ⟨_, e, hn⟩ := hv (by omega)
            obtain ⟨k1, k2, k3⟩ := group_add hn (show c - 128 < 128 by omega) (show i ≤ 3 by omega)
            rw [show c % 128 = c - 128 by omega, e, k3, k1]
            exact ⟨by simp, rfl, k2⟩), cd, if_pos h]
        · have hcm : c % 128 = c := by omega
          rw [br_f (decide_eq_false h), hcm]
          rw [hcm] at hO'
          have hb : ((((c * 2 ^ (7 * i) % 18446744073709551616 / 2 ^ (7 * i) : Nat) : Int) != ((c : Nat) : Int)) = true ∨ 4194304 < np ||| (c * 2 ^ (7 * i) % 18446744073709551616)) ↔ (c * 2 ^ (7 * i) % 18446744073709551616 / 2 ^ (7 * i) ≠ c ∨ 4194304 < np ||| (c * 2 ^ (7 * i) % 18446744073709551616)) := by
            simp only [bne_iff_ne, ne_eq, Int.natCast_inj]
          have hT := tail65 (((c * 2 ^ (7 * i) % 18446744073709551616 / 2 ^ (7 * i) : Nat) : Int) != ((c : Nat) : Int)) _ i hO' (by omega)
          by_cases hi : 0 < i
          · rw [br_t (decide_eq_true (by omega))]
            by_cases h0 : c = 0
            · rw [br_t (show ((c : Int) == 0) = true by simp [h0]), out65, cd_stop cs h, if_pos ⟨hi, h0⟩]; rfl
            · rw [br_f (show ((c : Int) == 0) = false by simp [h0]), hT]
              by_cases h4 : 4 ≤ i
              · rw [if_pos (hb.2 (group_big (by omega) h0 h4 h9 np)), cd_long cs h h0 h4]; rfl
              · obtain ⟨_, e, hn⟩ := hv (by omega)
                obtain ⟨k1, k2, k3⟩ := group_add hn (show c < 128 by omega) (show i ≤ 3 by omega)
                exact fin65 cs h (by omega) (by rw [k3]; simp) (by rw [e, k1])
          · rw [br_f (decide_eq_false (by omega)), hT]
            obtain ⟨_, e, hn⟩ := hv (by omega)
            obtain ⟨k1, k2, k3⟩ := group_add hn (show c < 128 by omega) (show i ≤ 3 by omega)
            exact fin65 cs h (by omega) (by rw [k3]; simp) (by rw [e, k1])
    · rw [br_t (decide_eq_true (by omega))]
      cases ov with
      | true =>
        rw [br_t rfl]
        by_cases h : 128 ≤ c
        · rw [br_t (decide_eq_true h), loop65 bs hb hl cs (i + 1) f _ (n + (c - 128) * 128 ^ i) true hd' hf' hp (fun h => by omega), cd, if_pos h]
        · rw [br_f (decide_eq_false h), br_t (decide_eq_true (by omega))]
          by_cases h0 : c = 0
          · rw [br_t (show ((c : Int) == 0) = true by simp [h0]), out65, cd_stop cs h, if_pos ⟨by omega, h0⟩]; rfl
          · rw [br_f (show ((c : Int) == 0) = false by simp [h0]), out65, cd_long cs h h0 (by omega)]; rfl
      | false =>
        rw [br_f rfl]
        by_cases h : 128 ≤ c
        · rw [br_t (decide_eq_true h), loop65 bs hb hl cs (i + 1) f _ (n + (c - 128) * 128 ^ i) _ hd' hf' hp (fun h => by omega), cd, if_pos h]
        · rw [br_f (decide_eq_false h), br_t (decide_eq_true (by omega))]
          by_cases h0 : c = 0
          · rw [br_t (show ((c : Int) == 0) = true by simp [h0]), out65, cd_stop cs h, if_pos ⟨by omega, h0⟩]; rfl
          · rw [br_f (show ((c : Int) == 0) = false by simp [h0]), br_t (decide_eq_true (by omega)), out65, cd_long cs h h0 (by omega)]; rfl
theorem okB_nat {xs : List AV} (h : okB xs = true) : ∃ bs : List Nat, xs = bs.map bI ∧ (∀ b ∈ bs, b < 256) ∧ bs.length ≤ 140737488355328 ∧ xs.map toN = bs := by
  obtain ⟨hx, hl⟩ := okB_iff h
  have e : (xs.map toN).map bI = xs := by
    rw [List.map_map]
    have : xs.map (bI ∘ toN) = xs.map id := List.map_congr_left fun x hx' => by
      obtain ⟨c, rfl, _⟩ := hx x hx'
      rfl
    rw [this, List.map_id]
  refine ⟨xs.map toN, e.symm, fun b hb => ?_, by rw [List.length_map]; exact hl, rfl⟩
  obtain ⟨x, hx', rfl⟩ := List.mem_map.1 hb
  obtain ⟨c, rfl, hc⟩ := hx x hx'
  exact hc
theorem g65 : ∀ args res outs, k65.G args = some (res, outs) → funK (cx []) big F65 args = some (res, outs) := by
  intro args res outs h0
  obtain ⟨hp, h⟩ := preK_some h0; clear h0
  simp only [k65] at h hp
  split at h
  · rename_i xs m
    simp only [Bool.and_eq_true, beq_iff_eq] at hp
    obtain ⟨hp, rfl⟩ := hp
    obtain ⟨bs, rfl, hb, hl, e⟩ := okB_nat hp
    rw [e65, ← h, cdN, cdA, cdE, hide_eq, hide_eq, hide_eq, e, List.length_map]
    exact loop65 bs hb hl bs 0 big 0 0 false rfl (by have := big_gt; omega) (by omega) (fun _ => ⟨rfl, rfl, by omega⟩)
  · cases h
theorem s65 : Sound Try.prog 65 k65.pars k65.G := (cx_sound sl_nil ok65 big).spec g65
end Go.Proofs.Ytoocidelbmbgcaa.Oc
