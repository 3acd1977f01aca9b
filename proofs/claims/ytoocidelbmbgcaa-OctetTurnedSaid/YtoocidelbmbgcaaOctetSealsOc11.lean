/- Part of the proofs: the verified interpreter for the program's functions, or lemmas on what they compute; no condition. -/
import Derived.Test.YtoocidelbmbgcaaOctetSealsOc10
namespace Go.Proofs.Ytoocidelbmbgcaa.Oc
open Go.Ai
/-! ### Next -/
theorem cd_bounds : ∀ (cs : List Nat) (i n : Nat), (cd cs i n).1 ≤ 4194304 ∧ (cd cs i n).2.1 ≤ i + cs.length
  | [], i, n => by simp [cd]
  | c :: cs, i, n => by
    rw [cd]
    split
    · have := cd_bounds cs (i + 1) (n + (c - 128) * 128 ^ i)
      rw [List.length_cons]
      exact ⟨this.1, by omega⟩
    · split
      · simp
      · split
        · simp
        · rw [List.length_cons]
          exact ⟨by omega, by show i + 1 ≤ _; omega⟩
theorem closV_map {bs : List Nat} {s : Nat} (hs : sumV (bs.map bI) = s) : closV (bs.map bI) = (bs ++ (sumB (s : Int)).map toN).map bI := by
  rw [closV, hide_eq]
  show bs.map bI ++ sumB (sumV (bs.map bI)) = _
  rw [hs, List.map_append, sumB_nat, map_toN_bI]
theorem sumB_lt (s : Nat) : (∀ b ∈ (sumB (s : Int)).map toN, b < 256) ∧ ((sumB (s : Int)).map toN).length = 8 := by
  rw [sumB_nat, map_toN_bI]
  refine ⟨fun b hb => ?_, rfl⟩
  simp only [List.mem_cons, List.not_mem_nil, or_false] at hb
  omega
theorem g27 : ∀ args res outs, k27.G args = some (res, outs) → funK (cx [(59, k59), (65, k65)]) big F27 args = some (res, outs) := by
  intro args res outs h0
  obtain ⟨hp, h⟩ := preK_some h0; clear h0
  simp only [k27] at h hp
  split at h
  · rename_i xs
    obtain ⟨bs, rfl, hb, hl, _⟩ := okB_nat hp
    rw [e27, ← h, nxK, nxB, nxS, nxE, hide_eq, hide_eq, hide_eq, hide_eq]
    cases bs with
    | nil => rfl
    | cons b bs =>
      have hbb := hb b (by simp)
      rw [br_f (show ((((b :: bs).map bI).length : Int) == 0) = false by rw [List.length_map, List.length_cons]; simp; omega), idxK_i (n := 0) 0 rfl (by simp), nthK_i (show ((b :: bs).map bI)[0]? = some (bI b) from rfl), fitI_bI, nxt_cons]
      by_cases h : b = 0
      · rw [br_t (show ((b : Int) == 0) = true by simp [h]), if_pos h, u271_0]
      · have hr : List.drop 1 (List.take (((b :: bs).length : Nat) : Int).toNat ((b :: bs).map bI)) = bs.map bI := by
          rw [Int.toNat_natCast, List.take_of_length_le (by rw [List.length_map]; exact Nat.le_refl _)]; rfl
        have hbs : ∀ b ∈ bs, b < 256 := fun x hx => hb x (List.mem_cons_of_mem _ hx)
        have hlb : bs.length + 1 ≤ 140737488355328 := hl
        have hbnd := cd_bounds bs 0 0
        have hN : cdN (bs.map bI) = ((cd bs 0 0).1 : Int) := by rw [cdN, hide_eq, map_toN_bI]
        have hA : cdA (bs.map bI) = ((cd bs 0 0).2.1 : Int) := by rw [cdA, hide_eq, map_toN_bI]
        have hE : cdE (bs.map bI) = ((cd bs 0 0).2.2 : Int) := by rw [cdE, hide_eq, map_toN_bI]
        rw [br_f (show ((b : Int) == 0) = false by simp [h]), if_neg h, u271_1, List.length_map, hr, hN, hA, hE]
        generalize cd bs 0 0 = r at hbnd ⊢
        obtain ⟨n, a, e⟩ := r
        have hb1 : n ≤ 4194304 := hbnd.1
        have hb2 : a ≤ 0 + bs.length := hbnd.2
        show okK _ (preK _ (br ((e : Int) != 0) _ _)) = _
        rw [okK_y (by simp; omega)]
        refine (preK_t (and_t (okB_map hbs (by omega)) rfl) _).trans ?_
        show br ((e : Int) != 0) _ _ = _
        by_cases he : e ≠ 0
        · rw [br_t (show ((e : Int) != 0) = true by simpa using he)]
          simp only [if_pos he]
        · have w1 : veiled.wrap .i64 (1 + (a : Int)) = ((1 + a : Nat) : Int) := by rw [wrap_i64 (by omega) (by omega)]; omega
          have w2 : veiled.wrap .i64 (((1 + a : Nat) : Int) + (n : Int)) = ((1 + a + n : Nat) : Int) := by rw [wrap_i64 (by omega) (by omega)]; omega
          have w3 : veiled.wrap .i64 (((1 + a + n : Nat) : Int) + 8) = ((1 + a + n + 8 : Nat) : Int) := by rw [wrap_i64 (by omega) (by omega)]; omega
          rw [br_f (show ((e : Int) != 0) = false by simpa using he)]
          simp only [if_neg he, w1, w2, w3]
          by_cases hs : (b :: bs).length < 1 + a + n + 8
          · rw [br_t (decide_eq_true (by omega))]
            simp only [if_pos hs]
          · have hto : 1 + a + n + 8 ≤ (b :: bs).length := by omega
            obtain ⟨s, hsv, hs'⟩ := sumV_range (((b :: bs).take (1 + a + n)).map bI)
            have hpre : ∀ x ∈ (b :: bs).take (1 + a + n), x < 256 := fun x hx => hb x (List.mem_of_mem_take hx)
            have hcl := closV_map hsv
            have hsb := sumB_lt s
            have hall : ∀ x ∈ (b :: bs).take (1 + a + n) ++ (sumB (s : Int)).map toN, x < 256 := fun x hx => by
              rcases List.mem_append.1 hx with hx | hx
              · exact hpre x hx
              · exact hsb.1 x hx
            have hlen : ((b :: bs).take (1 + a + n)).length = 1 + a + n := by rw [List.length_take]; omega
            rw [br_f (decide_eq_false (by omega)), okK_y (by omega), okK_y (by simp; omega), Int.toNat_natCast, Int.toNat_natCast, ← List.map_take, ← List.map_take]
            refine (preK_t (and_t (okB_map hpre (by omega)) (Nat.ble_eq_true_of_le (by rw [List.length_map]; omega))) _).trans ?_
            rw [hcl, bytesK_map, okK_y (by omega), bytesK_map,
              text_eq hall (fun x hx => hb x (List.mem_of_mem_take hx))]
            have hsplit : (b :: bs).take (1 + a + n + 8) = (b :: bs).take (1 + a + n) ++ ((b :: bs).drop (1 + a + n)).take 8 := List.take_add
            have hiff : ((b :: bs).take (1 + a + n) ++ (sumB (s : Int)).map toN = (b :: bs).take (1 + a + n + 8)) ↔ ((b :: bs).drop (1 + a + n)).take 8 = (sumB (s : Int)).map toN := by
              rw [hsplit, List.append_cancel_left_eq]
              exact eq_comm
            by_cases hq : ((b :: bs).drop (1 + a + n)).take 8 = (sumB (s : Int)).map toN
            · rw [decide_eq_true (hiff.2 hq), br_f (show (!true) = false from rfl)]
              simp only [if_neg hs, hsv]
              rw [if_neg (fun k => k hq), idxK_i (n := 0) 0 rfl (by simp), nthK_i (show ((b :: bs).map bI)[0]? = some (bI b) from rfl), fitI_bI,
                okK_y (by rw [List.length_map, List.length_append, hsb.2, hlen]; omega), wrap_i64 (by omega) (by omega), List.length_map, List.length_append, hsb.2, hlen, Int.toNat_natCast, partOf]
              have hv : ((List.map bI ((b :: bs).take (1 + a + n) ++ (sumB (s : Int)).map toN)).drop (0 + (1 + a))).take (1 + a + n - (1 + a)) = (((b :: bs).take (1 + a + n)).drop (1 + a)).map bI := by
                rw [← List.map_drop, ← List.map_take, Nat.zero_add, List.drop_append_of_le_length (by omega), List.take_append_of_le_length (by rw [List.length_drop]; omega), List.take_of_length_le (by rw [List.length_drop]; omega)]
              rw [hv]
            · rw [decide_eq_false (fun k => hq (hiff.1 k)), br_t (show (!false) = true from rfl)]
              simp only [if_neg hs, hsv]
              rw [if_pos hq]
  · cases h
theorem s27 : Sound Try.prog 27 k27.pars k27.G := (cx_sound (sl_cons s59 (sl_cons s65 sl_nil)) ok27 big).spec g27
end Go.Proofs.Ytoocidelbmbgcaa.Oc
