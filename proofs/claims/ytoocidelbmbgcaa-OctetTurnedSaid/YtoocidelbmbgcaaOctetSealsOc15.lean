/- Part of the proofs: the verified interpreter for the program's functions, or lemmas on what they compute; no condition. -/
import Derived.Test.YtoocidelbmbgcaaOctetSealsOc14
namespace Go.Proofs.Ytoocidelbmbgcaa.Oc
open Go.Ai
theorem set_ne {l : List Nat} {i c : Nat} (hi : i < l.length) (h : l[i] ≠ c) : l.set i c ≠ l := fun e => by
  have := congrArg (fun l => l[i]?) e
  simp only [List.getElem?_set_self hi, List.getElem?_eq_getElem hi] at this
  injection this with this
  exact h this.symm
theorem nxt_turned {κ i c : Nat} (bs : List Nat) (hκ : κ ≠ 0) (hκ' : κ < 256) (hb : ∀ b ∈ bs, b < 256) (hM : bs.length ≤ 4194304) (hc : c < 256) {s : Nat} (hs : sumV ((κ :: (cntN 10 bs.length ++ bs)).map bI) = s) (hs' : s < 18446744073709551616)
    (hi : i < (bs ++ (sumB (s : Int)).map toN).length) (hne : (bs ++ (sumB (s : Int)).map toN)[i] ≠ c) :
    nxt ((κ :: (cntN 10 bs.length ++ (bs ++ (sumB (s : Int)).map toN).set i c)).map bI) = (0, [], 0, 13) := by
  have hD := sumB_lt s
  have hC := (cntL_nat 10 bs.length (by omega) (by omega)).2
  have hall : ∀ b ∈ κ :: (cntN 10 bs.length ++ bs), b < 256 := fun b h => by
    rcases List.mem_cons.1 h with rfl | h
    · exact hκ'
    · rcases List.mem_append.1 h with h | h
      · exact hC b h
      · exact hb b h
  have hfold := hs
  rw [sumV_nat hall] at hfold
  have hsv : (κ :: (cntN 10 bs.length ++ bs)).foldl stepN 14695981039346656037 = s := by omega
  have hlX : ((bs ++ (sumB (s : Int)).map toN).set i c).length = bs.length + 8 := by rw [List.length_set, List.length_append, hD.2]
  rw [nxt_cons, if_neg hκ, cd_cnt 10 bs.length 0 0 _ (by omega) (by omega) (fun h => by omega)]
  show (if (0 : Nat) ≠ 0 then _ else _) = _
  rw [if_neg (by omega)]
  simp only [Nat.zero_add, Nat.pow_zero, Nat.mul_one]
  rw [if_neg (by rw [List.length_cons, List.length_append, hlX]; omega), if_pos]
  have hdrop : (κ :: (cntN 10 bs.length ++ (bs ++ (sumB (s : Int)).map toN).set i c)).drop (1 + (cntN 10 bs.length).length + bs.length) = ((bs ++ (sumB (s : Int)).map toN).set i c).drop bs.length := by
    rw [show 1 + (cntN 10 bs.length).length + bs.length = ((cntN 10 bs.length).length + bs.length) + 1 by omega, List.drop_succ_cons, ← List.drop_drop, List.drop_left]
  have htake : (κ :: (cntN 10 bs.length ++ (bs ++ (sumB (s : Int)).map toN).set i c)).take (1 + (cntN 10 bs.length).length + bs.length) = κ :: (cntN 10 bs.length ++ ((bs ++ (sumB (s : Int)).map toN).set i c).take bs.length) := by
    rw [show 1 + (cntN 10 bs.length).length + bs.length = ((cntN 10 bs.length).length + bs.length) + 1 by omega, List.take_succ_cons, List.take_length_add_append]
  rw [hdrop, htake, List.take_of_length_le (by rw [List.length_drop, hlX]; omega)]
  by_cases h : i < bs.length
  · have e1 : (bs ++ (sumB (s : Int)).map toN).set i c = bs.set i c ++ (sumB (s : Int)).map toN := List.set_append_left _ _ h
    have hl : bs.length = (bs.set i c).length := (List.length_set ..).symm
    have hall' : ∀ b ∈ κ :: (cntN 10 bs.length ++ bs.set i c), b < 256 := fun b h' => by
      rcases List.mem_cons.1 h' with rfl | h'
      · exact hκ'
      · rcases List.mem_append.1 h' with h' | h'
        · exact hC b h'
        · rcases List.mem_or_eq_of_mem_set h' with h' | rfl
          · exact hb b h'
          · exact hc
    have d1 : (bs.set i c ++ (sumB (s : Int)).map toN).drop bs.length = (sumB (s : Int)).map toN := by rw [hl, List.drop_left]
    have t1 : (bs.set i c ++ (sumB (s : Int)).map toN).take bs.length = bs.set i c := by rw [hl, List.take_left]
    rw [e1, d1, t1, sumV_nat hall']
    intro e
    have b1 := (beV_sum hD.2 hD.1 hs').2 rfl
    have b2 := (beV_sum hD.2 hD.1 (foldN_lt _ 14695981039346656037 (by omega))).2 e
    rw [b1] at b2
    have hset : κ :: (cntN 10 bs.length ++ bs.set i c) = (κ :: (cntN 10 bs.length ++ bs)).set ((cntN 10 bs.length).length + i + 1) c := by
      rw [List.set_cons_succ, List.set_append_right _ _ (by omega), Nat.add_sub_cancel_left]
    rw [hset, ← hsv] at b2
    refine foldN_set _ _ _ c (by omega) hall hc (by rw [List.length_cons, List.length_append]; omega) ?_ b2
    rw [List.getElem_cons_succ, List.getElem_append_right (by omega)]
    rw [List.getElem_append_left h] at hne
    simpa using hne
  · have hi' : i - bs.length < ((sumB (s : Int)).map toN).length := by rw [List.length_append] at hi; omega
    have e1 : (bs ++ (sumB (s : Int)).map toN).set i c = bs ++ ((sumB (s : Int)).map toN).set (i - bs.length) c := List.set_append_right _ _ (by omega)
    rw [e1, List.drop_left, List.take_left, hs]
    refine set_ne hi' ?_
    rw [List.getElem_append_right (by omega)] at hne
    exact hne
noncomputable def l6 : List (FuncId × Con) := [(18, k18), (22, k22), (23, k23), (24, k24), (27, k27)]
theorem l6_ok : OkL l6 := sl_cons s18 (sl_cons s22 (sl_cons s23 (sl_cons s24 (sl_cons s27 sl_nil))))
theorem law6 (k : Int) (body : List AV) (at' bb : Int) (hk : -9223372036854775808 ≤ k ∧ k ≤ 9223372036854775807) (hat : -9223372036854775808 ≤ at' ∧ at' ≤ 9223372036854775807)
    (hbb : 0 ≤ bb ∧ bb ≤ 255) (hbody : okB body = true) : funK (cx l6) big F6 [.int .i64 k, .sl 1 body, .int .i64 at', .int .u8 bb] = some (.bool true, []) := by
  rw [show l6 = [(18, k18), (22, k22), (23, k23), (24, k24), (27, k27)] from rfl, e6]
  have hp := pickV_range (n := k) (m := 255) (by omega)
  have hw : veiled.wrap .i64 (1 + pickV k 255) = 1 + pickV k 255 := wrap_i64 (by omega) (by omega)
  have hfb : fewV body 2000 = body.take 2000 := fewV_nat body 2000
  have hfok := okB_take hbody 2000
  have hfl : (body.take 2000).length ≤ 2000 := by rw [List.length_take]; omega
  have hmin : (if (2000 : Int) < (body.length : Int) then 2000 else (body.length : Int)) = ((body.take 2000).length : Int) := by
    rw [List.length_take]; split <;> omega
  refine (preK_t (and_t rfl (and_t rfl (and_t (decide_eq_true hk.1) (decide_eq_true hk.2)))) _).trans ?_
  refine (preK_t (and_t hbody rfl) _).trans ?_
  rw [hw, hfb, hmin]
  refine (preK_t (and_t hfok (Nat.ble_eq_true_of_le (by omega))) _).trans ?_
  obtain ⟨κ, hκ⟩ := Int.eq_ofNat_of_zero_le (show 0 ≤ 1 + pickV k 255 by omega)
  obtain ⟨bs, hbs, hb, _, _⟩ := okB_nat hfok
  have hM : bs.length ≤ 2000 := by rw [hbs, List.length_map] at hfl; exact hfl
  have hcn := cntL_nat 10 bs.length (by omega) (by omega)
  have hhead : AV.int .u8 (veiled.wrap .u8 (κ : Int)) :: cntV ((bs.map bI).length : Int) ++ bs.map bI = (κ :: (cntN 10 bs.length ++ bs)).map bI := by
    rw [List.length_map, cntV_nat, wU, wrap_u64_id (by omega), hcn.1, wrap_u8_nat, Nat.mod_eq_of_lt (by omega), List.map_cons, List.map_append]
    rfl
  obtain ⟨s, hs, hs'⟩ := sumV_range ((κ :: (cntN 10 bs.length ++ bs)).map bI)
  have hD := sumB_lt s
  have hS : sealL (κ : Int) (bs.map bI) = (κ :: (cntN 10 bs.length ++ (bs ++ (sumB (s : Int)).map toN))).map bI := by
    rw [sealL_in (by omega) (by omega), hhead, closV_map hs]
    simp only [List.cons_append, List.append_assoc]
  have hcl : 1 ≤ (cntN 10 bs.length).length := by
    unfold cntN; split <;> simp
  have hcl2 : (cntN 10 bs.length).length ≤ 11 := by
    have := (cntL_bytes 10 (bs.length : Int)).2
    rw [hcn.1, List.length_map] at this
    exact this
  have hlS : ((κ :: (cntN 10 bs.length ++ (bs ++ (sumB (s : Int)).map toN))).map bI).length = 1 + (cntN 10 bs.length).length + bs.length + 8 := by
    rw [List.length_map, List.length_cons, List.length_append, List.length_append, hD.2]; omega
  rw [hκ, hbs, hS, sealE_in (by omega) (by omega), br_f (show ((0 : Int) != 0) = false from rfl), hlS, br_f (decide_eq_false (by omega)), List.length_map]
  by_cases h0 : bb = 0
  · rw [br_t (show (bb == 0) = true by simp [h0])]
  · obtain ⟨d, rfl⟩ := Int.eq_ofNat_of_zero_le hbb.1
    have w1 : veiled.wrap .i64 (((1 + (cntN 10 bs.length).length + bs.length + 8 : Nat) : Int) - 8) = ((1 + (cntN 10 bs.length).length + bs.length : Nat) : Int) := by rw [wrap_i64 (by omega) (by omega)]; omega
    have w2 : veiled.wrap .i64 (((1 + (cntN 10 bs.length).length + bs.length : Nat) : Int) - (bs.length : Int)) = ((1 + (cntN 10 bs.length).length : Nat) : Int) := by rw [wrap_i64 (by omega) (by omega)]; omega
    have w3 : veiled.wrap .i64 (((1 + (cntN 10 bs.length).length + bs.length + 8 : Nat) : Int) - ((1 + (cntN 10 bs.length).length : Nat) : Int)) = ((bs.length + 8 : Nat) : Int) := by rw [wrap_i64 (by omega) (by omega)]; omega
    rw [br_f (show ((d : Int) == 0) = false by simp; omega), w1, w2, w3]
    have hr := pickV_range (n := at') (m := ((bs.length + 8 : Nat) : Int)) (by omega)
    obtain ⟨i, hi⟩ := Int.eq_ofNat_of_zero_le hr.1
    have w4 : veiled.wrap .i64 (((1 + (cntN 10 bs.length).length : Nat) : Int) + pickV at' ((bs.length + 8 : Nat) : Int)) = (((cntN 10 bs.length).length + i + 1 : Nat) : Int) := by rw [wrap_i64 (by omega) (by omega)]; omega
    have hil : i < (bs ++ (sumB (s : Int)).map toN).length := by rw [List.length_append, hD.2]; omega
    have hjl : (cntN 10 bs.length).length + i + 1 < 1 + (cntN 10 bs.length).length + bs.length + 8 := by rw [List.length_append, hD.2] at hil; omega
    have hget : (κ :: (cntN 10 bs.length ++ (bs ++ (sumB (s : Int)).map toN)))[(cntN 10 bs.length).length + i + 1]? = some (bs ++ (sumB (s : Int)).map toN)[i] := by
      rw [List.getElem?_cons_succ, List.getElem?_append_right (by omega), Nat.add_sub_cancel_left, List.getElem?_eq_getElem hil]
    have hall : ∀ b ∈ κ :: (cntN 10 bs.length ++ (bs ++ (sumB (s : Int)).map toN)), b < 256 := fun b h => by
      rcases List.mem_cons.1 h with rfl | h
      · omega
      · rcases List.mem_append.1 h with h | h
        · exact hcn.2 b h
        · rcases List.mem_append.1 h with h | h
          · exact hb b h
          · exact hD.1 b h
    have hc := hall _ (List.mem_of_getElem? hget)
    have hok : okB ((κ :: (cntN 10 bs.length ++ (bs ++ (sumB (s : Int)).map toN))).map bI) = true := okB_map hall (by rw [List.length_map] at hlS; omega)
    rw [w4]
    refine (preK_t (show (decide ((1 : Int) ≤ ((bs.length + 8 : Nat) : Int)) && (decide (((bs.length + 8 : Nat) : Int) ≤ 9223372036854775807) && (decide (-9223372036854775808 ≤ at') && decide (at' ≤ 9223372036854775807)))) = true from
      and_t (decide_eq_true (by omega)) (and_t (decide_eq_true (by omega)) (and_t (decide_eq_true hat.1) (decide_eq_true hat.2)))) _).trans ?_
    rw [idxK_i ((cntN 10 bs.length).length + i + 1) rfl hjl, nthK_i (by rw [Nat.zero_add]; exact bI_get hget), fitI_bI, idxK_i ((cntN 10 bs.length).length + i + 1) rfl hjl, xor_u8 hc (by omega), Nat.zero_add]
    generalize hx : (bs ++ (sumB (s : Int)).map toN)[i] = c at hc
    have hx' : c ^^^ d < 256 := Nat.xor_lt_two_pow (n := 8) hc (by omega)
    have hne : c ≠ c ^^^ d := fun e => by
      have : c ^^^ 0 = c ^^^ d := by rw [Nat.xor_zero]; exact e
      have := xor_inj_right this
      omega
    have hset : ((κ :: (cntN 10 bs.length ++ (bs ++ (sumB (s : Int)).map toN))).map bI).set ((cntN 10 bs.length).length + i + 1) (AV.int .u8 ((c ^^^ d : Nat) : Int)) = (κ :: (cntN 10 bs.length ++ (bs ++ (sumB (s : Int)).map toN).set i (c ^^^ d))).map bI := by
      rw [show AV.int .u8 ((c ^^^ d : Nat) : Int) = bI (c ^^^ d) from rfl, ← List.map_set, List.set_cons_succ, List.set_append_right _ _ (by omega), Nat.add_sub_cancel_left]
    have hok2 := okB_set hok ((cntN 10 bs.length).length + i + 1) _ hx'
    rw [show bI (c ^^^ d) = AV.int .u8 ((c ^^^ d : Nat) : Int) from rfl, hset] at hok2
    have hn := nxt_turned (κ := κ) (i := i) (c := c ^^^ d) bs (by omega) (by omega) hb (by omega) hx' hs hs' hil (by rw [hx]; exact hne)
    rw [hset, preK_t hok2, nxE, nxK, nxB, nxS, hide_eq, hide_eq, hide_eq, hide_eq]
    simp only [hn]
    rfl
end Go.Proofs.Ytoocidelbmbgcaa.Oc
