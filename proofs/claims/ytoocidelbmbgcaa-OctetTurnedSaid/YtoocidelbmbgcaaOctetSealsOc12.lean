/- Part of the proofs: the verified interpreter for the program's functions, or lemmas on what they compute; no condition. -/
import Derived.Test.YtoocidelbmbgcaaOctetSealsOcF
namespace Go.Proofs.Ytoocidelbmbgcaa.Oc
open Go.Ai
theorem fewV_all (x : List AV) : fewV x (x.length : Int) = x := by
  rw [fewV, hide_eq]
  show x.take (x.length : Int).toNat = x
  rw [Int.toNat_natCast, List.take_length]
theorem fewV_nat (x : List AV) (n : Nat) : fewV x (n : Int) = x.take n := by
  rw [fewV, hide_eq]; rfl
theorem nxB_bytes {x : List AV} (h : okB x = true) : ∃ bs : List Nat, nxB x = bs.map bI := by
  obtain ⟨bs, rfl, hb, hl, _⟩ := okB_nat h
  rw [nxB, hide_eq]
  cases bs with
  | nil => exact ⟨[], rfl⟩
  | cons b bs =>
    rw [nxt_cons]
    split
    · exact ⟨[], rfl⟩
    · generalize cd bs 0 0 = r
      obtain ⟨n, a, e⟩ := r
      simp only
      split
      · exact ⟨[], rfl⟩
      · split
        · exact ⟨[], rfl⟩
        · split
          · exact ⟨[], rfl⟩
          · exact ⟨_, rfl⟩
/-- Two Nexts, held against each other. -/
noncomputable def tail5 (x : List AV) : Option (AV × List AV) :=
  preK (okB x && decide (0 ≤ (x.length : Int))) (preK (okB (fewV x (x.length : Int))) (preK (okB x) (br (nxK (fewV x (x.length : Int)) == nxK x)
    (bytesK (nxB (fewV x (x.length : Int))) fun s => bytesK (nxB x) fun s_2 => br (s.toList == s_2.toList)
      (br (nxS (fewV x (x.length : Int)) == nxS x) (some (.bool (nxE (fewV x (x.length : Int)) == nxE x), [])) (some (.bool false, []))) (some (.bool false, [])))
    (some (.bool false, [])))))
theorem tail5_true {x : List AV} (h : okB x = true) : tail5 x = some (.bool true, []) := by
  obtain ⟨bs, hbs⟩ := nxB_bytes h
  rw [tail5, fewV_all, preK_t (and_t h (decide_eq_true (by omega))), preK_t h, preK_t h, br_t (beq_self_eq_true _), hbs, bytesK_map, bytesK_map, br_t (beq_self_eq_true _), br_t (beq_self_eq_true _), beq_self_eq_true]
theorem okB_take {x : List AV} (h : okB x = true) (n : Nat) : okB (x.take n) = true := by
  obtain ⟨hx, hl⟩ := okB_iff h
  exact okB_mk (fun y hy => hx y (List.mem_of_mem_take hy)) (by rw [List.length_take]; omega)
theorem okB_set {x : List AV} (h : okB x = true) (i c : Nat) (hc : c < 256) : okB (x.set i (bI c)) = true := by
  obtain ⟨hx, hl⟩ := okB_iff h
  refine okB_mk (fun y hy => ?_) (by rw [List.length_set]; exact hl)
  rcases List.mem_or_eq_of_mem_set hy with hy | rfl
  · exact hx y hy
  · exact ⟨c, rfl, hc⟩
theorem okB_append {x y : List AV} (h : okB x = true) (k : okB y = true) (hl : x.length + y.length ≤ 140737488355328) : okB (x ++ y) = true := by
  refine okB_mk (fun z hz => ?_) (by rw [List.length_append]; exact hl)
  rcases List.mem_append.1 hz with hz | hz
  · exact (okB_iff h).1 z hz
  · exact (okB_iff k).1 z hz
theorem closV_ok {x : List AV} (h : okB x = true) (hl : x.length ≤ 1048576) : okB (closV x) = true ∧ (closV x).length = x.length + 8 := by
  obtain ⟨bs, rfl, hb, _, _⟩ := okB_nat h
  obtain ⟨s, hs, hs'⟩ := sumV_range (bs.map bI)
  rw [closV_map hs]
  have := sumB_lt s
  rw [List.length_map] at hl
  refine ⟨okB_map (fun b hb' => ?_) (by rw [List.length_append, this.2]; omega), by rw [List.length_map, List.length_append, this.2, List.length_map]⟩
  rcases List.mem_append.1 hb' with hb' | hb'
  · exact hb b hb'
  · exact this.1 b hb'
theorem seal_ok {k : Int} (h1 : 1 ≤ k) (h2 : k ≤ 255) {xs : List AV} (h : okB xs = true) (hl : xs.length ≤ 3000) : okB (sealL k xs) = true ∧ (sealL k xs).length ≤ 3020 ∧ 10 ≤ (sealL k xs).length := by
  obtain ⟨a, _⟩ := head_ok k h (by omega)
  have hc := cntV_bytes (xs.length : Int)
  have hlen : (AV.int .u8 (veiled.wrap .u8 k) :: cntV (xs.length : Int) ++ xs).length ≤ 3012 := by simp; omega
  have hlen2 : 2 ≤ (AV.int .u8 (veiled.wrap .u8 k) :: cntV (xs.length : Int) ++ xs).length := by
    have : 1 ≤ (cntV (xs.length : Int)).length := by
      rw [cntV_nat]
      unfold cntL
      cases decide (wU (xs.length : Int) > 127) <;> simp
    simp; omega
  rw [sealL_in h1 h2]
  obtain ⟨b, c⟩ := closV_ok a (by omega)
  exact ⟨b, by omega, by omega⟩
noncomputable def l5 : List (FuncId × Con) := [(17, k17), (18, k18), (22, k22), (23, k23), (24, k24), (25, k25), (26, k26), (27, k27), (28, k28)]
theorem l5_ok : OkL l5 := sl_cons s17 (sl_cons s18 (sl_cons s22 (sl_cons s23 (sl_cons s24 (sl_cons s25 (sl_cons s26 (sl_cons s27 (sl_cons s28 sl_nil))))))))
theorem law5 (k : Int) (body raw more : List AV) (how at' bb : Int) (hk : -9223372036854775808 ≤ k ∧ k ≤ 9223372036854775807) (hhow : -9223372036854775808 ≤ how ∧ how ≤ 9223372036854775807) (hat : -9223372036854775808 ≤ at' ∧ at' ≤ 9223372036854775807)
    (hbb : 0 ≤ bb ∧ bb ≤ 255) (hbody : okB body = true) (hraw : okB raw = true) (hmore : okB more = true) (hml : more.length ≤ 140737488351232) :
    funK (cx l5) big F5 [.int .i64 k, .sl 1 body, .sl 1 raw, .sl 1 more, .int .i64 how, .int .i64 at', .int .u8 bb] = some (.bool true, []) := by
  rw [show l5 = [(17, k17), (18, k18), (22, k22), (23, k23), (24, k24), (25, k25), (26, k26), (27, k27), (28, k28)] from rfl, e5]
  have hp := pickV_range (n := k) (m := 258) (by omega)
  have hw : veiled.wrap .i64 (pickV k 258 - 1) = pickV k 258 - 1 := wrap_i64 (by omega) (by omega)
  have hfb : fewV body 3000 = body.take 3000 := fewV_nat body 3000
  have hfok := okB_take hbody 3000
  have hfl : (body.take 3000).length ≤ 3000 := by rw [List.length_take]; omega
  refine (preK_t (and_t rfl (and_t rfl (and_t (decide_eq_true hk.1) (decide_eq_true hk.2)))) _).trans ?_
  refine (preK_t (and_t hbody rfl) _).trans ?_
  rw [hw, hfb]
  generalize pickV k 258 - 1 = K at hw
  refine (preK_t (and_t hfok (Nat.ble_eq_true_of_le (by omega))) _).trans ?_
  by_cases h1 : K < 1
  · rw [br_t (decide_eq_true h1), sealE_out (by omega), br_t (show ((1 : Int) == 1) = true from rfl), sealL_out (by omega)]; rfl
  rw [br_f (decide_eq_false h1)]
  by_cases h2 : K > 255
  · rw [br_t (decide_eq_true h2), sealE_out (by omega), br_t (show ((1 : Int) == 1) = true from rfl), sealL_out (by omega)]; rfl
  rw [br_f (decide_eq_false h2)]
  obtain ⟨hS, hSl, hSl2⟩ := seal_ok (k := K) (by omega) (by omega) hfok hfl
  refine (preK_t (and_t hbody rfl) _).trans ?_
  refine (preK_t (and_t hfok (and_t (Nat.ble_eq_true_of_le (by omega)) (and_t (decide_eq_true (by omega)) (decide_eq_true (by omega))))) _).trans ?_
  rw [sealE_in (by omega) (by omega), br_f (show ((0 : Int) != 0) = false from rfl)]
  generalize sealL K (body.take 3000) = S at hS hSl hSl2 ⊢
  obtain ⟨bs, hbs, hb, _, _⟩ := okB_nat hS
  have hby : ∀ (f : ByteArray → ByteArray → Option (AV × List AV)) (g : Option (AV × List AV)), (∀ s, f s s = g) → (bytesK S fun s => bytesK S fun s_1 => f s s_1) = g := by
    intro f g hf
    rw [hbs, bytesK_map, bytesK_map, hf]
  refine hby _ _ fun s => ?_
  refine (br_f (show (!s.toList == s.toList) = false by rw [beq_self_eq_true]; rfl) _ _).trans ?_
  rw [preK_t hraw, preK_t hraw, br_f (show (sumV raw != sumV raw) = false by simp)]
  refine (preK_t (and_t rfl (and_t rfl (and_t (decide_eq_true hhow.1) (decide_eq_true hhow.2)))) _).trans ?_
  cases h0 : (pickV how 5 == 0) with
  | true =>
    rw [br_t rfl]
    refine (preK_t (and_t hraw rfl) _).trans ?_
    rw [show fewV raw 3000 = raw.take 3000 from fewV_nat raw 3000]
    exact tail5_true (okB_take hraw 3000)
  | false =>
  rw [br_f rfl]
  cases h1 : (pickV how 5 == 1) with
  | true =>
    rw [br_t rfl]
    have hr := pickV_range (n := at') (m := (S.length : Int)) (by omega)
    obtain ⟨j, hj⟩ := Int.eq_ofNat_of_zero_le hr.1
    have hjl : j < S.length := by omega
    obtain ⟨c, hc, hc'⟩ := (okB_iff hS).1 _ (List.getElem_mem hjl)
    refine (preK_t (and_t (decide_eq_true (by omega)) (and_t (decide_eq_true (by omega)) (and_t (decide_eq_true hat.1) (decide_eq_true hat.2)))) _).trans ?_
    rw [idxK_i j hj hjl, nthK_i (by rw [Nat.zero_add, List.getElem?_eq_getElem hjl, hc]), fitI_bI, idxK_i j hj hjl]
    obtain ⟨d, rfl⟩ := Int.eq_ofNat_of_zero_le hbb.1
    have hx : c ^^^ d < 256 := Nat.xor_lt_two_pow (n := 8) hc' (by omega)
    rw [xor_u8 hc' (by omega)]
    exact tail5_true (okB_set hS (0 + j) _ hx)
  | false =>
  rw [br_f rfl]
  cases h2 : (pickV how 5 == 2) with
  | true =>
    rw [br_t rfl]
    have hw1 : veiled.wrap .i64 ((S.length : Int) + 1) = ((S.length + 1 : Nat) : Int) := wrap_i64_succ (by omega)
    rw [hw1]
    have hr := pickV_range (n := at') (m := ((S.length + 1 : Nat) : Int)) (by omega)
    refine (preK_t (and_t (decide_eq_true (by omega)) (and_t (decide_eq_true (by omega)) (and_t (decide_eq_true hat.1) (decide_eq_true hat.2)))) _).trans ?_
    rw [okK_y (by omega)]
    refine tail5_true (x := partOf S (some (0, (pickV at' ((S.length + 1 : Nat) : Int)).toNat - 0))) ?_
    rw [partOf]
    exact okB_take (by rw [List.drop_zero]; exact hS) _
  | false =>
  rw [br_f rfl]
  cases h3 : (pickV how 5 == 3) with
  | true =>
    rw [br_t rfl, okK_y (by omega)]
    exact tail5_true (okB_append hS hmore (by omega))
  | false =>
  rw [br_f rfl]
  exact tail5_true hS
end Go.Proofs.Ytoocidelbmbgcaa.Oc
