/- Part of the proofs: the verified interpreter for the program's functions, or lemmas on what they compute; no condition. -/
import Derived.Test.YtoocidelbmbgcaaDiceOrdersDo5
namespace Go.Proofs.Ytoocidelbmbgcaa.Bi
open Go.Ai
/-! ### The law -/
theorem loop41 (m : Nat) (hm : m ≤ 65536) (k s : Int) (L : List Nat) (hL : L.length = m) (hlt : ∀ v ∈ L, v < m) :
    ∀ (R i f : Nat) (ys : List AV), i + R = m → R < f → (L.drop i).Nodup → (∀ v ∈ L.drop i, ys[v]? = some (.int .i64 0)) →
    loopN b41 f [.int .i64 m, .int .i64 k, .box [.agg [.int .u64 s]], .sl 1 (L.map vI), .own 1 ys none, .int .i64 i] = some (1, [.int .i64 m, .int .i64 k, .box [.agg [.int .u64 s]]])
  | R, i, 0, ys, _, hf, _, _ => absurd hf (Nat.not_lt_zero _)
  | 0, i, f + 1, ys, hi, hf, _, _ => by rw [loopN_succ, t41, br_f (decide_eq_false (by omega))]
  | R + 1, i, f + 1, ys, hi, hf, hn, hy => by
    have hil : i < L.length := by omega
    have hmem : L[i] ∈ L := List.getElem_mem hil
    have hv := hlt _ hmem
    have hx : (L.map vI)[i]? = some (.int .i64 (L[i] : Nat)) := by rw [List.getElem?_map, List.getElem?_eq_getElem hil]; rfl
    have hlen : i < (L.map vI).length := by rw [List.length_map]; exact hil
    rw [List.drop_eq_getElem_cons hil] at hn hy
    have h0 := hy _ (List.mem_cons_self ..)
    have hvy : L[i] < ys.length := by
      rcases Nat.lt_or_ge L[i] ys.length with h | h
      · exact h
      · rw [List.getElem?_eq_none h] at h0; cases h0
    rw [List.nodup_cons] at hn
    rw [loopN_succ, t41, br_t (decide_eq_true (by omega)), idxK_i i rfl hlen, nthK_i hx, fitI_i, br_f (decide_eq_false (by omega)),
      idxK_i i rfl hlen, nthK_i hx, fitI_i, br_f (decide_eq_false (by omega)), idxK_i i rfl hlen, nthK_i hx, fitI_i, idxK_i L[i] rfl hvy,
      nthK_i (by rw [Nat.zero_add]; exact h0), fitI_i, br_f (decide_eq_false (by omega)), idxK_i i rfl hlen, nthK_i hx, fitI_i, idxK_i L[i] rfl hvy,
      nthK_i (by rw [Nat.zero_add]; exact h0), fitI_i, idxK_i L[i] rfl hvy, Nat.zero_add, wrap_i64_succ (by omega),
      loop41 m hm k s L hL hlt R (i + 1) f _ (by omega) (by omega) hn.2]
    intro v hvm
    have hne : L[i] ≠ v := fun e => hn.1 (e ▸ hvm)
    rw [List.getElem?_set_ne hne]
    exact hy v (List.mem_cons_of_mem _ hvm)
theorem loop42 (n : Int) (m : Nat) (hm : m ≤ 65536) (s t : Int) (xs : List AV) (hl : xs.length = m) (hx : ∀ x ∈ xs, ∃ v : Int, x = .int .i64 v ∧ 0 ≤ v ∧ v < n) :
    ∀ (R i f : Nat), i + R = m → R < f →
    loopN b42 f [.int .i64 n, .int .i64 m, .box [.agg [.int .u64 s]], .box [.agg [.int .u64 t]], .sl 1 xs, .int .i64 i] = some (1, [.box [.agg [.int .u64 s]], .box [.agg [.int .u64 t]]])
  | R, i, 0, _, hf => absurd hf (Nat.not_lt_zero _)
  | 0, i, f + 1, hi, hf => by rw [loopN_succ, t42, br_f (decide_eq_false (by omega))]
  | R + 1, i, f + 1, hi, hf => by
    have hil : i < xs.length := by omega
    obtain ⟨v, hv, h1, h2⟩ := hx _ (List.getElem_mem hil)
    have hxi : xs[i]? = some (.int .i64 v) := by rw [List.getElem?_eq_getElem hil, hv]
    rw [loopN_succ, t42, br_t (decide_eq_true (by omega)), idxK_i i rfl hil, nthK_i hxi, fitI_i, br_f (decide_eq_false (by omega)),
      idxK_i i rfl hil, nthK_i hxi, fitI_i, br_f (decide_eq_false (by omega)), wrap_i64_succ (by omega)]
    exact loop42 n m hm s t xs hl hx R (i + 1) f (by omega) (by omega)
theorem drawL_in {n : Int} (h : 1 ≤ n) (h' : n ≤ 9223372036854775807) : ∀ (k : Nat) (s : Int), ∀ x ∈ drawL n k s, ∃ v : Int, x = .int .i64 v ∧ 0 ≤ v ∧ v < n
  | 0, s, x, hx => by cases hx
  | k + 1, s, x, hx => by
    rw [drawL] at hx
    rcases List.mem_cons.1 hx with rfl | hx
    · exact ⟨_, rfl, belV_range h h' s⟩
    · exact drawL_in h h' k _ x hx
theorem drawL_length (n : Int) : ∀ (k : Nat) (s : Int), (drawL n k s).length = k
  | 0, s => rfl
  | k + 1, s => by rw [drawL, List.length_cons, drawL_length]
theorem okInts_mk {xs : List AV} (h : ∀ x ∈ xs, isI64 x = true) (hl : xs.length ≤ 1099511627776) : okInts xs = true := by
  rw [okInts, Nat.ble_eq_true_of_le hl, Bool.and_true]
  exact List.all_eq_true.2 h
theorem and_t {a b : Bool} (h : a = true) (k : b = true) : (a && b) = true := by rw [h, k]; rfl
noncomputable def l4 : List (FuncId × Con) := [(12, k12), (13, k13), (15, k15), (16, k16), (18, k18), (19, k19), (20, k20), (21, k21)]
theorem l4_ok : OkL l4 := sl_cons s12 (sl_cons s13 (sl_cons s15 (sl_cons s16 (sl_cons s18 (sl_cons s19 (sl_cons s20 (sl_cons s21 sl_nil)))))))
theorem second (m q : Nat) (s : Int) (h : 1 ≤ m) (hm : m ≤ 65536) (hq : q ≤ 65536) :
    sel (some (1, [.int .i64 m, .int .i64 q, .box [.agg [.int .u64 s]]])) x42 = some (.bool true, []) := by
  have hd := drawL_in (n := (m : Int)) (by omega) (by omega) q s
  have hl := drawL_length (m : Int) q s
  have e : drawV m q s = drawL m q s := by rw [drawV, hide_eq]; rfl
  have hi : ∀ x ∈ drawL m q s, isI64 x = true := fun x hx => by
    obtain ⟨v, rfl, _⟩ := hd x hx
    rfl
  have ho : okInts (drawV m q s) = true := by rw [e]; exact okInts_mk hi (by omega)
  have hs : (!sameV (drawV m q s) (drawV m q s)) = false := by rw [e, sameV, hide_eq, sameL_refl _ hi]; rfl
  rw [u42_1]
  refine (preK_t (and_t (decide_eq_true (by omega)) (and_t (decide_eq_true (by omega)) (and_t (decide_eq_true (by omega)) (decide_eq_true (by omega))))) _).trans ?_
  refine (br_f ?_ _ _).trans ?_
  · rw [e, hl]; simp
  refine (preK_t (and_t (decide_eq_true (by omega)) (and_t (decide_eq_true (by omega)) (and_t (decide_eq_true (by omega)) (decide_eq_true (by omega))))) _).trans ?_
  refine (preK_t (and_t ho ho) _).trans ?_
  refine (br_f hs _ _).trans ?_
  rw [show (0 : Int) = ((0 : Nat) : Int) from rfl, e, loop42 m q hq _ _ _ hl hd q 0 big (by omega) (by have := big_gt; omega), u41_1, beq_self_eq_true, beq_self_eq_true]
  rfl
theorem law4 (s n k : Int) (hn : -9223372036854775808 ≤ n ∧ n ≤ 9223372036854775807) (hk : -9223372036854775808 ≤ k ∧ k ≤ 9223372036854775807) :
    funK (cx l4) big F4 [.int .u64 s, .int .i64 n, .int .i64 k] = some (.bool true, []) := by
  have h1 := pickV_range (n := n) (m := 200) (by omega)
  have h2 := pickV_range (n := k) (m := 100) (by omega)
  obtain ⟨a, ha⟩ := Int.eq_ofNat_of_zero_le h1.1
  obtain ⟨q, hq⟩ := Int.eq_ofNat_of_zero_le h2.1
  have hN : veiled.wrap .i64 (1 + pickV n 200) = ((a + 1 : Nat) : Int) := by rw [wrap_i64 (by omega) (by omega)]; omega
  obtain ⟨L, hL, hlen, hnd, hlt⟩ := ordV_nat (m := a + 1) (by omega) (by omega) s
  have hi : ∀ x ∈ L.map vI, isI64 x = true := fun x hx => by
    obtain ⟨v, _, rfl⟩ := List.mem_map.1 hx
    rfl
  have hll : (L.map vI).length = a + 1 := by rw [List.length_map, hlen]
  have ho : okInts (L.map vI) = true := okInts_mk hi (by omega)
  have hs : (!sameV (L.map vI) (L.map vI)) = false := by rw [sameV, hide_eq, sameL_refl _ hi]; rfl
  rw [show l4 = [(12, k12), (13, k13), (15, k15), (16, k16), (18, k18), (19, k19), (20, k20), (21, k21)] from rfl, e4, hN, hq, hL]
  refine (preK_t (and_t rfl (and_t rfl (and_t (decide_eq_true hn.1) (decide_eq_true hn.2)))) _).trans ?_
  refine (preK_t (and_t rfl (and_t rfl (and_t (decide_eq_true hk.1) (decide_eq_true hk.2)))) _).trans ?_
  refine (preK_t (and_t (decide_eq_true (by omega)) (decide_eq_true (by omega))) _).trans ?_
  refine (preK_t (and_t (decide_eq_true (by omega)) (decide_eq_true (by omega))) _).trans ?_
  refine (preK_t (and_t ho ho) _).trans ?_
  refine (br_f hs _ _).trans ?_
  refine (br_f ?_ _ _).trans ?_
  · rw [hll]; simp
  rw [okK_y (by omega), Int.toNat_natCast, show (0 : Int) = ((0 : Nat) : Int) from rfl,
    loop41 (a + 1) (by omega) q _ L hlen hlt (a + 1) 0 big _ (by omega) (by have := big_gt; omega) (by rw [List.drop_zero]; exact hnd)
      (fun v hv => by
        rw [List.drop_zero] at hv
        rw [List.getElem?_replicate, if_pos (hlt v hv)]; rfl)]
  exact second (a + 1) q _ (by omega) (by omega) (by omega)
end Go.Proofs.Ytoocidelbmbgcaa.Bi
