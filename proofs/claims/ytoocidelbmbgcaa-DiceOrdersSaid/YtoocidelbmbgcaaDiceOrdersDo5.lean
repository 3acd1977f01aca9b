/- Part of the proofs: the verified interpreter for the program's functions, or lemmas on what they compute; no condition. -/
import Derived.Test.YtoocidelbmbgcaaDiceOrdersDo4
namespace Go.Proofs.Ytoocidelbmbgcaa.Bi
open Go.Ai
/-! ### Order -/
def vI (i : Nat) : AV := .int .i64 (i : Int)
theorem loop191 (n : Int) (m : Nat) (hm : m ≤ 65536) (s : Int) : ∀ (k i f : Nat) (xs : List AV), i + k = m → xs.length = m → k < f →
    loopN b191 f [.box [.agg [.int .u64 s]], .int .i64 n, .own 1 xs none, .int .i64 m, .int .i64 i]
      = some (0, [.box [.agg [.int .u64 s]], .int .i64 n, .own 1 (xs.take i ++ (List.range' i k).map vI) none])
  | k, i, 0, xs, _, _, hf => absurd hf (Nat.not_lt_zero _)
  | 0, i, f + 1, xs, hi, hx, hf => by
    rw [loopN_succ, t191, br_f (decide_eq_false (by omega)), List.range'_zero, List.map_nil, List.append_nil, List.take_of_length_le (by omega)]
  | k + 1, i, f + 1, xs, hi, hx, hf => by
    rw [loopN_succ, t191, br_t (decide_eq_true (by omega)), idxK_i i rfl (by omega), wrap_i64_succ (by omega),
      loop191 n m hm s k (i + 1) f _ (by omega) (by rw [List.length_set]; exact hx) (by omega), Nat.zero_add,
      List.take_succ_eq_append_getElem (by rw [List.length_set]; omega), List.getElem_set_self, List.take_set_of_le (Nat.le_refl _), List.append_assoc, List.range'_succ, List.map_cons]
    rfl
theorem swapA_perm {xs : List AV} {i k : Nat} (hi : i < xs.length) (hk : k < xs.length) : (swapA xs i k).Perm xs := by
  rw [swapA, List.getElem?_eq_getElem hi, List.getElem?_eq_getElem hk]
  exact List.set_set_perm hi hk
theorem loop192 : ∀ (i f : Nat) (s : Int) (xs : List AV), i < f → i < xs.length → xs.length ≤ 65536 → (∀ x ∈ xs, isI64 x = true) →
    loopN b192 f [.box [.agg [.int .u64 s]], .own 1 xs none, .int .i64 i] = some (0, [.box [.agg [.int .u64 (ordR i xs s).2]], .own 1 (ordR i xs s).1 none]) ∧ (ordR i xs s).1.Perm xs
  | i, 0, s, xs, hf, _, _, _ => absurd hf (Nat.not_lt_zero _)
  | 0, f + 1, s, xs, hf, hi, hl, hx => by
    rw [loopN_succ, t192, br_f (decide_eq_false (by omega))]
    exact ⟨rfl, List.Perm.refl _⟩
  | i + 1, f + 1, s, xs, hf, hi, hl, hx => by
    have hr := belV_range (n := ((i + 2 : Nat) : Int)) (by omega) (by omega) s
    obtain ⟨k, hk⟩ := Int.eq_ofNat_of_zero_le hr.1
    have hkl : k < xs.length := by omega
    obtain ⟨a, ha⟩ := isI64_iff (hx _ (List.getElem_mem hkl))
    obtain ⟨b, hb⟩ := isI64_iff (hx _ (List.getElem_mem hi))
    have e : swapA xs (i + 1) k = (xs.set (i + 1) (.int .i64 a)).set k (.int .i64 b) := by
      rw [swapA, List.getElem?_eq_getElem hi, List.getElem?_eq_getElem hkl, ha, hb]; rfl
    have hp := swapA_perm hi hkl
    have ih := loop192 i f (belS ((i + 2 : Nat) : Int) s) (swapA xs (i + 1) k) (by omega) (by rw [hp.length_eq]; omega) (by rw [hp.length_eq]; exact hl) (fun x h => hx x (hp.mem_iff.1 h))
    have eo : ordR (i + 1) xs s = ordR i (swapA xs (i + 1) k) (belS ((i + 2 : Nat) : Int) s) := by rw [ordR, hk, Int.toNat_natCast]
    rw [eo]
    refine ⟨?_, ih.2.trans hp⟩
    rw [loopN_succ, t192, br_t (decide_eq_true (by omega)), wrap_i64_succ (by omega), preK_t (decide_eq_true (by omega)), hk, idxK_i k rfl hkl,
      nthK_i (by rw [Nat.zero_add, List.getElem?_eq_getElem hkl, ha]), fitI_i, idxK_i (i + 1) rfl hi, nthK_i (by rw [Nat.zero_add, List.getElem?_eq_getElem hi, hb]), fitI_i,
      idxK_i (i + 1) rfl hi, idxK_i k rfl (by rw [List.length_set]; exact hkl), Nat.zero_add, Nat.zero_add, wrap_i64 (by omega) (by omega),
      show (((i + 1 : Nat) : Int) - 1) = ((i : Nat) : Int) by omega, ← e]
    exact ih.1
theorem vI_i64 (i : Nat) : isI64 (vI i) = true := rfl
theorem iota_eq (n : Nat) : iota n = (List.range n).map vI := rfl
theorem iota_i64 (n : Nat) : ∀ x ∈ iota n, isI64 x = true := by
  intro x hx
  rw [iota_eq] at hx
  obtain ⟨i, _, rfl⟩ := List.mem_map.1 hx
  rfl
theorem iota_length (n : Nat) : (iota n).length = n := by rw [iota_eq, List.length_map, List.length_range]
theorem g19 : ∀ args res outs, k19.G args = some (res, outs) → funK (cx [(57, k57)]) big F19 args = some (res, outs) := by
  intro args res outs h0
  obtain ⟨hp, h⟩ := preK_some h0; clear h0
  simp only [k19] at h hp
  split at h
  · rename_i s n
    simp only [Bool.and_eq_true, decide_eq_true_eq] at hp
    obtain ⟨m, rfl⟩ := Int.eq_ofNat_of_zero_le (show 0 ≤ n by omega)
    have hl := loop192 (m - 1) big s (iota m) (by have := big_gt; omega) (by rw [iota_length]; omega) (by rw [iota_length]; omega) (iota_i64 m)
    rw [e19, ← h, br_f (decide_eq_false (by omega)), br_f (decide_eq_false (by omega)), okK_y (by omega), List.length_replicate, Int.toNat_natCast,
      show (0 : Int) = ((0 : Nat) : Int) from rfl, loop191 m m (by omega) s m 0 big _ (by omega) (by rw [List.length_replicate]) (by have := big_gt; omega),
      u192_0, List.take_zero, List.nil_append, wrap_i64 (by omega) (by omega), show ((m : Int) - 1) = ((m - 1 : Nat) : Int) by omega,
      show (List.range' 0 m).map vI = iota m by rw [iota_eq, List.range_eq_range'], hl.1, u191_0, ordV, ordS, hide_eq, hide_eq, Int.toNat_natCast]
  · cases h
theorem s19 : Sound Try.prog 19 k19.pars k19.G := (cx_sound (sl_cons s57 sl_nil) ok19 big).spec g19
theorem ordV_perm {m : Nat} (h : 1 ≤ m) (h' : m ≤ 65536) (s : Int) : (ordV m s).Perm (iota m) := by
  rw [ordV, hide_eq]
  show (ordR ((m : Int).toNat - 1) (iota (m : Int).toNat) s).1.Perm (iota m)
  rw [Int.toNat_natCast]
  exact (loop192 (m - 1) (m + 1) s (iota m) (by omega) (by rw [iota_length]; omega) (by rw [iota_length]; omega) (iota_i64 m)).2
def toN : AV → Nat
  | .int _ n => n.toNat
  | _ => 0
theorem toN_vI (i : Nat) : toN (vI i) = i := Int.toNat_natCast i
/-- An order is a list of numbers, each below, each once. -/
theorem ordV_nat {m : Nat} (h : 1 ≤ m) (h' : m ≤ 65536) (s : Int) : ∃ L : List Nat, ordV m s = L.map vI ∧ L.length = m ∧ L.Nodup ∧ ∀ v ∈ L, v < m := by
  have hp := ordV_perm h h' s
  refine ⟨(ordV m s).map toN, ?_, ?_, ?_, ?_⟩
  · rw [List.map_map]
    have e : (ordV m s).map (vI ∘ toN) = (ordV m s).map id := List.map_congr_left fun x hx => by
      have := hp.mem_iff.1 hx
      rw [iota_eq] at this
      obtain ⟨i, hi, rfl⟩ := List.mem_map.1 this
      show vI (toN (vI i)) = vI i
      rw [toN_vI]
    rw [e, List.map_id]
  · rw [List.length_map, hp.length_eq, iota_length]
  · have e := hp.map toN
    rw [iota_eq, List.map_map] at e
    have : (List.range m).map (toN ∘ vI) = List.range m := by
      rw [show toN ∘ vI = id from funext toN_vI, List.map_id]
    rw [this] at e
    exact e.nodup_iff.2 List.nodup_range
  · intro v hv
    obtain ⟨x, hx, rfl⟩ := List.mem_map.1 hv
    have := hp.mem_iff.1 hx
    rw [iota_eq] at this
    obtain ⟨i, hi, rfl⟩ := List.mem_map.1 this
    rw [toN_vI]
    exact List.mem_range.1 hi
end Go.Proofs.Ytoocidelbmbgcaa.Bi
