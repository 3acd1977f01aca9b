/- Part of the proofs: the verified interpreter for the program's functions, or lemmas on what they compute; no condition. -/
import Derived.Test.YtoocidelbmbgcaaOctetSealsOc9
namespace Go.Proofs.Ytoocidelbmbgcaa.Oc
open Go.Ai
/-! ### Bytes as texts -/
theorem toList_loop (s : ByteArray) : ∀ (k i : Nat) (r : List UInt8), s.size - i = k → ByteArray.toList.loop s i r = r.reverse ++ s.data.toList.drop i
  | 0, i, r, h => by
    rw [ByteArray.toList.loop, if_neg (by omega), List.drop_of_length_le (by rw [Array.length_toList]; show s.size ≤ i; omega), List.append_nil]
  | k + 1, i, r, h => by
    have hi : i < s.data.size := by show i < s.size; omega
    rw [ByteArray.toList.loop, if_pos (show i < s.size by omega), toList_loop s k (i + 1) _ (by omega), List.reverse_cons, List.append_assoc]
    have hd : s.data.toList.drop i = s.get! i :: s.data.toList.drop (i + 1) := by
      rw [List.drop_eq_getElem_cons (by rw [Array.length_toList]; exact hi)]
      congr 1
      show _ = s.data[i]!
      rw [getElem!_pos s.data i hi]
      rfl
    rw [hd]; rfl
theorem toList_eq (s : ByteArray) : s.toList = s.data.toList := by
  rw [ByteArray.toList, toList_loop s s.size 0 [] (by omega)]; rfl
theorem mapM_bytes : ∀ (bs : List Nat), (bs.map bI).mapM byteOf? = some (bs.map fun b => UInt8.ofNat b)
  | [] => rfl
  | b :: bs => by
    rw [List.map_cons, List.mapM_cons, mapM_bytes bs]
    show (do let y ← some (UInt8.ofNat (b : Int).toNat); let ys ← some (bs.map fun b => UInt8.ofNat b); pure (y :: ys)) = _
    rw [Int.toNat_natCast]; rfl
theorem bytesK_map {β : Type} (bs : List Nat) (K : ByteArray → Option β) : bytesK (bs.map bI) K = K ⟨(bs.map fun b => UInt8.ofNat b).toArray⟩ := by
  rw [bytesK, mapM_bytes]
theorem toList_mk (l : List UInt8) : (⟨l.toArray⟩ : ByteArray).toList = l := by rw [toList_eq]
theorem ofNat_map_inj : ∀ {a b : List Nat}, (∀ x ∈ a, x < 256) → (∀ x ∈ b, x < 256) → (a.map fun b => UInt8.ofNat b) = b.map (fun b => UInt8.ofNat b) → a = b
  | [], [], _, _, _ => rfl
  | [], _ :: _, _, _, h => by cases h
  | _ :: _, [], _, _, h => by cases h
  | x :: a, y :: b, ha, hb, h => by
    rw [List.map_cons, List.map_cons] at h
    injection h with h1 h2
    have e := congrArg UInt8.toNat h1
    rw [UInt8.toNat_ofNat', UInt8.toNat_ofNat', Nat.mod_eq_of_lt (ha x (by simp)), Nat.mod_eq_of_lt (hb y (by simp))] at e
    rw [e, ofNat_map_inj (fun z hz => ha z (List.mem_cons_of_mem _ hz)) (fun z hz => hb z (List.mem_cons_of_mem _ hz)) h2]
theorem text_eq {a b : List Nat} (ha : ∀ x ∈ a, x < 256) (hb : ∀ x ∈ b, x < 256) :
    ((⟨(a.map fun b => UInt8.ofNat b).toArray⟩ : ByteArray).toList == (⟨(b.map fun b => UInt8.ofNat b).toArray⟩ : ByteArray).toList) = decide (a = b) := by
  rw [toList_mk, toList_mk]
  by_cases h : a = b
  · subst h; simp
  · rw [decide_eq_false h]
    exact beq_eq_false_iff_ne.2 fun e => h (ofNat_map_inj ha hb e)
end Go.Proofs.Ytoocidelbmbgcaa.Oc
