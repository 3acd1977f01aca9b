/- Part of the proofs: the verified interpreter for the program's functions, or lemmas on what they compute; no condition. -/
import Derived.Test.YtoocidelbmbgcaaOctetSealsLp
import Derived.Below
import Derived.DataReads
namespace Go.Ai
/-! ### A slice of integers that came in -/
theorem Grew.below {w w' : World} (h : Grew w w') : RowKit.Below w.heap.size w w' := ⟨h.os, h.tape, h.output, h.size, fun k hk => h.block k hk id⟩
/-- What is known of a slice of integers that came in. -/
def RowIn (k : IntKind) (w : World) (a : Option Addr) (len cap : Nat) (zs : List Int) : Prop :=
  (a = none ∧ len = 0 ∧ cap = 0 ∧ zs = []) ∨
  ∃ x, a = some x ∧ len ≤ cap ∧ cap ≤ 140737488351232 ∧ zs.length = cap ∧ (∀ i, i < zs.length → w.cell? (x.add i) = some (.int k (zs.getD i 0))) ∧ ∀ n ∈ zs, (Lit.int k n).wf = true
def ints (k : IntKind) (len : Nat) (zs : List Int) : List AV := (zs.take len).map (.int k)
theorem RowIn.wf {k : IntKind} {w : World} {a : Option Addr} {len cap : Nat} {zs : List Int} (h : RowIn k w a len cap zs) : ∀ n ∈ zs, (Lit.int k n).wf = true := by
  rcases h with ⟨_, _, _, rfl⟩ | ⟨x, _, _, _, _, _, hw⟩
  · intro n hn; cases hn
  · exact hw
theorem RowIn.length {k : IntKind} {w : World} {a : Option Addr} {len cap : Nat} {zs : List Int} (h : RowIn k w a len cap zs) : (ints k len zs).length = len ∧ len ≤ 140737488351232 := by
  rw [ints, List.length_map, List.length_take]
  rcases h with ⟨_, rfl, _, rfl⟩ | ⟨x, _, hl, hc, hz, _, _⟩
  · exact ⟨rfl, by omega⟩
  · exact ⟨by omega, by omega⟩
theorem ro_row {k : IntKind} {w : World} {a : Option Addr} {len cap : Nat} {zs : List Int} (h : RowIn k w a len cap zs) : RO w (fun b => b < w.heap.size) (.sl 1 (ints k len zs)) (.slice a len cap) [] := by
  have hlen := h.length.1
  refine ⟨rfl, rfl, a, cap, by rw [hlen], ?_, ?_⟩
  · rw [hlen]
    rcases h with ⟨_, rfl, rfl, _⟩ | ⟨x, _, hl, _⟩
    · exact Nat.le_refl _
    · exact hl
  · rcases h with ⟨_, rfl, _, rfl⟩ | ⟨x, rfl, hl, hc, hz, hcell, hw⟩
    · exact Or.inl rfl
    · by_cases h0 : len = 0
      · subst h0; exact Or.inl rfl
      · right
        have h1 := hcell 0 (by omega)
        obtain ⟨b, off, spot⟩ := x
        have hs : spot = none := by simpa [Addr.add] using World.cell?_spot h1
        subst hs
        refine ⟨b, off, rfl, ?_, (RIs_iff _ _ _ _).2 fun i y hy => ?_⟩
        · have : w.cell? ⟨b, off + 0, none⟩ = some (.int k (zs.getD 0 0)) := h1
          simp only [World.cell?] at this
          rcases Nat.lt_or_ge b w.heap.size with hb | hb
          · exact hb
          · rw [Array.getElem?_eq_none hb] at this; simp at this
        · have hi : i < (zs.take len).length := by
            rcases Nat.lt_or_ge i (zs.take len).length with h' | h'
            · exact h'
            · rw [ints, List.getElem?_eq_none (by rw [List.length_map]; exact h')] at hy; cases hy
          have hi2 : i < zs.length := by rw [List.length_take] at hi; omega
          have e : y = .int k (zs.getD i 0) := by
            rw [ints, List.getElem?_map, List.getElem?_eq_getElem hi, Option.map_some] at hy
            injection hy with hy
            rw [← hy, List.getElem_take, List.getD_eq_getElem?_getD, List.getElem?_eq_getElem hi2]
            rfl
          subst e
          refine ⟨.int k (zs.getD i 0), rfl, rfl, fun p c hp => ?_⟩
          have hc0 := hcell i hi2
          cases p with
          | zero =>
            have : c = .int k (zs.getD i 0) := by simpa [Value.cells] using hp.symm
            subst this
            rw [Nat.mul_one, Nat.add_zero]
            rw [addr_add] at hc0
            exact hc0
          | succ p => simp [Value.cells] at hp
end Go.Ai
