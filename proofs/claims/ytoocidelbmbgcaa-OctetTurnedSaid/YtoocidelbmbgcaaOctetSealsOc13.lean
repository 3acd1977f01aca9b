/- Part of the proofs: the verified interpreter for the program's functions, or lemmas on what they compute; no condition. -/
import Derived.Test.YtoocidelbmbgcaaOctetSealsOc12
import Derived.Test.YtoocidelbmbgcaaOctetSealsLp2
namespace Go.Proofs.Ytoocidelbmbgcaa.Oc
open Go.Ai
theorem okB_row {w : World} {a : Option Addr} {len cap : Nat} {zs : List Int} (h : RowIn .u8 w a len cap zs) : okB (ints .u8 len zs) = true := by
  refine okB_mk (fun x hx => ?_) (by rw [h.length.1]; have := h.length.2; omega)
  rw [ints] at hx
  obtain ⟨n, hn, rfl⟩ := List.mem_map.1 hx
  obtain ⟨h1, h2⟩ := u8_of_wf (h.wf n (List.mem_of_mem_take hn))
  obtain ⟨c, rfl⟩ := Int.eq_ofNat_of_zero_le h1
  exact ⟨c, rfl, by omega⟩
end Go.Proofs.Ytoocidelbmbgcaa.Oc
