/- Part of the proofs: the verified interpreter for the program's functions, or lemmas on what they compute; no condition. -/
import Derived.Test.YtoocidelbmbgcaaOctetSealsOc
namespace Go.Proofs.Ytoocidelbmbgcaa.Oc
open Go.Ai
/-! ### known: run -/
noncomputable def conR (l : List (FuncId × Con)) (F : Fun) : FuncId × Con := (F.f, { F := funK (cxr l) big F, pars := F.pars, res := F.res })
theorem conR_ok {l : List (FuncId × Con)} (hl : OkL l) {F : Fun} (hF : FunOk Try.prog F) {k : List (FuncId × Con)} (hk : OkL k) : OkL (conR l F :: k) := by
  intro q hq
  rcases List.mem_cons.1 hq with rfl | hq
  · exact cxr_sound hl hF big
  · exact hk q hq
noncomputable def r1 : List (FuncId × Con) := [conR [] F107]
noncomputable def r2 : List (FuncId × Con) := [conR r1 F70]
noncomputable def r3 : List (FuncId × Con) := [conR [] F60]
noncomputable def r4 : List (FuncId × Con) := [conR r3 F61, conR r2 F31, conR r2 F105, conR [] F104]
noncomputable def r5 : List (FuncId × Con) := [conR [] F95]
noncomputable def r6 : List (FuncId × Con) := [conR r2 F69, conR r5 F44]
noncomputable def r7 : List (FuncId × Con) := [conR [] F41, conR r4 F62, conR r6 F63, conR r3 F61, conR [] F36]
theorem r7_ok : OkL r7 :=
  have h1 : OkL r1 := conR_ok sl_nil ok107 sl_nil
  have h2 : OkL r2 := conR_ok h1 ok70 sl_nil
  have h3 : OkL r3 := conR_ok sl_nil ok60 sl_nil
  have h4 : OkL r4 := conR_ok h3 ok61 (conR_ok h2 ok31 (conR_ok h2 ok105 (conR_ok sl_nil ok104 sl_nil)))
  have h5 : OkL r5 := conR_ok sl_nil ok95 sl_nil
  have h6 : OkL r6 := conR_ok h2 ok69 (conR_ok h5 ok44 sl_nil)
  conR_ok sl_nil ok41 (conR_ok h4 ok62 (conR_ok h6 ok63 (conR_ok h3 ok61 (conR_ok sl_nil ok36 sl_nil))))
theorem e24 : funK (cxr r7) big F24 [] = some (.bool true, []) := by kernel_rfl
noncomputable def k24 : Con := { F := fun | [] => some (.bool true, []) | _ => none, pars := [], res := .bool }
theorem g24 : ∀ args res outs, k24.G args = some (res, outs) → funK (cxr r7) big F24 args = some (res, outs) := by
  intro args res outs h
  simp only [Con.G, k24, preK] at h
  split at h
  · rw [e24]; exact h
  · cases h
theorem s24 : Sound Try.prog 24 k24.pars k24.G := (cxr_sound r7_ok ok24 big).spec g24
end Go.Proofs.Ytoocidelbmbgcaa.Oc
