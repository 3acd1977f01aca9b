/- Part of the proofs: the verified interpreter for the program's functions, or lemmas on what they compute; no condition. -/
import Derived.Test.YtoocidelbmbgcaaOctetSealsKn11
namespace Go.Proofs.Ytoocidelbmbgcaa.Kn
open Go.Ai
theorem known11 : q11.2.G [] = some (.bool true, []) := by kernel_rfl
end Go.Proofs.Ytoocidelbmbgcaa.Kn
