/-
  No cell of these rows narrows 'for every input' (looked for: loops, veiled, ifaces, maps, wideKeys, modest, calm, conditions, laid).
  DERIVED. THE GIVEN ROWS OF THIS SEAT. 9 by the template 'for every input the law returns true; each argument reads behind the call as it read before'; 0 by the template 'total and deterministic' (their statements: YtoocidelbmbgcaaTotals.lean).
  GIVEN WITH THE SEED: the statements are not yours to turn. If you find one false, say at which input.
  Laid BY PROGRAM, IN A SANDBOX (cutbox-rows.mjs): the forced cells as the released guide's own fill.sh prints them over the translation e2decc41c04efa7d… (all of the seat's roots in one cut). By AI agents, Wed Nov 11 2026. No macro, syntax, notation, axiom, sorry.
-/
import Derived.Test.YtoocidelbmbgcaaChecked
import GoSem.Claim
import GoSem.ClaimJoined
import GoSem.ClaimMapViews
import Derived.JoinedTies
import Derived.KernelRfl
namespace Go.Proofs.Ytoocidelbmbgcaa
/- THE CELL 'sum', in the pinned program and in every row, IS THE sha256 OF THE DUMP (.gsa) THAT YtoocidelbmbgcaaProg.lean LOADS. Nothing in Lean hashes anything: it is a label: what it is worth is what the hold of that sum in a sandbox is worth. -/
noncomputable def Try.pinned : Pinned := { name := "ytoocidelbmbgcaa", sum := "e2decc41c04efa7d76ac5ae3983eba5eb0c17aa4cffbb03959d4ee0c589c4472", checked := Try.checked }
namespace Rows
def none {H : Type} : Left H := { results := [], args := [] }

/-- 'abaculuslaw5.DiceForks': WHATEVER THE INPUT: true; the input reads as it did. -/
def diceForksSpec : ChangeSpec := { name := "diceForks", fn := fun _ => fun
  | [d1, d2, d3] => { results := [.lit (.bool true)], args := [d1, d2, d3] }
  | _ => none }
def diceForksRow : OpenClaim := { program := "ytoocidelbmbgcaa", sum := "e2decc41c04efa7d76ac5ae3983eba5eb0c17aa4cffbb03959d4ee0c589c4472", func := "abaculus/abaculuslaw5.DiceForks", spec := "diceForks", apart := false }
def DiceForksSaid : Prop := diceForksRow.holds Try.pinned (OpenSpec.ofChange diceForksSpec)

/-- ITS FALSE NEIGHBOUR: 'it returns false'. Refute it at one input. -/
def diceForksWrong : ChangeSpec := { name := "diceForks", fn := fun _ => fun
  | [d1, d2, d3] => { results := [.lit (.bool false)], args := [d1, d2, d3] }
  | _ => none }
def DiceForksWrongFalsely : Prop := diceForksRow.holds Try.pinned (OpenSpec.ofChange diceForksWrong)

/-- 'abaculuslaw5.DiceOrders': WHATEVER THE INPUT: true; the input reads as it did. -/
def diceOrdersSpec : ChangeSpec := { name := "diceOrders", fn := fun _ => fun
  | [d1, d2, d3] => { results := [.lit (.bool true)], args := [d1, d2, d3] }
  | _ => none }
def diceOrdersRow : OpenClaim := { program := "ytoocidelbmbgcaa", sum := "e2decc41c04efa7d76ac5ae3983eba5eb0c17aa4cffbb03959d4ee0c589c4472", func := "abaculus/abaculuslaw5.DiceOrders", spec := "diceOrders", unfollowed := true, recurses := true, apart := false }
def DiceOrdersSaid : Prop := diceOrdersRow.holds Try.pinned (OpenSpec.ofChange diceOrdersSpec)

/-- ITS FALSE NEIGHBOUR: 'it returns false'. Refute it at one input. -/
def diceOrdersWrong : ChangeSpec := { name := "diceOrders", fn := fun _ => fun
  | [d1, d2, d3] => { results := [.lit (.bool false)], args := [d1, d2, d3] }
  | _ => none }
def DiceOrdersWrongFalsely : Prop := diceOrdersRow.holds Try.pinned (OpenSpec.ofChange diceOrdersWrong)

/-- 'abaculuslaw4.OctetSeals': WHATEVER THE INPUT: true; the input reads as it did. -/
def octetSealsSpec : ChangeSpec := { name := "octetSeals", fn := fun _ => fun
  | [d1, d2, d3, d4, d5, d6, d7] => { results := [.lit (.bool true)], args := [d1, d2, d3, d4, d5, d6, d7] }
  | _ => none }
def octetSealsRow : OpenClaim := { program := "ytoocidelbmbgcaa", sum := "e2decc41c04efa7d76ac5ae3983eba5eb0c17aa4cffbb03959d4ee0c589c4472", func := "abaculus/abaculuslaw4.OctetSeals", spec := "octetSeals", apart := false }
def OctetSealsSaid : Prop := octetSealsRow.holds Try.pinned (OpenSpec.ofChange octetSealsSpec)

/-- ITS FALSE NEIGHBOUR: 'it returns false'. Refute it at one input. -/
def octetSealsWrong : ChangeSpec := { name := "octetSeals", fn := fun _ => fun
  | [d1, d2, d3, d4, d5, d6, d7] => { results := [.lit (.bool false)], args := [d1, d2, d3, d4, d5, d6, d7] }
  | _ => none }
def OctetSealsWrongFalsely : Prop := octetSealsRow.holds Try.pinned (OpenSpec.ofChange octetSealsWrong)

/-- 'abaculuslaw4.OctetTurned': WHATEVER THE INPUT: true; the input reads as it did. -/
def octetTurnedSpec : ChangeSpec := { name := "octetTurned", fn := fun _ => fun
  | [d1, d2, d3, d4] => { results := [.lit (.bool true)], args := [d1, d2, d3, d4] }
  | _ => none }
def octetTurnedRow : OpenClaim := { program := "ytoocidelbmbgcaa", sum := "e2decc41c04efa7d76ac5ae3983eba5eb0c17aa4cffbb03959d4ee0c589c4472", func := "abaculus/abaculuslaw4.OctetTurned", spec := "octetTurned", apart := false }
def OctetTurnedSaid : Prop := octetTurnedRow.holds Try.pinned (OpenSpec.ofChange octetTurnedSpec)

/-- ITS FALSE NEIGHBOUR: 'it returns false'. Refute it at one input. -/
def octetTurnedWrong : ChangeSpec := { name := "octetTurned", fn := fun _ => fun
  | [d1, d2, d3, d4] => { results := [.lit (.bool false)], args := [d1, d2, d3, d4] }
  | _ => none }
def OctetTurnedWrongFalsely : Prop := octetTurnedRow.holds Try.pinned (OpenSpec.ofChange octetTurnedWrong)

/-- 'abaculuslaw4.OctetKnown': WHATEVER THE INPUT: true; the input reads as it did. -/
def octetKnownSpec : ChangeSpec := { name := "octetKnown", fn := fun _ => fun
  | [] => { results := [.lit (.bool true)], args := [] }
  | _ => none }
def octetKnownRow : OpenClaim := { program := "ytoocidelbmbgcaa", sum := "e2decc41c04efa7d76ac5ae3983eba5eb0c17aa4cffbb03959d4ee0c589c4472", func := "abaculus/abaculuslaw4.OctetKnown", spec := "octetKnown", apart := false }
def OctetKnownSaid : Prop := octetKnownRow.holds Try.pinned (OpenSpec.ofChange octetKnownSpec)

/-- ITS FALSE NEIGHBOUR: 'it returns false'. Refute it at one input. -/
def octetKnownWrong : ChangeSpec := { name := "octetKnown", fn := fun _ => fun
  | [] => { results := [.lit (.bool false)], args := [] }
  | _ => none }
def OctetKnownWrongFalsely : Prop := octetKnownRow.holds Try.pinned (OpenSpec.ofChange octetKnownWrong)

/-- 'abaculuslaw4.OctetOne': WHATEVER THE INPUT: true; the input reads as it did. -/
def octetOneSpec : ChangeSpec := { name := "octetOne", fn := fun _ => fun
  | [d1, d2] => { results := [.lit (.bool true)], args := [d1, d2] }
  | _ => none }
def octetOneRow : OpenClaim := { program := "ytoocidelbmbgcaa", sum := "e2decc41c04efa7d76ac5ae3983eba5eb0c17aa4cffbb03959d4ee0c589c4472", func := "abaculus/abaculuslaw4.OctetOne", spec := "octetOne", inPlace := ["math/bits.Add64", "math/bits.Sub64"], named := ["math/bits.divideError", "math/bits.overflowError"], apart := false }
def OctetOneSaid : Prop := octetOneRow.holds Try.pinned (OpenSpec.ofChange octetOneSpec)

/-- ITS FALSE NEIGHBOUR: 'it returns false'. Refute it at one input. -/
def octetOneWrong : ChangeSpec := { name := "octetOne", fn := fun _ => fun
  | [d1, d2] => { results := [.lit (.bool false)], args := [d1, d2] }
  | _ => none }
def OctetOneWrongFalsely : Prop := octetOneRow.holds Try.pinned (OpenSpec.ofChange octetOneWrong)

/-- 'abaculuslaw5.DiceEven': WHATEVER THE INPUT: true; the input reads as it did. -/
def diceEvenSpec : ChangeSpec := { name := "diceEven", fn := fun _ => fun
  | [d1, d2] => { results := [.lit (.bool true)], args := [d1, d2] }
  | _ => none }
def diceEvenRow : OpenClaim := { program := "ytoocidelbmbgcaa", sum := "e2decc41c04efa7d76ac5ae3983eba5eb0c17aa4cffbb03959d4ee0c589c4472", func := "abaculus/abaculuslaw5.DiceEven", spec := "diceEven", inPlace := ["math/bits.Add64", "math/bits.Sub64"], named := ["math/bits.divideError", "math/bits.overflowError"], apart := false }
def DiceEvenSaid : Prop := diceEvenRow.holds Try.pinned (OpenSpec.ofChange diceEvenSpec)

/-- ITS FALSE NEIGHBOUR: 'it returns false'. Refute it at one input. -/
def diceEvenWrong : ChangeSpec := { name := "diceEven", fn := fun _ => fun
  | [d1, d2] => { results := [.lit (.bool false)], args := [d1, d2] }
  | _ => none }
def DiceEvenWrongFalsely : Prop := diceEvenRow.holds Try.pinned (OpenSpec.ofChange diceEvenWrong)

/-- 'abaculuslaw5.DicePicks': WHATEVER THE INPUT: true; the input reads as it did. -/
def dicePicksSpec : ChangeSpec := { name := "dicePicks", fn := fun _ => fun
  | [d1, d2, d3] => { results := [.lit (.bool true)], args := [d1, d2, d3] }
  | _ => none }
def dicePicksRow : OpenClaim := { program := "ytoocidelbmbgcaa", sum := "e2decc41c04efa7d76ac5ae3983eba5eb0c17aa4cffbb03959d4ee0c589c4472", func := "abaculus/abaculuslaw5.DicePicks", spec := "dicePicks", inPlace := ["math/bits.Add64", "math/bits.Sub64"], named := ["math/bits.divideError", "math/bits.overflowError"], apart := false }
def DicePicksSaid : Prop := dicePicksRow.holds Try.pinned (OpenSpec.ofChange dicePicksSpec)

/-- ITS FALSE NEIGHBOUR: 'it returns false'. Refute it at one input. -/
def dicePicksWrong : ChangeSpec := { name := "dicePicks", fn := fun _ => fun
  | [d1, d2, d3] => { results := [.lit (.bool false)], args := [d1, d2, d3] }
  | _ => none }
def DicePicksWrongFalsely : Prop := dicePicksRow.holds Try.pinned (OpenSpec.ofChange dicePicksWrong)

/-- 'abaculuslaw5.DiceKnown': WHATEVER THE INPUT: true; the input reads as it did. -/
def diceKnownSpec : ChangeSpec := { name := "diceKnown", fn := fun _ => fun
  | [] => { results := [.lit (.bool true)], args := [] }
  | _ => none }
def diceKnownRow : OpenClaim := { program := "ytoocidelbmbgcaa", sum := "e2decc41c04efa7d76ac5ae3983eba5eb0c17aa4cffbb03959d4ee0c589c4472", func := "abaculus/abaculuslaw5.DiceKnown", spec := "diceKnown", inPlace := ["math/bits.Add64", "math/bits.Sub64"], unfollowed := true, recurses := true, named := ["math/bits.divideError", "math/bits.overflowError"], apart := false }
def DiceKnownSaid : Prop := diceKnownRow.holds Try.pinned (OpenSpec.ofChange diceKnownSpec)

/-- ITS FALSE NEIGHBOUR: 'it returns false'. Refute it at one input. -/
def diceKnownWrong : ChangeSpec := { name := "diceKnown", fn := fun _ => fun
  | [] => { results := [.lit (.bool false)], args := [] }
  | _ => none }
def DiceKnownWrongFalsely : Prop := diceKnownRow.holds Try.pinned (OpenSpec.ofChange diceKnownWrong)

/- THE SECOND FORM. 'bulk': how many values and letters a reading holds, each counted each time it is reached (what is shared counts as often as it is met; a slice's spare places count too). A statement '..UptoSaid' is the law's where the arguments, and the package variables that the reading takes, are together of bulk at most 1048576: NARROWER than '..Said'. Prove '..Said' where nothing that the law and all that it calls make is longer than what came in: it says more and counts as full. Else prove '..UptoSaid'. A law counts once. -/
mutual
def uptoBulk {H : Type} : DataW H → Nat
  | .lit (.string bytes) => bytes.length + 1
  | .lit _ => 1
  | .nil => 1
  | .ptr d => uptoBulk d + 1
  | .slice elems spare => uptoBulkAll elems + uptoBulkAll spare + 1
  | .agg parts => uptoBulkAll parts + 1
  | .iface _ d => uptoBulk d + 1
  | .map entries => uptoBulkEntries entries + 1
  | .held _ => 1
def uptoBulkAll {H : Type} : List (DataW H) → Nat
  | [] => 0
  | d :: r => uptoBulk d + uptoBulkAll r
def uptoBulkEntries {H : Type} : List (Lit × DataW H) → Nat
  | [] => 0
  | x :: r => uptoBulkEntry x + uptoBulkEntries r
def uptoBulkEntry {H : Type} : Lit × DataW H → Nat
  | (.string bytes, d) => bytes.length + uptoBulk d + 1
  | (_, d) => uptoBulk d + 1
 end
def uptoSmall : (H : Type) → List (DataW H) → Bool := fun _ ds => decide (uptoBulkAll ds ≤ 1048576)
def OpenSpec.upto (s : _root_.Go.ChangeSpec) : _root_.Go.OpenSpec := { _root_.Go.OpenSpec.ofChange s with cond := some uptoSmall }

/-- 'abaculuslaw5.DiceForks', WHERE WHAT IT READS IS OF BULK AT MOST 1048576: true; the input reads as it did. -/
def diceForksUptoRow : OpenClaim := { program := "ytoocidelbmbgcaa", sum := "e2decc41c04efa7d76ac5ae3983eba5eb0c17aa4cffbb03959d4ee0c589c4472", func := "abaculus/abaculuslaw5.DiceForks", spec := "diceForks", apart := false, narrowed := true }
def DiceForksUptoSaid : Prop := diceForksUptoRow.holds Try.pinned (OpenSpec.upto diceForksSpec)

/-- 'abaculuslaw5.DiceOrders', WHERE WHAT IT READS IS OF BULK AT MOST 1048576: true; the input reads as it did. -/
def diceOrdersUptoRow : OpenClaim := { program := "ytoocidelbmbgcaa", sum := "e2decc41c04efa7d76ac5ae3983eba5eb0c17aa4cffbb03959d4ee0c589c4472", func := "abaculus/abaculuslaw5.DiceOrders", spec := "diceOrders", unfollowed := true, recurses := true, apart := false, narrowed := true }
def DiceOrdersUptoSaid : Prop := diceOrdersUptoRow.holds Try.pinned (OpenSpec.upto diceOrdersSpec)

/-- 'abaculuslaw4.OctetSeals', WHERE WHAT IT READS IS OF BULK AT MOST 1048576: true; the input reads as it did. -/
def octetSealsUptoRow : OpenClaim := { program := "ytoocidelbmbgcaa", sum := "e2decc41c04efa7d76ac5ae3983eba5eb0c17aa4cffbb03959d4ee0c589c4472", func := "abaculus/abaculuslaw4.OctetSeals", spec := "octetSeals", apart := false, narrowed := true }
def OctetSealsUptoSaid : Prop := octetSealsUptoRow.holds Try.pinned (OpenSpec.upto octetSealsSpec)

/-- 'abaculuslaw4.OctetTurned', WHERE WHAT IT READS IS OF BULK AT MOST 1048576: true; the input reads as it did. -/
def octetTurnedUptoRow : OpenClaim := { program := "ytoocidelbmbgcaa", sum := "e2decc41c04efa7d76ac5ae3983eba5eb0c17aa4cffbb03959d4ee0c589c4472", func := "abaculus/abaculuslaw4.OctetTurned", spec := "octetTurned", apart := false, narrowed := true }
def OctetTurnedUptoSaid : Prop := octetTurnedUptoRow.holds Try.pinned (OpenSpec.upto octetTurnedSpec)

/-- 'abaculuslaw4.OctetKnown', WHERE WHAT IT READS IS OF BULK AT MOST 1048576: true; the input reads as it did. -/
def octetKnownUptoRow : OpenClaim := { program := "ytoocidelbmbgcaa", sum := "e2decc41c04efa7d76ac5ae3983eba5eb0c17aa4cffbb03959d4ee0c589c4472", func := "abaculus/abaculuslaw4.OctetKnown", spec := "octetKnown", apart := false, narrowed := true }
def OctetKnownUptoSaid : Prop := octetKnownUptoRow.holds Try.pinned (OpenSpec.upto octetKnownSpec)

/-- 'abaculuslaw4.OctetOne', WHERE WHAT IT READS IS OF BULK AT MOST 1048576: true; the input reads as it did. -/
def octetOneUptoRow : OpenClaim := { program := "ytoocidelbmbgcaa", sum := "e2decc41c04efa7d76ac5ae3983eba5eb0c17aa4cffbb03959d4ee0c589c4472", func := "abaculus/abaculuslaw4.OctetOne", spec := "octetOne", inPlace := ["math/bits.Add64", "math/bits.Sub64"], named := ["math/bits.divideError", "math/bits.overflowError"], apart := false, narrowed := true }
def OctetOneUptoSaid : Prop := octetOneUptoRow.holds Try.pinned (OpenSpec.upto octetOneSpec)

/-- 'abaculuslaw5.DiceEven', WHERE WHAT IT READS IS OF BULK AT MOST 1048576: true; the input reads as it did. -/
def diceEvenUptoRow : OpenClaim := { program := "ytoocidelbmbgcaa", sum := "e2decc41c04efa7d76ac5ae3983eba5eb0c17aa4cffbb03959d4ee0c589c4472", func := "abaculus/abaculuslaw5.DiceEven", spec := "diceEven", inPlace := ["math/bits.Add64", "math/bits.Sub64"], named := ["math/bits.divideError", "math/bits.overflowError"], apart := false, narrowed := true }
def DiceEvenUptoSaid : Prop := diceEvenUptoRow.holds Try.pinned (OpenSpec.upto diceEvenSpec)

/-- 'abaculuslaw5.DicePicks', WHERE WHAT IT READS IS OF BULK AT MOST 1048576: true; the input reads as it did. -/
def dicePicksUptoRow : OpenClaim := { program := "ytoocidelbmbgcaa", sum := "e2decc41c04efa7d76ac5ae3983eba5eb0c17aa4cffbb03959d4ee0c589c4472", func := "abaculus/abaculuslaw5.DicePicks", spec := "dicePicks", inPlace := ["math/bits.Add64", "math/bits.Sub64"], named := ["math/bits.divideError", "math/bits.overflowError"], apart := false, narrowed := true }
def DicePicksUptoSaid : Prop := dicePicksUptoRow.holds Try.pinned (OpenSpec.upto dicePicksSpec)

/-- 'abaculuslaw5.DiceKnown', WHERE WHAT IT READS IS OF BULK AT MOST 1048576: true; the input reads as it did. -/
def diceKnownUptoRow : OpenClaim := { program := "ytoocidelbmbgcaa", sum := "e2decc41c04efa7d76ac5ae3983eba5eb0c17aa4cffbb03959d4ee0c589c4472", func := "abaculus/abaculuslaw5.DiceKnown", spec := "diceKnown", inPlace := ["math/bits.Add64", "math/bits.Sub64"], unfollowed := true, recurses := true, named := ["math/bits.divideError", "math/bits.overflowError"], apart := false, narrowed := true }
def DiceKnownUptoSaid : Prop := diceKnownUptoRow.holds Try.pinned (OpenSpec.upto diceKnownSpec)

end Rows
end Go.Proofs.Ytoocidelbmbgcaa
