/- Part of the proofs: the verified interpreter for the program's functions, or lemmas on what they compute; no condition. -/
import Derived.Test.YtoocidelbmbgcaaDiceOrdersDo2
namespace Go.Proofs.Ytoocidelbmbgcaa.Bi
open Go.Ai
/-! ### Contracts of Below, asked, Draw, Order, Pick, SameInts -/
noncomputable def drawL (n : Int) : Nat → Int → List AV
  | 0, _ => []
  | k + 1, s => .int .i64 (belV n s) :: drawL n k (belS n s)
noncomputable def drawT (n : Int) : Nat → Int → Int
  | 0, s => s
  | k + 1, s => drawT n k (belS n s)
noncomputable def drawV : Int → Int → Int → List AV := hide fun n k s => drawL n k.toNat s
noncomputable def drawS : Int → Int → Int → Int := hide fun n k s => drawT n k.toNat s
def swapA (xs : List AV) (i k : Nat) : List AV := (xs.set i (xs[k]?.getD .dead)).set k (xs[i]?.getD .dead)
noncomputable def ordR : Nat → List AV → Int → List AV × Int
  | 0, xs, s => (xs, s)
  | i + 1, xs, s => ordR i (swapA xs (i + 1) (belV (i + 2 : Nat) s).toNat) (belS (i + 2 : Nat) s)
def iota (n : Nat) : List AV := (List.range n).map fun (i : Nat) => .int .i64 (i : Int)
noncomputable def ordV : Int → Int → List AV := hide fun n s => (ordR (n.toNat - 1) (iota n.toNat) s).1
noncomputable def ordS : Int → Int → Int := hide fun n s => (ordR (n.toNat - 1) (iota n.toNat) s).2
noncomputable def pickV : Int → Int → Int := hide fun n m => n % m
def isI64 : AV → Bool
  | .int .i64 _ => true
  | _ => false
def okInts (xs : List AV) : Bool := xs.all isI64 && Nat.ble xs.length 1099511627776
def eqI : AV → AV → Bool
  | .int _ a, .int _ b => a == b
  | _, _ => false
def sameL : List AV → List AV → Bool
  | [], [] => true
  | x :: xs, y :: ys => eqI x y && sameL xs ys
  | _, _ => false
noncomputable def sameV : List AV → List AV → Bool := hide sameL
noncomputable def k57 : Con := { F := fun | [.box [.agg [.int .u64 s]], .int .i64 n] => some (.int .i64 (belV n s), [.box [.agg [.int .u64 (belS n s)]]]) | _ => none, pars := [bD, .int .i64], res := .int .i64, pre := fun | [_, .int .i64 n] => decide (n ≤ 9223372036854775807) | _ => false }
noncomputable def k58 : Con := { F := fun | [.fn 57 [.box [.agg [.int .u64 s]]] [], .int .i64 n, .int .i64 k] => some (.own 1 (drawV n k s) none, [.fn 57 [.box [.agg [.int .u64 (drawS n k s)]]] []]) | _ => none, pars := [.fn 57 [bD] [], .int .i64, .int .i64], res := .own 3 1 false, pre := fun | [_, .int .i64 n, .int .i64 k] => decide (n ≤ 9223372036854775807) && (decide (0 ≤ k) && decide (k ≤ 65536)) | _ => false }
noncomputable def k21 : Con := { F := fun | [.box [.agg [.int .u64 s]], .int .i64 n, .int .i64 k] => some (.sl 1 (drawV n k s), [.box [.agg [.int .u64 (drawS n k s)]]]) | _ => none, pars := [bD, .int .i64, .int .i64], res := .sl 1, pre := fun | [_, .int .i64 n, .int .i64 k] => decide (n ≤ 9223372036854775807) && (decide (1 ≤ n) && (decide (0 ≤ k) && decide (k ≤ 65536))) | _ => false }
noncomputable def k19 : Con := { F := fun | [.box [.agg [.int .u64 s]], .int .i64 n] => some (.own 1 (ordV n s) none, [.box [.agg [.int .u64 (ordS n s)]]]) | _ => none, pars := [bD, .int .i64], res := .own 3 1 false, pre := fun | [_, .int .i64 n] => decide (1 ≤ n) && decide (n ≤ 65536) | _ => false }
noncomputable def k18 : Con := { F := fun | [.int .i64 n, .int .i64 m] => some (.int .i64 (pickV n m), []) | _ => none, pars := [.int .i64, .int .i64], res := .int .i64, pre := fun | [.int .i64 n, .int .i64 m] => decide (1 ≤ m) && (decide (m ≤ 9223372036854775807) && (decide (-9223372036854775808 ≤ n) && decide (n ≤ 9223372036854775807))) | _ => false }
noncomputable def k20 : Con := { F := fun | [.sl 1 xs, .sl 1 ys] => some (.bool (sameV xs ys), []) | _ => none, pars := [.sl 1, .sl 1], res := .bool, pre := fun | [.sl 1 xs, .sl 1 ys] => okInts xs && okInts ys | _ => false }
end Go.Proofs.Ytoocidelbmbgcaa.Bi
