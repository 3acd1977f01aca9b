/- Part of the proofs: the verified interpreter for the program's functions, or lemmas on what they compute; no condition. -/
import Derived.Test.YtoocidelbmbgcaaOctetSealsOc2
import Derived.Test.YtoocidelbmbgcaaOctetSealsBits
namespace Go.Proofs.Ytoocidelbmbgcaa.Oc
open Go.Ai
/-! ### Contracts of Sum, count, closed, Seal, counted, Next, Few, Pick -/
noncomputable def wU (n : Int) : Int := veiled.wrap .u64 n
noncomputable def xU (a b : Int) : Int := veiled.xor .u64 a b
def isU8 : AV → Bool
  | .int .u8 n => decide (0 ≤ n) && decide (n ≤ 255)
  | _ => false
def okB (xs : List AV) : Bool := xs.all isU8 && Nat.ble xs.length 140737488355328
noncomputable def sumStep (s : Int) : AV → Int
  | .int _ c => wU (xU s (wU c) * 1099511628211)
  | _ => s
noncomputable def sumV : List AV → Int := hide fun xs => xs.foldl sumStep 14695981039346656037
noncomputable def k17 : Con := { F := fun | [.sl 1 xs] => some (.int .u64 (sumV xs), []) | _ => none, pars := [.sl 1], res := .int .u64, pre := fun | [.sl 1 xs] => okB xs | _ => false }
noncomputable def k26 : Con := { F := fun | [.sl 1 xs] => some (.int .u64 (sumV xs), []) | _ => none, pars := [.sl 1], res := .int .u64, pre := fun | [.sl 1 xs] => okB xs | _ => false }
/-- A count's bytes. -/
noncomputable def cntL : Nat → Int → List AV
  | 0, u => [.int .u8 (veiled.wrap .u8 u)]
  | f + 1, u => bif decide (u > 127) then .int .u8 (veiled.or .u8 (veiled.wrap .u8 (veiled.and .u64 u 127)) 128) :: cntL f (veiled.shr .u64 u 7) else [.int .u8 (veiled.wrap .u8 u)]
noncomputable def cntV : Int → List AV := hide fun n => cntL 10 (wU (if n < 0 then 0 else n))
def toN : AV → Nat
  | .int _ n => n.toNat
  | _ => 0
def bI (b : Nat) : AV := .int .u8 (b : Int)
/-- Eight bytes of a sum, the highest first. -/
noncomputable def sumB (s : Int) : List AV := [56, 48, 40, 32, 24, 16, 8, 0].map fun k : Int => .int .u8 (veiled.wrap .u8 (veiled.shr .u64 s k))
noncomputable def closV : List AV → List AV := hide fun xs => xs ++ sumB (sumV xs)
/-- What a count is that bytes begin with: its value, how many bytes, or an error. -/
def cd : List Nat → Nat → Nat → Nat × Nat × Nat
  | [], _, _ => (0, 0, 3)
  | c :: cs, i, n => if 128 ≤ c then cd cs (i + 1) (n + (c - 128) * 128 ^ i) else if 0 < i ∧ c = 0 then (0, 0, 2) else if 4194304 < n + c * 128 ^ i then (0, 0, 4) else (n + c * 128 ^ i, i + 1, 0)
noncomputable def cdN : List AV → Int := hide fun xs => ((cd (xs.map toN) 0 0).1 : Int)
noncomputable def cdA : List AV → Int := hide fun xs => ((cd (xs.map toN) 0 0).2.1 : Int)
noncomputable def cdE : List AV → Int := hide fun xs => ((cd (xs.map toN) 0 0).2.2 : Int)
noncomputable def fewV : List AV → Int → List AV := hide fun xs n => xs.take n.toNat
noncomputable def pickV : Int → Int → Int := hide fun n m => n % m
noncomputable def k60 : Con := { F := fun | [.own 1 xs none, .int .i64 n] => some (.own 1 (xs ++ cntV n) none, []) | _ => none, pars := [.own 5 1 false, .int .i64], res := .own 5 1 false, pre := fun | [.own 1 xs none, .int .i64 n] => Nat.ble xs.length 1048576 && (decide (0 ≤ n) && decide (n ≤ 4194304)) | _ => false }
noncomputable def k64 : Con := { F := fun | [.own 1 xs none, .int .i64 n] => some (.own 1 (xs ++ cntV n) none, []) | _ => none, pars := [.own 5 1 false, .int .i64], res := .own 5 1 false, pre := fun | [.own 1 xs none, .int .i64 n] => Nat.ble xs.length 1048576 && (decide (0 ≤ n) && decide (n ≤ 4194304)) | _ => false }
noncomputable def k59 : Con := { F := fun | [.own 1 xs none] => some (.own 1 (closV xs) none, []) | _ => none, pars := [.own 5 1 false], res := .own 5 1 false, pre := fun | [.own 1 xs none] => okB xs && Nat.ble xs.length 140737488355320 | _ => false }
noncomputable def k65 : Con := { F := fun | [.sl 1 xs, .int .i64 _] => some (.tup [.int .i64 (cdN xs), .int .i64 (cdA xs), .int .i64 (cdE xs)], []) | _ => none, pars := [.sl 1, .int .i64], res := .tup [.int .i64, .int .i64, .int .i64], pre := fun | [.sl 1 xs, .int .i64 m] => okB xs && m == 4194304 | _ => false }
noncomputable def k23 : Con := { F := fun | [.sl 1 xs, .int .i64 n] => some (.own 1 (fewV xs n) none, []) | _ => none, pars := [.sl 1, .int .i64], res := .own 5 1 false, pre := fun | [.sl 1 xs, .int .i64 n] => okB xs && decide (0 ≤ n) | _ => false }
noncomputable def k18 : Con := { F := fun | [.int .i64 n, .int .i64 m] => some (.int .i64 (pickV n m), []) | _ => none, pars := [.int .i64, .int .i64], res := .int .i64, pre := fun | [.int .i64 n, .int .i64 m] => decide (1 ≤ m) && (decide (m ≤ 9223372036854775807) && (decide (-9223372036854775808 ≤ n) && decide (n ≤ 9223372036854775807))) | _ => false }
noncomputable def sealL : Int → List AV → List AV := hide fun k xs => bif decide (1 ≤ k) && decide (k ≤ 255) then closV (.int .u8 (veiled.wrap .u8 k) :: cntV (xs.length : Int) ++ xs) else []
noncomputable def sealE : Int → Int := hide fun k => bif decide (1 ≤ k) && decide (k ≤ 255) then 0 else 1
noncomputable def k22 : Con := { F := fun | [.int .i64 k, .sl 1 xs] => some (.tup [.own 1 (sealL k xs) none, .int .i64 (sealE k)], []) | _ => none, pars := [.int .i64, .sl 1], res := .tup [.own 5 1 false, .int .i64], pre := fun | [.int .i64 _, .sl 1 xs] => okB xs && Nat.ble xs.length 4096 | _ => false }
noncomputable def k25 : Con := { F := fun | [.int .i64 k, .sl 1 xs] => some (.own 1 (sealL k xs) none, []) | _ => none, pars := [.int .i64, .sl 1], res := .own 5 1 false, pre := fun | [.int .i64 k, .sl 1 xs] => okB xs && (Nat.ble xs.length 4096 && (decide (1 ≤ k) && decide (k ≤ 255))) | _ => false }
/-- The record that bytes begin with: its kind, body, size, or an error. -/
noncomputable def nxt (xs : List AV) : Int × List AV × Int × Int := match xs with
  | [] => (0, [], 0, 3)
  | x :: rest => if toN x = 0 then (0, [], 0, 2) else match cd (rest.map toN) 0 0 with
    | (n, a, e) => if e ≠ 0 then (0, [], 0, (e : Int)) else if xs.length < 1 + a + n + 8 then (0, [], 0, 3)
      else if ((xs.drop (1 + a + n)).take 8).map toN ≠ (sumB (sumV (xs.take (1 + a + n)))).map toN then (0, [], 0, 13)
      else ((toN x : Int), (xs.take (1 + a + n)).drop (1 + a), ((1 + a + n + 8 : Nat) : Int), 0)
noncomputable def nxK : List AV → Int := hide fun xs => (nxt xs).1
noncomputable def nxB : List AV → List AV := hide fun xs => (nxt xs).2.1
noncomputable def nxS : List AV → Int := hide fun xs => (nxt xs).2.2.1
noncomputable def nxE : List AV → Int := hide fun xs => (nxt xs).2.2.2
noncomputable def k27 : Con := { F := fun | [.sl 1 xs] => some (.tup [.int .i64 (nxK xs), .sl 1 (nxB xs), .int .i64 (nxS xs), .int .i64 (nxE xs)], []) | _ => none, pars := [.sl 1], res := .tup [.int .i64, .sl 1, .int .i64, .int .i64], pre := fun | [.sl 1 xs] => okB xs | _ => false }
noncomputable def k28 : Con := { F := fun | [.sl 1 xs] => some (.tup [.int .i64 (nxK xs), .own 1 (nxB xs) none, .int .i64 (nxS xs), .int .i64 (nxE xs)], []) | _ => none, pars := [.sl 1], res := .tup [.int .i64, .own 5 1 false, .int .i64, .int .i64], pre := fun | [.sl 1 xs] => okB xs | _ => false }
end Go.Proofs.Ytoocidelbmbgcaa.Oc
