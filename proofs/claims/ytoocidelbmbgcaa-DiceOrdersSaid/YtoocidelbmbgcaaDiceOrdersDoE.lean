/- Part of the proofs: the verified interpreter for the program's functions, or lemmas on what they compute; no condition. -/
import Derived.Test.YtoocidelbmbgcaaDiceOrdersDo3
namespace Go.Proofs.Ytoocidelbmbgcaa.Bi
open Go.Ai
noncomputable def b571 : (List AV → Option (Nat × List AV)) → List AV → Option (Nat × List AV) := fun again vs =>
  hdK vs fun v vs =>
    fitX v fun cs =>
      hdK cs fun c cs =>
        nlK cs
          (fitA c fun cs =>
            hdK cs fun c cs =>
              fitI IntKind.u64 c fun n =>
                nlK cs
                  (hdK vs fun v vs =>
                    fitI IntKind.i64 v fun n_1 =>
                      hdK vs fun v vs =>
                        fitI IntKind.u64 v fun n_2 =>
                          nlK vs
                            (br (decide (nx n ≤ veiled.wrap IntKind.u64 (18446744073709551615 - n_2)))
                              (preK (decide (veiled.wrap IntKind.u64 n_1 ≠ 0))
                                (some
                                  (0,
                                    [AV.box [AV.agg [AV.int IntKind.u64 (turn n)]],
                                      AV.int IntKind.i64
                                        (veiled.wrap IntKind.i64 (veiled.rem (nx n) (veiled.wrap IntKind.u64 n_1)))])))
                              (again
                                [AV.box [AV.agg [AV.int IntKind.u64 (turn n)]], AV.int IntKind.i64 n_1,
                                  AV.int IntKind.u64 n_2]))))
theorem t571 (again : List AV → Option (Nat × List AV)) (i1 : Int) (i2 : Int) (i3 : Int) : b571 again [AV.box [AV.agg [AV.int IntKind.u64 i1]], AV.int IntKind.i64 i2, AV.int IntKind.u64 i3] =
    br (decide (nx i1 ≤ veiled.wrap IntKind.u64 (18446744073709551615 - i3)))
  (preK (decide (veiled.wrap IntKind.u64 i2 ≠ 0))
    (some
      (0,
        [AV.box [AV.agg [AV.int IntKind.u64 (turn i1)]],
          AV.int IntKind.i64 (veiled.wrap IntKind.i64 (veiled.rem (nx i1) (veiled.wrap IntKind.u64 i2)))])))
  (again [AV.box [AV.agg [AV.int IntKind.u64 (turn i1)]], AV.int IntKind.i64 i2, AV.int IntKind.u64 i3]) := by kernel_rfl
noncomputable def x571 : List (List AV → Option (AV × List AV)) := [fun ws =>
  hdK ws fun v vs =>
    fitX v fun cs =>
      hdK cs fun c cs =>
        nlK cs
          (fitA c fun cs =>
            hdK cs fun c cs =>
              fitI IntKind.u64 c fun n =>
                nlK cs
                  (hdK vs fun v vs =>
                    fitI IntKind.i64 v fun n_1 =>
                      nlK vs (some (AV.int IntKind.i64 n_1, [AV.box [AV.agg [AV.int IntKind.u64 n]]]))))]
theorem u571_0 (i1 : Int) (i2 : Int) : sel (some (0, [AV.box [AV.agg [AV.int IntKind.u64 i1]], AV.int IntKind.i64 i2])) x571 =
    (some (AV.int IntKind.i64 i2, [AV.box [AV.agg [AV.int IntKind.u64 i1]]]) : Option (AV × List AV)) := by kernel_rfl
theorem e57 (s : Int) (n : Int) : funK (cx [(15, k15)]) big F57 [AV.box [AV.agg [AV.int IntKind.u64 s]], AV.int IntKind.i64 n] =
    br (decide (n < 1)) (some (AV.int IntKind.i64 0, [AV.box [AV.agg [AV.int IntKind.u64 s]]]))
  (preK (decide (veiled.wrap IntKind.u64 n ≠ 0))
    (sel
      (loopN b571 big
        [AV.box [AV.agg [AV.int IntKind.u64 s]], AV.int IntKind.i64 n,
          AV.int IntKind.u64
            (veiled.rem (veiled.wrap IntKind.u64 (0 - veiled.wrap IntKind.u64 n)) (veiled.wrap IntKind.u64 n))])
      x571)) := by kernel_rfl
noncomputable def b581 : (List AV → Option (Nat × List AV)) → List AV → Option (Nat × List AV) := fun again vs =>
  hdK vs fun v vs =>
    fitF 57 v fun l m =>
      hdK l fun c cs =>
        fitX c fun cs_1 =>
          hdK cs_1 fun c cs_2 =>
            nlK cs_2
              (fitA c fun cs_3 =>
                hdK cs_3 fun c cs_4 =>
                  fitI IntKind.u64 c fun n =>
                    nlK cs_4
                      (nlK cs
                        (nlK m
                          (hdK vs fun v vs =>
                            fitI IntKind.i64 v fun n_1 =>
                              hdK vs fun v vs =>
                                fitO 1 v fun xs p =>
                                  hdK vs fun v vs =>
                                    fitI IntKind.i64 v fun n_2 =>
                                      hdK vs fun v vs =>
                                        fitI IntKind.i64 v fun n_3 =>
                                          nlK vs
                                            (br (decide (n_3 < n_2))
                                              (preK (decide (n_1 ≤ 9223372036854775807))
                                                (idxK n_3 (partOf xs p).length fun j =>
                                                  again
                                                    [AV.fn 57 [AV.box [AV.agg [AV.int IntKind.u64 (belS n_1 n)]]] [],
                                                      AV.int IntKind.i64 n_1,
                                                      AV.own 1
                                                        (xs.set ((Option.map (fun x => x.1) p).getD 0 + j)
                                                          (AV.int IntKind.i64 (belV n_1 n)))
                                                        p,
                                                      AV.int IntKind.i64 n_2,
                                                      AV.int IntKind.i64 (veiled.wrap IntKind.i64 (n_3 + 1))]))
                                              (some
                                                (0,
                                                  [AV.fn 57 [AV.box [AV.agg [AV.int IntKind.u64 n]]] [],
                                                    AV.own 1 xs p])))))))
theorem t581 (again : List AV → Option (Nat × List AV)) (i1 : Int) (i2 : Int) (xs1 : List AV) (i3 : Int) (i4 : Int) : b581 again
  [AV.fn 57 [AV.box [AV.agg [AV.int IntKind.u64 i1]]] [], AV.int IntKind.i64 i2, AV.own 1 xs1 none,
    AV.int IntKind.i64 i3, AV.int IntKind.i64 i4] =
    br (decide (i4 < i3))
  (preK (decide (i2 ≤ 9223372036854775807))
    (idxK i4 xs1.length fun j =>
      again
        [AV.fn 57 [AV.box [AV.agg [AV.int IntKind.u64 (belS i2 i1)]]] [], AV.int IntKind.i64 i2,
          AV.own 1 (xs1.set (0 + j) (AV.int IntKind.i64 (belV i2 i1))) none, AV.int IntKind.i64 i3,
          AV.int IntKind.i64 (veiled.wrap IntKind.i64 (i4 + 1))]))
  (some (0, [AV.fn 57 [AV.box [AV.agg [AV.int IntKind.u64 i1]]] [], AV.own 1 xs1 none])) := by kernel_rfl
noncomputable def x581 : List (List AV → Option (AV × List AV)) := [fun ws =>
  hdK ws fun v vs =>
    fitF 57 v fun l m =>
      hdK l fun c cs =>
        fitX c fun cs_1 =>
          hdK cs_1 fun c cs_2 =>
            nlK cs_2
              (fitA c fun cs_3 =>
                hdK cs_3 fun c cs_4 =>
                  fitI IntKind.u64 c fun n =>
                    nlK cs_4
                      (nlK cs
                        (nlK m
                          (hdK vs fun v vs =>
                            fitO 1 v fun xs p =>
                              nlK vs (some (AV.own 1 xs p, [AV.fn 57 [AV.box [AV.agg [AV.int IntKind.u64 n]]] []]))))))]
theorem u581_0 (i1 : Int) (xs1 : List AV) : sel (some (0, [AV.fn 57 [AV.box [AV.agg [AV.int IntKind.u64 i1]]] [], AV.own 1 xs1 none])) x581 =
    (some (AV.own 1 xs1 none, [AV.fn 57 [AV.box [AV.agg [AV.int IntKind.u64 i1]]] []]) : Option (AV × List AV)) := by kernel_rfl
theorem e58 (s : Int) (n : Int) (k : Int) : funK (cx [(57, k57)]) big F58
  [AV.fn 57 [AV.box [AV.agg [AV.int IntKind.u64 s]]] [], AV.int IntKind.i64 n, AV.int IntKind.i64 k] =
    okK (0 ≤ k ∧ k ≤ k ∧ k * (↑8 : Int) ≤ 140737488355328 ∧ 0 < 8 ∧ 0 < 1)
  (sel
    (loopN b581 big
      [AV.fn 57 [AV.box [AV.agg [AV.int IntKind.u64 s]]] [], AV.int IntKind.i64 n,
        AV.own 1 (List.replicate k.toNat (AV.int IntKind.i64 0)) none,
        AV.int IntKind.i64 (↑(List.replicate k.toNat (AV.int IntKind.i64 0)).length : Int), AV.int IntKind.i64 0])
    x581) := by kernel_rfl
noncomputable def b201 : (List AV → Option (Nat × List AV)) → List AV → Option (Nat × List AV) := fun again vs =>
  hdK vs fun v vs =>
    fitS 1 v fun xs =>
      hdK vs fun v vs =>
        fitS 1 v fun xs_1 =>
          hdK vs fun v vs =>
            fitI IntKind.i64 v fun n =>
              nlK vs
                (br (decide (n < (↑xs.length : Int)))
                  (idxK n xs.length fun j =>
                    nthK xs j fun y =>
                      fitI IntKind.i64 y fun n_1 =>
                        idxK n xs_1.length fun j =>
                          nthK xs_1 j fun y =>
                            fitI IntKind.i64 y fun n_2 =>
                              br (n_1 != n_2) (some (0, [AV.bool false]))
                                (again
                                  [AV.sl 1 xs, AV.sl 1 xs_1, AV.int IntKind.i64 (veiled.wrap IntKind.i64 (n + 1))]))
                  (some (1, [])))
theorem t201 (again : List AV → Option (Nat × List AV)) (xs1 : List AV) (xs2 : List AV) (i1 : Int) : b201 again [AV.sl 1 xs1, AV.sl 1 xs2, AV.int IntKind.i64 i1] =
    br (decide (i1 < (↑xs1.length : Int)))
  (idxK i1 xs1.length fun j =>
    nthK xs1 j fun y =>
      fitI IntKind.i64 y fun n =>
        idxK i1 xs2.length fun j =>
          nthK xs2 j fun y =>
            fitI IntKind.i64 y fun n_1 =>
              br (n != n_1) (some (0, [AV.bool false]))
                (again [AV.sl 1 xs1, AV.sl 1 xs2, AV.int IntKind.i64 (veiled.wrap IntKind.i64 (i1 + 1))]))
  (some (1, [])) := by kernel_rfl
noncomputable def x201 : List (List AV → Option (AV × List AV)) := [fun ws => hdK ws fun v vs => fitB v fun b => nlK vs (some (AV.bool b, [])), fun ws => nlK ws (some (AV.bool true, []))]
theorem u201_0 (b1 : Bool) : sel (some (0, [AV.bool b1])) x201 =
    (some (AV.bool b1, []) : Option (AV × List AV)) := by kernel_rfl
theorem u201_1 : sel (some (1, [])) x201 =
    (some (AV.bool true, []) : Option (AV × List AV)) := by kernel_rfl
theorem e20 (xs : List AV) (ys : List AV) : funK (cx []) big F20 [AV.sl 1 xs, AV.sl 1 ys] =
    br ((↑xs.length : Int) != (↑ys.length : Int)) (some (AV.bool false, []))
  (sel (loopN b201 big [AV.sl 1 xs, AV.sl 1 ys, AV.int IntKind.i64 0]) x201) := by kernel_rfl
noncomputable def b191 : (List AV → Option (Nat × List AV)) → List AV → Option (Nat × List AV) := fun again vs =>
  hdK vs fun v vs =>
    fitX v fun cs =>
      hdK cs fun c cs =>
        nlK cs
          (fitA c fun cs =>
            hdK cs fun c cs =>
              fitI IntKind.u64 c fun n =>
                nlK cs
                  (hdK vs fun v vs =>
                    fitI IntKind.i64 v fun n_1 =>
                      hdK vs fun v vs =>
                        fitO 1 v fun xs p =>
                          hdK vs fun v vs =>
                            fitI IntKind.i64 v fun n_2 =>
                              hdK vs fun v vs =>
                                fitI IntKind.i64 v fun n_3 =>
                                  nlK vs
                                    (br (decide (n_3 < n_2))
                                      (idxK n_3 (partOf xs p).length fun j =>
                                        again
                                          [AV.box [AV.agg [AV.int IntKind.u64 n]], AV.int IntKind.i64 n_1,
                                            AV.own 1
                                              (xs.set ((Option.map (fun x => x.1) p).getD 0 + j)
                                                (AV.int IntKind.i64 n_3))
                                              p,
                                            AV.int IntKind.i64 n_2,
                                            AV.int IntKind.i64 (veiled.wrap IntKind.i64 (n_3 + 1))])
                                      (some
                                        (0,
                                          [AV.box [AV.agg [AV.int IntKind.u64 n]], AV.int IntKind.i64 n_1,
                                            AV.own 1 xs p])))))
theorem t191 (again : List AV → Option (Nat × List AV)) (i1 : Int) (i2 : Int) (xs1 : List AV) (i3 : Int) (i4 : Int) : b191 again
  [AV.box [AV.agg [AV.int IntKind.u64 i1]], AV.int IntKind.i64 i2, AV.own 1 xs1 none, AV.int IntKind.i64 i3,
    AV.int IntKind.i64 i4] =
    br (decide (i4 < i3))
  (idxK i4 xs1.length fun j =>
    again
      [AV.box [AV.agg [AV.int IntKind.u64 i1]], AV.int IntKind.i64 i2,
        AV.own 1 (xs1.set (0 + j) (AV.int IntKind.i64 i4)) none, AV.int IntKind.i64 i3,
        AV.int IntKind.i64 (veiled.wrap IntKind.i64 (i4 + 1))])
  (some (0, [AV.box [AV.agg [AV.int IntKind.u64 i1]], AV.int IntKind.i64 i2, AV.own 1 xs1 none])) := by kernel_rfl
noncomputable def b192 : (List AV → Option (Nat × List AV)) → List AV → Option (Nat × List AV) := fun again vs =>
  hdK vs fun v vs =>
    fitX v fun cs =>
      hdK cs fun c cs =>
        nlK cs
          (fitA c fun cs =>
            hdK cs fun c cs =>
              fitI IntKind.u64 c fun n =>
                nlK cs
                  (hdK vs fun v vs =>
                    fitO 1 v fun xs p =>
                      hdK vs fun v vs =>
                        fitI IntKind.i64 v fun n_1 =>
                          nlK vs
                            (br (decide (n_1 ≥ 1))
                              (preK (decide (veiled.wrap IntKind.i64 (n_1 + 1) ≤ 9223372036854775807))
                                (idxK (belV (veiled.wrap IntKind.i64 (n_1 + 1)) n) (partOf xs p).length fun j =>
                                  nthK xs ((Option.map (fun x => x.1) p).getD 0 + j) fun x =>
                                    fitI IntKind.i64 x fun n_2 =>
                                      idxK n_1 (partOf xs p).length fun j =>
                                        nthK xs ((Option.map (fun x => x.1) p).getD 0 + j) fun x =>
                                          fitI IntKind.i64 x fun n_3 =>
                                            idxK n_1 (partOf xs p).length fun j =>
                                              idxK (belV (veiled.wrap IntKind.i64 (n_1 + 1)) n)
                                                (partOf
                                                    (xs.set ((Option.map (fun x => x.1) p).getD 0 + j)
                                                      (AV.int IntKind.i64 n_2))
                                                    p).length
                                                fun j_1 =>
                                                again
                                                  [AV.box
                                                      [AV.agg
                                                          [AV.int IntKind.u64
                                                              (belS (veiled.wrap IntKind.i64 (n_1 + 1)) n)]],
                                                    AV.own 1
                                                      ((xs.set ((Option.map (fun x => x.1) p).getD 0 + j)
                                                            (AV.int IntKind.i64 n_2)).set
                                                        ((Option.map (fun x => x.1) p).getD 0 + j_1)
                                                        (AV.int IntKind.i64 n_3))
                                                      p,
                                                    AV.int IntKind.i64 (veiled.wrap IntKind.i64 (n_1 - 1))]))
                              (some (0, [AV.box [AV.agg [AV.int IntKind.u64 n]], AV.own 1 xs p])))))
theorem t192 (again : List AV → Option (Nat × List AV)) (i1 : Int) (xs1 : List AV) (i2 : Int) : b192 again [AV.box [AV.agg [AV.int IntKind.u64 i1]], AV.own 1 xs1 none, AV.int IntKind.i64 i2] =
    br (decide (i2 ≥ 1))
  (preK (decide (veiled.wrap IntKind.i64 (i2 + 1) ≤ 9223372036854775807))
    (idxK (belV (veiled.wrap IntKind.i64 (i2 + 1)) i1) xs1.length fun j =>
      nthK xs1 (0 + j) fun x =>
        fitI IntKind.i64 x fun n =>
          idxK i2 xs1.length fun j =>
            nthK xs1 (0 + j) fun x =>
              fitI IntKind.i64 x fun n_1 =>
                idxK i2 xs1.length fun j =>
                  idxK (belV (veiled.wrap IntKind.i64 (i2 + 1)) i1) (xs1.set (0 + j) (AV.int IntKind.i64 n)).length
                    fun j_1 =>
                    again
                      [AV.box [AV.agg [AV.int IntKind.u64 (belS (veiled.wrap IntKind.i64 (i2 + 1)) i1)]],
                        AV.own 1 ((xs1.set (0 + j) (AV.int IntKind.i64 n)).set (0 + j_1) (AV.int IntKind.i64 n_1)) none,
                        AV.int IntKind.i64 (veiled.wrap IntKind.i64 (i2 - 1))]))
  (some (0, [AV.box [AV.agg [AV.int IntKind.u64 i1]], AV.own 1 xs1 none])) := by kernel_rfl
noncomputable def x191 : List (List AV → Option (AV × List AV)) := [fun ws =>
  hdK ws fun v vs =>
    fitX v fun cs =>
      hdK cs fun c cs =>
        nlK cs
          (fitA c fun cs =>
            hdK cs fun c cs =>
              fitI IntKind.u64 c fun n =>
                nlK cs
                  (hdK vs fun v vs =>
                    fitO 1 v fun xs p => nlK vs (some (AV.own 1 xs p, [AV.box [AV.agg [AV.int IntKind.u64 n]]]))))]
theorem u191_0 (i1 : Int) (xs1 : List AV) : sel (some (0, [AV.box [AV.agg [AV.int IntKind.u64 i1]], AV.own 1 xs1 none])) x191 =
    (some (AV.own 1 xs1 none, [AV.box [AV.agg [AV.int IntKind.u64 i1]]]) : Option (AV × List AV)) := by kernel_rfl
noncomputable def x192 : List (List AV → Option (AV × List AV)) := [fun ws =>
  hdK ws fun v vs =>
    fitX v fun cs =>
      hdK cs fun c cs =>
        nlK cs
          (fitA c fun cs =>
            hdK cs fun c cs =>
              fitI IntKind.u64 c fun n =>
                nlK cs
                  (hdK vs fun v vs =>
                    fitI IntKind.i64 v fun n_1 =>
                      hdK vs fun v vs =>
                        fitO 1 v fun xs p =>
                          nlK vs
                            (sel
                              (loopN b192 big
                                [AV.box [AV.agg [AV.int IntKind.u64 n]], AV.own 1 xs p,
                                  AV.int IntKind.i64 (veiled.wrap IntKind.i64 (n_1 - 1))])
                              x191)))]
theorem u192_0 (i1 : Int) (i2 : Int) (xs1 : List AV) : sel (some (0, [AV.box [AV.agg [AV.int IntKind.u64 i1]], AV.int IntKind.i64 i2, AV.own 1 xs1 none])) x192 =
    (sel
  (loopN b192 big
    [AV.box [AV.agg [AV.int IntKind.u64 i1]], AV.own 1 xs1 none, AV.int IntKind.i64 (veiled.wrap IntKind.i64 (i2 - 1))])
  x191 : Option (AV × List AV)) := by kernel_rfl
theorem e19 (s : Int) (n : Int) : funK (cx [(57, k57)]) big F19 [AV.box [AV.agg [AV.int IntKind.u64 s]], AV.int IntKind.i64 n] =
    br (decide (n < 1)) (some (AV.own 1 [] none, [AV.box [AV.agg [AV.int IntKind.u64 s]]]))
  (br (decide (n > 65536)) (some (AV.own 1 [] none, [AV.box [AV.agg [AV.int IntKind.u64 s]]]))
    (okK (0 ≤ n ∧ n ≤ n ∧ n * (↑8 : Int) ≤ 140737488355328 ∧ 0 < 8 ∧ 0 < 1)
      (sel
        (loopN b191 big
          [AV.box [AV.agg [AV.int IntKind.u64 s]], AV.int IntKind.i64 n,
            AV.own 1 (List.replicate n.toNat (AV.int IntKind.i64 0)) none,
            AV.int IntKind.i64 (↑(List.replicate n.toNat (AV.int IntKind.i64 0)).length : Int), AV.int IntKind.i64 0])
        x192))) := by kernel_rfl
theorem e18 (n : Int) (m : Int) : funK (cx []) big F18 [AV.int IntKind.i64 n, AV.int IntKind.i64 m] =
    preK (decide (m ≠ 0))
  (br (decide (veiled.rem n m < 0)) (some (AV.int IntKind.i64 (veiled.wrap IntKind.i64 (veiled.rem n m + m)), []))
    (some (AV.int IntKind.i64 (veiled.rem n m), []))) := by kernel_rfl
theorem e21 (s : Int) (n : Int) (k : Int) : funK (cx [(58, k58)]) big F21 [AV.box [AV.agg [AV.int IntKind.u64 s]], AV.int IntKind.i64 n, AV.int IntKind.i64 k] =
    br (decide (n < 1)) (some (AV.sl 1 [], [AV.box [AV.agg [AV.int IntKind.u64 s]]]))
  (br (decide (k < 1)) (some (AV.sl 1 [], [AV.box [AV.agg [AV.int IntKind.u64 s]]]))
    (br (decide (k > 65536)) (some (AV.sl 1 [], [AV.box [AV.agg [AV.int IntKind.u64 s]]]))
      (preK
        (match decide (n ≤ 9223372036854775807) with
        | false => false
        | true => decide (0 ≤ k) && decide (k ≤ 65536))
        (some (AV.sl 1 (drawV n k s), [AV.box [AV.agg [AV.int IntKind.u64 (drawS n k s)]]]))))) := by kernel_rfl
noncomputable def b41 : (List AV → Option (Nat × List AV)) → List AV → Option (Nat × List AV) := fun again vs =>
  hdK vs fun v vs =>
    fitI IntKind.i64 v fun n =>
      hdK vs fun v vs =>
        fitI IntKind.i64 v fun n_1 =>
          hdK vs fun v vs =>
            fitX v fun cs =>
              hdK cs fun c cs =>
                nlK cs
                  (fitA c fun cs =>
                    hdK cs fun c cs =>
                      fitI IntKind.u64 c fun n_2 =>
                        nlK cs
                          (hdK vs fun v vs =>
                            fitS 1 v fun xs =>
                              hdK vs fun v vs =>
                                fitO 1 v fun xs_1 p =>
                                  hdK vs fun v vs =>
                                    fitI IntKind.i64 v fun n_3 =>
                                      nlK vs
                                        (br (decide (n_3 < n))
                                          (idxK n_3 xs.length fun j =>
                                            nthK xs j fun y =>
                                              fitI IntKind.i64 y fun n_4 =>
                                                br (decide (n_4 < 0)) (some (0, [AV.bool false]))
                                                  (idxK n_3 xs.length fun j =>
                                                    nthK xs j fun y =>
                                                      fitI IntKind.i64 y fun n_5 =>
                                                        br (decide (n_5 ≥ n)) (some (0, [AV.bool false]))
                                                          (idxK n_3 xs.length fun j =>
                                                            nthK xs j fun y =>
                                                              fitI IntKind.i64 y fun n_6 =>
                                                                idxK n_6 (partOf xs_1 p).length fun j =>
                                                                  nthK xs_1 ((Option.map (fun x => x.1) p).getD 0 + j)
                                                                    fun x =>
                                                                    fitI IntKind.i64 x fun n_7 =>
                                                                      br (decide (n_7 > 0)) (some (0, [AV.bool false]))
                                                                        (idxK n_3 xs.length fun j =>
                                                                          nthK xs j fun y =>
                                                                            fitI IntKind.i64 y fun n_8 =>
                                                                              idxK n_8 (partOf xs_1 p).length fun j =>
                                                                                nthK xs_1
                                                                                  ((Option.map (fun x => x.1) p).getD
                                                                                      0 +
                                                                                    j)
                                                                                  fun x =>
                                                                                  fitI IntKind.i64 x fun n_9 =>
                                                                                    idxK n_8 (partOf xs_1 p).length
                                                                                      fun j =>
                                                                                      again
                                                                                        [AV.int IntKind.i64 n,
                                                                                          AV.int IntKind.i64 n_1,
                                                                                          AV.box
                                                                                            [AV.agg
                                                                                                [AV.int IntKind.u64
                                                                                                    n_2]],
                                                                                          AV.sl 1 xs,
                                                                                          AV.own 1
                                                                                            (xs_1.set
                                                                                              ((Option.map
                                                                                                      (fun x => x.1)
                                                                                                      p).getD
                                                                                                  0 +
                                                                                                j)
                                                                                              (AV.int IntKind.i64
                                                                                                (veiled.wrap IntKind.i64
                                                                                                  (n_9 + 1))))
                                                                                            p,
                                                                                          AV.int IntKind.i64
                                                                                            (veiled.wrap IntKind.i64
                                                                                              (n_3 + 1))]))))
                                          (some
                                            (1,
                                              [AV.int IntKind.i64 n, AV.int IntKind.i64 n_1,
                                                AV.box [AV.agg [AV.int IntKind.u64 n_2]]])))))
theorem t41 (again : List AV → Option (Nat × List AV)) (i1 : Int) (i2 : Int) (i3 : Int) (xs1 : List AV) (xs2 : List AV) (i4 : Int) : b41 again
  [AV.int IntKind.i64 i1, AV.int IntKind.i64 i2, AV.box [AV.agg [AV.int IntKind.u64 i3]], AV.sl 1 xs1,
    AV.own 1 xs2 none, AV.int IntKind.i64 i4] =
    br (decide (i4 < i1))
  (idxK i4 xs1.length fun j =>
    nthK xs1 j fun y =>
      fitI IntKind.i64 y fun n =>
        br (decide (n < 0)) (some (0, [AV.bool false]))
          (idxK i4 xs1.length fun j =>
            nthK xs1 j fun y =>
              fitI IntKind.i64 y fun n =>
                br (decide (n ≥ i1)) (some (0, [AV.bool false]))
                  (idxK i4 xs1.length fun j =>
                    nthK xs1 j fun y =>
                      fitI IntKind.i64 y fun n =>
                        idxK n xs2.length fun j =>
                          nthK xs2 (0 + j) fun x =>
                            fitI IntKind.i64 x fun n =>
                              br (decide (n > 0)) (some (0, [AV.bool false]))
                                (idxK i4 xs1.length fun j =>
                                  nthK xs1 j fun y =>
                                    fitI IntKind.i64 y fun n =>
                                      idxK n xs2.length fun j =>
                                        nthK xs2 (0 + j) fun x =>
                                          fitI IntKind.i64 x fun n_1 =>
                                            idxK n xs2.length fun j =>
                                              again
                                                [AV.int IntKind.i64 i1, AV.int IntKind.i64 i2,
                                                  AV.box [AV.agg [AV.int IntKind.u64 i3]], AV.sl 1 xs1,
                                                  AV.own 1
                                                    (xs2.set (0 + j)
                                                      (AV.int IntKind.i64 (veiled.wrap IntKind.i64 (n_1 + 1))))
                                                    none,
                                                  AV.int IntKind.i64 (veiled.wrap IntKind.i64 (i4 + 1))]))))
  (some (1, [AV.int IntKind.i64 i1, AV.int IntKind.i64 i2, AV.box [AV.agg [AV.int IntKind.u64 i3]]])) := by kernel_rfl
noncomputable def b42 : (List AV → Option (Nat × List AV)) → List AV → Option (Nat × List AV) := fun again vs =>
  hdK vs fun v vs =>
    fitI IntKind.i64 v fun n =>
      hdK vs fun v vs =>
        fitI IntKind.i64 v fun n_1 =>
          hdK vs fun v vs =>
            fitX v fun cs =>
              hdK cs fun c cs =>
                nlK cs
                  (fitA c fun cs =>
                    hdK cs fun c cs =>
                      fitI IntKind.u64 c fun n_2 =>
                        nlK cs
                          (hdK vs fun v vs =>
                            fitX v fun cs =>
                              hdK cs fun c cs =>
                                nlK cs
                                  (fitA c fun cs =>
                                    hdK cs fun c cs =>
                                      fitI IntKind.u64 c fun n_3 =>
                                        nlK cs
                                          (hdK vs fun v vs =>
                                            fitS 1 v fun xs =>
                                              hdK vs fun v vs =>
                                                fitI IntKind.i64 v fun n_4 =>
                                                  nlK vs
                                                    (br (decide (n_4 < n_1))
                                                      (idxK n_4 xs.length fun j =>
                                                        nthK xs j fun y =>
                                                          fitI IntKind.i64 y fun n_5 =>
                                                            br (decide (n_5 < 0)) (some (0, [AV.bool false]))
                                                              (idxK n_4 xs.length fun j =>
                                                                nthK xs j fun y =>
                                                                  fitI IntKind.i64 y fun n_6 =>
                                                                    br (decide (n_6 ≥ n)) (some (0, [AV.bool false]))
                                                                      (again
                                                                        [AV.int IntKind.i64 n, AV.int IntKind.i64 n_1,
                                                                          AV.box [AV.agg [AV.int IntKind.u64 n_2]],
                                                                          AV.box [AV.agg [AV.int IntKind.u64 n_3]],
                                                                          AV.sl 1 xs,
                                                                          AV.int IntKind.i64
                                                                            (veiled.wrap IntKind.i64 (n_4 + 1))])))
                                                      (some
                                                        (1,
                                                          [AV.box [AV.agg [AV.int IntKind.u64 n_2]],
                                                            AV.box [AV.agg [AV.int IntKind.u64 n_3]]])))))))
theorem t42 (again : List AV → Option (Nat × List AV)) (i1 : Int) (i2 : Int) (i3 : Int) (i4 : Int) (xs1 : List AV) (i5 : Int) : b42 again
  [AV.int IntKind.i64 i1, AV.int IntKind.i64 i2, AV.box [AV.agg [AV.int IntKind.u64 i3]],
    AV.box [AV.agg [AV.int IntKind.u64 i4]], AV.sl 1 xs1, AV.int IntKind.i64 i5] =
    br (decide (i5 < i2))
  (idxK i5 xs1.length fun j =>
    nthK xs1 j fun y =>
      fitI IntKind.i64 y fun n =>
        br (decide (n < 0)) (some (0, [AV.bool false]))
          (idxK i5 xs1.length fun j =>
            nthK xs1 j fun y =>
              fitI IntKind.i64 y fun n =>
                br (decide (n ≥ i1)) (some (0, [AV.bool false]))
                  (again
                    [AV.int IntKind.i64 i1, AV.int IntKind.i64 i2, AV.box [AV.agg [AV.int IntKind.u64 i3]],
                      AV.box [AV.agg [AV.int IntKind.u64 i4]], AV.sl 1 xs1,
                      AV.int IntKind.i64 (veiled.wrap IntKind.i64 (i5 + 1))])))
  (some (1, [AV.box [AV.agg [AV.int IntKind.u64 i3]], AV.box [AV.agg [AV.int IntKind.u64 i4]]])) := by kernel_rfl
noncomputable def x41 : List (List AV → Option (AV × List AV)) := [fun ws => hdK ws fun v vs => fitB v fun b => nlK vs (some (AV.bool b, [])), fun ws =>
  hdK ws fun v vs =>
    fitX v fun cs =>
      hdK cs fun c cs =>
        nlK cs
          (fitA c fun cs =>
            hdK cs fun c cs =>
              fitI IntKind.u64 c fun n =>
                nlK cs
                  (hdK vs fun v vs =>
                    fitX v fun cs =>
                      hdK cs fun c cs =>
                        nlK cs
                          (fitA c fun cs =>
                            hdK cs fun c cs =>
                              fitI IntKind.u64 c fun n_1 =>
                                nlK cs
                                  (nlK vs
                                    (br (n == n_1) (some (AV.bool (nx n == nx n_1), []))
                                      (some (AV.bool false, [])))))))]
theorem u41_0 (b1 : Bool) : sel (some (0, [AV.bool b1])) x41 =
    (some (AV.bool b1, []) : Option (AV × List AV)) := by kernel_rfl
theorem u41_1 (i1 : Int) (i2 : Int) : sel (some (1, [AV.box [AV.agg [AV.int IntKind.u64 i1]], AV.box [AV.agg [AV.int IntKind.u64 i2]]])) x41 =
    (br (i1 == i2) (some (AV.bool (nx i1 == nx i2), [])) (some (AV.bool false, [])) : Option (AV × List AV)) := by kernel_rfl
noncomputable def x42 : List (List AV → Option (AV × List AV)) := [fun ws => hdK ws fun v vs => fitB v fun b => nlK vs (some (AV.bool b, [])), fun ws =>
  hdK ws fun v vs =>
    fitI IntKind.i64 v fun n =>
      hdK vs fun v vs =>
        fitI IntKind.i64 v fun n_1 =>
          hdK vs fun v vs =>
            fitX v fun cs =>
              hdK cs fun c cs =>
                nlK cs
                  (fitA c fun cs =>
                    hdK cs fun c cs =>
                      fitI IntKind.u64 c fun n_2 =>
                        nlK cs
                          (nlK vs
                            (preK
                              (match decide (n ≤ 9223372036854775807) with
                              | false => false
                              | true => decide (1 ≤ n) && (decide (0 ≤ n_1) && decide (n_1 ≤ 65536)))
                              (br ((↑(drawV n n_1 n_2).length : Int) != n_1) (some (AV.bool false, []))
                                (preK
                                  (match decide (n ≤ 9223372036854775807) with
                                  | false => false
                                  | true => decide (1 ≤ n) && (decide (0 ≤ n_1) && decide (n_1 ≤ 65536)))
                                  (preK
                                    (match okInts (drawV n n_1 n_2) with
                                    | false => false
                                    | true => okInts (drawV n n_1 n_2))
                                    (br (!sameV (drawV n n_1 n_2) (drawV n n_1 n_2)) (some (AV.bool false, []))
                                      (sel
                                        (loopN b42 big
                                          [AV.int IntKind.i64 n, AV.int IntKind.i64 n_1,
                                            AV.box [AV.agg [AV.int IntKind.u64 (drawS n n_1 n_2)]],
                                            AV.box [AV.agg [AV.int IntKind.u64 (drawS n n_1 n_2)]],
                                            AV.sl 1 (drawV n n_1 n_2), AV.int IntKind.i64 0])
                                        x41))))))))]
theorem u42_0 (b1 : Bool) : sel (some (0, [AV.bool b1])) x42 =
    (some (AV.bool b1, []) : Option (AV × List AV)) := by kernel_rfl
theorem u42_1 (i1 : Int) (i2 : Int) (i3 : Int) : sel (some (1, [AV.int IntKind.i64 i1, AV.int IntKind.i64 i2, AV.box [AV.agg [AV.int IntKind.u64 i3]]])) x42 =
    (preK
  (match decide (i1 ≤ 9223372036854775807) with
  | false => false
  | true => decide (1 ≤ i1) && (decide (0 ≤ i2) && decide (i2 ≤ 65536)))
  (br ((↑(drawV i1 i2 i3).length : Int) != i2) (some (AV.bool false, []))
    (preK
      (match decide (i1 ≤ 9223372036854775807) with
      | false => false
      | true => decide (1 ≤ i1) && (decide (0 ≤ i2) && decide (i2 ≤ 65536)))
      (preK
        (match okInts (drawV i1 i2 i3) with
        | false => false
        | true => okInts (drawV i1 i2 i3))
        (br (!sameV (drawV i1 i2 i3) (drawV i1 i2 i3)) (some (AV.bool false, []))
          (sel
            (loopN b42 big
              [AV.int IntKind.i64 i1, AV.int IntKind.i64 i2, AV.box [AV.agg [AV.int IntKind.u64 (drawS i1 i2 i3)]],
                AV.box [AV.agg [AV.int IntKind.u64 (drawS i1 i2 i3)]], AV.sl 1 (drawV i1 i2 i3), AV.int IntKind.i64 0])
            x41))))) : Option (AV × List AV)) := by kernel_rfl
theorem e4 (s : Int) (n : Int) (k : Int) : funK (cx [(12, k12), (13, k13), (15, k15), (16, k16), (18, k18), (19, k19), (20, k20), (21, k21)]) big F4
  [AV.int IntKind.u64 s, AV.int IntKind.i64 n, AV.int IntKind.i64 k] =
    preK
  (match true with
  | false => false
  | true => true && (decide (-9223372036854775808 ≤ n) && decide (n ≤ 9223372036854775807)))
  (preK
    (match true with
    | false => false
    | true => true && (decide (-9223372036854775808 ≤ k) && decide (k ≤ 9223372036854775807)))
    (preK
      (match decide (1 ≤ veiled.wrap IntKind.i64 (1 + pickV n 200)) with
      | false => false
      | true => decide (veiled.wrap IntKind.i64 (1 + pickV n 200) ≤ 65536))
      (preK
        (match decide (1 ≤ veiled.wrap IntKind.i64 (1 + pickV n 200)) with
        | false => false
        | true => decide (veiled.wrap IntKind.i64 (1 + pickV n 200) ≤ 65536))
        (preK
          (match okInts (ordV (veiled.wrap IntKind.i64 (1 + pickV n 200)) s) with
          | false => false
          | true => okInts (ordV (veiled.wrap IntKind.i64 (1 + pickV n 200)) s))
          (br
            (!sameV (ordV (veiled.wrap IntKind.i64 (1 + pickV n 200)) s)
                (ordV (veiled.wrap IntKind.i64 (1 + pickV n 200)) s))
            (some (AV.bool false, []))
            (br
              ((↑(ordV (veiled.wrap IntKind.i64 (1 + pickV n 200)) s).length : Int) !=
                veiled.wrap IntKind.i64 (1 + pickV n 200))
              (some (AV.bool false, []))
              (okK
                (0 ≤ veiled.wrap IntKind.i64 (1 + pickV n 200) ∧
                  veiled.wrap IntKind.i64 (1 + pickV n 200) ≤ veiled.wrap IntKind.i64 (1 + pickV n 200) ∧
                    veiled.wrap IntKind.i64 (1 + pickV n 200) * (↑8 : Int) ≤ 140737488355328 ∧ 0 < 8 ∧ 0 < 1)
                (sel
                  (loopN b41 big
                    [AV.int IntKind.i64 (veiled.wrap IntKind.i64 (1 + pickV n 200)), AV.int IntKind.i64 (pickV k 100),
                      AV.box [AV.agg [AV.int IntKind.u64 (ordS (veiled.wrap IntKind.i64 (1 + pickV n 200)) s)]],
                      AV.sl 1 (ordV (veiled.wrap IntKind.i64 (1 + pickV n 200)) s),
                      AV.own 1 (List.replicate (veiled.wrap IntKind.i64 (1 + pickV n 200)).toNat (AV.int IntKind.i64 0))
                        none,
                      AV.int IntKind.i64 0])
                  x42)))))))) := by kernel_rfl
end Go.Proofs.Ytoocidelbmbgcaa.Bi
