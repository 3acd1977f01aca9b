/- Part of the proofs: the verified interpreter for the program's functions, or lemmas on what they compute; no condition. -/
import Derived.Test.YtoocidelbmbgcaaOctetSealsOc3
namespace Go.Proofs.Ytoocidelbmbgcaa.Oc
open Go.Ai
noncomputable def b171 : (List AV → Option (Nat × List AV)) → List AV → Option (Nat × List AV) := fun again vs =>
  hdK vs fun v vs =>
    fitI IntKind.u64 v fun n =>
      hdK vs fun v vs =>
        fitS 1 v fun xs =>
          hdK vs fun v vs =>
            fitI IntKind.i64 v fun n_1 =>
              hdK vs fun v vs =>
                fitI IntKind.i64 v fun n_2 =>
                  nlK vs
                    (br (decide (n_2 < n_1))
                      (idxK n_2 xs.length fun j =>
                        nthK xs j fun y =>
                          fitI IntKind.u8 y fun n_3 =>
                            again
                              [AV.int IntKind.u64
                                  (veiled.wrap IntKind.u64
                                    (veiled.xor IntKind.u64 n (veiled.wrap IntKind.u64 n_3) * 1099511628211)),
                                AV.sl 1 xs, AV.int IntKind.i64 n_1,
                                AV.int IntKind.i64 (veiled.wrap IntKind.i64 (n_2 + 1))])
                      (some (0, [AV.int IntKind.u64 n])))
theorem t171 (again : List AV → Option (Nat × List AV)) (i1 : Int) (xs1 : List AV) (i2 : Int) (i3 : Int) : b171 again [AV.int IntKind.u64 i1, AV.sl 1 xs1, AV.int IntKind.i64 i2, AV.int IntKind.i64 i3] =
    br (decide (i3 < i2))
  (idxK i3 xs1.length fun j =>
    nthK xs1 j fun y =>
      fitI IntKind.u8 y fun n =>
        again
          [AV.int IntKind.u64
              (veiled.wrap IntKind.u64 (veiled.xor IntKind.u64 i1 (veiled.wrap IntKind.u64 n) * 1099511628211)),
            AV.sl 1 xs1, AV.int IntKind.i64 i2, AV.int IntKind.i64 (veiled.wrap IntKind.i64 (i3 + 1))])
  (some (0, [AV.int IntKind.u64 i1])) := by kernel_rfl
noncomputable def x171 : List (List AV → Option (AV × List AV)) := [fun ws => hdK ws fun v vs => fitI IntKind.u64 v fun n => nlK vs (some (AV.int IntKind.u64 n, []))]
theorem u171_0 (i1 : Int) : sel (some (0, [AV.int IntKind.u64 i1])) x171 =
    (some (AV.int IntKind.u64 i1, []) : Option (AV × List AV)) := by kernel_rfl
theorem e17 (xs : List AV) : funK (cx []) big F17 [AV.sl 1 xs] =
    sel
  (loopN b171 big
    [AV.int IntKind.u64 14695981039346656037, AV.sl 1 xs, AV.int IntKind.i64 (↑xs.length : Int), AV.int IntKind.i64 0])
  x171 := by kernel_rfl
noncomputable def b261 : (List AV → Option (Nat × List AV)) → List AV → Option (Nat × List AV) := fun again vs =>
  hdK vs fun v vs =>
    fitS 1 v fun xs =>
      hdK vs fun v vs =>
        fitI IntKind.u64 v fun n =>
          hdK vs fun v vs =>
            fitI IntKind.i64 v fun n_1 =>
              nlK vs
                (br (decide (n_1 < (↑xs.length : Int)))
                  (idxK n_1 xs.length fun j =>
                    nthK xs j fun y =>
                      fitI IntKind.u8 y fun n_2 =>
                        again
                          [AV.sl 1 xs,
                            AV.int IntKind.u64
                              (veiled.wrap IntKind.u64
                                (veiled.xor IntKind.u64 n (veiled.wrap IntKind.u64 n_2) * 1099511628211)),
                            AV.int IntKind.i64 (veiled.wrap IntKind.i64 (n_1 + 1))])
                  (some (0, [AV.int IntKind.u64 n])))
theorem t261 (again : List AV → Option (Nat × List AV)) (xs1 : List AV) (i1 : Int) (i2 : Int) : b261 again [AV.sl 1 xs1, AV.int IntKind.u64 i1, AV.int IntKind.i64 i2] =
    br (decide (i2 < (↑xs1.length : Int)))
  (idxK i2 xs1.length fun j =>
    nthK xs1 j fun y =>
      fitI IntKind.u8 y fun n =>
        again
          [AV.sl 1 xs1,
            AV.int IntKind.u64
              (veiled.wrap IntKind.u64 (veiled.xor IntKind.u64 i1 (veiled.wrap IntKind.u64 n) * 1099511628211)),
            AV.int IntKind.i64 (veiled.wrap IntKind.i64 (i2 + 1))])
  (some (0, [AV.int IntKind.u64 i1])) := by kernel_rfl
noncomputable def x261 : List (List AV → Option (AV × List AV)) := [fun ws => hdK ws fun v vs => fitI IntKind.u64 v fun n => nlK vs (some (AV.int IntKind.u64 n, []))]
theorem u261_0 (i1 : Int) : sel (some (0, [AV.int IntKind.u64 i1])) x261 =
    (some (AV.int IntKind.u64 i1, []) : Option (AV × List AV)) := by kernel_rfl
theorem e26 (xs : List AV) : funK (cx []) big F26 [AV.sl 1 xs] =
    sel (loopN b261 big [AV.sl 1 xs, AV.int IntKind.u64 14695981039346656037, AV.int IntKind.i64 0]) x261 := by kernel_rfl
noncomputable def b601 : (List AV → Option (Nat × List AV)) → List AV → Option (Nat × List AV) := fun again vs =>
  hdK vs fun v vs =>
    fitO 1 v fun xs p =>
      hdK vs fun v vs =>
        fitI IntKind.u64 v fun n =>
          nlK vs
            (br (decide (n > 127))
              (okK
                (((partOf xs p).length +
                      (partOf
                          [AV.int IntKind.u8
                              (veiled.or IntKind.u8 (veiled.wrap IntKind.u8 (veiled.and IntKind.u64 n 127)) 128)]
                          none).length) *
                    1 ≤
                  140737488355328)
                (again
                  [AV.own 1
                      ((partOf xs p).append
                        (partOf
                          [AV.int IntKind.u8
                              (veiled.or IntKind.u8 (veiled.wrap IntKind.u8 (veiled.and IntKind.u64 n 127)) 128)]
                          none))
                      none,
                    AV.int IntKind.u64 (veiled.shr IntKind.u64 n 7)]))
              (some (0, [AV.own 1 xs p, AV.int IntKind.u64 n])))
theorem t601 (again : List AV → Option (Nat × List AV)) (xs1 : List AV) (i1 : Int) : b601 again [AV.own 1 xs1 none, AV.int IntKind.u64 i1] =
    br (decide (i1 > 127))
  (okK
    ((xs1.length +
          [AV.int IntKind.u8
                (veiled.or IntKind.u8 (veiled.wrap IntKind.u8 (veiled.and IntKind.u64 i1 127)) 128)].length) *
        1 ≤
      140737488355328)
    (again
      [AV.own 1
          (xs1 ++
            [AV.int IntKind.u8 (veiled.or IntKind.u8 (veiled.wrap IntKind.u8 (veiled.and IntKind.u64 i1 127)) 128)])
          none,
        AV.int IntKind.u64 (veiled.shr IntKind.u64 i1 7)]))
  (some (0, [AV.own 1 xs1 none, AV.int IntKind.u64 i1])) := by kernel_rfl
noncomputable def x601 : List (List AV → Option (AV × List AV)) := [fun ws =>
  hdK ws fun v vs =>
    fitO 1 v fun xs p =>
      hdK vs fun v vs =>
        fitI IntKind.u64 v fun n =>
          nlK vs
            (okK
              (((partOf xs p).length + (partOf [AV.int IntKind.u8 (veiled.wrap IntKind.u8 n)] none).length) * 1 ≤
                140737488355328)
              (some
                (AV.own 1 ((partOf xs p).append (partOf [AV.int IntKind.u8 (veiled.wrap IntKind.u8 n)] none)) none,
                  [])))]
theorem u601_0 (xs1 : List AV) (i1 : Int) : sel (some (0, [AV.own 1 xs1 none, AV.int IntKind.u64 i1])) x601 =
    (okK ((xs1.length + [AV.int IntKind.u8 (veiled.wrap IntKind.u8 i1)].length) * 1 ≤ 140737488355328)
  (some (AV.own 1 (xs1 ++ [AV.int IntKind.u8 (veiled.wrap IntKind.u8 i1)]) none, [])) : Option (AV × List AV)) := by kernel_rfl
theorem e60 (xs : List AV) (n : Int) : funK (cx []) big F60 [AV.own 1 xs none, AV.int IntKind.i64 n] =
    sel
  (loopN b601 big
    [AV.own 1 xs none, AV.int IntKind.u64 (veiled.wrap IntKind.u64 (if 0 > n then 0 else n))])
  x601 := by kernel_rfl
noncomputable def b641 : (List AV → Option (Nat × List AV)) → List AV → Option (Nat × List AV) := fun again vs =>
  hdK vs fun v vs =>
    fitO 1 v fun xs p =>
      hdK vs fun v vs =>
        fitI IntKind.u64 v fun n =>
          nlK vs
            (br (decide (n > 127))
              (okK
                (((partOf xs p).length +
                      (partOf
                          [AV.int IntKind.u8
                              (veiled.or IntKind.u8 (veiled.wrap IntKind.u8 (veiled.and IntKind.u64 n 127)) 128)]
                          none).length) *
                    1 ≤
                  140737488355328)
                (again
                  [AV.own 1
                      ((partOf xs p).append
                        (partOf
                          [AV.int IntKind.u8
                              (veiled.or IntKind.u8 (veiled.wrap IntKind.u8 (veiled.and IntKind.u64 n 127)) 128)]
                          none))
                      none,
                    AV.int IntKind.u64 (veiled.shr IntKind.u64 n 7)]))
              (some (0, [AV.own 1 xs p, AV.int IntKind.u64 n])))
theorem t641 (again : List AV → Option (Nat × List AV)) (xs1 : List AV) (i1 : Int) : b641 again [AV.own 1 xs1 none, AV.int IntKind.u64 i1] =
    br (decide (i1 > 127))
  (okK
    ((xs1.length +
          [AV.int IntKind.u8
                (veiled.or IntKind.u8 (veiled.wrap IntKind.u8 (veiled.and IntKind.u64 i1 127)) 128)].length) *
        1 ≤
      140737488355328)
    (again
      [AV.own 1
          (xs1 ++
            [AV.int IntKind.u8 (veiled.or IntKind.u8 (veiled.wrap IntKind.u8 (veiled.and IntKind.u64 i1 127)) 128)])
          none,
        AV.int IntKind.u64 (veiled.shr IntKind.u64 i1 7)]))
  (some (0, [AV.own 1 xs1 none, AV.int IntKind.u64 i1])) := by kernel_rfl
noncomputable def x641 : List (List AV → Option (AV × List AV)) := [fun ws =>
  hdK ws fun v vs =>
    fitO 1 v fun xs p =>
      hdK vs fun v vs =>
        fitI IntKind.u64 v fun n =>
          nlK vs
            (okK
              (((partOf xs p).length + (partOf [AV.int IntKind.u8 (veiled.wrap IntKind.u8 n)] none).length) * 1 ≤
                140737488355328)
              (some
                (AV.own 1 ((partOf xs p).append (partOf [AV.int IntKind.u8 (veiled.wrap IntKind.u8 n)] none)) none,
                  [])))]
theorem u641_0 (xs1 : List AV) (i1 : Int) : sel (some (0, [AV.own 1 xs1 none, AV.int IntKind.u64 i1])) x641 =
    (okK ((xs1.length + [AV.int IntKind.u8 (veiled.wrap IntKind.u8 i1)].length) * 1 ≤ 140737488355328)
  (some (AV.own 1 (xs1 ++ [AV.int IntKind.u8 (veiled.wrap IntKind.u8 i1)]) none, [])) : Option (AV × List AV)) := by kernel_rfl
theorem e64 (xs : List AV) (n : Int) : funK (cx []) big F64 [AV.own 1 xs none, AV.int IntKind.i64 n] =
    sel
  (loopN b641 big
    [AV.own 1 xs none, AV.int IntKind.u64 (veiled.wrap IntKind.u64 (if n > 0 then n else 0))])
  x641 := by kernel_rfl
noncomputable def b591 : (List AV → Option (Nat × List AV)) → List AV → Option (Nat × List AV) := fun again vs =>
  hdK vs fun v vs =>
    fitO 1 v fun xs p =>
      hdK vs fun v vs =>
        fitI IntKind.u64 v fun n =>
          hdK vs fun v vs =>
            fitI IntKind.i64 v fun n_1 =>
              nlK vs
                (br (decide (n_1 ≥ 0))
                  (preK (decide (0 ≤ veiled.wrap IntKind.i64 (8 * n_1)))
                    (okK
                      (((partOf xs p).length +
                            (partOf
                                [AV.int IntKind.u8
                                    (veiled.wrap IntKind.u8
                                      (veiled.shr IntKind.u64 n (veiled.wrap IntKind.i64 (8 * n_1))))]
                                none).length) *
                          1 ≤
                        140737488355328)
                      (again
                        [AV.own 1
                            ((partOf xs p).append
                              (partOf
                                [AV.int IntKind.u8
                                    (veiled.wrap IntKind.u8
                                      (veiled.shr IntKind.u64 n (veiled.wrap IntKind.i64 (8 * n_1))))]
                                none))
                            none,
                          AV.int IntKind.u64 n, AV.int IntKind.i64 (veiled.wrap IntKind.i64 (n_1 - 1))])))
                  (some (0, [AV.own 1 xs p])))
theorem t591 (again : List AV → Option (Nat × List AV)) (xs1 : List AV) (i1 : Int) (i2 : Int) : b591 again [AV.own 1 xs1 none, AV.int IntKind.u64 i1, AV.int IntKind.i64 i2] =
    br (decide (i2 ≥ 0))
  (preK (decide (0 ≤ veiled.wrap IntKind.i64 (8 * i2)))
    (okK
      ((xs1.length +
            [AV.int IntKind.u8
                  (veiled.wrap IntKind.u8 (veiled.shr IntKind.u64 i1 (veiled.wrap IntKind.i64 (8 * i2))))].length) *
          1 ≤
        140737488355328)
      (again
        [AV.own 1
            (xs1 ++
              [AV.int IntKind.u8
                  (veiled.wrap IntKind.u8 (veiled.shr IntKind.u64 i1 (veiled.wrap IntKind.i64 (8 * i2))))])
            none,
          AV.int IntKind.u64 i1, AV.int IntKind.i64 (veiled.wrap IntKind.i64 (i2 - 1))])))
  (some (0, [AV.own 1 xs1 none])) := by kernel_rfl
noncomputable def x591 : List (List AV → Option (AV × List AV)) := [fun ws => hdK ws fun v vs => fitO 1 v fun xs p => nlK vs (some (AV.own 1 xs p, []))]
theorem u591_0 (xs1 : List AV) : sel (some (0, [AV.own 1 xs1 none])) x591 =
    (some (AV.own 1 xs1 none, []) : Option (AV × List AV)) := by kernel_rfl
theorem e59 (xs : List AV) : funK (cx [(17, k17)]) big F59 [AV.own 1 xs none] =
    preK (okB xs)
  (sel (loopN b591 big [AV.own 1 xs none, AV.int IntKind.u64 (sumV xs), AV.int IntKind.i64 7]) x591) := by kernel_rfl
noncomputable def x651 : List (List AV → Option (Nat × List AV)) := [fun ws =>
  hdK ws fun v vs =>
    fitI IntKind.i64 v fun n =>
      hdK vs fun v vs =>
        fitI IntKind.i64 v fun n_1 =>
          hdK vs fun v vs =>
            fitI IntKind.i64 v fun n_2 =>
              nlK vs (some (1, [AV.int IntKind.i64 n, AV.int IntKind.i64 n_1, AV.int IntKind.i64 n_2])),
  fun ws =>
  hdK ws fun v vs =>
    fitI IntKind.u64 v fun n =>
      hdK vs fun v vs =>
        fitI IntKind.i64 v fun n_1 =>
          nlK vs
            (some
              (1,
                [AV.int IntKind.i64 (veiled.wrap IntKind.i64 n), AV.int IntKind.i64 (veiled.wrap IntKind.i64 (n_1 + 1)),
                  AV.int IntKind.i64 0]))]
theorem u651_0 (i1 : Int) (i2 : Int) (i3 : Int) : sel (some (0, [AV.int IntKind.i64 i1, AV.int IntKind.i64 i2, AV.int IntKind.i64 i3])) x651 =
    (some (1, [AV.int IntKind.i64 i1, AV.int IntKind.i64 i2, AV.int IntKind.i64 i3]) : Option (Nat × List AV)) := by kernel_rfl
theorem u651_1 (i1 : Int) (i2 : Int) : sel (some (1, [AV.int IntKind.u64 i1, AV.int IntKind.i64 i2])) x651 =
    (some
  (1,
    [AV.int IntKind.i64 (veiled.wrap IntKind.i64 i1), AV.int IntKind.i64 (veiled.wrap IntKind.i64 (i2 + 1)),
      AV.int IntKind.i64 0]) : Option (Nat × List AV)) := by kernel_rfl
noncomputable def b651 : (List AV → Option (Nat × List AV)) → List AV → Option (Nat × List AV) := fun again vs =>
  hdK vs fun v vs =>
    fitI IntKind.i64 v fun n =>
      hdK vs fun v vs =>
        fitI IntKind.u64 v fun n_1 =>
          hdK vs fun v vs =>
            fitB v fun b =>
              hdK vs fun v vs =>
                fitS 1 v fun xs =>
                  hdK vs fun v vs =>
                    fitI IntKind.i64 v fun n_2 =>
                      hdK vs fun v vs =>
                        fitI IntKind.i64 v fun n_3 =>
                          nlK vs
                            (br (decide (n_3 < n_2))
                              (idxK n_3 xs.length fun j =>
                                nthK xs j fun y =>
                                  fitI IntKind.u8 y fun n_4 =>
                                    br (decide (veiled.wrap IntKind.i64 (n_3 * 7) ≥ 64))
                                      (br b
                                        (br (veiled.and IntKind.u8 n_4 128 != 0)
                                          (again
                                            [AV.int IntKind.i64 n, AV.int IntKind.u64 n_1, AV.bool true, AV.sl 1 xs,
                                              AV.int IntKind.i64 n_2,
                                              AV.int IntKind.i64 (veiled.wrap IntKind.i64 (n_3 + 1))])
                                          (sel
                                            (br (decide (n_3 > 0))
                                              (br (n_4 == 0)
                                                (some
                                                  (0,
                                                    [AV.int IntKind.i64 0, AV.int IntKind.i64 0, AV.int IntKind.i64 2]))
                                                (some
                                                  (0,
                                                    [AV.int IntKind.i64 0, AV.int IntKind.i64 0,
                                                      AV.int IntKind.i64 4])))
                                              (some
                                                (0,
                                                  [AV.int IntKind.i64 0, AV.int IntKind.i64 0, AV.int IntKind.i64 4])))
                                            x651))
                                        (br (veiled.and IntKind.u8 n_4 128 != 0)
                                          (again
                                            [AV.int IntKind.i64 n, AV.int IntKind.u64 n_1,
                                              AV.bool
                                                (decide (veiled.wrap IntKind.u64 (veiled.and IntKind.u8 n_4 127) > 0)),
                                              AV.sl 1 xs, AV.int IntKind.i64 n_2,
                                              AV.int IntKind.i64 (veiled.wrap IntKind.i64 (n_3 + 1))])
                                          (sel
                                            (br (decide (n_3 > 0))
                                              (br (n_4 == 0)
                                                (some
                                                  (0,
                                                    [AV.int IntKind.i64 0, AV.int IntKind.i64 0, AV.int IntKind.i64 2]))
                                                (br
                                                  (decide (veiled.wrap IntKind.u64 (veiled.and IntKind.u8 n_4 127) > 0))
                                                  (some
                                                    (0,
                                                      [AV.int IntKind.i64 0, AV.int IntKind.i64 0,
                                                        AV.int IntKind.i64 4]))
                                                  (br (decide (n_1 > 4611686018427387904))
                                                    (some
                                                      (0,
                                                        [AV.int IntKind.i64 0, AV.int IntKind.i64 0,
                                                          AV.int IntKind.i64 4]))
                                                    (br (decide (n < 0))
                                                      (some
                                                        (0,
                                                          [AV.int IntKind.i64 0, AV.int IntKind.i64 0,
                                                            AV.int IntKind.i64 4]))
                                                      (br (decide (n_1 > veiled.wrap IntKind.u64 n))
                                                        (some
                                                          (0,
                                                            [AV.int IntKind.i64 0, AV.int IntKind.i64 0,
                                                              AV.int IntKind.i64 4]))
                                                        (some
                                                          (1, [AV.int IntKind.u64 n_1, AV.int IntKind.i64 n_3])))))))
                                              (br (decide (veiled.wrap IntKind.u64 (veiled.and IntKind.u8 n_4 127) > 0))
                                                (some
                                                  (0,
                                                    [AV.int IntKind.i64 0, AV.int IntKind.i64 0, AV.int IntKind.i64 4]))
                                                (br (decide (n_1 > 4611686018427387904))
                                                  (some
                                                    (0,
                                                      [AV.int IntKind.i64 0, AV.int IntKind.i64 0,
                                                        AV.int IntKind.i64 4]))
                                                  (br (decide (n < 0))
                                                    (some
                                                      (0,
                                                        [AV.int IntKind.i64 0, AV.int IntKind.i64 0,
                                                          AV.int IntKind.i64 4]))
                                                    (br (decide (n_1 > veiled.wrap IntKind.u64 n))
                                                      (some
                                                        (0,
                                                          [AV.int IntKind.i64 0, AV.int IntKind.i64 0,
                                                            AV.int IntKind.i64 4]))
                                                      (some (1, [AV.int IntKind.u64 n_1, AV.int IntKind.i64 n_3])))))))
                                            x651)))
                                      (br b
                                        (preK (decide (0 ≤ veiled.wrap IntKind.i64 (n_3 * 7)))
                                          (br (veiled.and IntKind.u8 n_4 128 != 0)
                                            (again
                                              [AV.int IntKind.i64 n,
                                                AV.int IntKind.u64
                                                  (veiled.or IntKind.u64 n_1
                                                    (veiled.shl IntKind.u64
                                                      (veiled.wrap IntKind.u64 (veiled.and IntKind.u8 n_4 127))
                                                      (veiled.wrap IntKind.i64 (n_3 * 7)))),
                                                AV.bool true, AV.sl 1 xs, AV.int IntKind.i64 n_2,
                                                AV.int IntKind.i64 (veiled.wrap IntKind.i64 (n_3 + 1))])
                                            (sel
                                              (br (decide (n_3 > 0))
                                                (br (n_4 == 0)
                                                  (some
                                                    (0,
                                                      [AV.int IntKind.i64 0, AV.int IntKind.i64 0,
                                                        AV.int IntKind.i64 2]))
                                                  (some
                                                    (0,
                                                      [AV.int IntKind.i64 0, AV.int IntKind.i64 0,
                                                        AV.int IntKind.i64 4])))
                                                (some
                                                  (0,
                                                    [AV.int IntKind.i64 0, AV.int IntKind.i64 0,
                                                      AV.int IntKind.i64 4])))
                                              x651)))
                                        (preK (decide (0 ≤ veiled.wrap IntKind.i64 (n_3 * 7)))
                                          (preK (decide (0 ≤ veiled.wrap IntKind.i64 (n_3 * 7)))
                                            (preK (decide (0 ≤ veiled.wrap IntKind.i64 (n_3 * 7)))
                                              (br (veiled.and IntKind.u8 n_4 128 != 0)
                                                (again
                                                  [AV.int IntKind.i64 n,
                                                    AV.int IntKind.u64
                                                      (veiled.or IntKind.u64 n_1
                                                        (veiled.shl IntKind.u64
                                                          (veiled.wrap IntKind.u64 (veiled.and IntKind.u8 n_4 127))
                                                          (veiled.wrap IntKind.i64 (n_3 * 7)))),
                                                    AV.bool
                                                      (veiled.shr IntKind.u64
                                                          (veiled.shl IntKind.u64
                                                            (veiled.wrap IntKind.u64 (veiled.and IntKind.u8 n_4 127))
                                                            (veiled.wrap IntKind.i64 (n_3 * 7)))
                                                          (veiled.wrap IntKind.i64 (n_3 * 7)) !=
                                                        veiled.wrap IntKind.u64 (veiled.and IntKind.u8 n_4 127)),
                                                    AV.sl 1 xs, AV.int IntKind.i64 n_2,
                                                    AV.int IntKind.i64 (veiled.wrap IntKind.i64 (n_3 + 1))])
                                                (sel
                                                  (br (decide (n_3 > 0))
                                                    (br (n_4 == 0)
                                                      (some
                                                        (0,
                                                          [AV.int IntKind.i64 0, AV.int IntKind.i64 0,
                                                            AV.int IntKind.i64 2]))
                                                      (br
                                                        (veiled.shr IntKind.u64
                                                            (veiled.shl IntKind.u64
                                                              (veiled.wrap IntKind.u64 (veiled.and IntKind.u8 n_4 127))
                                                              (veiled.wrap IntKind.i64 (n_3 * 7)))
                                                            (veiled.wrap IntKind.i64 (n_3 * 7)) !=
                                                          veiled.wrap IntKind.u64 (veiled.and IntKind.u8 n_4 127))
                                                        (some
                                                          (0,
                                                            [AV.int IntKind.i64 0, AV.int IntKind.i64 0,
                                                              AV.int IntKind.i64 4]))
                                                        (br
                                                          (decide
                                                            (veiled.or IntKind.u64 n_1
                                                                (veiled.shl IntKind.u64
                                                                  (veiled.wrap IntKind.u64
                                                                    (veiled.and IntKind.u8 n_4 127))
                                                                  (veiled.wrap IntKind.i64 (n_3 * 7))) >
                                                              4611686018427387904))
                                                          (some
                                                            (0,
                                                              [AV.int IntKind.i64 0, AV.int IntKind.i64 0,
                                                                AV.int IntKind.i64 4]))
                                                          (br (decide (n < 0))
                                                            (some
                                                              (0,
                                                                [AV.int IntKind.i64 0, AV.int IntKind.i64 0,
                                                                  AV.int IntKind.i64 4]))
                                                            (br
                                                              (decide
                                                                (veiled.or IntKind.u64 n_1
                                                                    (veiled.shl IntKind.u64
                                                                      (veiled.wrap IntKind.u64
                                                                        (veiled.and IntKind.u8 n_4 127))
                                                                      (veiled.wrap IntKind.i64 (n_3 * 7))) >
                                                                  veiled.wrap IntKind.u64 n))
                                                              (some
                                                                (0,
                                                                  [AV.int IntKind.i64 0, AV.int IntKind.i64 0,
                                                                    AV.int IntKind.i64 4]))
                                                              (some
                                                                (1,
                                                                  [AV.int IntKind.u64
                                                                      (veiled.or IntKind.u64 n_1
                                                                        (veiled.shl IntKind.u64
                                                                          (veiled.wrap IntKind.u64
                                                                            (veiled.and IntKind.u8 n_4 127))
                                                                          (veiled.wrap IntKind.i64 (n_3 * 7)))),
                                                                    AV.int IntKind.i64 n_3])))))))
                                                    (br
                                                      (veiled.shr IntKind.u64
                                                          (veiled.shl IntKind.u64
                                                            (veiled.wrap IntKind.u64 (veiled.and IntKind.u8 n_4 127))
                                                            (veiled.wrap IntKind.i64 (n_3 * 7)))
                                                          (veiled.wrap IntKind.i64 (n_3 * 7)) !=
                                                        veiled.wrap IntKind.u64 (veiled.and IntKind.u8 n_4 127))
                                                      (some
                                                        (0,
                                                          [AV.int IntKind.i64 0, AV.int IntKind.i64 0,
                                                            AV.int IntKind.i64 4]))
                                                      (br
                                                        (decide
                                                          (veiled.or IntKind.u64 n_1
                                                              (veiled.shl IntKind.u64
                                                                (veiled.wrap IntKind.u64
                                                                  (veiled.and IntKind.u8 n_4 127))
                                                                (veiled.wrap IntKind.i64 (n_3 * 7))) >
                                                            4611686018427387904))
                                                        (some
                                                          (0,
                                                            [AV.int IntKind.i64 0, AV.int IntKind.i64 0,
                                                              AV.int IntKind.i64 4]))
                                                        (br (decide (n < 0))
                                                          (some
                                                            (0,
                                                              [AV.int IntKind.i64 0, AV.int IntKind.i64 0,
                                                                AV.int IntKind.i64 4]))
                                                          (br
                                                            (decide
                                                              (veiled.or IntKind.u64 n_1
                                                                  (veiled.shl IntKind.u64
                                                                    (veiled.wrap IntKind.u64
                                                                      (veiled.and IntKind.u8 n_4 127))
                                                                    (veiled.wrap IntKind.i64 (n_3 * 7))) >
                                                                veiled.wrap IntKind.u64 n))
                                                            (some
                                                              (0,
                                                                [AV.int IntKind.i64 0, AV.int IntKind.i64 0,
                                                                  AV.int IntKind.i64 4]))
                                                            (some
                                                              (1,
                                                                [AV.int IntKind.u64
                                                                    (veiled.or IntKind.u64 n_1
                                                                      (veiled.shl IntKind.u64
                                                                        (veiled.wrap IntKind.u64
                                                                          (veiled.and IntKind.u8 n_4 127))
                                                                        (veiled.wrap IntKind.i64 (n_3 * 7)))),
                                                                  AV.int IntKind.i64 n_3])))))))
                                                  x651)))))))
                              (some (0, [])))
theorem t651 (again : List AV → Option (Nat × List AV)) (i1 : Int) (i2 : Int) (b1 : Bool) (xs1 : List AV) (i3 : Int) (i4 : Int) : b651 again
  [AV.int IntKind.i64 i1, AV.int IntKind.u64 i2, AV.bool b1, AV.sl 1 xs1, AV.int IntKind.i64 i3, AV.int IntKind.i64 i4] =
    br (decide (i4 < i3))
  (idxK i4 xs1.length fun j =>
    nthK xs1 j fun y =>
      fitI IntKind.u8 y fun n =>
        br (decide (veiled.wrap IntKind.i64 (i4 * 7) ≥ 64))
          (br b1
            (br (veiled.and IntKind.u8 n 128 != 0)
              (again
                [AV.int IntKind.i64 i1, AV.int IntKind.u64 i2, AV.bool true, AV.sl 1 xs1, AV.int IntKind.i64 i3,
                  AV.int IntKind.i64 (veiled.wrap IntKind.i64 (i4 + 1))])
              (sel
                (br (decide (i4 > 0))
                  (br (n == 0) (some (0, [AV.int IntKind.i64 0, AV.int IntKind.i64 0, AV.int IntKind.i64 2]))
                    (some (0, [AV.int IntKind.i64 0, AV.int IntKind.i64 0, AV.int IntKind.i64 4])))
                  (some (0, [AV.int IntKind.i64 0, AV.int IntKind.i64 0, AV.int IntKind.i64 4])))
                x651))
            (br (veiled.and IntKind.u8 n 128 != 0)
              (again
                [AV.int IntKind.i64 i1, AV.int IntKind.u64 i2,
                  AV.bool (decide (veiled.wrap IntKind.u64 (veiled.and IntKind.u8 n 127) > 0)), AV.sl 1 xs1,
                  AV.int IntKind.i64 i3, AV.int IntKind.i64 (veiled.wrap IntKind.i64 (i4 + 1))])
              (sel
                (br (decide (i4 > 0))
                  (br (n == 0) (some (0, [AV.int IntKind.i64 0, AV.int IntKind.i64 0, AV.int IntKind.i64 2]))
                    (br (decide (veiled.wrap IntKind.u64 (veiled.and IntKind.u8 n 127) > 0))
                      (some (0, [AV.int IntKind.i64 0, AV.int IntKind.i64 0, AV.int IntKind.i64 4]))
                      (br (decide (i2 > 4611686018427387904))
                        (some (0, [AV.int IntKind.i64 0, AV.int IntKind.i64 0, AV.int IntKind.i64 4]))
                        (br (decide (i1 < 0))
                          (some (0, [AV.int IntKind.i64 0, AV.int IntKind.i64 0, AV.int IntKind.i64 4]))
                          (br (decide (i2 > veiled.wrap IntKind.u64 i1))
                            (some (0, [AV.int IntKind.i64 0, AV.int IntKind.i64 0, AV.int IntKind.i64 4]))
                            (some (1, [AV.int IntKind.u64 i2, AV.int IntKind.i64 i4])))))))
                  (br (decide (veiled.wrap IntKind.u64 (veiled.and IntKind.u8 n 127) > 0))
                    (some (0, [AV.int IntKind.i64 0, AV.int IntKind.i64 0, AV.int IntKind.i64 4]))
                    (br (decide (i2 > 4611686018427387904))
                      (some (0, [AV.int IntKind.i64 0, AV.int IntKind.i64 0, AV.int IntKind.i64 4]))
                      (br (decide (i1 < 0))
                        (some (0, [AV.int IntKind.i64 0, AV.int IntKind.i64 0, AV.int IntKind.i64 4]))
                        (br (decide (i2 > veiled.wrap IntKind.u64 i1))
                          (some (0, [AV.int IntKind.i64 0, AV.int IntKind.i64 0, AV.int IntKind.i64 4]))
                          (some (1, [AV.int IntKind.u64 i2, AV.int IntKind.i64 i4])))))))
                x651)))
          (br b1
            (preK (decide (0 ≤ veiled.wrap IntKind.i64 (i4 * 7)))
              (br (veiled.and IntKind.u8 n 128 != 0)
                (again
                  [AV.int IntKind.i64 i1,
                    AV.int IntKind.u64
                      (veiled.or IntKind.u64 i2
                        (veiled.shl IntKind.u64 (veiled.wrap IntKind.u64 (veiled.and IntKind.u8 n 127))
                          (veiled.wrap IntKind.i64 (i4 * 7)))),
                    AV.bool true, AV.sl 1 xs1, AV.int IntKind.i64 i3,
                    AV.int IntKind.i64 (veiled.wrap IntKind.i64 (i4 + 1))])
                (sel
                  (br (decide (i4 > 0))
                    (br (n == 0) (some (0, [AV.int IntKind.i64 0, AV.int IntKind.i64 0, AV.int IntKind.i64 2]))
                      (some (0, [AV.int IntKind.i64 0, AV.int IntKind.i64 0, AV.int IntKind.i64 4])))
                    (some (0, [AV.int IntKind.i64 0, AV.int IntKind.i64 0, AV.int IntKind.i64 4])))
                  x651)))
            (preK (decide (0 ≤ veiled.wrap IntKind.i64 (i4 * 7)))
              (preK (decide (0 ≤ veiled.wrap IntKind.i64 (i4 * 7)))
                (preK (decide (0 ≤ veiled.wrap IntKind.i64 (i4 * 7)))
                  (br (veiled.and IntKind.u8 n 128 != 0)
                    (again
                      [AV.int IntKind.i64 i1,
                        AV.int IntKind.u64
                          (veiled.or IntKind.u64 i2
                            (veiled.shl IntKind.u64 (veiled.wrap IntKind.u64 (veiled.and IntKind.u8 n 127))
                              (veiled.wrap IntKind.i64 (i4 * 7)))),
                        AV.bool
                          (veiled.shr IntKind.u64
                              (veiled.shl IntKind.u64 (veiled.wrap IntKind.u64 (veiled.and IntKind.u8 n 127))
                                (veiled.wrap IntKind.i64 (i4 * 7)))
                              (veiled.wrap IntKind.i64 (i4 * 7)) !=
                            veiled.wrap IntKind.u64 (veiled.and IntKind.u8 n 127)),
                        AV.sl 1 xs1, AV.int IntKind.i64 i3, AV.int IntKind.i64 (veiled.wrap IntKind.i64 (i4 + 1))])
                    (sel
                      (br (decide (i4 > 0))
                        (br (n == 0) (some (0, [AV.int IntKind.i64 0, AV.int IntKind.i64 0, AV.int IntKind.i64 2]))
                          (br
                            (veiled.shr IntKind.u64
                                (veiled.shl IntKind.u64 (veiled.wrap IntKind.u64 (veiled.and IntKind.u8 n 127))
                                  (veiled.wrap IntKind.i64 (i4 * 7)))
                                (veiled.wrap IntKind.i64 (i4 * 7)) !=
                              veiled.wrap IntKind.u64 (veiled.and IntKind.u8 n 127))
                            (some (0, [AV.int IntKind.i64 0, AV.int IntKind.i64 0, AV.int IntKind.i64 4]))
                            (br
                              (decide
                                (veiled.or IntKind.u64 i2
                                    (veiled.shl IntKind.u64 (veiled.wrap IntKind.u64 (veiled.and IntKind.u8 n 127))
                                      (veiled.wrap IntKind.i64 (i4 * 7))) >
                                  4611686018427387904))
                              (some (0, [AV.int IntKind.i64 0, AV.int IntKind.i64 0, AV.int IntKind.i64 4]))
                              (br (decide (i1 < 0))
                                (some (0, [AV.int IntKind.i64 0, AV.int IntKind.i64 0, AV.int IntKind.i64 4]))
                                (br
                                  (decide
                                    (veiled.or IntKind.u64 i2
                                        (veiled.shl IntKind.u64 (veiled.wrap IntKind.u64 (veiled.and IntKind.u8 n 127))
                                          (veiled.wrap IntKind.i64 (i4 * 7))) >
                                      veiled.wrap IntKind.u64 i1))
                                  (some (0, [AV.int IntKind.i64 0, AV.int IntKind.i64 0, AV.int IntKind.i64 4]))
                                  (some
                                    (1,
                                      [AV.int IntKind.u64
                                          (veiled.or IntKind.u64 i2
                                            (veiled.shl IntKind.u64
                                              (veiled.wrap IntKind.u64 (veiled.and IntKind.u8 n 127))
                                              (veiled.wrap IntKind.i64 (i4 * 7)))),
                                        AV.int IntKind.i64 i4])))))))
                        (br
                          (veiled.shr IntKind.u64
                              (veiled.shl IntKind.u64 (veiled.wrap IntKind.u64 (veiled.and IntKind.u8 n 127))
                                (veiled.wrap IntKind.i64 (i4 * 7)))
                              (veiled.wrap IntKind.i64 (i4 * 7)) !=
                            veiled.wrap IntKind.u64 (veiled.and IntKind.u8 n 127))
                          (some (0, [AV.int IntKind.i64 0, AV.int IntKind.i64 0, AV.int IntKind.i64 4]))
                          (br
                            (decide
                              (veiled.or IntKind.u64 i2
                                  (veiled.shl IntKind.u64 (veiled.wrap IntKind.u64 (veiled.and IntKind.u8 n 127))
                                    (veiled.wrap IntKind.i64 (i4 * 7))) >
                                4611686018427387904))
                            (some (0, [AV.int IntKind.i64 0, AV.int IntKind.i64 0, AV.int IntKind.i64 4]))
                            (br (decide (i1 < 0))
                              (some (0, [AV.int IntKind.i64 0, AV.int IntKind.i64 0, AV.int IntKind.i64 4]))
                              (br
                                (decide
                                  (veiled.or IntKind.u64 i2
                                      (veiled.shl IntKind.u64 (veiled.wrap IntKind.u64 (veiled.and IntKind.u8 n 127))
                                        (veiled.wrap IntKind.i64 (i4 * 7))) >
                                    veiled.wrap IntKind.u64 i1))
                                (some (0, [AV.int IntKind.i64 0, AV.int IntKind.i64 0, AV.int IntKind.i64 4]))
                                (some
                                  (1,
                                    [AV.int IntKind.u64
                                        (veiled.or IntKind.u64 i2
                                          (veiled.shl IntKind.u64
                                            (veiled.wrap IntKind.u64 (veiled.and IntKind.u8 n 127))
                                            (veiled.wrap IntKind.i64 (i4 * 7)))),
                                      AV.int IntKind.i64 i4])))))))
                      x651)))))))
  (some (0, [])) := by kernel_rfl
noncomputable def x652 : List (List AV → Option (AV × List AV)) := [fun ws => nlK ws (some (AV.tup [AV.int IntKind.i64 0, AV.int IntKind.i64 0, AV.int IntKind.i64 3], [])), fun ws =>
  hdK ws fun v vs =>
    fitI IntKind.i64 v fun n =>
      hdK vs fun v vs =>
        fitI IntKind.i64 v fun n_1 =>
          hdK vs fun v vs =>
            fitI IntKind.i64 v fun n_2 =>
              nlK vs (some (AV.tup [AV.int IntKind.i64 n, AV.int IntKind.i64 n_1, AV.int IntKind.i64 n_2], []))]
theorem u652_0 : sel (some (0, [])) x652 =
    (some (AV.tup [AV.int IntKind.i64 0, AV.int IntKind.i64 0, AV.int IntKind.i64 3], []) : Option (AV × List AV)) := by kernel_rfl
theorem u652_1 (i1 : Int) (i2 : Int) (i3 : Int) : sel (some (1, [AV.int IntKind.i64 i1, AV.int IntKind.i64 i2, AV.int IntKind.i64 i3])) x652 =
    (some (AV.tup [AV.int IntKind.i64 i1, AV.int IntKind.i64 i2, AV.int IntKind.i64 i3], []) : Option (AV × List AV)) := by kernel_rfl
theorem e65 (xs : List AV) (n : Int) : funK (cx []) big F65 [AV.sl 1 xs, AV.int IntKind.i64 n] =
    sel
  (loopN b651 big
    [AV.int IntKind.i64 n, AV.int IntKind.u64 0, AV.bool false, AV.sl 1 xs, AV.int IntKind.i64 (↑xs.length : Int),
      AV.int IntKind.i64 0])
  x652 := by kernel_rfl
theorem e23 (xs : List AV) (n : Int) : funK (cx []) big F23 [AV.sl 1 xs, AV.int IntKind.i64 n] =
    okK
  (0 ≤ (↑0 : Int) ∧
    ((↑0 : Int) ≤ if n < (↑xs.length : Int) then n else (↑xs.length : Int)) ∧
      (if n < (↑xs.length : Int) then n else (↑xs.length : Int)) ≤ (↑xs.length : Int) ∧
        (↑xs.length : Int) ≤ (↑xs.length : Int))
  (okK
    (((List.replicate 0 (AV.int IntKind.u8 0)).length +
          (List.drop 0 (List.take (if n < (↑xs.length : Int) then n else (↑xs.length : Int)).toNat xs)).length) *
        1 ≤
      140737488355328)
    (some (AV.own 1 ([] ++ List.take (if n < (↑xs.length : Int) then n else (↑xs.length : Int)).toNat xs) none, []))) := by kernel_rfl
theorem e18 (n : Int) (m : Int) : funK (cx []) big F18 [AV.int IntKind.i64 n, AV.int IntKind.i64 m] =
    preK (decide (m ≠ 0))
  (br (decide (veiled.rem n m < 0)) (some (AV.int IntKind.i64 (veiled.wrap IntKind.i64 (veiled.rem n m + m)), []))
    (some (AV.int IntKind.i64 (veiled.rem n m), []))) := by kernel_rfl
noncomputable def b281 : (List AV → Option (Nat × List AV)) → List AV → Option (Nat × List AV) := fun again vs =>
  hdK vs fun v vs =>
    fitS 1 v fun xs =>
      hdK vs fun v vs =>
        fitI IntKind.u64 v fun n =>
          hdK vs fun v vs =>
            fitI IntKind.i64 v fun n_1 =>
              nlK vs
                (br (decide (n_1 ≥ (↑xs.length : Int)))
                  (some (1, [AV.int IntKind.i64 0, AV.own 1 [] none, AV.int IntKind.i64 0, AV.int IntKind.i64 3]))
                  (idxK n_1 xs.length fun j =>
                    nthK xs j fun y =>
                      fitI IntKind.u8 y fun n_2 =>
                        br (decide (n_1 ≤ 9))
                          (preK
                            (decide
                              (0 ≤
                                veiled.wrap IntKind.u64
                                  (veiled.wrap IntKind.i64 (7 * veiled.wrap IntKind.i64 (n_1 - 1)))))
                            (br (decide (n_2 < 128))
                              (br (n_2 == 0)
                                (br (decide (veiled.wrap IntKind.i64 (n_1 + 1) > 2))
                                  (some
                                    (1,
                                      [AV.int IntKind.i64 0, AV.own 1 [] none, AV.int IntKind.i64 0,
                                        AV.int IntKind.i64 2]))
                                  (some
                                    (0,
                                      [AV.sl 1 xs,
                                        AV.int IntKind.u64
                                          (veiled.or IntKind.u64 n
                                            (veiled.shl IntKind.u64
                                              (veiled.wrap IntKind.u64 (veiled.and IntKind.u8 n_2 127))
                                              (veiled.wrap IntKind.u64
                                                (veiled.wrap IntKind.i64 (7 * veiled.wrap IntKind.i64 (n_1 - 1)))))),
                                        AV.int IntKind.i64 (veiled.wrap IntKind.i64 (n_1 + 1))])))
                                (some
                                  (0,
                                    [AV.sl 1 xs,
                                      AV.int IntKind.u64
                                        (veiled.or IntKind.u64 n
                                          (veiled.shl IntKind.u64
                                            (veiled.wrap IntKind.u64 (veiled.and IntKind.u8 n_2 127))
                                            (veiled.wrap IntKind.u64
                                              (veiled.wrap IntKind.i64 (7 * veiled.wrap IntKind.i64 (n_1 - 1)))))),
                                      AV.int IntKind.i64 (veiled.wrap IntKind.i64 (n_1 + 1))])))
                              (again
                                [AV.sl 1 xs,
                                  AV.int IntKind.u64
                                    (veiled.or IntKind.u64 n
                                      (veiled.shl IntKind.u64 (veiled.wrap IntKind.u64 (veiled.and IntKind.u8 n_2 127))
                                        (veiled.wrap IntKind.u64
                                          (veiled.wrap IntKind.i64 (7 * veiled.wrap IntKind.i64 (n_1 - 1)))))),
                                  AV.int IntKind.i64 (veiled.wrap IntKind.i64 (n_1 + 1))])))
                          (br (decide (n_2 < 128))
                            (br (n_2 == 0)
                              (br (decide (veiled.wrap IntKind.i64 (n_1 + 1) > 2))
                                (some
                                  (1,
                                    [AV.int IntKind.i64 0, AV.own 1 [] none, AV.int IntKind.i64 0,
                                      AV.int IntKind.i64 2]))
                                (some
                                  (0,
                                    [AV.sl 1 xs, AV.int IntKind.u64 n,
                                      AV.int IntKind.i64 (veiled.wrap IntKind.i64 (n_1 + 1))])))
                              (some
                                (0,
                                  [AV.sl 1 xs, AV.int IntKind.u64 n,
                                    AV.int IntKind.i64 (veiled.wrap IntKind.i64 (n_1 + 1))])))
                            (again
                              [AV.sl 1 xs, AV.int IntKind.u64 n,
                                AV.int IntKind.i64 (veiled.wrap IntKind.i64 (n_1 + 1))]))))
theorem t281 (again : List AV → Option (Nat × List AV)) (xs1 : List AV) (i1 : Int) (i2 : Int) : b281 again [AV.sl 1 xs1, AV.int IntKind.u64 i1, AV.int IntKind.i64 i2] =
    br (decide (i2 ≥ (↑xs1.length : Int)))
  (some (1, [AV.int IntKind.i64 0, AV.own 1 [] none, AV.int IntKind.i64 0, AV.int IntKind.i64 3]))
  (idxK i2 xs1.length fun j =>
    nthK xs1 j fun y =>
      fitI IntKind.u8 y fun n =>
        br (decide (i2 ≤ 9))
          (preK (decide (0 ≤ veiled.wrap IntKind.u64 (veiled.wrap IntKind.i64 (7 * veiled.wrap IntKind.i64 (i2 - 1)))))
            (br (decide (n < 128))
              (br (n == 0)
                (br (decide (veiled.wrap IntKind.i64 (i2 + 1) > 2))
                  (some (1, [AV.int IntKind.i64 0, AV.own 1 [] none, AV.int IntKind.i64 0, AV.int IntKind.i64 2]))
                  (some
                    (0,
                      [AV.sl 1 xs1,
                        AV.int IntKind.u64
                          (veiled.or IntKind.u64 i1
                            (veiled.shl IntKind.u64 (veiled.wrap IntKind.u64 (veiled.and IntKind.u8 n 127))
                              (veiled.wrap IntKind.u64
                                (veiled.wrap IntKind.i64 (7 * veiled.wrap IntKind.i64 (i2 - 1)))))),
                        AV.int IntKind.i64 (veiled.wrap IntKind.i64 (i2 + 1))])))
                (some
                  (0,
                    [AV.sl 1 xs1,
                      AV.int IntKind.u64
                        (veiled.or IntKind.u64 i1
                          (veiled.shl IntKind.u64 (veiled.wrap IntKind.u64 (veiled.and IntKind.u8 n 127))
                            (veiled.wrap IntKind.u64
                              (veiled.wrap IntKind.i64 (7 * veiled.wrap IntKind.i64 (i2 - 1)))))),
                      AV.int IntKind.i64 (veiled.wrap IntKind.i64 (i2 + 1))])))
              (again
                [AV.sl 1 xs1,
                  AV.int IntKind.u64
                    (veiled.or IntKind.u64 i1
                      (veiled.shl IntKind.u64 (veiled.wrap IntKind.u64 (veiled.and IntKind.u8 n 127))
                        (veiled.wrap IntKind.u64 (veiled.wrap IntKind.i64 (7 * veiled.wrap IntKind.i64 (i2 - 1)))))),
                  AV.int IntKind.i64 (veiled.wrap IntKind.i64 (i2 + 1))])))
          (br (decide (n < 128))
            (br (n == 0)
              (br (decide (veiled.wrap IntKind.i64 (i2 + 1) > 2))
                (some (1, [AV.int IntKind.i64 0, AV.own 1 [] none, AV.int IntKind.i64 0, AV.int IntKind.i64 2]))
                (some (0, [AV.sl 1 xs1, AV.int IntKind.u64 i1, AV.int IntKind.i64 (veiled.wrap IntKind.i64 (i2 + 1))])))
              (some (0, [AV.sl 1 xs1, AV.int IntKind.u64 i1, AV.int IntKind.i64 (veiled.wrap IntKind.i64 (i2 + 1))])))
            (again [AV.sl 1 xs1, AV.int IntKind.u64 i1, AV.int IntKind.i64 (veiled.wrap IntKind.i64 (i2 + 1))]))) := by kernel_rfl
noncomputable def x281 : List (List AV → Option (Nat × List AV)) := [fun ws =>
  hdK ws fun v vs =>
    fitS 1 v fun xs =>
      hdK vs fun v vs =>
        fitI IntKind.u64 v fun n =>
          hdK vs fun v vs =>
            fitI IntKind.i64 v fun n_1 => nlK vs (some (0, [AV.sl 1 xs, AV.int IntKind.u64 n, AV.int IntKind.i64 n_1])),
  fun ws =>
  hdK ws fun v vs =>
    fitI IntKind.i64 v fun n =>
      hdK vs fun v vs =>
        fitO 1 v fun xs p =>
          hdK vs fun v vs =>
            fitI IntKind.i64 v fun n_1 =>
              hdK vs fun v vs =>
                fitI IntKind.i64 v fun n_2 =>
                  nlK vs
                    (some (1, [AV.int IntKind.i64 n, AV.own 1 xs p, AV.int IntKind.i64 n_1, AV.int IntKind.i64 n_2]))]
theorem u281_0 (xs1 : List AV) (i1 : Int) (i2 : Int) : sel (some (0, [AV.sl 1 xs1, AV.int IntKind.u64 i1, AV.int IntKind.i64 i2])) x281 =
    (some (0, [AV.sl 1 xs1, AV.int IntKind.u64 i1, AV.int IntKind.i64 i2]) : Option (Nat × List AV)) := by kernel_rfl
theorem u281_1 (i1 : Int) (xs1 : List AV) (i2 : Int) (i3 : Int) : sel (some (1, [AV.int IntKind.i64 i1, AV.own 1 xs1 none, AV.int IntKind.i64 i2, AV.int IntKind.i64 i3])) x281 =
    (some (1, [AV.int IntKind.i64 i1, AV.own 1 xs1 none, AV.int IntKind.i64 i2, AV.int IntKind.i64 i3]) : Option (Nat × List AV)) := by kernel_rfl
noncomputable def b282 : (List AV → Option (Nat × List AV)) → List AV → Option (Nat × List AV) := fun again vs =>
  hdK vs fun v vs =>
    fitS 1 v fun xs =>
      hdK vs fun v vs =>
        fitI IntKind.u64 v fun n =>
          hdK vs fun v vs =>
            fitI IntKind.i64 v fun n_1 =>
              hdK vs fun v vs =>
                fitI IntKind.i64 v fun n_2 =>
                  hdK vs fun v vs =>
                    fitI IntKind.u64 v fun n_3 =>
                      hdK vs fun v vs =>
                        fitI IntKind.i64 v fun n_4 =>
                          nlK vs
                            (br (decide (n_4 < n_2))
                              (idxK n_4 xs.length fun j =>
                                nthK xs j fun y =>
                                  fitI IntKind.u8 y fun n_5 =>
                                    again
                                      [AV.sl 1 xs, AV.int IntKind.u64 n, AV.int IntKind.i64 n_1, AV.int IntKind.i64 n_2,
                                        AV.int IntKind.u64
                                          (veiled.or IntKind.u64 (veiled.shl IntKind.u64 n_3 8)
                                            (veiled.wrap IntKind.u64 n_5)),
                                        AV.int IntKind.i64 (veiled.wrap IntKind.i64 (n_4 + 1))])
                              (some
                                (0,
                                  [AV.sl 1 xs, AV.int IntKind.u64 n, AV.int IntKind.i64 n_1, AV.int IntKind.i64 n_2,
                                    AV.int IntKind.u64 n_3])))
theorem t282 (again : List AV → Option (Nat × List AV)) (xs1 : List AV) (i1 : Int) (i2 : Int) (i3 : Int) (i4 : Int) (i5 : Int) : b282 again
  [AV.sl 1 xs1, AV.int IntKind.u64 i1, AV.int IntKind.i64 i2, AV.int IntKind.i64 i3, AV.int IntKind.u64 i4,
    AV.int IntKind.i64 i5] =
    br (decide (i5 < i3))
  (idxK i5 xs1.length fun j =>
    nthK xs1 j fun y =>
      fitI IntKind.u8 y fun n =>
        again
          [AV.sl 1 xs1, AV.int IntKind.u64 i1, AV.int IntKind.i64 i2, AV.int IntKind.i64 i3,
            AV.int IntKind.u64 (veiled.or IntKind.u64 (veiled.shl IntKind.u64 i4 8) (veiled.wrap IntKind.u64 n)),
            AV.int IntKind.i64 (veiled.wrap IntKind.i64 (i5 + 1))])
  (some (0, [AV.sl 1 xs1, AV.int IntKind.u64 i1, AV.int IntKind.i64 i2, AV.int IntKind.i64 i3, AV.int IntKind.u64 i4])) := by kernel_rfl
noncomputable def x282 : List (List AV → Option (AV × List AV)) := [fun ws =>
  hdK ws fun v vs =>
    fitS 1 v fun xs =>
      hdK vs fun v vs =>
        fitI IntKind.u64 v fun n =>
          hdK vs fun v vs =>
            fitI IntKind.i64 v fun n_1 =>
              hdK vs fun v vs =>
                fitI IntKind.i64 v fun n_2 =>
                  hdK vs fun v vs =>
                    fitI IntKind.u64 v fun n_3 =>
                      nlK vs
                        (okK
                          (0 ≤ (↑0 : Int) ∧
                            (↑0 : Int) ≤ veiled.wrap IntKind.i64 (n_2 - 8) ∧
                              veiled.wrap IntKind.i64 (n_2 - 8) ≤ (↑xs.length : Int) ∧
                                (↑xs.length : Int) ≤ (↑xs.length : Int))
                          (preK (okB (List.take (veiled.wrap IntKind.i64 (n_2 - 8)).toNat xs))
                            (br (n_3 != sumV (List.take (veiled.wrap IntKind.i64 (n_2 - 8)).toNat xs))
                              (some
                                (AV.tup
                                    [AV.int IntKind.i64 0, AV.own 1 [] none, AV.int IntKind.i64 0,
                                      AV.int IntKind.i64 13],
                                  []))
                              (idxK 0 xs.length fun j =>
                                nthK xs j fun y =>
                                  fitI IntKind.u8 y fun n_4 =>
                                    okK
                                      (0 ≤ n_1 ∧
                                        n_1 ≤ veiled.wrap IntKind.i64 (n_1 + veiled.wrap IntKind.i64 n) ∧
                                          veiled.wrap IntKind.i64 (n_1 + veiled.wrap IntKind.i64 n) ≤
                                              (↑xs.length : Int) ∧
                                            (↑xs.length : Int) ≤ (↑xs.length : Int))
                                      (okK
                                        (((partOf (List.replicate 0 (AV.int IntKind.u8 0)) none).length +
                                              (List.drop n_1.toNat
                                                  (List.take
                                                    (veiled.wrap IntKind.i64 (n_1 + veiled.wrap IntKind.i64 n)).toNat
                                                    xs)).length) *
                                            1 ≤
                                          140737488355328)
                                        (some
                                          (AV.tup
                                              [AV.int IntKind.i64 (veiled.wrap IntKind.i64 n_4),
                                                AV.own 1
                                                  ((partOf [] none).append
                                                    (List.drop n_1.toNat
                                                      (List.take
                                                        (veiled.wrap IntKind.i64
                                                            (n_1 + veiled.wrap IntKind.i64 n)).toNat
                                                        xs)))
                                                  none,
                                                AV.int IntKind.i64 n_2, AV.int IntKind.i64 0],
                                            [])))))))]
theorem u282_0 (xs1 : List AV) (i1 : Int) (i2 : Int) (i3 : Int) (i4 : Int) : sel (some (0, [AV.sl 1 xs1, AV.int IntKind.u64 i1, AV.int IntKind.i64 i2, AV.int IntKind.i64 i3, AV.int IntKind.u64 i4])) x282 =
    (okK
  (0 ≤ (↑0 : Int) ∧
    (↑0 : Int) ≤ veiled.wrap IntKind.i64 (i3 - 8) ∧
      veiled.wrap IntKind.i64 (i3 - 8) ≤ (↑xs1.length : Int) ∧ (↑xs1.length : Int) ≤ (↑xs1.length : Int))
  (preK (okB (List.take (veiled.wrap IntKind.i64 (i3 - 8)).toNat xs1))
    (br (i4 != sumV (List.take (veiled.wrap IntKind.i64 (i3 - 8)).toNat xs1))
      (some (AV.tup [AV.int IntKind.i64 0, AV.own 1 [] none, AV.int IntKind.i64 0, AV.int IntKind.i64 13], []))
      (idxK 0 xs1.length fun j =>
        nthK xs1 j fun y =>
          fitI IntKind.u8 y fun n =>
            okK
              (0 ≤ i2 ∧
                i2 ≤ veiled.wrap IntKind.i64 (i2 + veiled.wrap IntKind.i64 i1) ∧
                  veiled.wrap IntKind.i64 (i2 + veiled.wrap IntKind.i64 i1) ≤ (↑xs1.length : Int) ∧
                    (↑xs1.length : Int) ≤ (↑xs1.length : Int))
              (okK
                (((List.replicate 0 (AV.int IntKind.u8 0)).length +
                      (List.drop i2.toNat
                          (List.take (veiled.wrap IntKind.i64 (i2 + veiled.wrap IntKind.i64 i1)).toNat xs1)).length) *
                    1 ≤
                  140737488355328)
                (some
                  (AV.tup
                      [AV.int IntKind.i64 (veiled.wrap IntKind.i64 n),
                        AV.own 1
                          ([] ++
                            List.drop i2.toNat
                              (List.take (veiled.wrap IntKind.i64 (i2 + veiled.wrap IntKind.i64 i1)).toNat xs1))
                          none,
                        AV.int IntKind.i64 i3, AV.int IntKind.i64 0],
                    [])))))) : Option (AV × List AV)) := by kernel_rfl
noncomputable def x283 : List (List AV → Option (AV × List AV)) := [fun ws =>
  hdK ws fun v vs =>
    fitS 1 v fun xs =>
      hdK vs fun v vs =>
        fitI IntKind.u64 v fun n =>
          hdK vs fun v vs =>
            fitI IntKind.i64 v fun n_1 =>
              nlK vs
                (br (decide (n_1 > 10))
                  (some
                    (AV.tup [AV.int IntKind.i64 0, AV.own 1 [] none, AV.int IntKind.i64 0, AV.int IntKind.i64 4], []))
                  (br (decide (n > 4194304))
                    (some
                      (AV.tup [AV.int IntKind.i64 0, AV.own 1 [] none, AV.int IntKind.i64 0, AV.int IntKind.i64 4], []))
                    (br
                      (decide
                        ((↑xs.length : Int) <
                          veiled.wrap IntKind.i64 (veiled.wrap IntKind.i64 (n_1 + veiled.wrap IntKind.i64 n) + 8)))
                      (some
                        (AV.tup [AV.int IntKind.i64 0, AV.own 1 [] none, AV.int IntKind.i64 0, AV.int IntKind.i64 3],
                          []))
                      (sel
                        (loopN b282 big
                          [AV.sl 1 xs, AV.int IntKind.u64 n, AV.int IntKind.i64 n_1,
                            AV.int IntKind.i64
                              (veiled.wrap IntKind.i64 (veiled.wrap IntKind.i64 (n_1 + veiled.wrap IntKind.i64 n) + 8)),
                            AV.int IntKind.u64 0,
                            AV.int IntKind.i64
                              (veiled.wrap IntKind.i64
                                (veiled.wrap IntKind.i64
                                    (veiled.wrap IntKind.i64 (n_1 + veiled.wrap IntKind.i64 n) + 8) -
                                  8))])
                        x282)))),
  fun ws =>
  hdK ws fun v vs =>
    fitI IntKind.i64 v fun n =>
      hdK vs fun v vs =>
        fitO 1 v fun xs p =>
          hdK vs fun v vs =>
            fitI IntKind.i64 v fun n_1 =>
              hdK vs fun v vs =>
                fitI IntKind.i64 v fun n_2 =>
                  nlK vs
                    (some
                      (AV.tup [AV.int IntKind.i64 n, AV.own 1 xs p, AV.int IntKind.i64 n_1, AV.int IntKind.i64 n_2],
                        []))]
theorem u283_0 (xs1 : List AV) (i1 : Int) (i2 : Int) : sel (some (0, [AV.sl 1 xs1, AV.int IntKind.u64 i1, AV.int IntKind.i64 i2])) x283 =
    (br (decide (i2 > 10))
  (some (AV.tup [AV.int IntKind.i64 0, AV.own 1 [] none, AV.int IntKind.i64 0, AV.int IntKind.i64 4], []))
  (br (decide (i1 > 4194304))
    (some (AV.tup [AV.int IntKind.i64 0, AV.own 1 [] none, AV.int IntKind.i64 0, AV.int IntKind.i64 4], []))
    (br
      (decide
        ((↑xs1.length : Int) < veiled.wrap IntKind.i64 (veiled.wrap IntKind.i64 (i2 + veiled.wrap IntKind.i64 i1) + 8)))
      (some (AV.tup [AV.int IntKind.i64 0, AV.own 1 [] none, AV.int IntKind.i64 0, AV.int IntKind.i64 3], []))
      (sel
        (loopN b282 big
          [AV.sl 1 xs1, AV.int IntKind.u64 i1, AV.int IntKind.i64 i2,
            AV.int IntKind.i64
              (veiled.wrap IntKind.i64 (veiled.wrap IntKind.i64 (i2 + veiled.wrap IntKind.i64 i1) + 8)),
            AV.int IntKind.u64 0,
            AV.int IntKind.i64
              (veiled.wrap IntKind.i64
                (veiled.wrap IntKind.i64 (veiled.wrap IntKind.i64 (i2 + veiled.wrap IntKind.i64 i1) + 8) - 8))])
        x282))) : Option (AV × List AV)) := by kernel_rfl
theorem u283_1 (i1 : Int) (xs1 : List AV) (i2 : Int) (i3 : Int) : sel (some (1, [AV.int IntKind.i64 i1, AV.own 1 xs1 none, AV.int IntKind.i64 i2, AV.int IntKind.i64 i3])) x283 =
    (some (AV.tup [AV.int IntKind.i64 i1, AV.own 1 xs1 none, AV.int IntKind.i64 i2, AV.int IntKind.i64 i3], []) : Option (AV × List AV)) := by kernel_rfl
theorem e28 (xs : List AV) : funK (cx [(26, k26)]) big F28 [AV.sl 1 xs] =
    br ((↑xs.length : Int) == 0)
  (some (AV.tup [AV.int IntKind.i64 0, AV.own 1 [] none, AV.int IntKind.i64 0, AV.int IntKind.i64 3], []))
  (idxK 0 xs.length fun j =>
    nthK xs j fun y =>
      fitI IntKind.u8 y fun n =>
        br (n == 0)
          (some (AV.tup [AV.int IntKind.i64 0, AV.own 1 [] none, AV.int IntKind.i64 0, AV.int IntKind.i64 2], []))
          (sel (sel (loopN b281 big [AV.sl 1 xs, AV.int IntKind.u64 0, AV.int IntKind.i64 1]) x281)
            x283)) := by kernel_rfl
noncomputable def x271 : List (List AV → Option (AV × List AV)) := [fun ws =>
  hdK ws fun v vs =>
    fitI IntKind.i64 v fun n =>
      hdK vs fun v vs =>
        fitS 1 v fun xs =>
          hdK vs fun v vs =>
            fitI IntKind.i64 v fun n_1 =>
              hdK vs fun v vs =>
                fitI IntKind.i64 v fun n_2 =>
                  nlK vs
                    (some
                      (AV.tup [AV.int IntKind.i64 n, AV.sl 1 xs, AV.int IntKind.i64 n_1, AV.int IntKind.i64 n_2], [])),
  fun ws =>
  hdK ws fun v vs =>
    fitS 1 v fun xs =>
      nlK vs
        (okK
          ((↑0 : Int) ≤ 1 ∧
            1 ≤ (↑xs.length : Int) ∧ (↑xs.length : Int) ≤ (↑xs.length : Int) ∧ (↑xs.length : Int) ≤ (↑xs.length : Int))
          (preK
            (match okB (List.drop 1 (List.take (↑xs.length : Int).toNat xs)) with
            | false => false
            | true => true)
            (br (cdE (List.drop 1 (List.take (↑xs.length : Int).toNat xs)) != 0)
              (some
                (AV.tup
                    [AV.int IntKind.i64 0, AV.sl 1 [], AV.int IntKind.i64 0,
                      AV.int IntKind.i64 (cdE (List.drop 1 (List.take (↑xs.length : Int).toNat xs)))],
                  []))
              (br
                (decide
                  ((↑xs.length : Int) <
                    veiled.wrap IntKind.i64
                      (veiled.wrap IntKind.i64
                          (veiled.wrap IntKind.i64 (1 + cdA (List.drop 1 (List.take (↑xs.length : Int).toNat xs))) +
                            cdN (List.drop 1 (List.take (↑xs.length : Int).toNat xs))) +
                        8)))
                (some (AV.tup [AV.int IntKind.i64 0, AV.sl 1 [], AV.int IntKind.i64 0, AV.int IntKind.i64 3], []))
                (okK
                  (0 ≤ (↑0 : Int) ∧
                    (↑0 : Int) ≤
                        veiled.wrap IntKind.i64
                          (veiled.wrap IntKind.i64 (1 + cdA (List.drop 1 (List.take (↑xs.length : Int).toNat xs))) +
                            cdN (List.drop 1 (List.take (↑xs.length : Int).toNat xs))) ∧
                      veiled.wrap IntKind.i64
                            (veiled.wrap IntKind.i64 (1 + cdA (List.drop 1 (List.take (↑xs.length : Int).toNat xs))) +
                              cdN (List.drop 1 (List.take (↑xs.length : Int).toNat xs))) ≤
                          (↑xs.length : Int) ∧
                        (↑xs.length : Int) ≤ (↑xs.length : Int))
                  (okK
                    ((List.drop 0
                            (List.take
                              (veiled.wrap IntKind.i64
                                  (veiled.wrap IntKind.i64
                                      (1 + cdA (List.drop 1 (List.take (↑xs.length : Int).toNat xs))) +
                                    cdN (List.drop 1 (List.take (↑xs.length : Int).toNat xs)))).toNat
                              xs)).length *
                        1 ≤
                      140737488355328)
                    (preK
                      (match
                        okB
                          (List.take
                            (veiled.wrap IntKind.i64
                                (veiled.wrap IntKind.i64
                                    (1 + cdA (List.drop 1 (List.take (↑xs.length : Int).toNat xs))) +
                                  cdN (List.drop 1 (List.take (↑xs.length : Int).toNat xs)))).toNat
                            xs) with
                      | false => false
                      | true =>
                        (List.take
                                (veiled.wrap IntKind.i64
                                    (veiled.wrap IntKind.i64
                                        (1 + cdA (List.drop 1 (List.take (↑xs.length : Int).toNat xs))) +
                                      cdN (List.drop 1 (List.take (↑xs.length : Int).toNat xs)))).toNat
                                xs).length.ble
                          140737488355320)
                      (bytesK
                        (partOf
                          (closV
                            (List.take
                              (veiled.wrap IntKind.i64
                                  (veiled.wrap IntKind.i64
                                      (1 + cdA (List.drop 1 (List.take (↑xs.length : Int).toNat xs))) +
                                    cdN (List.drop 1 (List.take (↑xs.length : Int).toNat xs)))).toNat
                              xs))
                          none)
                        fun s =>
                        okK
                          (0 ≤ (↑0 : Int) ∧
                            (↑0 : Int) ≤
                                veiled.wrap IntKind.i64
                                  (veiled.wrap IntKind.i64
                                      (veiled.wrap IntKind.i64
                                          (1 + cdA (List.drop 1 (List.take (↑xs.length : Int).toNat xs))) +
                                        cdN (List.drop 1 (List.take (↑xs.length : Int).toNat xs))) +
                                    8) ∧
                              veiled.wrap IntKind.i64
                                    (veiled.wrap IntKind.i64
                                        (veiled.wrap IntKind.i64
                                            (1 + cdA (List.drop 1 (List.take (↑xs.length : Int).toNat xs))) +
                                          cdN (List.drop 1 (List.take (↑xs.length : Int).toNat xs))) +
                                      8) ≤
                                  (↑xs.length : Int) ∧
                                (↑xs.length : Int) ≤ (↑xs.length : Int))
                          (bytesK
                            (List.take
                              (veiled.wrap IntKind.i64
                                  (veiled.wrap IntKind.i64
                                      (veiled.wrap IntKind.i64
                                          (1 + cdA (List.drop 1 (List.take (↑xs.length : Int).toNat xs))) +
                                        cdN (List.drop 1 (List.take (↑xs.length : Int).toNat xs))) +
                                    8)).toNat
                              xs)
                            fun s_1 =>
                            br (!s.toList == s_1.toList)
                              (some
                                (AV.tup [AV.int IntKind.i64 0, AV.sl 1 [], AV.int IntKind.i64 0, AV.int IntKind.i64 13],
                                  []))
                              (idxK 0 xs.length fun j =>
                                nthK xs j fun y =>
                                  fitI IntKind.u8 y fun n =>
                                    okK
                                      (0 ≤
                                          veiled.wrap IntKind.i64
                                            (1 + cdA (List.drop 1 (List.take (↑xs.length : Int).toNat xs))) ∧
                                        veiled.wrap IntKind.i64
                                              (1 + cdA (List.drop 1 (List.take (↑xs.length : Int).toNat xs))) ≤
                                            veiled.wrap IntKind.i64
                                              (veiled.wrap IntKind.i64
                                                  (1 + cdA (List.drop 1 (List.take (↑xs.length : Int).toNat xs))) +
                                                cdN (List.drop 1 (List.take (↑xs.length : Int).toNat xs))) ∧
                                          veiled.wrap IntKind.i64
                                                (veiled.wrap IntKind.i64
                                                    (1 + cdA (List.drop 1 (List.take (↑xs.length : Int).toNat xs))) +
                                                  cdN (List.drop 1 (List.take (↑xs.length : Int).toNat xs))) ≤
                                              veiled.wrap IntKind.i64
                                                (veiled.wrap IntKind.i64
                                                    (1 + cdA (List.drop 1 (List.take (↑xs.length : Int).toNat xs))) +
                                                  cdN (List.drop 1 (List.take (↑xs.length : Int).toNat xs))) ∧
                                            veiled.wrap IntKind.i64
                                                (veiled.wrap IntKind.i64
                                                    (1 + cdA (List.drop 1 (List.take (↑xs.length : Int).toNat xs))) +
                                                  cdN (List.drop 1 (List.take (↑xs.length : Int).toNat xs))) ≤
                                              (↑(partOf
                                                      (closV
                                                        (List.take
                                                          (veiled.wrap IntKind.i64
                                                              (veiled.wrap IntKind.i64
                                                                  (1 +
                                                                    cdA
                                                                      (List.drop 1
                                                                        (List.take (↑xs.length : Int).toNat xs))) +
                                                                cdN
                                                                  (List.drop 1
                                                                    (List.take (↑xs.length : Int).toNat xs)))).toNat
                                                          xs))
                                                      none).length :
                                                Int))
                                      (some
                                        (AV.tup
                                            [AV.int IntKind.i64 (veiled.wrap IntKind.i64 n),
                                              AV.sl 1
                                                (partOf
                                                  (closV
                                                    (List.take
                                                      (veiled.wrap IntKind.i64
                                                          (veiled.wrap IntKind.i64
                                                              (1 +
                                                                cdA
                                                                  (List.drop 1
                                                                    (List.take (↑xs.length : Int).toNat xs))) +
                                                            cdN
                                                              (List.drop 1
                                                                (List.take (↑xs.length : Int).toNat xs)))).toNat
                                                      xs))
                                                  (some
                                                    (0 +
                                                        (veiled.wrap IntKind.i64
                                                            (1 +
                                                              cdA
                                                                (List.drop 1
                                                                  (List.take (↑xs.length : Int).toNat xs)))).toNat,
                                                      (veiled.wrap IntKind.i64
                                                            (veiled.wrap IntKind.i64
                                                                (1 +
                                                                  cdA
                                                                    (List.drop 1
                                                                      (List.take (↑xs.length : Int).toNat xs))) +
                                                              cdN
                                                                (List.drop 1
                                                                  (List.take (↑xs.length : Int).toNat xs)))).toNat -
                                                        (veiled.wrap IntKind.i64
                                                            (1 +
                                                              cdA
                                                                (List.drop 1
                                                                  (List.take (↑xs.length : Int).toNat xs)))).toNat))),
                                              AV.int IntKind.i64
                                                (↑(partOf
                                                        (closV
                                                          (List.take
                                                            (veiled.wrap IntKind.i64
                                                                (veiled.wrap IntKind.i64
                                                                    (1 +
                                                                      cdA
                                                                        (List.drop 1
                                                                          (List.take (↑xs.length : Int).toNat xs))) +
                                                                  cdN
                                                                    (List.drop 1
                                                                      (List.take (↑xs.length : Int).toNat xs)))).toNat
                                                            xs))
                                                        none).length :
                                                  Int),
                                              AV.int IntKind.i64 0],
                                          []))))))))))))]
theorem u271_0 (i1 : Int) (xs1 : List AV) (i2 : Int) (i3 : Int) : sel (some (0, [AV.int IntKind.i64 i1, AV.sl 1 xs1, AV.int IntKind.i64 i2, AV.int IntKind.i64 i3])) x271 =
    (some (AV.tup [AV.int IntKind.i64 i1, AV.sl 1 xs1, AV.int IntKind.i64 i2, AV.int IntKind.i64 i3], []) : Option (AV × List AV)) := by kernel_rfl
theorem u271_1 (xs1 : List AV) : sel (some (1, [AV.sl 1 xs1])) x271 =
    (okK
  ((↑0 : Int) ≤ 1 ∧
    1 ≤ (↑xs1.length : Int) ∧ (↑xs1.length : Int) ≤ (↑xs1.length : Int) ∧ (↑xs1.length : Int) ≤ (↑xs1.length : Int))
  (preK
    (match okB (List.drop 1 (List.take (↑xs1.length : Int).toNat xs1)) with
    | false => false
    | true => true)
    (br (cdE (List.drop 1 (List.take (↑xs1.length : Int).toNat xs1)) != 0)
      (some
        (AV.tup
            [AV.int IntKind.i64 0, AV.sl 1 [], AV.int IntKind.i64 0,
              AV.int IntKind.i64 (cdE (List.drop 1 (List.take (↑xs1.length : Int).toNat xs1)))],
          []))
      (br
        (decide
          ((↑xs1.length : Int) <
            veiled.wrap IntKind.i64
              (veiled.wrap IntKind.i64
                  (veiled.wrap IntKind.i64 (1 + cdA (List.drop 1 (List.take (↑xs1.length : Int).toNat xs1))) +
                    cdN (List.drop 1 (List.take (↑xs1.length : Int).toNat xs1))) +
                8)))
        (some (AV.tup [AV.int IntKind.i64 0, AV.sl 1 [], AV.int IntKind.i64 0, AV.int IntKind.i64 3], []))
        (okK
          (0 ≤ (↑0 : Int) ∧
            (↑0 : Int) ≤
                veiled.wrap IntKind.i64
                  (veiled.wrap IntKind.i64 (1 + cdA (List.drop 1 (List.take (↑xs1.length : Int).toNat xs1))) +
                    cdN (List.drop 1 (List.take (↑xs1.length : Int).toNat xs1))) ∧
              veiled.wrap IntKind.i64
                    (veiled.wrap IntKind.i64 (1 + cdA (List.drop 1 (List.take (↑xs1.length : Int).toNat xs1))) +
                      cdN (List.drop 1 (List.take (↑xs1.length : Int).toNat xs1))) ≤
                  (↑xs1.length : Int) ∧
                (↑xs1.length : Int) ≤ (↑xs1.length : Int))
          (okK
            ((List.drop 0
                    (List.take
                      (veiled.wrap IntKind.i64
                          (veiled.wrap IntKind.i64 (1 + cdA (List.drop 1 (List.take (↑xs1.length : Int).toNat xs1))) +
                            cdN (List.drop 1 (List.take (↑xs1.length : Int).toNat xs1)))).toNat
                      xs1)).length *
                1 ≤
              140737488355328)
            (preK
              (match
                okB
                  (List.take
                    (veiled.wrap IntKind.i64
                        (veiled.wrap IntKind.i64 (1 + cdA (List.drop 1 (List.take (↑xs1.length : Int).toNat xs1))) +
                          cdN (List.drop 1 (List.take (↑xs1.length : Int).toNat xs1)))).toNat
                    xs1) with
              | false => false
              | true =>
                (List.take
                        (veiled.wrap IntKind.i64
                            (veiled.wrap IntKind.i64 (1 + cdA (List.drop 1 (List.take (↑xs1.length : Int).toNat xs1))) +
                              cdN (List.drop 1 (List.take (↑xs1.length : Int).toNat xs1)))).toNat
                        xs1).length.ble
                  140737488355320)
              (bytesK
                (closV
                  (List.take
                    (veiled.wrap IntKind.i64
                        (veiled.wrap IntKind.i64 (1 + cdA (List.drop 1 (List.take (↑xs1.length : Int).toNat xs1))) +
                          cdN (List.drop 1 (List.take (↑xs1.length : Int).toNat xs1)))).toNat
                    xs1))
                fun s =>
                okK
                  (0 ≤ (↑0 : Int) ∧
                    (↑0 : Int) ≤
                        veiled.wrap IntKind.i64
                          (veiled.wrap IntKind.i64
                              (veiled.wrap IntKind.i64
                                  (1 + cdA (List.drop 1 (List.take (↑xs1.length : Int).toNat xs1))) +
                                cdN (List.drop 1 (List.take (↑xs1.length : Int).toNat xs1))) +
                            8) ∧
                      veiled.wrap IntKind.i64
                            (veiled.wrap IntKind.i64
                                (veiled.wrap IntKind.i64
                                    (1 + cdA (List.drop 1 (List.take (↑xs1.length : Int).toNat xs1))) +
                                  cdN (List.drop 1 (List.take (↑xs1.length : Int).toNat xs1))) +
                              8) ≤
                          (↑xs1.length : Int) ∧
                        (↑xs1.length : Int) ≤ (↑xs1.length : Int))
                  (bytesK
                    (List.take
                      (veiled.wrap IntKind.i64
                          (veiled.wrap IntKind.i64
                              (veiled.wrap IntKind.i64
                                  (1 + cdA (List.drop 1 (List.take (↑xs1.length : Int).toNat xs1))) +
                                cdN (List.drop 1 (List.take (↑xs1.length : Int).toNat xs1))) +
                            8)).toNat
                      xs1)
                    fun s_1 =>
                    br (!s.toList == s_1.toList)
                      (some
                        (AV.tup [AV.int IntKind.i64 0, AV.sl 1 [], AV.int IntKind.i64 0, AV.int IntKind.i64 13], []))
                      (idxK 0 xs1.length fun j =>
                        nthK xs1 j fun y =>
                          fitI IntKind.u8 y fun n =>
                            okK
                              (0 ≤
                                  veiled.wrap IntKind.i64
                                    (1 + cdA (List.drop 1 (List.take (↑xs1.length : Int).toNat xs1))) ∧
                                veiled.wrap IntKind.i64
                                      (1 + cdA (List.drop 1 (List.take (↑xs1.length : Int).toNat xs1))) ≤
                                    veiled.wrap IntKind.i64
                                      (veiled.wrap IntKind.i64
                                          (1 + cdA (List.drop 1 (List.take (↑xs1.length : Int).toNat xs1))) +
                                        cdN (List.drop 1 (List.take (↑xs1.length : Int).toNat xs1))) ∧
                                  veiled.wrap IntKind.i64
                                        (veiled.wrap IntKind.i64
                                            (1 + cdA (List.drop 1 (List.take (↑xs1.length : Int).toNat xs1))) +
                                          cdN (List.drop 1 (List.take (↑xs1.length : Int).toNat xs1))) ≤
                                      veiled.wrap IntKind.i64
                                        (veiled.wrap IntKind.i64
                                            (1 + cdA (List.drop 1 (List.take (↑xs1.length : Int).toNat xs1))) +
                                          cdN (List.drop 1 (List.take (↑xs1.length : Int).toNat xs1))) ∧
                                    veiled.wrap IntKind.i64
                                        (veiled.wrap IntKind.i64
                                            (1 + cdA (List.drop 1 (List.take (↑xs1.length : Int).toNat xs1))) +
                                          cdN (List.drop 1 (List.take (↑xs1.length : Int).toNat xs1))) ≤
                                      (↑(closV
                                              (List.take
                                                (veiled.wrap IntKind.i64
                                                    (veiled.wrap IntKind.i64
                                                        (1 +
                                                          cdA (List.drop 1 (List.take (↑xs1.length : Int).toNat xs1))) +
                                                      cdN
                                                        (List.drop 1 (List.take (↑xs1.length : Int).toNat xs1)))).toNat
                                                xs1)).length :
                                        Int))
                              (some
                                (AV.tup
                                    [AV.int IntKind.i64 (veiled.wrap IntKind.i64 n),
                                      AV.sl 1
                                        (partOf
                                          (closV
                                            (List.take
                                              (veiled.wrap IntKind.i64
                                                  (veiled.wrap IntKind.i64
                                                      (1 +
                                                        cdA (List.drop 1 (List.take (↑xs1.length : Int).toNat xs1))) +
                                                    cdN (List.drop 1 (List.take (↑xs1.length : Int).toNat xs1)))).toNat
                                              xs1))
                                          (some
                                            (0 +
                                                (veiled.wrap IntKind.i64
                                                    (1 +
                                                      cdA
                                                        (List.drop 1 (List.take (↑xs1.length : Int).toNat xs1)))).toNat,
                                              (veiled.wrap IntKind.i64
                                                    (veiled.wrap IntKind.i64
                                                        (1 +
                                                          cdA (List.drop 1 (List.take (↑xs1.length : Int).toNat xs1))) +
                                                      cdN
                                                        (List.drop 1
                                                          (List.take (↑xs1.length : Int).toNat xs1)))).toNat -
                                                (veiled.wrap IntKind.i64
                                                    (1 +
                                                      cdA
                                                        (List.drop 1
                                                          (List.take (↑xs1.length : Int).toNat xs1)))).toNat))),
                                      AV.int IntKind.i64
                                        (↑(closV
                                                (List.take
                                                  (veiled.wrap IntKind.i64
                                                      (veiled.wrap IntKind.i64
                                                          (1 +
                                                            cdA
                                                              (List.drop 1 (List.take (↑xs1.length : Int).toNat xs1))) +
                                                        cdN
                                                          (List.drop 1
                                                            (List.take (↑xs1.length : Int).toNat xs1)))).toNat
                                                  xs1)).length :
                                          Int),
                                      AV.int IntKind.i64 0],
                                  []))))))))))) : Option (AV × List AV)) := by kernel_rfl
theorem e27 (xs : List AV) : funK (cx [(59, k59), (65, k65)]) big F27 [AV.sl 1 xs] =
    sel
  (br ((↑xs.length : Int) == 0)
    (some (0, [AV.int IntKind.i64 0, AV.sl 1 [], AV.int IntKind.i64 0, AV.int IntKind.i64 3]))
    (idxK 0 xs.length fun j =>
      nthK xs j fun y =>
        fitI IntKind.u8 y fun n =>
          br (n == 0) (some (0, [AV.int IntKind.i64 0, AV.sl 1 [], AV.int IntKind.i64 0, AV.int IntKind.i64 2]))
            (some (1, [AV.sl 1 xs]))))
  x271 := by kernel_rfl
noncomputable def x221 : List (List AV → Option (AV × List AV)) := [fun ws =>
  hdK ws fun v vs =>
    fitO 1 v fun xs p =>
      hdK vs fun v vs => fitI IntKind.i64 v fun n => nlK vs (some (AV.tup [AV.own 1 xs p, AV.int IntKind.i64 n], [])),
  fun ws =>
  hdK ws fun v vs =>
    fitI IntKind.i64 v fun n =>
      hdK vs fun v vs =>
        fitS 1 v fun xs =>
          nlK vs
            (preK
              (match decide (0 ≤ (↑xs.length : Int)) with
              | false => false
              | true => decide ((↑xs.length : Int) ≤ 4194304))
              (okK
                (((partOf (AV.int IntKind.u8 (veiled.wrap IntKind.u8 n) :: cntV (↑xs.length : Int)) none).length +
                      xs.length) *
                    1 ≤
                  140737488355328)
                (preK
                  (match
                    okB
                      ((partOf (AV.int IntKind.u8 (veiled.wrap IntKind.u8 n) :: cntV (↑xs.length : Int)) none).append
                        xs) with
                  | false => false
                  | true =>
                    ((partOf (AV.int IntKind.u8 (veiled.wrap IntKind.u8 n) :: cntV (↑xs.length : Int)) none).append
                            xs).length.ble
                      140737488355320)
                  (some
                    (AV.tup
                        [AV.own 1
                            (closV
                              ((partOf (AV.int IntKind.u8 (veiled.wrap IntKind.u8 n) :: cntV (↑xs.length : Int))
                                    none).append
                                xs))
                            none,
                          AV.int IntKind.i64 0],
                      [])))))]
theorem u221_0 (xs1 : List AV) (i1 : Int) : sel (some (0, [AV.own 1 xs1 none, AV.int IntKind.i64 i1])) x221 =
    (some (AV.tup [AV.own 1 xs1 none, AV.int IntKind.i64 i1], []) : Option (AV × List AV)) := by kernel_rfl
theorem u221_1 (i1 : Int) (xs1 : List AV) : sel (some (1, [AV.int IntKind.i64 i1, AV.sl 1 xs1])) x221 =
    (preK
  (match decide (0 ≤ (↑xs1.length : Int)) with
  | false => false
  | true => decide ((↑xs1.length : Int) ≤ 4194304))
  (okK
    (((AV.int IntKind.u8 (veiled.wrap IntKind.u8 i1) :: cntV (↑xs1.length : Int)).length + xs1.length) * 1 ≤
      140737488355328)
    (preK
      (match okB (AV.int IntKind.u8 (veiled.wrap IntKind.u8 i1) :: cntV (↑xs1.length : Int) ++ xs1) with
      | false => false
      | true =>
        (AV.int IntKind.u8 (veiled.wrap IntKind.u8 i1) :: cntV (↑xs1.length : Int) ++ xs1).length.ble 140737488355320)
      (some
        (AV.tup
            [AV.own 1 (closV (AV.int IntKind.u8 (veiled.wrap IntKind.u8 i1) :: cntV (↑xs1.length : Int) ++ xs1)) none,
              AV.int IntKind.i64 0],
          [])))) : Option (AV × List AV)) := by kernel_rfl
theorem e22 (k : Int) (xs : List AV) : funK (cx [(59, k59), (60, k60)]) big F22 [AV.int IntKind.i64 k, AV.sl 1 xs] =
    sel
  (br (decide (k < 1)) (some (0, [AV.own 1 [] none, AV.int IntKind.i64 1]))
    (br (decide (k > 255)) (some (0, [AV.own 1 [] none, AV.int IntKind.i64 1]))
      (br (decide ((↑xs.length : Int) > 4194304)) (some (0, [AV.own 1 [] none, AV.int IntKind.i64 4]))
        (some (1, [AV.int IntKind.i64 k, AV.sl 1 xs])))))
  x221 := by kernel_rfl
noncomputable def b251 : (List AV → Option (Nat × List AV)) → List AV → Option (Nat × List AV) := fun again vs =>
  hdK vs fun v vs =>
    fitO 1 v fun xs p =>
      hdK vs fun v vs =>
        fitI IntKind.u64 v fun n =>
          hdK vs fun v vs =>
            fitI IntKind.i64 v fun n_1 =>
              nlK vs
                (br (decide (n_1 ≥ 0))
                  (preK (decide (0 ≤ veiled.wrap IntKind.u64 (veiled.wrap IntKind.i64 (8 * n_1))))
                    (okK
                      (((partOf xs p).length +
                            (partOf
                                [AV.int IntKind.u8
                                    (veiled.wrap IntKind.u8
                                      (veiled.shr IntKind.u64 n
                                        (veiled.wrap IntKind.u64 (veiled.wrap IntKind.i64 (8 * n_1)))))]
                                none).length) *
                          1 ≤
                        140737488355328)
                      (again
                        [AV.own 1
                            ((partOf xs p).append
                              (partOf
                                [AV.int IntKind.u8
                                    (veiled.wrap IntKind.u8
                                      (veiled.shr IntKind.u64 n
                                        (veiled.wrap IntKind.u64 (veiled.wrap IntKind.i64 (8 * n_1)))))]
                                none))
                            none,
                          AV.int IntKind.u64 n, AV.int IntKind.i64 (veiled.wrap IntKind.i64 (n_1 - 1))])))
                  (some (0, [AV.own 1 xs p])))
theorem t251 (again : List AV → Option (Nat × List AV)) (xs1 : List AV) (i1 : Int) (i2 : Int) : b251 again [AV.own 1 xs1 none, AV.int IntKind.u64 i1, AV.int IntKind.i64 i2] =
    br (decide (i2 ≥ 0))
  (preK (decide (0 ≤ veiled.wrap IntKind.u64 (veiled.wrap IntKind.i64 (8 * i2))))
    (okK
      ((xs1.length +
            [AV.int IntKind.u8
                  (veiled.wrap IntKind.u8
                    (veiled.shr IntKind.u64 i1 (veiled.wrap IntKind.u64 (veiled.wrap IntKind.i64 (8 * i2)))))].length) *
          1 ≤
        140737488355328)
      (again
        [AV.own 1
            (xs1 ++
              [AV.int IntKind.u8
                  (veiled.wrap IntKind.u8
                    (veiled.shr IntKind.u64 i1 (veiled.wrap IntKind.u64 (veiled.wrap IntKind.i64 (8 * i2)))))])
            none,
          AV.int IntKind.u64 i1, AV.int IntKind.i64 (veiled.wrap IntKind.i64 (i2 - 1))])))
  (some (0, [AV.own 1 xs1 none])) := by kernel_rfl
noncomputable def x251 : List (List AV → Option (AV × List AV)) := [fun ws => hdK ws fun v vs => fitO 1 v fun xs p => nlK vs (some (AV.own 1 xs p, []))]
theorem u251_0 (xs1 : List AV) : sel (some (0, [AV.own 1 xs1 none])) x251 =
    (some (AV.own 1 xs1 none, []) : Option (AV × List AV)) := by kernel_rfl
theorem e25 (k : Int) (xs : List AV) : funK (cx [(26, k26), (64, k64)]) big F25 [AV.int IntKind.i64 k, AV.sl 1 xs] =
    preK
  (match decide (0 ≤ (↑xs.length : Int)) with
  | false => false
  | true => decide ((↑xs.length : Int) ≤ 4194304))
  (okK
    (((AV.int IntKind.u8 (veiled.wrap IntKind.u8 k) :: cntV (↑xs.length : Int)).length + xs.length) * 1 ≤
      140737488355328)
    (preK (okB (AV.int IntKind.u8 (veiled.wrap IntKind.u8 k) :: cntV (↑xs.length : Int) ++ xs))
      (sel
        (loopN b251 big
          [AV.own 1 (AV.int IntKind.u8 (veiled.wrap IntKind.u8 k) :: cntV (↑xs.length : Int) ++ xs) none,
            AV.int IntKind.u64 (sumV (AV.int IntKind.u8 (veiled.wrap IntKind.u8 k) :: cntV (↑xs.length : Int) ++ xs)),
            AV.int IntKind.i64 7])
        x251))) := by kernel_rfl
end Go.Proofs.Ytoocidelbmbgcaa.Oc
