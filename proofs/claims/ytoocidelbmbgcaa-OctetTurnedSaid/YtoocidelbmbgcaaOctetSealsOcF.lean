/- Part of the proofs: the verified interpreter for the program's functions, or lemmas on what they compute; no condition. -/
import Derived.Test.YtoocidelbmbgcaaOctetSealsOc11
namespace Go.Proofs.Ytoocidelbmbgcaa.Oc
open Go.Ai
theorem e5 (k : Int) (body : List AV) (raw : List AV) (more : List AV) (how : Int) (at' : Int) (bb : Int) : funK (cx [(17, k17), (18, k18), (22, k22), (23, k23), (24, k24), (25, k25), (26, k26), (27, k27), (28, k28)]) big F5
  [AV.int IntKind.i64 k, AV.sl 1 body, AV.sl 1 raw, AV.sl 1 more, AV.int IntKind.i64 how, AV.int IntKind.i64 at',
    AV.int IntKind.u8 bb] =
    preK
  (match true with
  | false => false
  | true => true && (decide (-9223372036854775808 ≤ k) && decide (k ≤ 9223372036854775807)))
  (preK
    (match okB body with
    | false => false
    | true => true)
    (preK
      (match okB (fewV body 3000) with
      | false => false
      | true => (fewV body 3000).length.ble 4096)
      (br (decide (veiled.wrap IntKind.i64 (pickV k 258 - 1) < 1))
        (br (sealE (veiled.wrap IntKind.i64 (pickV k 258 - 1)) == 1)
          (some
            (AV.bool ((↑(sealL (veiled.wrap IntKind.i64 (pickV k 258 - 1)) (fewV body 3000)).length : Int) == 0), []))
          (some (AV.bool false, [])))
        (br (decide (veiled.wrap IntKind.i64 (pickV k 258 - 1) > 255))
          (br (sealE (veiled.wrap IntKind.i64 (pickV k 258 - 1)) == 1)
            (some
              (AV.bool ((↑(sealL (veiled.wrap IntKind.i64 (pickV k 258 - 1)) (fewV body 3000)).length : Int) == 0), []))
            (some (AV.bool false, [])))
          (preK
            (match okB body with
            | false => false
            | true => true)
            (preK
              (match okB (fewV body 3000) with
              | false => false
              | true =>
                (fewV body 3000).length.ble 4096 &&
                  (decide (1 ≤ veiled.wrap IntKind.i64 (pickV k 258 - 1)) &&
                    decide (veiled.wrap IntKind.i64 (pickV k 258 - 1) ≤ 255)))
              (br (sealE (veiled.wrap IntKind.i64 (pickV k 258 - 1)) != 0) (some (AV.bool false, []))
                (bytesK (sealL (veiled.wrap IntKind.i64 (pickV k 258 - 1)) (fewV body 3000)) fun s =>
                  bytesK (sealL (veiled.wrap IntKind.i64 (pickV k 258 - 1)) (fewV body 3000)) fun s_1 =>
                    br (!s.toList == s_1.toList) (some (AV.bool false, []))
                      (preK (okB raw)
                        (preK (okB raw)
                          (br (sumV raw != sumV raw) (some (AV.bool false, []))
                            (preK
                              (match true with
                              | false => false
                              | true =>
                                true && (decide (-9223372036854775808 ≤ how) && decide (how ≤ 9223372036854775807)))
                              (br (pickV how 5 == 0)
                                (preK
                                  (match okB raw with
                                  | false => false
                                  | true => true)
                                  (preK
                                    (match okB (fewV raw 3000) with
                                    | false => false
                                    | true => decide (0 ≤ (↑(fewV raw 3000).length : Int)))
                                    (preK (okB (fewV (fewV raw 3000) (↑(fewV raw 3000).length : Int)))
                                      (preK (okB (fewV raw 3000))
                                        (br
                                          (nxK (fewV (fewV raw 3000) (↑(fewV raw 3000).length : Int)) ==
                                            nxK (fewV raw 3000))
                                          (bytesK (nxB (fewV (fewV raw 3000) (↑(fewV raw 3000).length : Int))) fun s =>
                                            bytesK (nxB (fewV raw 3000)) fun s_2 =>
                                              br (s.toList == s_2.toList)
                                                (br
                                                  (nxS (fewV (fewV raw 3000) (↑(fewV raw 3000).length : Int)) ==
                                                    nxS (fewV raw 3000))
                                                  (some
                                                    (AV.bool
                                                        (nxE (fewV (fewV raw 3000) (↑(fewV raw 3000).length : Int)) ==
                                                          nxE (fewV raw 3000)),
                                                      []))
                                                  (some (AV.bool false, [])))
                                                (some (AV.bool false, [])))
                                          (some (AV.bool false, [])))))))
                                (br (pickV how 5 == 1)
                                  (preK
                                    (match
                                      decide
                                        (1 ≤
                                          (↑(sealL (veiled.wrap IntKind.i64 (pickV k 258 - 1))
                                                  (fewV body 3000)).length :
                                            Int)) with
                                    | false => false
                                    | true =>
                                      decide
                                          ((↑(sealL (veiled.wrap IntKind.i64 (pickV k 258 - 1))
                                                    (fewV body 3000)).length :
                                              Int) ≤
                                            9223372036854775807) &&
                                        (decide (-9223372036854775808 ≤ at') && decide (at' ≤ 9223372036854775807)))
                                    (idxK
                                      (pickV at'
                                        (↑(sealL (veiled.wrap IntKind.i64 (pickV k 258 - 1)) (fewV body 3000)).length :
                                          Int))
                                      (sealL (veiled.wrap IntKind.i64 (pickV k 258 - 1)) (fewV body 3000)).length
                                      fun j =>
                                      nthK (sealL (veiled.wrap IntKind.i64 (pickV k 258 - 1)) (fewV body 3000)) (0 + j)
                                        fun x =>
                                        fitI IntKind.u8 x fun n =>
                                          idxK
                                            (pickV at'
                                              (↑(sealL (veiled.wrap IntKind.i64 (pickV k 258 - 1))
                                                      (fewV body 3000)).length :
                                                Int))
                                            (sealL (veiled.wrap IntKind.i64 (pickV k 258 - 1)) (fewV body 3000)).length
                                            fun j =>
                                            preK
                                              (match
                                                okB
                                                  ((sealL (veiled.wrap IntKind.i64 (pickV k 258 - 1))
                                                        (fewV body 3000)).set
                                                    (0 + j) (AV.int IntKind.u8 (veiled.xor IntKind.u8 n bb))) with
                                              | false => false
                                              | true =>
                                                decide
                                                  (0 ≤
                                                    (↑((sealL (veiled.wrap IntKind.i64 (pickV k 258 - 1))
                                                                (fewV body 3000)).set
                                                            (0 + j)
                                                            (AV.int IntKind.u8 (veiled.xor IntKind.u8 n bb))).length :
                                                      Int)))
                                              (preK
                                                (okB
                                                  (fewV
                                                    ((sealL (veiled.wrap IntKind.i64 (pickV k 258 - 1))
                                                          (fewV body 3000)).set
                                                      (0 + j) (AV.int IntKind.u8 (veiled.xor IntKind.u8 n bb)))
                                                    (↑((sealL (veiled.wrap IntKind.i64 (pickV k 258 - 1))
                                                                (fewV body 3000)).set
                                                            (0 + j)
                                                            (AV.int IntKind.u8 (veiled.xor IntKind.u8 n bb))).length :
                                                      Int)))
                                                (preK
                                                  (okB
                                                    ((sealL (veiled.wrap IntKind.i64 (pickV k 258 - 1))
                                                          (fewV body 3000)).set
                                                      (0 + j) (AV.int IntKind.u8 (veiled.xor IntKind.u8 n bb))))
                                                  (br
                                                    (nxK
                                                        (fewV
                                                          ((sealL (veiled.wrap IntKind.i64 (pickV k 258 - 1))
                                                                (fewV body 3000)).set
                                                            (0 + j) (AV.int IntKind.u8 (veiled.xor IntKind.u8 n bb)))
                                                          (↑((sealL (veiled.wrap IntKind.i64 (pickV k 258 - 1))
                                                                      (fewV body 3000)).set
                                                                  (0 + j)
                                                                  (AV.int IntKind.u8
                                                                    (veiled.xor IntKind.u8 n bb))).length :
                                                            Int)) ==
                                                      nxK
                                                        ((sealL (veiled.wrap IntKind.i64 (pickV k 258 - 1))
                                                              (fewV body 3000)).set
                                                          (0 + j) (AV.int IntKind.u8 (veiled.xor IntKind.u8 n bb))))
                                                    (bytesK
                                                      (nxB
                                                        (fewV
                                                          ((sealL (veiled.wrap IntKind.i64 (pickV k 258 - 1))
                                                                (fewV body 3000)).set
                                                            (0 + j) (AV.int IntKind.u8 (veiled.xor IntKind.u8 n bb)))
                                                          (↑((sealL (veiled.wrap IntKind.i64 (pickV k 258 - 1))
                                                                      (fewV body 3000)).set
                                                                  (0 + j)
                                                                  (AV.int IntKind.u8
                                                                    (veiled.xor IntKind.u8 n bb))).length :
                                                            Int)))
                                                      fun s =>
                                                      bytesK
                                                        (nxB
                                                          ((sealL (veiled.wrap IntKind.i64 (pickV k 258 - 1))
                                                                (fewV body 3000)).set
                                                            (0 + j) (AV.int IntKind.u8 (veiled.xor IntKind.u8 n bb))))
                                                        fun s_2 =>
                                                        br (s.toList == s_2.toList)
                                                          (br
                                                            (nxS
                                                                (fewV
                                                                  ((sealL (veiled.wrap IntKind.i64 (pickV k 258 - 1))
                                                                        (fewV body 3000)).set
                                                                    (0 + j)
                                                                    (AV.int IntKind.u8 (veiled.xor IntKind.u8 n bb)))
                                                                  (↑((sealL (veiled.wrap IntKind.i64 (pickV k 258 - 1))
                                                                              (fewV body 3000)).set
                                                                          (0 + j)
                                                                          (AV.int IntKind.u8
                                                                            (veiled.xor IntKind.u8 n bb))).length :
                                                                    Int)) ==
                                                              nxS
                                                                ((sealL (veiled.wrap IntKind.i64 (pickV k 258 - 1))
                                                                      (fewV body 3000)).set
                                                                  (0 + j)
                                                                  (AV.int IntKind.u8 (veiled.xor IntKind.u8 n bb))))
                                                            (some
                                                              (AV.bool
                                                                  (nxE
                                                                      (fewV
                                                                        ((sealL
                                                                              (veiled.wrap IntKind.i64
                                                                                (pickV k 258 - 1))
                                                                              (fewV body 3000)).set
                                                                          (0 + j)
                                                                          (AV.int IntKind.u8
                                                                            (veiled.xor IntKind.u8 n bb)))
                                                                        (↑((sealL
                                                                                    (veiled.wrap IntKind.i64
                                                                                      (pickV k 258 - 1))
                                                                                    (fewV body 3000)).set
                                                                                (0 + j)
                                                                                (AV.int IntKind.u8
                                                                                  (veiled.xor IntKind.u8 n
                                                                                    bb))).length :
                                                                          Int)) ==
                                                                    nxE
                                                                      ((sealL
                                                                            (veiled.wrap IntKind.i64 (pickV k 258 - 1))
                                                                            (fewV body 3000)).set
                                                                        (0 + j)
                                                                        (AV.int IntKind.u8
                                                                          (veiled.xor IntKind.u8 n bb)))),
                                                                []))
                                                            (some (AV.bool false, [])))
                                                          (some (AV.bool false, [])))
                                                    (some (AV.bool false, [])))))))
                                  (br (pickV how 5 == 2)
                                    (preK
                                      (match
                                        decide
                                          (1 ≤
                                            veiled.wrap IntKind.i64
                                              ((↑(sealL (veiled.wrap IntKind.i64 (pickV k 258 - 1))
                                                        (fewV body 3000)).length :
                                                  Int) +
                                                1)) with
                                      | false => false
                                      | true =>
                                        decide
                                            (veiled.wrap IntKind.i64
                                                ((↑(sealL (veiled.wrap IntKind.i64 (pickV k 258 - 1))
                                                          (fewV body 3000)).length :
                                                    Int) +
                                                  1) ≤
                                              9223372036854775807) &&
                                          (decide (-9223372036854775808 ≤ at') && decide (at' ≤ 9223372036854775807)))
                                      (okK
                                        (0 ≤ (↑0 : Int) ∧
                                          (↑0 : Int) ≤
                                              pickV at'
                                                (veiled.wrap IntKind.i64
                                                  ((↑(sealL (veiled.wrap IntKind.i64 (pickV k 258 - 1))
                                                            (fewV body 3000)).length :
                                                      Int) +
                                                    1)) ∧
                                            pickV at'
                                                  (veiled.wrap IntKind.i64
                                                    ((↑(sealL (veiled.wrap IntKind.i64 (pickV k 258 - 1))
                                                              (fewV body 3000)).length :
                                                        Int) +
                                                      1)) ≤
                                                (↑(sealL (veiled.wrap IntKind.i64 (pickV k 258 - 1))
                                                        (fewV body 3000)).length :
                                                  Int) ∧
                                              (↑(sealL (veiled.wrap IntKind.i64 (pickV k 258 - 1))
                                                        (fewV body 3000)).length :
                                                  Int) ≤
                                                (↑(sealL (veiled.wrap IntKind.i64 (pickV k 258 - 1))
                                                        (fewV body 3000)).length :
                                                  Int))
                                        (preK
                                          (match
                                            okB
                                              (partOf
                                                (sealL (veiled.wrap IntKind.i64 (pickV k 258 - 1)) (fewV body 3000))
                                                (some
                                                  (0,
                                                    (pickV at'
                                                          (veiled.wrap IntKind.i64
                                                            ((↑(sealL (veiled.wrap IntKind.i64 (pickV k 258 - 1))
                                                                      (fewV body 3000)).length :
                                                                Int) +
                                                              1))).toNat -
                                                      0))) with
                                          | false => false
                                          | true =>
                                            decide
                                              (0 ≤
                                                (↑(partOf
                                                        (sealL (veiled.wrap IntKind.i64 (pickV k 258 - 1))
                                                          (fewV body 3000))
                                                        (some
                                                          (0,
                                                            (pickV at'
                                                                  (veiled.wrap IntKind.i64
                                                                    ((↑(sealL
                                                                              (veiled.wrap IntKind.i64
                                                                                (pickV k 258 - 1))
                                                                              (fewV body 3000)).length :
                                                                        Int) +
                                                                      1))).toNat -
                                                              0))).length :
                                                  Int)))
                                          (preK
                                            (okB
                                              (fewV
                                                (partOf
                                                  (sealL (veiled.wrap IntKind.i64 (pickV k 258 - 1)) (fewV body 3000))
                                                  (some
                                                    (0,
                                                      (pickV at'
                                                            (veiled.wrap IntKind.i64
                                                              ((↑(sealL (veiled.wrap IntKind.i64 (pickV k 258 - 1))
                                                                        (fewV body 3000)).length :
                                                                  Int) +
                                                                1))).toNat -
                                                        0)))
                                                (↑(partOf
                                                        (sealL (veiled.wrap IntKind.i64 (pickV k 258 - 1))
                                                          (fewV body 3000))
                                                        (some
                                                          (0,
                                                            (pickV at'
                                                                  (veiled.wrap IntKind.i64
                                                                    ((↑(sealL
                                                                              (veiled.wrap IntKind.i64
                                                                                (pickV k 258 - 1))
                                                                              (fewV body 3000)).length :
                                                                        Int) +
                                                                      1))).toNat -
                                                              0))).length :
                                                  Int)))
                                            (preK
                                              (okB
                                                (partOf
                                                  (sealL (veiled.wrap IntKind.i64 (pickV k 258 - 1)) (fewV body 3000))
                                                  (some
                                                    (0,
                                                      (pickV at'
                                                            (veiled.wrap IntKind.i64
                                                              ((↑(sealL (veiled.wrap IntKind.i64 (pickV k 258 - 1))
                                                                        (fewV body 3000)).length :
                                                                  Int) +
                                                                1))).toNat -
                                                        0))))
                                              (br
                                                (nxK
                                                    (fewV
                                                      (partOf
                                                        (sealL (veiled.wrap IntKind.i64 (pickV k 258 - 1))
                                                          (fewV body 3000))
                                                        (some
                                                          (0,
                                                            (pickV at'
                                                                  (veiled.wrap IntKind.i64
                                                                    ((↑(sealL
                                                                              (veiled.wrap IntKind.i64
                                                                                (pickV k 258 - 1))
                                                                              (fewV body 3000)).length :
                                                                        Int) +
                                                                      1))).toNat -
                                                              0)))
                                                      (↑(partOf
                                                              (sealL (veiled.wrap IntKind.i64 (pickV k 258 - 1))
                                                                (fewV body 3000))
                                                              (some
                                                                (0,
                                                                  (pickV at'
                                                                        (veiled.wrap IntKind.i64
                                                                          ((↑(sealL
                                                                                    (veiled.wrap IntKind.i64
                                                                                      (pickV k 258 - 1))
                                                                                    (fewV body 3000)).length :
                                                                              Int) +
                                                                            1))).toNat -
                                                                    0))).length :
                                                        Int)) ==
                                                  nxK
                                                    (partOf
                                                      (sealL (veiled.wrap IntKind.i64 (pickV k 258 - 1))
                                                        (fewV body 3000))
                                                      (some
                                                        (0,
                                                          (pickV at'
                                                                (veiled.wrap IntKind.i64
                                                                  ((↑(sealL (veiled.wrap IntKind.i64 (pickV k 258 - 1))
                                                                            (fewV body 3000)).length :
                                                                      Int) +
                                                                    1))).toNat -
                                                            0))))
                                                (bytesK
                                                  (nxB
                                                    (fewV
                                                      (partOf
                                                        (sealL (veiled.wrap IntKind.i64 (pickV k 258 - 1))
                                                          (fewV body 3000))
                                                        (some
                                                          (0,
                                                            (pickV at'
                                                                  (veiled.wrap IntKind.i64
                                                                    ((↑(sealL
                                                                              (veiled.wrap IntKind.i64
                                                                                (pickV k 258 - 1))
                                                                              (fewV body 3000)).length :
                                                                        Int) +
                                                                      1))).toNat -
                                                              0)))
                                                      (↑(partOf
                                                              (sealL (veiled.wrap IntKind.i64 (pickV k 258 - 1))
                                                                (fewV body 3000))
                                                              (some
                                                                (0,
                                                                  (pickV at'
                                                                        (veiled.wrap IntKind.i64
                                                                          ((↑(sealL
                                                                                    (veiled.wrap IntKind.i64
                                                                                      (pickV k 258 - 1))
                                                                                    (fewV body 3000)).length :
                                                                              Int) +
                                                                            1))).toNat -
                                                                    0))).length :
                                                        Int)))
                                                  fun s =>
                                                  bytesK
                                                    (nxB
                                                      (partOf
                                                        (sealL (veiled.wrap IntKind.i64 (pickV k 258 - 1))
                                                          (fewV body 3000))
                                                        (some
                                                          (0,
                                                            (pickV at'
                                                                  (veiled.wrap IntKind.i64
                                                                    ((↑(sealL
                                                                              (veiled.wrap IntKind.i64
                                                                                (pickV k 258 - 1))
                                                                              (fewV body 3000)).length :
                                                                        Int) +
                                                                      1))).toNat -
                                                              0))))
                                                    fun s_2 =>
                                                    br (s.toList == s_2.toList)
                                                      (br
                                                        (nxS
                                                            (fewV
                                                              (partOf
                                                                (sealL (veiled.wrap IntKind.i64 (pickV k 258 - 1))
                                                                  (fewV body 3000))
                                                                (some
                                                                  (0,
                                                                    (pickV at'
                                                                          (veiled.wrap IntKind.i64
                                                                            ((↑(sealL
                                                                                      (veiled.wrap IntKind.i64
                                                                                        (pickV k 258 - 1))
                                                                                      (fewV body 3000)).length :
                                                                                Int) +
                                                                              1))).toNat -
                                                                      0)))
                                                              (↑(partOf
                                                                      (sealL (veiled.wrap IntKind.i64 (pickV k 258 - 1))
                                                                        (fewV body 3000))
                                                                      (some
                                                                        (0,
                                                                          (pickV at'
                                                                                (veiled.wrap IntKind.i64
                                                                                  ((↑(sealL
                                                                                            (veiled.wrap IntKind.i64
                                                                                              (pickV k 258 - 1))
                                                                                            (fewV body 3000)).length :
                                                                                      Int) +
                                                                                    1))).toNat -
                                                                            0))).length :
                                                                Int)) ==
                                                          nxS
                                                            (partOf
                                                              (sealL (veiled.wrap IntKind.i64 (pickV k 258 - 1))
                                                                (fewV body 3000))
                                                              (some
                                                                (0,
                                                                  (pickV at'
                                                                        (veiled.wrap IntKind.i64
                                                                          ((↑(sealL
                                                                                    (veiled.wrap IntKind.i64
                                                                                      (pickV k 258 - 1))
                                                                                    (fewV body 3000)).length :
                                                                              Int) +
                                                                            1))).toNat -
                                                                    0))))
                                                        (some
                                                          (AV.bool
                                                              (nxE
                                                                  (fewV
                                                                    (partOf
                                                                      (sealL (veiled.wrap IntKind.i64 (pickV k 258 - 1))
                                                                        (fewV body 3000))
                                                                      (some
                                                                        (0,
                                                                          (pickV at'
                                                                                (veiled.wrap IntKind.i64
                                                                                  ((↑(sealL
                                                                                            (veiled.wrap IntKind.i64
                                                                                              (pickV k 258 - 1))
                                                                                            (fewV body 3000)).length :
                                                                                      Int) +
                                                                                    1))).toNat -
                                                                            0)))
                                                                    (↑(partOf
                                                                            (sealL
                                                                              (veiled.wrap IntKind.i64
                                                                                (pickV k 258 - 1))
                                                                              (fewV body 3000))
                                                                            (some
                                                                              (0,
                                                                                (pickV at'
                                                                                      (veiled.wrap IntKind.i64
                                                                                        ((↑(sealL
                                                                                                  (veiled.wrap
                                                                                                    IntKind.i64
                                                                                                    (pickV k 258 - 1))
                                                                                                  (fewV body
                                                                                                    3000)).length :
                                                                                            Int) +
                                                                                          1))).toNat -
                                                                                  0))).length :
                                                                      Int)) ==
                                                                nxE
                                                                  (partOf
                                                                    (sealL (veiled.wrap IntKind.i64 (pickV k 258 - 1))
                                                                      (fewV body 3000))
                                                                    (some
                                                                      (0,
                                                                        (pickV at'
                                                                              (veiled.wrap IntKind.i64
                                                                                ((↑(sealL
                                                                                          (veiled.wrap IntKind.i64
                                                                                            (pickV k 258 - 1))
                                                                                          (fewV body 3000)).length :
                                                                                    Int) +
                                                                                  1))).toNat -
                                                                          0)))),
                                                            []))
                                                        (some (AV.bool false, [])))
                                                      (some (AV.bool false, [])))
                                                (some (AV.bool false, []))))))))
                                    (br (pickV how 5 == 3)
                                      (okK
                                        (((sealL (veiled.wrap IntKind.i64 (pickV k 258 - 1)) (fewV body 3000)).length +
                                              more.length) *
                                            1 ≤
                                          140737488355328)
                                        (preK
                                          (match
                                            okB
                                              (sealL (veiled.wrap IntKind.i64 (pickV k 258 - 1)) (fewV body 3000) ++
                                                more) with
                                          | false => false
                                          | true =>
                                            decide
                                              (0 ≤
                                                (↑(sealL (veiled.wrap IntKind.i64 (pickV k 258 - 1)) (fewV body 3000) ++
                                                        more).length :
                                                  Int)))
                                          (preK
                                            (okB
                                              (fewV
                                                (sealL (veiled.wrap IntKind.i64 (pickV k 258 - 1)) (fewV body 3000) ++
                                                  more)
                                                (↑(sealL (veiled.wrap IntKind.i64 (pickV k 258 - 1)) (fewV body 3000) ++
                                                        more).length :
                                                  Int)))
                                            (preK
                                              (okB
                                                (sealL (veiled.wrap IntKind.i64 (pickV k 258 - 1)) (fewV body 3000) ++
                                                  more))
                                              (br
                                                (nxK
                                                    (fewV
                                                      (sealL (veiled.wrap IntKind.i64 (pickV k 258 - 1))
                                                          (fewV body 3000) ++
                                                        more)
                                                      (↑(sealL (veiled.wrap IntKind.i64 (pickV k 258 - 1))
                                                                (fewV body 3000) ++
                                                              more).length :
                                                        Int)) ==
                                                  nxK
                                                    (sealL (veiled.wrap IntKind.i64 (pickV k 258 - 1))
                                                        (fewV body 3000) ++
                                                      more))
                                                (bytesK
                                                  (nxB
                                                    (fewV
                                                      (sealL (veiled.wrap IntKind.i64 (pickV k 258 - 1))
                                                          (fewV body 3000) ++
                                                        more)
                                                      (↑(sealL (veiled.wrap IntKind.i64 (pickV k 258 - 1))
                                                                (fewV body 3000) ++
                                                              more).length :
                                                        Int)))
                                                  fun s =>
                                                  bytesK
                                                    (nxB
                                                      (sealL (veiled.wrap IntKind.i64 (pickV k 258 - 1))
                                                          (fewV body 3000) ++
                                                        more))
                                                    fun s_2 =>
                                                    br (s.toList == s_2.toList)
                                                      (br
                                                        (nxS
                                                            (fewV
                                                              (sealL (veiled.wrap IntKind.i64 (pickV k 258 - 1))
                                                                  (fewV body 3000) ++
                                                                more)
                                                              (↑(sealL (veiled.wrap IntKind.i64 (pickV k 258 - 1))
                                                                        (fewV body 3000) ++
                                                                      more).length :
                                                                Int)) ==
                                                          nxS
                                                            (sealL (veiled.wrap IntKind.i64 (pickV k 258 - 1))
                                                                (fewV body 3000) ++
                                                              more))
                                                        (some
                                                          (AV.bool
                                                              (nxE
                                                                  (fewV
                                                                    (sealL (veiled.wrap IntKind.i64 (pickV k 258 - 1))
                                                                        (fewV body 3000) ++
                                                                      more)
                                                                    (↑(sealL (veiled.wrap IntKind.i64 (pickV k 258 - 1))
                                                                              (fewV body 3000) ++
                                                                            more).length :
                                                                      Int)) ==
                                                                nxE
                                                                  (sealL (veiled.wrap IntKind.i64 (pickV k 258 - 1))
                                                                      (fewV body 3000) ++
                                                                    more)),
                                                            []))
                                                        (some (AV.bool false, [])))
                                                      (some (AV.bool false, [])))
                                                (some (AV.bool false, [])))))))
                                      (preK
                                        (match
                                          okB (sealL (veiled.wrap IntKind.i64 (pickV k 258 - 1)) (fewV body 3000)) with
                                        | false => false
                                        | true =>
                                          decide
                                            (0 ≤
                                              (↑(sealL (veiled.wrap IntKind.i64 (pickV k 258 - 1))
                                                      (fewV body 3000)).length :
                                                Int)))
                                        (preK
                                          (okB
                                            (fewV (sealL (veiled.wrap IntKind.i64 (pickV k 258 - 1)) (fewV body 3000))
                                              (↑(sealL (veiled.wrap IntKind.i64 (pickV k 258 - 1))
                                                      (fewV body 3000)).length :
                                                Int)))
                                          (preK
                                            (okB (sealL (veiled.wrap IntKind.i64 (pickV k 258 - 1)) (fewV body 3000)))
                                            (br
                                              (nxK
                                                  (fewV
                                                    (sealL (veiled.wrap IntKind.i64 (pickV k 258 - 1)) (fewV body 3000))
                                                    (↑(sealL (veiled.wrap IntKind.i64 (pickV k 258 - 1))
                                                            (fewV body 3000)).length :
                                                      Int)) ==
                                                nxK
                                                  (sealL (veiled.wrap IntKind.i64 (pickV k 258 - 1)) (fewV body 3000)))
                                              (bytesK
                                                (nxB
                                                  (fewV
                                                    (sealL (veiled.wrap IntKind.i64 (pickV k 258 - 1)) (fewV body 3000))
                                                    (↑(sealL (veiled.wrap IntKind.i64 (pickV k 258 - 1))
                                                            (fewV body 3000)).length :
                                                      Int)))
                                                fun s =>
                                                bytesK
                                                  (nxB
                                                    (sealL (veiled.wrap IntKind.i64 (pickV k 258 - 1))
                                                      (fewV body 3000)))
                                                  fun s_2 =>
                                                  br (s.toList == s_2.toList)
                                                    (br
                                                      (nxS
                                                          (fewV
                                                            (sealL (veiled.wrap IntKind.i64 (pickV k 258 - 1))
                                                              (fewV body 3000))
                                                            (↑(sealL (veiled.wrap IntKind.i64 (pickV k 258 - 1))
                                                                    (fewV body 3000)).length :
                                                              Int)) ==
                                                        nxS
                                                          (sealL (veiled.wrap IntKind.i64 (pickV k 258 - 1))
                                                            (fewV body 3000)))
                                                      (some
                                                        (AV.bool
                                                            (nxE
                                                                (fewV
                                                                  (sealL (veiled.wrap IntKind.i64 (pickV k 258 - 1))
                                                                    (fewV body 3000))
                                                                  (↑(sealL (veiled.wrap IntKind.i64 (pickV k 258 - 1))
                                                                          (fewV body 3000)).length :
                                                                    Int)) ==
                                                              nxE
                                                                (sealL (veiled.wrap IntKind.i64 (pickV k 258 - 1))
                                                                  (fewV body 3000))),
                                                          []))
                                                      (some (AV.bool false, [])))
                                                    (some (AV.bool false, [])))
                                              (some (AV.bool false, [])))))))))))))))))))))) := by kernel_rfl
theorem e6 (k : Int) (body : List AV) (at' : Int) (bb : Int) : funK (cx [(18, k18), (22, k22), (23, k23), (24, k24), (27, k27)]) big F6
  [AV.int IntKind.i64 k, AV.sl 1 body, AV.int IntKind.i64 at', AV.int IntKind.u8 bb] =
    preK
  (match true with
  | false => false
  | true => true && (decide (-9223372036854775808 ≤ k) && decide (k ≤ 9223372036854775807)))
  (preK
    (match okB body with
    | false => false
    | true => true)
    (preK
      (match okB (fewV body 2000) with
      | false => false
      | true => (fewV body 2000).length.ble 4096)
      (br (sealE (veiled.wrap IntKind.i64 (1 + pickV k 255)) != 0) (some (AV.bool false, []))
        (br (decide ((↑(sealL (veiled.wrap IntKind.i64 (1 + pickV k 255)) (fewV body 2000)).length : Int) < 10))
          (some (AV.bool false, []))
          (br (bb == 0) (some (AV.bool true, []))
            (preK
              (match
                decide
                  (1 ≤
                    veiled.wrap IntKind.i64
                      ((↑(sealL (veiled.wrap IntKind.i64 (1 + pickV k 255)) (fewV body 2000)).length : Int) -
                        veiled.wrap IntKind.i64
                          (veiled.wrap IntKind.i64
                              ((↑(sealL (veiled.wrap IntKind.i64 (1 + pickV k 255)) (fewV body 2000)).length : Int) -
                                8) -
                            if 2000 < (↑body.length : Int) then 2000 else (↑body.length : Int)))) with
              | false => false
              | true =>
                decide
                    (veiled.wrap IntKind.i64
                        ((↑(sealL (veiled.wrap IntKind.i64 (1 + pickV k 255)) (fewV body 2000)).length : Int) -
                          veiled.wrap IntKind.i64
                            (veiled.wrap IntKind.i64
                                ((↑(sealL (veiled.wrap IntKind.i64 (1 + pickV k 255)) (fewV body 2000)).length : Int) -
                                  8) -
                              if 2000 < (↑body.length : Int) then 2000 else (↑body.length : Int))) ≤
                      9223372036854775807) &&
                  (decide (-9223372036854775808 ≤ at') && decide (at' ≤ 9223372036854775807)))
              (idxK
                (veiled.wrap IntKind.i64
                  (veiled.wrap IntKind.i64
                      (veiled.wrap IntKind.i64
                          ((↑(sealL (veiled.wrap IntKind.i64 (1 + pickV k 255)) (fewV body 2000)).length : Int) - 8) -
                        if 2000 < (↑body.length : Int) then 2000 else (↑body.length : Int)) +
                    pickV at'
                      (veiled.wrap IntKind.i64
                        ((↑(sealL (veiled.wrap IntKind.i64 (1 + pickV k 255)) (fewV body 2000)).length : Int) -
                          veiled.wrap IntKind.i64
                            (veiled.wrap IntKind.i64
                                ((↑(sealL (veiled.wrap IntKind.i64 (1 + pickV k 255)) (fewV body 2000)).length : Int) -
                                  8) -
                              if 2000 < (↑body.length : Int) then 2000 else (↑body.length : Int))))))
                (sealL (veiled.wrap IntKind.i64 (1 + pickV k 255)) (fewV body 2000)).length fun j =>
                nthK (sealL (veiled.wrap IntKind.i64 (1 + pickV k 255)) (fewV body 2000)) (0 + j) fun x =>
                  fitI IntKind.u8 x fun n =>
                    idxK
                      (veiled.wrap IntKind.i64
                        (veiled.wrap IntKind.i64
                            (veiled.wrap IntKind.i64
                                ((↑(sealL (veiled.wrap IntKind.i64 (1 + pickV k 255)) (fewV body 2000)).length : Int) -
                                  8) -
                              if 2000 < (↑body.length : Int) then 2000 else (↑body.length : Int)) +
                          pickV at'
                            (veiled.wrap IntKind.i64
                              ((↑(sealL (veiled.wrap IntKind.i64 (1 + pickV k 255)) (fewV body 2000)).length : Int) -
                                veiled.wrap IntKind.i64
                                  (veiled.wrap IntKind.i64
                                      ((↑(sealL (veiled.wrap IntKind.i64 (1 + pickV k 255)) (fewV body 2000)).length :
                                          Int) -
                                        8) -
                                    if 2000 < (↑body.length : Int) then 2000 else (↑body.length : Int))))))
                      (sealL (veiled.wrap IntKind.i64 (1 + pickV k 255)) (fewV body 2000)).length fun j =>
                      preK
                        (okB
                          ((sealL (veiled.wrap IntKind.i64 (1 + pickV k 255)) (fewV body 2000)).set (0 + j)
                            (AV.int IntKind.u8 (veiled.xor IntKind.u8 n bb))))
                        (br
                          (nxE
                              ((sealL (veiled.wrap IntKind.i64 (1 + pickV k 255)) (fewV body 2000)).set (0 + j)
                                (AV.int IntKind.u8 (veiled.xor IntKind.u8 n bb))) ==
                            13)
                          (br
                            (nxK
                                ((sealL (veiled.wrap IntKind.i64 (1 + pickV k 255)) (fewV body 2000)).set (0 + j)
                                  (AV.int IntKind.u8 (veiled.xor IntKind.u8 n bb))) ==
                              0)
                            (br
                              ((↑(nxB
                                        ((sealL (veiled.wrap IntKind.i64 (1 + pickV k 255)) (fewV body 2000)).set
                                          (0 + j) (AV.int IntKind.u8 (veiled.xor IntKind.u8 n bb)))).length :
                                  Int) ==
                                0)
                              (some
                                (AV.bool
                                    (nxS
                                        ((sealL (veiled.wrap IntKind.i64 (1 + pickV k 255)) (fewV body 2000)).set
                                          (0 + j) (AV.int IntKind.u8 (veiled.xor IntKind.u8 n bb))) ==
                                      0),
                                  []))
                              (some (AV.bool false, [])))
                            (some (AV.bool false, [])))
                          (some (AV.bool false, [])))))))))) := by kernel_rfl
end Go.Proofs.Ytoocidelbmbgcaa.Oc
