import Derived.Test.YtfnekhbekppgnaaDoorOL
namespace Go.OpP
open Go.Eng

/-! Back, and bent. -/

def sBack [GG] (k f a n v w k2 f2 a2 n2 v2 w2 : Int) : Eng.Spec := { f := 5, k := 1, m := 4000, args := [opV k f a n v w, opV k2 f2 a2 n2 v2 w2], pre := G, ret := tt, post := G }
def sBends [GG] (k f a n v w at_ c : Int) : Eng.Spec := { f := 6, k := 1, m := 5000, args := [opV k f a n v w, .int .i64 at_, .int .u8 c], pre := G, ret := tt, post := G }

theorem back_c [GG] (k f a n v w k2 f2 a2 n2 v2 w2 p1 p2 p3 p4 p5 p6 q1 q2 q3 q4 q5 q6 : Int) (t u : List UInt8) : check P0 300 10 (sBack k f a n v w k2 f2 a2 n2 v2 w2) [.call sFirst [0], .call (sCutOp k f a n v w p1 p2 p3 p4 p5 p6) [], .call (sCutOp k2 f2 a2 n2 v2 w2 q1 q2 q3 q4 q5 q6) [], .call (sPut p1 p2 p3 p4 p5 p6 t 0) [0], .call (sPut q1 q2 q3 q4 q5 q6 u 0) [0], .call (sGet t p1 p2 p3 p4 p5 p6 0) [0], .call (sGet u q1 q2 q3 q4 q5 q6 0) [0], .call (sMay p1 p2 p3 p4 p5 p6 true) [], .br true, .call (sMay q1 q2 q3 q4 q5 q6 true) [], .br true, .br true, .br true, .br true, .br true, .br true, .br true] = some [((t == u) == (p1 == q1 && (p2 == q2 && (p3 == q3 && (p4 == q4 && (p5 == q5 && (p6 == q6 && true))))))) = true,
    Glob = Glob, (q1 == q1 && (q2 == q2 && (q3 == q3 && (q4 == q4 && (q5 == q5 && (q6 == q6 && true)))))) = true,
    (p1 == p1 && (p2 == p2 && (p3 == p3 && (p4 == p4 && (p5 == p5 && (p6 == p6 && true)))))) = true, true = true,
    true = true, true = true, true = true, true = true, Spec.Holds P0 (sMay q1 q2 q3 q4 q5 q6 true), q1 = q1, q2 = q2,
    q3 = q3, q4 = q4, q5 = q5, q6 = q6, true = true, Spec.Holds P0 (sMay p1 p2 p3 p4 p5 p6 true), p1 = p1, p2 = p2,
    p3 = p3, p4 = p4, p5 = p5, p6 = p6, Spec.Holds P0 (sGet u q1 q2 q3 q4 q5 q6 (0 : Int)), u = u, Glob = Glob,
    Spec.Holds P0 (sGet t p1 p2 p3 p4 p5 p6 (0 : Int)), t = t, Glob = Glob,
    Spec.Holds P0 (sPut q1 q2 q3 q4 q5 q6 u (0 : Int)), q1 = q1, q2 = q2, q3 = q3, q4 = q4, q5 = q5, q6 = q6,
    Glob = Glob, Spec.Holds P0 (sPut p1 p2 p3 p4 p5 p6 t (0 : Int)), p1 = p1, p2 = p2, p3 = p3, p4 = p4, p5 = p5,
    p6 = p6, Glob = Glob,
    SV.agg
        [SV.int IntKind.i64 k2, SV.int IntKind.i64 f2, SV.int IntKind.i64 a2, SV.int IntKind.i64 n2,
          SV.int IntKind.u64 v2, SV.int IntKind.u64 w2] =
      SV.agg
        [SV.int IntKind.i64 k2, SV.int IntKind.i64 f2, SV.int IntKind.i64 a2, SV.int IntKind.i64 n2,
          SV.int IntKind.u64 v2, SV.int IntKind.u64 w2],
    Spec.Holds P0 (sCutOp k2 f2 a2 n2 v2 w2 q1 q2 q3 q4 q5 q6), k2 = k2, f2 = f2, a2 = a2, n2 = n2, v2 = v2, w2 = w2,
    Spec.Holds P0 (sCutOp k f a n v w p1 p2 p3 p4 p5 p6), k = k, f = f, a = a, n = n, v = v, w = w,
    Spec.Holds P0 sFirst, Glob = Glob] := by kernel_rfl

theorem bendsTTT_c [GG] (k f a n v w at_ c p1 p2 p3 p4 p5 p6 r1 r2 x1 x2 x3 x4 x5 x6 c1 y1 y2 y3 y4 y5 y6 c2 z1 z2 z3 z4 z5 z6 c3 : Int) (t s1 s2 s3 s4 s5 : List UInt8) : check P0 300 10 (sBends k f a n v w at_ c) [.call sFirst [0], .call (sCutOp k f a n v w p1 p2 p3 p4 p5 p6) [], .call (sPut p1 p2 p3 p4 p5 p6 t 0) [0], .br false, .br false, .call (sNumber at_ (t.length + 1) r1) [], .call (sNumber at_ t.length r2) [], .call (sGet s1 x1 x2 x3 x4 x5 x6 c1) [0], .call (sGet s2 y1 y2 y3 y4 y5 y6 c2) [0], .call (sGet s3 z1 z2 z3 z4 z5 z6 c3) [0], .call (sGet s4 0 0 0 0 0 0 10) [0], .call (sGet s5 0 0 0 0 0 0 10) [0], .br true, .br true, .br true, .br true, .br true, .br true] = some [true = true, Glob = Glob, true = true, true = true, true = true, (c3 != (0 : Int)) = true, (c2 != (0 : Int)) = true,
    (c1 != (0 : Int)) = true,
    Spec.Holds P0 (sGet s5 (0 : Int) (0 : Int) (0 : Int) (0 : Int) (0 : Int) (0 : Int) (10 : Int)),
    { toBitVec := { toFin := ⟨(32 : Nat), Nat.mod_lt (32 : Nat) (BitVec.ofNat._proof_1 (8 : Nat))⟩ } } :: t = s5,
    Glob = Glob, (1 : Nat) + List.length t ≤ (9223372036854775807 : Nat),
    Spec.Holds P0 (sGet s4 (0 : Int) (0 : Int) (0 : Int) (0 : Int) (0 : Int) (0 : Int) (10 : Int)),
    t ++ [{ toBitVec := { toFin := ⟨(32 : Nat), Nat.mod_lt (32 : Nat) (BitVec.ofNat._proof_1 (8 : Nat))⟩ } }] = s4,
    Glob = Glob, List.length t + (1 : Nat) ≤ (9223372036854775807 : Nat), Spec.Holds P0 (sGet s3 z1 z2 z3 z4 z5 z6 c3),
    List.drop (0 : Nat) (List.take (Int.toNat r2) t) ++
          [UInt8.ofNat
              (Int.toNat
                (IntKind.wrap IntKind.u8
                  (↑(BitVec.toNat
                        (BitVec.ofInt (8 : Nat)
                            (↑(UInt8.toNat
                                  (List.getD t (Int.toNat r2)
                                    {
                                      toBitVec :=
                                        {
                                          toFin :=
                                            ⟨(0 : Nat), Nat.mod_lt (0 : Nat) (BitVec.ofNat._proof_1 (8 : Nat))⟩ } })) :
                              Int) ^^^
                          { toFin := ⟨(1 : Nat), BitVec.ofInt._proof_1 (8 : Nat) (1 : Int)⟩ })) :
                    Int)))] ++
        List.drop (Int.toNat (r2 + (1 : Int))) (List.take (Int.toNat (↑(List.length t) : Int)) t) =
      s3,
    Glob = Glob, Spec.Holds P0 (sGet s2 y1 y2 y3 y4 y5 y6 c2),
    List.drop (0 : Nat) (List.take (Int.toNat r2) t) ++
        List.drop (Int.toNat (r2 + (1 : Int))) (List.take (Int.toNat (↑(List.length t) : Int)) t) =
      s2,
    Glob = Glob, Spec.Holds P0 (sGet s1 x1 x2 x3 x4 x5 x6 c1),
    List.drop (0 : Nat) (List.take (Int.toNat r1) t) ++ [UInt8.ofNat (Int.toNat c)] ++
        List.drop (Int.toNat r1) (List.take (Int.toNat (↑(List.length t) : Int)) t) =
      s1,
    Glob = Glob, SV.str t = SV.str t, SV.int IntKind.i64 r2 = SV.int IntKind.i64 r2,
    SV.str (List.drop (0 : Nat) (List.take (Int.toNat r2) t)) =
      SV.str (List.drop (0 : Nat) (List.take (Int.toNat r2) t)),
    (0 : Int) ≤ (↑(0 : Nat) : Int) ∧ (↑(0 : Nat) : Int) ≤ r2 ∧ r2 ≤ (↑(List.length t) : Int), SV.str t = SV.str t,
    SV.int IntKind.i64 r2 = SV.int IntKind.i64 r2,
    SV.int IntKind.i64 (r2 + (1 : Int)) = SV.int IntKind.i64 (r2 + (1 : Int)), In64 (r2 + (1 : Int)),
    SV.str (List.drop (Int.toNat (r2 + (1 : Int))) (List.take (Int.toNat (↑(List.length t) : Int)) t)) =
      SV.str (List.drop (Int.toNat (r2 + (1 : Int))) (List.take (Int.toNat (↑(List.length t) : Int)) t)),
    (0 : Int) ≤ r2 + (1 : Int) ∧
      r2 + (1 : Int) ≤ (↑(List.length t) : Int) ∧ (↑(List.length t) : Int) ≤ (↑(List.length t) : Int),
    List.length
          (List.drop (0 : Nat) (List.take (Int.toNat r2) t) ++
            [UInt8.ofNat
                (Int.toNat
                  (IntKind.wrap IntKind.u8
                    (↑(BitVec.toNat
                          (BitVec.ofInt (8 : Nat)
                              (↑(UInt8.toNat
                                    (List.getD t (Int.toNat r2)
                                      {
                                        toBitVec :=
                                          {
                                            toFin :=
                                              ⟨(0 : Nat),
                                                Nat.mod_lt (0 : Nat) (BitVec.ofNat._proof_1 (8 : Nat))⟩ } })) :
                                Int) ^^^
                            { toFin := ⟨(1 : Nat), BitVec.ofInt._proof_1 (8 : Nat) (1 : Int)⟩ })) :
                      Int)))]) +
        List.length (List.drop (Int.toNat (r2 + (1 : Int))) (List.take (Int.toNat (↑(List.length t) : Int)) t)) ≤
      (9223372036854775807 : Nat),
    (0 : Int) ≤ r2 + (1 : Int) ∧
      r2 + (1 : Int) ≤ (↑(List.length t) : Int) ∧ (↑(List.length t) : Int) ≤ (↑(List.length t) : Int),
    In64 (r2 + (1 : Int)),
    List.length (List.drop (0 : Nat) (List.take (Int.toNat r2) t)) + (1 : Nat) ≤ (9223372036854775807 : Nat),
    (0 : Int) ≤ r2 ∧ r2 < (↑(List.length t) : Int),
    (0 : Int) ≤ (↑(0 : Nat) : Int) ∧ (↑(0 : Nat) : Int) ≤ r2 ∧ r2 ≤ (↑(List.length t) : Int),
    List.length (List.drop (0 : Nat) (List.take (Int.toNat r2) t)) +
        List.length (List.drop (Int.toNat (r2 + (1 : Int))) (List.take (Int.toNat (↑(List.length t) : Int)) t)) ≤
      (9223372036854775807 : Nat),
    (0 : Int) ≤ r2 + (1 : Int) ∧
      r2 + (1 : Int) ≤ (↑(List.length t) : Int) ∧ (↑(List.length t) : Int) ≤ (↑(List.length t) : Int),
    In64 (r2 + (1 : Int)), (0 : Int) ≤ (↑(0 : Nat) : Int) ∧ (↑(0 : Nat) : Int) ≤ r2 ∧ r2 ≤ (↑(List.length t) : Int),
    Spec.Holds P0 (sNumber at_ (↑(List.length t) : Int) r2), at_ = at_,
    (↑(List.length t) : Int) = (↑(List.length t) : Int), SV.str t = SV.str t,
    SV.int IntKind.i64 r1 = SV.int IntKind.i64 r1,
    SV.str (List.drop (0 : Nat) (List.take (Int.toNat r1) t)) =
      SV.str (List.drop (0 : Nat) (List.take (Int.toNat r1) t)),
    (0 : Int) ≤ (↑(0 : Nat) : Int) ∧ (↑(0 : Nat) : Int) ≤ r1 ∧ r1 ≤ (↑(List.length t) : Int), SV.str t = SV.str t,
    SV.int IntKind.i64 r1 = SV.int IntKind.i64 r1,
    SV.str (List.drop (Int.toNat r1) (List.take (Int.toNat (↑(List.length t) : Int)) t)) =
      SV.str (List.drop (Int.toNat r1) (List.take (Int.toNat (↑(List.length t) : Int)) t)),
    (0 : Int) ≤ r1 ∧ r1 ≤ (↑(List.length t) : Int) ∧ (↑(List.length t) : Int) ≤ (↑(List.length t) : Int),
    List.length (List.drop (0 : Nat) (List.take (Int.toNat r1) t) ++ [UInt8.ofNat (Int.toNat c)]) +
        List.length (List.drop (Int.toNat r1) (List.take (Int.toNat (↑(List.length t) : Int)) t)) ≤
      (9223372036854775807 : Nat),
    (0 : Int) ≤ r1 ∧ r1 ≤ (↑(List.length t) : Int) ∧ (↑(List.length t) : Int) ≤ (↑(List.length t) : Int),
    List.length (List.drop (0 : Nat) (List.take (Int.toNat r1) t)) + (1 : Nat) ≤ (9223372036854775807 : Nat),
    (0 : Int) ≤ (↑(0 : Nat) : Int) ∧ (↑(0 : Nat) : Int) ≤ r1 ∧ r1 ≤ (↑(List.length t) : Int),
    Spec.Holds P0 (sNumber at_ ((↑(List.length t) : Int) + (1 : Int)) r1), at_ = at_,
    (↑(List.length t) : Int) + (1 : Int) = (↑(List.length t) : Int) + (1 : Int),
    In64 ((↑(List.length t) : Int) + (1 : Int)), decide ((↑(List.length t) : Int) < (3 : Int)) = false, false = false,
    Spec.Holds P0 (sPut p1 p2 p3 p4 p5 p6 t (0 : Int)), p1 = p1, p2 = p2, p3 = p3, p4 = p4, p5 = p5, p6 = p6,
    Glob = Glob, Spec.Holds P0 (sCutOp k f a n v w p1 p2 p3 p4 p5 p6), k = k, f = f, a = a, n = n, v = v, w = w,
    Spec.Holds P0 sFirst, Glob = Glob] := by kernel_rfl

theorem bendsTTF_c [GG] (k f a n v w at_ c p1 p2 p3 p4 p5 p6 r1 r2 x1 x2 x3 x4 x5 x6 c1 y1 y2 y3 y4 y5 y6 c2 z1 z2 z3 z4 z5 z6 c3 : Int) (t s1 s2 s3 s4 s5 : List UInt8) : check P0 300 10 (sBends k f a n v w at_ c) [.call sFirst [0], .call (sCutOp k f a n v w p1 p2 p3 p4 p5 p6) [], .call (sPut p1 p2 p3 p4 p5 p6 t 0) [0], .br false, .br false, .call (sNumber at_ (t.length + 1) r1) [], .call (sNumber at_ t.length r2) [], .call (sGet s1 x1 x2 x3 x4 x5 x6 c1) [0], .call (sGet s2 y1 y2 y3 y4 y5 y6 c2) [0], .call (sGet s3 z1 z2 z3 z4 z5 z6 c3) [0], .call (sGet s4 0 0 0 0 0 0 10) [0], .call (sGet s5 0 0 0 0 0 0 10) [0], .br true, .br true, .br false, .br true, .br true, .br true, .br true] = some [true = true, Glob = Glob, true = true, true = true, true = true,
    (!(z1 == p1 && (z2 == p2 && (z3 == p3 && (z4 == p4 && (z5 == p5 && (z6 == p6 && true))))))) = true,
    (c3 != (0 : Int)) = false, (c2 != (0 : Int)) = true, (c1 != (0 : Int)) = true,
    Spec.Holds P0 (sGet s5 (0 : Int) (0 : Int) (0 : Int) (0 : Int) (0 : Int) (0 : Int) (10 : Int)),
    { toBitVec := { toFin := ⟨(32 : Nat), Nat.mod_lt (32 : Nat) (BitVec.ofNat._proof_1 (8 : Nat))⟩ } } :: t = s5,
    Glob = Glob, (1 : Nat) + List.length t ≤ (9223372036854775807 : Nat),
    Spec.Holds P0 (sGet s4 (0 : Int) (0 : Int) (0 : Int) (0 : Int) (0 : Int) (0 : Int) (10 : Int)),
    t ++ [{ toBitVec := { toFin := ⟨(32 : Nat), Nat.mod_lt (32 : Nat) (BitVec.ofNat._proof_1 (8 : Nat))⟩ } }] = s4,
    Glob = Glob, List.length t + (1 : Nat) ≤ (9223372036854775807 : Nat), Spec.Holds P0 (sGet s3 z1 z2 z3 z4 z5 z6 c3),
    List.drop (0 : Nat) (List.take (Int.toNat r2) t) ++
          [UInt8.ofNat
              (Int.toNat
                (IntKind.wrap IntKind.u8
                  (↑(BitVec.toNat
                        (BitVec.ofInt (8 : Nat)
                            (↑(UInt8.toNat
                                  (List.getD t (Int.toNat r2)
                                    {
                                      toBitVec :=
                                        {
                                          toFin :=
                                            ⟨(0 : Nat), Nat.mod_lt (0 : Nat) (BitVec.ofNat._proof_1 (8 : Nat))⟩ } })) :
                              Int) ^^^
                          { toFin := ⟨(1 : Nat), BitVec.ofInt._proof_1 (8 : Nat) (1 : Int)⟩ })) :
                    Int)))] ++
        List.drop (Int.toNat (r2 + (1 : Int))) (List.take (Int.toNat (↑(List.length t) : Int)) t) =
      s3,
    Glob = Glob, Spec.Holds P0 (sGet s2 y1 y2 y3 y4 y5 y6 c2),
    List.drop (0 : Nat) (List.take (Int.toNat r2) t) ++
        List.drop (Int.toNat (r2 + (1 : Int))) (List.take (Int.toNat (↑(List.length t) : Int)) t) =
      s2,
    Glob = Glob, Spec.Holds P0 (sGet s1 x1 x2 x3 x4 x5 x6 c1),
    List.drop (0 : Nat) (List.take (Int.toNat r1) t) ++ [UInt8.ofNat (Int.toNat c)] ++
        List.drop (Int.toNat r1) (List.take (Int.toNat (↑(List.length t) : Int)) t) =
      s1,
    Glob = Glob, SV.str t = SV.str t, SV.int IntKind.i64 r2 = SV.int IntKind.i64 r2,
    SV.str (List.drop (0 : Nat) (List.take (Int.toNat r2) t)) =
      SV.str (List.drop (0 : Nat) (List.take (Int.toNat r2) t)),
    (0 : Int) ≤ (↑(0 : Nat) : Int) ∧ (↑(0 : Nat) : Int) ≤ r2 ∧ r2 ≤ (↑(List.length t) : Int), SV.str t = SV.str t,
    SV.int IntKind.i64 r2 = SV.int IntKind.i64 r2,
    SV.int IntKind.i64 (r2 + (1 : Int)) = SV.int IntKind.i64 (r2 + (1 : Int)), In64 (r2 + (1 : Int)),
    SV.str (List.drop (Int.toNat (r2 + (1 : Int))) (List.take (Int.toNat (↑(List.length t) : Int)) t)) =
      SV.str (List.drop (Int.toNat (r2 + (1 : Int))) (List.take (Int.toNat (↑(List.length t) : Int)) t)),
    (0 : Int) ≤ r2 + (1 : Int) ∧
      r2 + (1 : Int) ≤ (↑(List.length t) : Int) ∧ (↑(List.length t) : Int) ≤ (↑(List.length t) : Int),
    List.length
          (List.drop (0 : Nat) (List.take (Int.toNat r2) t) ++
            [UInt8.ofNat
                (Int.toNat
                  (IntKind.wrap IntKind.u8
                    (↑(BitVec.toNat
                          (BitVec.ofInt (8 : Nat)
                              (↑(UInt8.toNat
                                    (List.getD t (Int.toNat r2)
                                      {
                                        toBitVec :=
                                          {
                                            toFin :=
                                              ⟨(0 : Nat),
                                                Nat.mod_lt (0 : Nat) (BitVec.ofNat._proof_1 (8 : Nat))⟩ } })) :
                                Int) ^^^
                            { toFin := ⟨(1 : Nat), BitVec.ofInt._proof_1 (8 : Nat) (1 : Int)⟩ })) :
                      Int)))]) +
        List.length (List.drop (Int.toNat (r2 + (1 : Int))) (List.take (Int.toNat (↑(List.length t) : Int)) t)) ≤
      (9223372036854775807 : Nat),
    (0 : Int) ≤ r2 + (1 : Int) ∧
      r2 + (1 : Int) ≤ (↑(List.length t) : Int) ∧ (↑(List.length t) : Int) ≤ (↑(List.length t) : Int),
    In64 (r2 + (1 : Int)),
    List.length (List.drop (0 : Nat) (List.take (Int.toNat r2) t)) + (1 : Nat) ≤ (9223372036854775807 : Nat),
    (0 : Int) ≤ r2 ∧ r2 < (↑(List.length t) : Int),
    (0 : Int) ≤ (↑(0 : Nat) : Int) ∧ (↑(0 : Nat) : Int) ≤ r2 ∧ r2 ≤ (↑(List.length t) : Int),
    List.length (List.drop (0 : Nat) (List.take (Int.toNat r2) t)) +
        List.length (List.drop (Int.toNat (r2 + (1 : Int))) (List.take (Int.toNat (↑(List.length t) : Int)) t)) ≤
      (9223372036854775807 : Nat),
    (0 : Int) ≤ r2 + (1 : Int) ∧
      r2 + (1 : Int) ≤ (↑(List.length t) : Int) ∧ (↑(List.length t) : Int) ≤ (↑(List.length t) : Int),
    In64 (r2 + (1 : Int)), (0 : Int) ≤ (↑(0 : Nat) : Int) ∧ (↑(0 : Nat) : Int) ≤ r2 ∧ r2 ≤ (↑(List.length t) : Int),
    Spec.Holds P0 (sNumber at_ (↑(List.length t) : Int) r2), at_ = at_,
    (↑(List.length t) : Int) = (↑(List.length t) : Int), SV.str t = SV.str t,
    SV.int IntKind.i64 r1 = SV.int IntKind.i64 r1,
    SV.str (List.drop (0 : Nat) (List.take (Int.toNat r1) t)) =
      SV.str (List.drop (0 : Nat) (List.take (Int.toNat r1) t)),
    (0 : Int) ≤ (↑(0 : Nat) : Int) ∧ (↑(0 : Nat) : Int) ≤ r1 ∧ r1 ≤ (↑(List.length t) : Int), SV.str t = SV.str t,
    SV.int IntKind.i64 r1 = SV.int IntKind.i64 r1,
    SV.str (List.drop (Int.toNat r1) (List.take (Int.toNat (↑(List.length t) : Int)) t)) =
      SV.str (List.drop (Int.toNat r1) (List.take (Int.toNat (↑(List.length t) : Int)) t)),
    (0 : Int) ≤ r1 ∧ r1 ≤ (↑(List.length t) : Int) ∧ (↑(List.length t) : Int) ≤ (↑(List.length t) : Int),
    List.length (List.drop (0 : Nat) (List.take (Int.toNat r1) t) ++ [UInt8.ofNat (Int.toNat c)]) +
        List.length (List.drop (Int.toNat r1) (List.take (Int.toNat (↑(List.length t) : Int)) t)) ≤
      (9223372036854775807 : Nat),
    (0 : Int) ≤ r1 ∧ r1 ≤ (↑(List.length t) : Int) ∧ (↑(List.length t) : Int) ≤ (↑(List.length t) : Int),
    List.length (List.drop (0 : Nat) (List.take (Int.toNat r1) t)) + (1 : Nat) ≤ (9223372036854775807 : Nat),
    (0 : Int) ≤ (↑(0 : Nat) : Int) ∧ (↑(0 : Nat) : Int) ≤ r1 ∧ r1 ≤ (↑(List.length t) : Int),
    Spec.Holds P0 (sNumber at_ ((↑(List.length t) : Int) + (1 : Int)) r1), at_ = at_,
    (↑(List.length t) : Int) + (1 : Int) = (↑(List.length t) : Int) + (1 : Int),
    In64 ((↑(List.length t) : Int) + (1 : Int)), decide ((↑(List.length t) : Int) < (3 : Int)) = false, false = false,
    Spec.Holds P0 (sPut p1 p2 p3 p4 p5 p6 t (0 : Int)), p1 = p1, p2 = p2, p3 = p3, p4 = p4, p5 = p5, p6 = p6,
    Glob = Glob, Spec.Holds P0 (sCutOp k f a n v w p1 p2 p3 p4 p5 p6), k = k, f = f, a = a, n = n, v = v, w = w,
    Spec.Holds P0 sFirst, Glob = Glob] := by kernel_rfl

theorem bendsTFT_c [GG] (k f a n v w at_ c p1 p2 p3 p4 p5 p6 r1 r2 x1 x2 x3 x4 x5 x6 c1 y1 y2 y3 y4 y5 y6 c2 z1 z2 z3 z4 z5 z6 c3 : Int) (t s1 s2 s3 s4 s5 : List UInt8) : check P0 300 10 (sBends k f a n v w at_ c) [.call sFirst [0], .call (sCutOp k f a n v w p1 p2 p3 p4 p5 p6) [], .call (sPut p1 p2 p3 p4 p5 p6 t 0) [0], .br false, .br false, .call (sNumber at_ (t.length + 1) r1) [], .call (sNumber at_ t.length r2) [], .call (sGet s1 x1 x2 x3 x4 x5 x6 c1) [0], .call (sGet s2 y1 y2 y3 y4 y5 y6 c2) [0], .call (sGet s3 z1 z2 z3 z4 z5 z6 c3) [0], .call (sGet s4 0 0 0 0 0 0 10) [0], .call (sGet s5 0 0 0 0 0 0 10) [0], .br true, .br false, .br true, .br true, .br true, .br true, .br true] = some [true = true, Glob = Glob, true = true, true = true, true = true, (c3 != (0 : Int)) = true,
    (!(y1 == p1 && (y2 == p2 && (y3 == p3 && (y4 == p4 && (y5 == p5 && (y6 == p6 && true))))))) = true,
    (c2 != (0 : Int)) = false, (c1 != (0 : Int)) = true,
    Spec.Holds P0 (sGet s5 (0 : Int) (0 : Int) (0 : Int) (0 : Int) (0 : Int) (0 : Int) (10 : Int)),
    { toBitVec := { toFin := ⟨(32 : Nat), Nat.mod_lt (32 : Nat) (BitVec.ofNat._proof_1 (8 : Nat))⟩ } } :: t = s5,
    Glob = Glob, (1 : Nat) + List.length t ≤ (9223372036854775807 : Nat),
    Spec.Holds P0 (sGet s4 (0 : Int) (0 : Int) (0 : Int) (0 : Int) (0 : Int) (0 : Int) (10 : Int)),
    t ++ [{ toBitVec := { toFin := ⟨(32 : Nat), Nat.mod_lt (32 : Nat) (BitVec.ofNat._proof_1 (8 : Nat))⟩ } }] = s4,
    Glob = Glob, List.length t + (1 : Nat) ≤ (9223372036854775807 : Nat), Spec.Holds P0 (sGet s3 z1 z2 z3 z4 z5 z6 c3),
    List.drop (0 : Nat) (List.take (Int.toNat r2) t) ++
          [UInt8.ofNat
              (Int.toNat
                (IntKind.wrap IntKind.u8
                  (↑(BitVec.toNat
                        (BitVec.ofInt (8 : Nat)
                            (↑(UInt8.toNat
                                  (List.getD t (Int.toNat r2)
                                    {
                                      toBitVec :=
                                        {
                                          toFin :=
                                            ⟨(0 : Nat), Nat.mod_lt (0 : Nat) (BitVec.ofNat._proof_1 (8 : Nat))⟩ } })) :
                              Int) ^^^
                          { toFin := ⟨(1 : Nat), BitVec.ofInt._proof_1 (8 : Nat) (1 : Int)⟩ })) :
                    Int)))] ++
        List.drop (Int.toNat (r2 + (1 : Int))) (List.take (Int.toNat (↑(List.length t) : Int)) t) =
      s3,
    Glob = Glob, Spec.Holds P0 (sGet s2 y1 y2 y3 y4 y5 y6 c2),
    List.drop (0 : Nat) (List.take (Int.toNat r2) t) ++
        List.drop (Int.toNat (r2 + (1 : Int))) (List.take (Int.toNat (↑(List.length t) : Int)) t) =
      s2,
    Glob = Glob, Spec.Holds P0 (sGet s1 x1 x2 x3 x4 x5 x6 c1),
    List.drop (0 : Nat) (List.take (Int.toNat r1) t) ++ [UInt8.ofNat (Int.toNat c)] ++
        List.drop (Int.toNat r1) (List.take (Int.toNat (↑(List.length t) : Int)) t) =
      s1,
    Glob = Glob, SV.str t = SV.str t, SV.int IntKind.i64 r2 = SV.int IntKind.i64 r2,
    SV.str (List.drop (0 : Nat) (List.take (Int.toNat r2) t)) =
      SV.str (List.drop (0 : Nat) (List.take (Int.toNat r2) t)),
    (0 : Int) ≤ (↑(0 : Nat) : Int) ∧ (↑(0 : Nat) : Int) ≤ r2 ∧ r2 ≤ (↑(List.length t) : Int), SV.str t = SV.str t,
    SV.int IntKind.i64 r2 = SV.int IntKind.i64 r2,
    SV.int IntKind.i64 (r2 + (1 : Int)) = SV.int IntKind.i64 (r2 + (1 : Int)), In64 (r2 + (1 : Int)),
    SV.str (List.drop (Int.toNat (r2 + (1 : Int))) (List.take (Int.toNat (↑(List.length t) : Int)) t)) =
      SV.str (List.drop (Int.toNat (r2 + (1 : Int))) (List.take (Int.toNat (↑(List.length t) : Int)) t)),
    (0 : Int) ≤ r2 + (1 : Int) ∧
      r2 + (1 : Int) ≤ (↑(List.length t) : Int) ∧ (↑(List.length t) : Int) ≤ (↑(List.length t) : Int),
    List.length
          (List.drop (0 : Nat) (List.take (Int.toNat r2) t) ++
            [UInt8.ofNat
                (Int.toNat
                  (IntKind.wrap IntKind.u8
                    (↑(BitVec.toNat
                          (BitVec.ofInt (8 : Nat)
                              (↑(UInt8.toNat
                                    (List.getD t (Int.toNat r2)
                                      {
                                        toBitVec :=
                                          {
                                            toFin :=
                                              ⟨(0 : Nat),
                                                Nat.mod_lt (0 : Nat) (BitVec.ofNat._proof_1 (8 : Nat))⟩ } })) :
                                Int) ^^^
                            { toFin := ⟨(1 : Nat), BitVec.ofInt._proof_1 (8 : Nat) (1 : Int)⟩ })) :
                      Int)))]) +
        List.length (List.drop (Int.toNat (r2 + (1 : Int))) (List.take (Int.toNat (↑(List.length t) : Int)) t)) ≤
      (9223372036854775807 : Nat),
    (0 : Int) ≤ r2 + (1 : Int) ∧
      r2 + (1 : Int) ≤ (↑(List.length t) : Int) ∧ (↑(List.length t) : Int) ≤ (↑(List.length t) : Int),
    In64 (r2 + (1 : Int)),
    List.length (List.drop (0 : Nat) (List.take (Int.toNat r2) t)) + (1 : Nat) ≤ (9223372036854775807 : Nat),
    (0 : Int) ≤ r2 ∧ r2 < (↑(List.length t) : Int),
    (0 : Int) ≤ (↑(0 : Nat) : Int) ∧ (↑(0 : Nat) : Int) ≤ r2 ∧ r2 ≤ (↑(List.length t) : Int),
    List.length (List.drop (0 : Nat) (List.take (Int.toNat r2) t)) +
        List.length (List.drop (Int.toNat (r2 + (1 : Int))) (List.take (Int.toNat (↑(List.length t) : Int)) t)) ≤
      (9223372036854775807 : Nat),
    (0 : Int) ≤ r2 + (1 : Int) ∧
      r2 + (1 : Int) ≤ (↑(List.length t) : Int) ∧ (↑(List.length t) : Int) ≤ (↑(List.length t) : Int),
    In64 (r2 + (1 : Int)), (0 : Int) ≤ (↑(0 : Nat) : Int) ∧ (↑(0 : Nat) : Int) ≤ r2 ∧ r2 ≤ (↑(List.length t) : Int),
    Spec.Holds P0 (sNumber at_ (↑(List.length t) : Int) r2), at_ = at_,
    (↑(List.length t) : Int) = (↑(List.length t) : Int), SV.str t = SV.str t,
    SV.int IntKind.i64 r1 = SV.int IntKind.i64 r1,
    SV.str (List.drop (0 : Nat) (List.take (Int.toNat r1) t)) =
      SV.str (List.drop (0 : Nat) (List.take (Int.toNat r1) t)),
    (0 : Int) ≤ (↑(0 : Nat) : Int) ∧ (↑(0 : Nat) : Int) ≤ r1 ∧ r1 ≤ (↑(List.length t) : Int), SV.str t = SV.str t,
    SV.int IntKind.i64 r1 = SV.int IntKind.i64 r1,
    SV.str (List.drop (Int.toNat r1) (List.take (Int.toNat (↑(List.length t) : Int)) t)) =
      SV.str (List.drop (Int.toNat r1) (List.take (Int.toNat (↑(List.length t) : Int)) t)),
    (0 : Int) ≤ r1 ∧ r1 ≤ (↑(List.length t) : Int) ∧ (↑(List.length t) : Int) ≤ (↑(List.length t) : Int),
    List.length (List.drop (0 : Nat) (List.take (Int.toNat r1) t) ++ [UInt8.ofNat (Int.toNat c)]) +
        List.length (List.drop (Int.toNat r1) (List.take (Int.toNat (↑(List.length t) : Int)) t)) ≤
      (9223372036854775807 : Nat),
    (0 : Int) ≤ r1 ∧ r1 ≤ (↑(List.length t) : Int) ∧ (↑(List.length t) : Int) ≤ (↑(List.length t) : Int),
    List.length (List.drop (0 : Nat) (List.take (Int.toNat r1) t)) + (1 : Nat) ≤ (9223372036854775807 : Nat),
    (0 : Int) ≤ (↑(0 : Nat) : Int) ∧ (↑(0 : Nat) : Int) ≤ r1 ∧ r1 ≤ (↑(List.length t) : Int),
    Spec.Holds P0 (sNumber at_ ((↑(List.length t) : Int) + (1 : Int)) r1), at_ = at_,
    (↑(List.length t) : Int) + (1 : Int) = (↑(List.length t) : Int) + (1 : Int),
    In64 ((↑(List.length t) : Int) + (1 : Int)), decide ((↑(List.length t) : Int) < (3 : Int)) = false, false = false,
    Spec.Holds P0 (sPut p1 p2 p3 p4 p5 p6 t (0 : Int)), p1 = p1, p2 = p2, p3 = p3, p4 = p4, p5 = p5, p6 = p6,
    Glob = Glob, Spec.Holds P0 (sCutOp k f a n v w p1 p2 p3 p4 p5 p6), k = k, f = f, a = a, n = n, v = v, w = w,
    Spec.Holds P0 sFirst, Glob = Glob] := by kernel_rfl

theorem bendsTFF_c [GG] (k f a n v w at_ c p1 p2 p3 p4 p5 p6 r1 r2 x1 x2 x3 x4 x5 x6 c1 y1 y2 y3 y4 y5 y6 c2 z1 z2 z3 z4 z5 z6 c3 : Int) (t s1 s2 s3 s4 s5 : List UInt8) : check P0 300 10 (sBends k f a n v w at_ c) [.call sFirst [0], .call (sCutOp k f a n v w p1 p2 p3 p4 p5 p6) [], .call (sPut p1 p2 p3 p4 p5 p6 t 0) [0], .br false, .br false, .call (sNumber at_ (t.length + 1) r1) [], .call (sNumber at_ t.length r2) [], .call (sGet s1 x1 x2 x3 x4 x5 x6 c1) [0], .call (sGet s2 y1 y2 y3 y4 y5 y6 c2) [0], .call (sGet s3 z1 z2 z3 z4 z5 z6 c3) [0], .call (sGet s4 0 0 0 0 0 0 10) [0], .call (sGet s5 0 0 0 0 0 0 10) [0], .br true, .br false, .br true, .br false, .br true, .br true, .br true, .br true] = some [true = true, Glob = Glob, true = true, true = true, true = true,
    (!(z1 == p1 && (z2 == p2 && (z3 == p3 && (z4 == p4 && (z5 == p5 && (z6 == p6 && true))))))) = true,
    (c3 != (0 : Int)) = false,
    (!(y1 == p1 && (y2 == p2 && (y3 == p3 && (y4 == p4 && (y5 == p5 && (y6 == p6 && true))))))) = true,
    (c2 != (0 : Int)) = false, (c1 != (0 : Int)) = true,
    Spec.Holds P0 (sGet s5 (0 : Int) (0 : Int) (0 : Int) (0 : Int) (0 : Int) (0 : Int) (10 : Int)),
    { toBitVec := { toFin := ⟨(32 : Nat), Nat.mod_lt (32 : Nat) (BitVec.ofNat._proof_1 (8 : Nat))⟩ } } :: t = s5,
    Glob = Glob, (1 : Nat) + List.length t ≤ (9223372036854775807 : Nat),
    Spec.Holds P0 (sGet s4 (0 : Int) (0 : Int) (0 : Int) (0 : Int) (0 : Int) (0 : Int) (10 : Int)),
    t ++ [{ toBitVec := { toFin := ⟨(32 : Nat), Nat.mod_lt (32 : Nat) (BitVec.ofNat._proof_1 (8 : Nat))⟩ } }] = s4,
    Glob = Glob, List.length t + (1 : Nat) ≤ (9223372036854775807 : Nat), Spec.Holds P0 (sGet s3 z1 z2 z3 z4 z5 z6 c3),
    List.drop (0 : Nat) (List.take (Int.toNat r2) t) ++
          [UInt8.ofNat
              (Int.toNat
                (IntKind.wrap IntKind.u8
                  (↑(BitVec.toNat
                        (BitVec.ofInt (8 : Nat)
                            (↑(UInt8.toNat
                                  (List.getD t (Int.toNat r2)
                                    {
                                      toBitVec :=
                                        {
                                          toFin :=
                                            ⟨(0 : Nat), Nat.mod_lt (0 : Nat) (BitVec.ofNat._proof_1 (8 : Nat))⟩ } })) :
                              Int) ^^^
                          { toFin := ⟨(1 : Nat), BitVec.ofInt._proof_1 (8 : Nat) (1 : Int)⟩ })) :
                    Int)))] ++
        List.drop (Int.toNat (r2 + (1 : Int))) (List.take (Int.toNat (↑(List.length t) : Int)) t) =
      s3,
    Glob = Glob, Spec.Holds P0 (sGet s2 y1 y2 y3 y4 y5 y6 c2),
    List.drop (0 : Nat) (List.take (Int.toNat r2) t) ++
        List.drop (Int.toNat (r2 + (1 : Int))) (List.take (Int.toNat (↑(List.length t) : Int)) t) =
      s2,
    Glob = Glob, Spec.Holds P0 (sGet s1 x1 x2 x3 x4 x5 x6 c1),
    List.drop (0 : Nat) (List.take (Int.toNat r1) t) ++ [UInt8.ofNat (Int.toNat c)] ++
        List.drop (Int.toNat r1) (List.take (Int.toNat (↑(List.length t) : Int)) t) =
      s1,
    Glob = Glob, SV.str t = SV.str t, SV.int IntKind.i64 r2 = SV.int IntKind.i64 r2,
    SV.str (List.drop (0 : Nat) (List.take (Int.toNat r2) t)) =
      SV.str (List.drop (0 : Nat) (List.take (Int.toNat r2) t)),
    (0 : Int) ≤ (↑(0 : Nat) : Int) ∧ (↑(0 : Nat) : Int) ≤ r2 ∧ r2 ≤ (↑(List.length t) : Int), SV.str t = SV.str t,
    SV.int IntKind.i64 r2 = SV.int IntKind.i64 r2,
    SV.int IntKind.i64 (r2 + (1 : Int)) = SV.int IntKind.i64 (r2 + (1 : Int)), In64 (r2 + (1 : Int)),
    SV.str (List.drop (Int.toNat (r2 + (1 : Int))) (List.take (Int.toNat (↑(List.length t) : Int)) t)) =
      SV.str (List.drop (Int.toNat (r2 + (1 : Int))) (List.take (Int.toNat (↑(List.length t) : Int)) t)),
    (0 : Int) ≤ r2 + (1 : Int) ∧
      r2 + (1 : Int) ≤ (↑(List.length t) : Int) ∧ (↑(List.length t) : Int) ≤ (↑(List.length t) : Int),
    List.length
          (List.drop (0 : Nat) (List.take (Int.toNat r2) t) ++
            [UInt8.ofNat
                (Int.toNat
                  (IntKind.wrap IntKind.u8
                    (↑(BitVec.toNat
                          (BitVec.ofInt (8 : Nat)
                              (↑(UInt8.toNat
                                    (List.getD t (Int.toNat r2)
                                      {
                                        toBitVec :=
                                          {
                                            toFin :=
                                              ⟨(0 : Nat),
                                                Nat.mod_lt (0 : Nat) (BitVec.ofNat._proof_1 (8 : Nat))⟩ } })) :
                                Int) ^^^
                            { toFin := ⟨(1 : Nat), BitVec.ofInt._proof_1 (8 : Nat) (1 : Int)⟩ })) :
                      Int)))]) +
        List.length (List.drop (Int.toNat (r2 + (1 : Int))) (List.take (Int.toNat (↑(List.length t) : Int)) t)) ≤
      (9223372036854775807 : Nat),
    (0 : Int) ≤ r2 + (1 : Int) ∧
      r2 + (1 : Int) ≤ (↑(List.length t) : Int) ∧ (↑(List.length t) : Int) ≤ (↑(List.length t) : Int),
    In64 (r2 + (1 : Int)),
    List.length (List.drop (0 : Nat) (List.take (Int.toNat r2) t)) + (1 : Nat) ≤ (9223372036854775807 : Nat),
    (0 : Int) ≤ r2 ∧ r2 < (↑(List.length t) : Int),
    (0 : Int) ≤ (↑(0 : Nat) : Int) ∧ (↑(0 : Nat) : Int) ≤ r2 ∧ r2 ≤ (↑(List.length t) : Int),
    List.length (List.drop (0 : Nat) (List.take (Int.toNat r2) t)) +
        List.length (List.drop (Int.toNat (r2 + (1 : Int))) (List.take (Int.toNat (↑(List.length t) : Int)) t)) ≤
      (9223372036854775807 : Nat),
    (0 : Int) ≤ r2 + (1 : Int) ∧
      r2 + (1 : Int) ≤ (↑(List.length t) : Int) ∧ (↑(List.length t) : Int) ≤ (↑(List.length t) : Int),
    In64 (r2 + (1 : Int)), (0 : Int) ≤ (↑(0 : Nat) : Int) ∧ (↑(0 : Nat) : Int) ≤ r2 ∧ r2 ≤ (↑(List.length t) : Int),
    Spec.Holds P0 (sNumber at_ (↑(List.length t) : Int) r2), at_ = at_,
    (↑(List.length t) : Int) = (↑(List.length t) : Int), SV.str t = SV.str t,
    SV.int IntKind.i64 r1 = SV.int IntKind.i64 r1,
    SV.str (List.drop (0 : Nat) (List.take (Int.toNat r1) t)) =
      SV.str (List.drop (0 : Nat) (List.take (Int.toNat r1) t)),
    (0 : Int) ≤ (↑(0 : Nat) : Int) ∧ (↑(0 : Nat) : Int) ≤ r1 ∧ r1 ≤ (↑(List.length t) : Int), SV.str t = SV.str t,
    SV.int IntKind.i64 r1 = SV.int IntKind.i64 r1,
    SV.str (List.drop (Int.toNat r1) (List.take (Int.toNat (↑(List.length t) : Int)) t)) =
      SV.str (List.drop (Int.toNat r1) (List.take (Int.toNat (↑(List.length t) : Int)) t)),
    (0 : Int) ≤ r1 ∧ r1 ≤ (↑(List.length t) : Int) ∧ (↑(List.length t) : Int) ≤ (↑(List.length t) : Int),
    List.length (List.drop (0 : Nat) (List.take (Int.toNat r1) t) ++ [UInt8.ofNat (Int.toNat c)]) +
        List.length (List.drop (Int.toNat r1) (List.take (Int.toNat (↑(List.length t) : Int)) t)) ≤
      (9223372036854775807 : Nat),
    (0 : Int) ≤ r1 ∧ r1 ≤ (↑(List.length t) : Int) ∧ (↑(List.length t) : Int) ≤ (↑(List.length t) : Int),
    List.length (List.drop (0 : Nat) (List.take (Int.toNat r1) t)) + (1 : Nat) ≤ (9223372036854775807 : Nat),
    (0 : Int) ≤ (↑(0 : Nat) : Int) ∧ (↑(0 : Nat) : Int) ≤ r1 ∧ r1 ≤ (↑(List.length t) : Int),
    Spec.Holds P0 (sNumber at_ ((↑(List.length t) : Int) + (1 : Int)) r1), at_ = at_,
    (↑(List.length t) : Int) + (1 : Int) = (↑(List.length t) : Int) + (1 : Int),
    In64 ((↑(List.length t) : Int) + (1 : Int)), decide ((↑(List.length t) : Int) < (3 : Int)) = false, false = false,
    Spec.Holds P0 (sPut p1 p2 p3 p4 p5 p6 t (0 : Int)), p1 = p1, p2 = p2, p3 = p3, p4 = p4, p5 = p5, p6 = p6,
    Glob = Glob, Spec.Holds P0 (sCutOp k f a n v w p1 p2 p3 p4 p5 p6), k = k, f = f, a = a, n = n, v = v, w = w,
    Spec.Holds P0 sFirst, Glob = Glob] := by kernel_rfl

theorem bendsFTT_c [GG] (k f a n v w at_ c p1 p2 p3 p4 p5 p6 r1 r2 x1 x2 x3 x4 x5 x6 c1 y1 y2 y3 y4 y5 y6 c2 z1 z2 z3 z4 z5 z6 c3 : Int) (t s1 s2 s3 s4 s5 : List UInt8) : check P0 300 10 (sBends k f a n v w at_ c) [.call sFirst [0], .call (sCutOp k f a n v w p1 p2 p3 p4 p5 p6) [], .call (sPut p1 p2 p3 p4 p5 p6 t 0) [0], .br false, .br false, .call (sNumber at_ (t.length + 1) r1) [], .call (sNumber at_ t.length r2) [], .call (sGet s1 x1 x2 x3 x4 x5 x6 c1) [0], .call (sGet s2 y1 y2 y3 y4 y5 y6 c2) [0], .call (sGet s3 z1 z2 z3 z4 z5 z6 c3) [0], .call (sGet s4 0 0 0 0 0 0 10) [0], .call (sGet s5 0 0 0 0 0 0 10) [0], .br false, .br true, .br true, .br true, .br true, .br true, .br true] = some [true = true, Glob = Glob, true = true, true = true, true = true, (c3 != (0 : Int)) = true, (c2 != (0 : Int)) = true,
    (!(x1 == p1 && (x2 == p2 && (x3 == p3 && (x4 == p4 && (x5 == p5 && (x6 == p6 && true))))))) = true,
    (c1 != (0 : Int)) = false,
    Spec.Holds P0 (sGet s5 (0 : Int) (0 : Int) (0 : Int) (0 : Int) (0 : Int) (0 : Int) (10 : Int)),
    { toBitVec := { toFin := ⟨(32 : Nat), Nat.mod_lt (32 : Nat) (BitVec.ofNat._proof_1 (8 : Nat))⟩ } } :: t = s5,
    Glob = Glob, (1 : Nat) + List.length t ≤ (9223372036854775807 : Nat),
    Spec.Holds P0 (sGet s4 (0 : Int) (0 : Int) (0 : Int) (0 : Int) (0 : Int) (0 : Int) (10 : Int)),
    t ++ [{ toBitVec := { toFin := ⟨(32 : Nat), Nat.mod_lt (32 : Nat) (BitVec.ofNat._proof_1 (8 : Nat))⟩ } }] = s4,
    Glob = Glob, List.length t + (1 : Nat) ≤ (9223372036854775807 : Nat), Spec.Holds P0 (sGet s3 z1 z2 z3 z4 z5 z6 c3),
    List.drop (0 : Nat) (List.take (Int.toNat r2) t) ++
          [UInt8.ofNat
              (Int.toNat
                (IntKind.wrap IntKind.u8
                  (↑(BitVec.toNat
                        (BitVec.ofInt (8 : Nat)
                            (↑(UInt8.toNat
                                  (List.getD t (Int.toNat r2)
                                    {
                                      toBitVec :=
                                        {
                                          toFin :=
                                            ⟨(0 : Nat), Nat.mod_lt (0 : Nat) (BitVec.ofNat._proof_1 (8 : Nat))⟩ } })) :
                              Int) ^^^
                          { toFin := ⟨(1 : Nat), BitVec.ofInt._proof_1 (8 : Nat) (1 : Int)⟩ })) :
                    Int)))] ++
        List.drop (Int.toNat (r2 + (1 : Int))) (List.take (Int.toNat (↑(List.length t) : Int)) t) =
      s3,
    Glob = Glob, Spec.Holds P0 (sGet s2 y1 y2 y3 y4 y5 y6 c2),
    List.drop (0 : Nat) (List.take (Int.toNat r2) t) ++
        List.drop (Int.toNat (r2 + (1 : Int))) (List.take (Int.toNat (↑(List.length t) : Int)) t) =
      s2,
    Glob = Glob, Spec.Holds P0 (sGet s1 x1 x2 x3 x4 x5 x6 c1),
    List.drop (0 : Nat) (List.take (Int.toNat r1) t) ++ [UInt8.ofNat (Int.toNat c)] ++
        List.drop (Int.toNat r1) (List.take (Int.toNat (↑(List.length t) : Int)) t) =
      s1,
    Glob = Glob, SV.str t = SV.str t, SV.int IntKind.i64 r2 = SV.int IntKind.i64 r2,
    SV.str (List.drop (0 : Nat) (List.take (Int.toNat r2) t)) =
      SV.str (List.drop (0 : Nat) (List.take (Int.toNat r2) t)),
    (0 : Int) ≤ (↑(0 : Nat) : Int) ∧ (↑(0 : Nat) : Int) ≤ r2 ∧ r2 ≤ (↑(List.length t) : Int), SV.str t = SV.str t,
    SV.int IntKind.i64 r2 = SV.int IntKind.i64 r2,
    SV.int IntKind.i64 (r2 + (1 : Int)) = SV.int IntKind.i64 (r2 + (1 : Int)), In64 (r2 + (1 : Int)),
    SV.str (List.drop (Int.toNat (r2 + (1 : Int))) (List.take (Int.toNat (↑(List.length t) : Int)) t)) =
      SV.str (List.drop (Int.toNat (r2 + (1 : Int))) (List.take (Int.toNat (↑(List.length t) : Int)) t)),
    (0 : Int) ≤ r2 + (1 : Int) ∧
      r2 + (1 : Int) ≤ (↑(List.length t) : Int) ∧ (↑(List.length t) : Int) ≤ (↑(List.length t) : Int),
    List.length
          (List.drop (0 : Nat) (List.take (Int.toNat r2) t) ++
            [UInt8.ofNat
                (Int.toNat
                  (IntKind.wrap IntKind.u8
                    (↑(BitVec.toNat
                          (BitVec.ofInt (8 : Nat)
                              (↑(UInt8.toNat
                                    (List.getD t (Int.toNat r2)
                                      {
                                        toBitVec :=
                                          {
                                            toFin :=
                                              ⟨(0 : Nat),
                                                Nat.mod_lt (0 : Nat) (BitVec.ofNat._proof_1 (8 : Nat))⟩ } })) :
                                Int) ^^^
                            { toFin := ⟨(1 : Nat), BitVec.ofInt._proof_1 (8 : Nat) (1 : Int)⟩ })) :
                      Int)))]) +
        List.length (List.drop (Int.toNat (r2 + (1 : Int))) (List.take (Int.toNat (↑(List.length t) : Int)) t)) ≤
      (9223372036854775807 : Nat),
    (0 : Int) ≤ r2 + (1 : Int) ∧
      r2 + (1 : Int) ≤ (↑(List.length t) : Int) ∧ (↑(List.length t) : Int) ≤ (↑(List.length t) : Int),
    In64 (r2 + (1 : Int)),
    List.length (List.drop (0 : Nat) (List.take (Int.toNat r2) t)) + (1 : Nat) ≤ (9223372036854775807 : Nat),
    (0 : Int) ≤ r2 ∧ r2 < (↑(List.length t) : Int),
    (0 : Int) ≤ (↑(0 : Nat) : Int) ∧ (↑(0 : Nat) : Int) ≤ r2 ∧ r2 ≤ (↑(List.length t) : Int),
    List.length (List.drop (0 : Nat) (List.take (Int.toNat r2) t)) +
        List.length (List.drop (Int.toNat (r2 + (1 : Int))) (List.take (Int.toNat (↑(List.length t) : Int)) t)) ≤
      (9223372036854775807 : Nat),
    (0 : Int) ≤ r2 + (1 : Int) ∧
      r2 + (1 : Int) ≤ (↑(List.length t) : Int) ∧ (↑(List.length t) : Int) ≤ (↑(List.length t) : Int),
    In64 (r2 + (1 : Int)), (0 : Int) ≤ (↑(0 : Nat) : Int) ∧ (↑(0 : Nat) : Int) ≤ r2 ∧ r2 ≤ (↑(List.length t) : Int),
    Spec.Holds P0 (sNumber at_ (↑(List.length t) : Int) r2), at_ = at_,
    (↑(List.length t) : Int) = (↑(List.length t) : Int), SV.str t = SV.str t,
    SV.int IntKind.i64 r1 = SV.int IntKind.i64 r1,
    SV.str (List.drop (0 : Nat) (List.take (Int.toNat r1) t)) =
      SV.str (List.drop (0 : Nat) (List.take (Int.toNat r1) t)),
    (0 : Int) ≤ (↑(0 : Nat) : Int) ∧ (↑(0 : Nat) : Int) ≤ r1 ∧ r1 ≤ (↑(List.length t) : Int), SV.str t = SV.str t,
    SV.int IntKind.i64 r1 = SV.int IntKind.i64 r1,
    SV.str (List.drop (Int.toNat r1) (List.take (Int.toNat (↑(List.length t) : Int)) t)) =
      SV.str (List.drop (Int.toNat r1) (List.take (Int.toNat (↑(List.length t) : Int)) t)),
    (0 : Int) ≤ r1 ∧ r1 ≤ (↑(List.length t) : Int) ∧ (↑(List.length t) : Int) ≤ (↑(List.length t) : Int),
    List.length (List.drop (0 : Nat) (List.take (Int.toNat r1) t) ++ [UInt8.ofNat (Int.toNat c)]) +
        List.length (List.drop (Int.toNat r1) (List.take (Int.toNat (↑(List.length t) : Int)) t)) ≤
      (9223372036854775807 : Nat),
    (0 : Int) ≤ r1 ∧ r1 ≤ (↑(List.length t) : Int) ∧ (↑(List.length t) : Int) ≤ (↑(List.length t) : Int),
    List.length (List.drop (0 : Nat) (List.take (Int.toNat r1) t)) + (1 : Nat) ≤ (9223372036854775807 : Nat),
    (0 : Int) ≤ (↑(0 : Nat) : Int) ∧ (↑(0 : Nat) : Int) ≤ r1 ∧ r1 ≤ (↑(List.length t) : Int),
    Spec.Holds P0 (sNumber at_ ((↑(List.length t) : Int) + (1 : Int)) r1), at_ = at_,
    (↑(List.length t) : Int) + (1 : Int) = (↑(List.length t) : Int) + (1 : Int),
    In64 ((↑(List.length t) : Int) + (1 : Int)), decide ((↑(List.length t) : Int) < (3 : Int)) = false, false = false,
    Spec.Holds P0 (sPut p1 p2 p3 p4 p5 p6 t (0 : Int)), p1 = p1, p2 = p2, p3 = p3, p4 = p4, p5 = p5, p6 = p6,
    Glob = Glob, Spec.Holds P0 (sCutOp k f a n v w p1 p2 p3 p4 p5 p6), k = k, f = f, a = a, n = n, v = v, w = w,
    Spec.Holds P0 sFirst, Glob = Glob] := by kernel_rfl

theorem bendsFTF_c [GG] (k f a n v w at_ c p1 p2 p3 p4 p5 p6 r1 r2 x1 x2 x3 x4 x5 x6 c1 y1 y2 y3 y4 y5 y6 c2 z1 z2 z3 z4 z5 z6 c3 : Int) (t s1 s2 s3 s4 s5 : List UInt8) : check P0 300 10 (sBends k f a n v w at_ c) [.call sFirst [0], .call (sCutOp k f a n v w p1 p2 p3 p4 p5 p6) [], .call (sPut p1 p2 p3 p4 p5 p6 t 0) [0], .br false, .br false, .call (sNumber at_ (t.length + 1) r1) [], .call (sNumber at_ t.length r2) [], .call (sGet s1 x1 x2 x3 x4 x5 x6 c1) [0], .call (sGet s2 y1 y2 y3 y4 y5 y6 c2) [0], .call (sGet s3 z1 z2 z3 z4 z5 z6 c3) [0], .call (sGet s4 0 0 0 0 0 0 10) [0], .call (sGet s5 0 0 0 0 0 0 10) [0], .br false, .br true, .br true, .br false, .br true, .br true, .br true, .br true] = some [true = true, Glob = Glob, true = true, true = true, true = true,
    (!(z1 == p1 && (z2 == p2 && (z3 == p3 && (z4 == p4 && (z5 == p5 && (z6 == p6 && true))))))) = true,
    (c3 != (0 : Int)) = false, (c2 != (0 : Int)) = true,
    (!(x1 == p1 && (x2 == p2 && (x3 == p3 && (x4 == p4 && (x5 == p5 && (x6 == p6 && true))))))) = true,
    (c1 != (0 : Int)) = false,
    Spec.Holds P0 (sGet s5 (0 : Int) (0 : Int) (0 : Int) (0 : Int) (0 : Int) (0 : Int) (10 : Int)),
    { toBitVec := { toFin := ⟨(32 : Nat), Nat.mod_lt (32 : Nat) (BitVec.ofNat._proof_1 (8 : Nat))⟩ } } :: t = s5,
    Glob = Glob, (1 : Nat) + List.length t ≤ (9223372036854775807 : Nat),
    Spec.Holds P0 (sGet s4 (0 : Int) (0 : Int) (0 : Int) (0 : Int) (0 : Int) (0 : Int) (10 : Int)),
    t ++ [{ toBitVec := { toFin := ⟨(32 : Nat), Nat.mod_lt (32 : Nat) (BitVec.ofNat._proof_1 (8 : Nat))⟩ } }] = s4,
    Glob = Glob, List.length t + (1 : Nat) ≤ (9223372036854775807 : Nat), Spec.Holds P0 (sGet s3 z1 z2 z3 z4 z5 z6 c3),
    List.drop (0 : Nat) (List.take (Int.toNat r2) t) ++
          [UInt8.ofNat
              (Int.toNat
                (IntKind.wrap IntKind.u8
                  (↑(BitVec.toNat
                        (BitVec.ofInt (8 : Nat)
                            (↑(UInt8.toNat
                                  (List.getD t (Int.toNat r2)
                                    {
                                      toBitVec :=
                                        {
                                          toFin :=
                                            ⟨(0 : Nat), Nat.mod_lt (0 : Nat) (BitVec.ofNat._proof_1 (8 : Nat))⟩ } })) :
                              Int) ^^^
                          { toFin := ⟨(1 : Nat), BitVec.ofInt._proof_1 (8 : Nat) (1 : Int)⟩ })) :
                    Int)))] ++
        List.drop (Int.toNat (r2 + (1 : Int))) (List.take (Int.toNat (↑(List.length t) : Int)) t) =
      s3,
    Glob = Glob, Spec.Holds P0 (sGet s2 y1 y2 y3 y4 y5 y6 c2),
    List.drop (0 : Nat) (List.take (Int.toNat r2) t) ++
        List.drop (Int.toNat (r2 + (1 : Int))) (List.take (Int.toNat (↑(List.length t) : Int)) t) =
      s2,
    Glob = Glob, Spec.Holds P0 (sGet s1 x1 x2 x3 x4 x5 x6 c1),
    List.drop (0 : Nat) (List.take (Int.toNat r1) t) ++ [UInt8.ofNat (Int.toNat c)] ++
        List.drop (Int.toNat r1) (List.take (Int.toNat (↑(List.length t) : Int)) t) =
      s1,
    Glob = Glob, SV.str t = SV.str t, SV.int IntKind.i64 r2 = SV.int IntKind.i64 r2,
    SV.str (List.drop (0 : Nat) (List.take (Int.toNat r2) t)) =
      SV.str (List.drop (0 : Nat) (List.take (Int.toNat r2) t)),
    (0 : Int) ≤ (↑(0 : Nat) : Int) ∧ (↑(0 : Nat) : Int) ≤ r2 ∧ r2 ≤ (↑(List.length t) : Int), SV.str t = SV.str t,
    SV.int IntKind.i64 r2 = SV.int IntKind.i64 r2,
    SV.int IntKind.i64 (r2 + (1 : Int)) = SV.int IntKind.i64 (r2 + (1 : Int)), In64 (r2 + (1 : Int)),
    SV.str (List.drop (Int.toNat (r2 + (1 : Int))) (List.take (Int.toNat (↑(List.length t) : Int)) t)) =
      SV.str (List.drop (Int.toNat (r2 + (1 : Int))) (List.take (Int.toNat (↑(List.length t) : Int)) t)),
    (0 : Int) ≤ r2 + (1 : Int) ∧
      r2 + (1 : Int) ≤ (↑(List.length t) : Int) ∧ (↑(List.length t) : Int) ≤ (↑(List.length t) : Int),
    List.length
          (List.drop (0 : Nat) (List.take (Int.toNat r2) t) ++
            [UInt8.ofNat
                (Int.toNat
                  (IntKind.wrap IntKind.u8
                    (↑(BitVec.toNat
                          (BitVec.ofInt (8 : Nat)
                              (↑(UInt8.toNat
                                    (List.getD t (Int.toNat r2)
                                      {
                                        toBitVec :=
                                          {
                                            toFin :=
                                              ⟨(0 : Nat),
                                                Nat.mod_lt (0 : Nat) (BitVec.ofNat._proof_1 (8 : Nat))⟩ } })) :
                                Int) ^^^
                            { toFin := ⟨(1 : Nat), BitVec.ofInt._proof_1 (8 : Nat) (1 : Int)⟩ })) :
                      Int)))]) +
        List.length (List.drop (Int.toNat (r2 + (1 : Int))) (List.take (Int.toNat (↑(List.length t) : Int)) t)) ≤
      (9223372036854775807 : Nat),
    (0 : Int) ≤ r2 + (1 : Int) ∧
      r2 + (1 : Int) ≤ (↑(List.length t) : Int) ∧ (↑(List.length t) : Int) ≤ (↑(List.length t) : Int),
    In64 (r2 + (1 : Int)),
    List.length (List.drop (0 : Nat) (List.take (Int.toNat r2) t)) + (1 : Nat) ≤ (9223372036854775807 : Nat),
    (0 : Int) ≤ r2 ∧ r2 < (↑(List.length t) : Int),
    (0 : Int) ≤ (↑(0 : Nat) : Int) ∧ (↑(0 : Nat) : Int) ≤ r2 ∧ r2 ≤ (↑(List.length t) : Int),
    List.length (List.drop (0 : Nat) (List.take (Int.toNat r2) t)) +
        List.length (List.drop (Int.toNat (r2 + (1 : Int))) (List.take (Int.toNat (↑(List.length t) : Int)) t)) ≤
      (9223372036854775807 : Nat),
    (0 : Int) ≤ r2 + (1 : Int) ∧
      r2 + (1 : Int) ≤ (↑(List.length t) : Int) ∧ (↑(List.length t) : Int) ≤ (↑(List.length t) : Int),
    In64 (r2 + (1 : Int)), (0 : Int) ≤ (↑(0 : Nat) : Int) ∧ (↑(0 : Nat) : Int) ≤ r2 ∧ r2 ≤ (↑(List.length t) : Int),
    Spec.Holds P0 (sNumber at_ (↑(List.length t) : Int) r2), at_ = at_,
    (↑(List.length t) : Int) = (↑(List.length t) : Int), SV.str t = SV.str t,
    SV.int IntKind.i64 r1 = SV.int IntKind.i64 r1,
    SV.str (List.drop (0 : Nat) (List.take (Int.toNat r1) t)) =
      SV.str (List.drop (0 : Nat) (List.take (Int.toNat r1) t)),
    (0 : Int) ≤ (↑(0 : Nat) : Int) ∧ (↑(0 : Nat) : Int) ≤ r1 ∧ r1 ≤ (↑(List.length t) : Int), SV.str t = SV.str t,
    SV.int IntKind.i64 r1 = SV.int IntKind.i64 r1,
    SV.str (List.drop (Int.toNat r1) (List.take (Int.toNat (↑(List.length t) : Int)) t)) =
      SV.str (List.drop (Int.toNat r1) (List.take (Int.toNat (↑(List.length t) : Int)) t)),
    (0 : Int) ≤ r1 ∧ r1 ≤ (↑(List.length t) : Int) ∧ (↑(List.length t) : Int) ≤ (↑(List.length t) : Int),
    List.length (List.drop (0 : Nat) (List.take (Int.toNat r1) t) ++ [UInt8.ofNat (Int.toNat c)]) +
        List.length (List.drop (Int.toNat r1) (List.take (Int.toNat (↑(List.length t) : Int)) t)) ≤
      (9223372036854775807 : Nat),
    (0 : Int) ≤ r1 ∧ r1 ≤ (↑(List.length t) : Int) ∧ (↑(List.length t) : Int) ≤ (↑(List.length t) : Int),
    List.length (List.drop (0 : Nat) (List.take (Int.toNat r1) t)) + (1 : Nat) ≤ (9223372036854775807 : Nat),
    (0 : Int) ≤ (↑(0 : Nat) : Int) ∧ (↑(0 : Nat) : Int) ≤ r1 ∧ r1 ≤ (↑(List.length t) : Int),
    Spec.Holds P0 (sNumber at_ ((↑(List.length t) : Int) + (1 : Int)) r1), at_ = at_,
    (↑(List.length t) : Int) + (1 : Int) = (↑(List.length t) : Int) + (1 : Int),
    In64 ((↑(List.length t) : Int) + (1 : Int)), decide ((↑(List.length t) : Int) < (3 : Int)) = false, false = false,
    Spec.Holds P0 (sPut p1 p2 p3 p4 p5 p6 t (0 : Int)), p1 = p1, p2 = p2, p3 = p3, p4 = p4, p5 = p5, p6 = p6,
    Glob = Glob, Spec.Holds P0 (sCutOp k f a n v w p1 p2 p3 p4 p5 p6), k = k, f = f, a = a, n = n, v = v, w = w,
    Spec.Holds P0 sFirst, Glob = Glob] := by kernel_rfl

theorem bendsFFT_c [GG] (k f a n v w at_ c p1 p2 p3 p4 p5 p6 r1 r2 x1 x2 x3 x4 x5 x6 c1 y1 y2 y3 y4 y5 y6 c2 z1 z2 z3 z4 z5 z6 c3 : Int) (t s1 s2 s3 s4 s5 : List UInt8) : check P0 300 10 (sBends k f a n v w at_ c) [.call sFirst [0], .call (sCutOp k f a n v w p1 p2 p3 p4 p5 p6) [], .call (sPut p1 p2 p3 p4 p5 p6 t 0) [0], .br false, .br false, .call (sNumber at_ (t.length + 1) r1) [], .call (sNumber at_ t.length r2) [], .call (sGet s1 x1 x2 x3 x4 x5 x6 c1) [0], .call (sGet s2 y1 y2 y3 y4 y5 y6 c2) [0], .call (sGet s3 z1 z2 z3 z4 z5 z6 c3) [0], .call (sGet s4 0 0 0 0 0 0 10) [0], .call (sGet s5 0 0 0 0 0 0 10) [0], .br false, .br true, .br false, .br true, .br true, .br true, .br true, .br true] = some [true = true, Glob = Glob, true = true, true = true, true = true, (c3 != (0 : Int)) = true,
    (!(y1 == p1 && (y2 == p2 && (y3 == p3 && (y4 == p4 && (y5 == p5 && (y6 == p6 && true))))))) = true,
    (c2 != (0 : Int)) = false,
    (!(x1 == p1 && (x2 == p2 && (x3 == p3 && (x4 == p4 && (x5 == p5 && (x6 == p6 && true))))))) = true,
    (c1 != (0 : Int)) = false,
    Spec.Holds P0 (sGet s5 (0 : Int) (0 : Int) (0 : Int) (0 : Int) (0 : Int) (0 : Int) (10 : Int)),
    { toBitVec := { toFin := ⟨(32 : Nat), Nat.mod_lt (32 : Nat) (BitVec.ofNat._proof_1 (8 : Nat))⟩ } } :: t = s5,
    Glob = Glob, (1 : Nat) + List.length t ≤ (9223372036854775807 : Nat),
    Spec.Holds P0 (sGet s4 (0 : Int) (0 : Int) (0 : Int) (0 : Int) (0 : Int) (0 : Int) (10 : Int)),
    t ++ [{ toBitVec := { toFin := ⟨(32 : Nat), Nat.mod_lt (32 : Nat) (BitVec.ofNat._proof_1 (8 : Nat))⟩ } }] = s4,
    Glob = Glob, List.length t + (1 : Nat) ≤ (9223372036854775807 : Nat), Spec.Holds P0 (sGet s3 z1 z2 z3 z4 z5 z6 c3),
    List.drop (0 : Nat) (List.take (Int.toNat r2) t) ++
          [UInt8.ofNat
              (Int.toNat
                (IntKind.wrap IntKind.u8
                  (↑(BitVec.toNat
                        (BitVec.ofInt (8 : Nat)
                            (↑(UInt8.toNat
                                  (List.getD t (Int.toNat r2)
                                    {
                                      toBitVec :=
                                        {
                                          toFin :=
                                            ⟨(0 : Nat), Nat.mod_lt (0 : Nat) (BitVec.ofNat._proof_1 (8 : Nat))⟩ } })) :
                              Int) ^^^
                          { toFin := ⟨(1 : Nat), BitVec.ofInt._proof_1 (8 : Nat) (1 : Int)⟩ })) :
                    Int)))] ++
        List.drop (Int.toNat (r2 + (1 : Int))) (List.take (Int.toNat (↑(List.length t) : Int)) t) =
      s3,
    Glob = Glob, Spec.Holds P0 (sGet s2 y1 y2 y3 y4 y5 y6 c2),
    List.drop (0 : Nat) (List.take (Int.toNat r2) t) ++
        List.drop (Int.toNat (r2 + (1 : Int))) (List.take (Int.toNat (↑(List.length t) : Int)) t) =
      s2,
    Glob = Glob, Spec.Holds P0 (sGet s1 x1 x2 x3 x4 x5 x6 c1),
    List.drop (0 : Nat) (List.take (Int.toNat r1) t) ++ [UInt8.ofNat (Int.toNat c)] ++
        List.drop (Int.toNat r1) (List.take (Int.toNat (↑(List.length t) : Int)) t) =
      s1,
    Glob = Glob, SV.str t = SV.str t, SV.int IntKind.i64 r2 = SV.int IntKind.i64 r2,
    SV.str (List.drop (0 : Nat) (List.take (Int.toNat r2) t)) =
      SV.str (List.drop (0 : Nat) (List.take (Int.toNat r2) t)),
    (0 : Int) ≤ (↑(0 : Nat) : Int) ∧ (↑(0 : Nat) : Int) ≤ r2 ∧ r2 ≤ (↑(List.length t) : Int), SV.str t = SV.str t,
    SV.int IntKind.i64 r2 = SV.int IntKind.i64 r2,
    SV.int IntKind.i64 (r2 + (1 : Int)) = SV.int IntKind.i64 (r2 + (1 : Int)), In64 (r2 + (1 : Int)),
    SV.str (List.drop (Int.toNat (r2 + (1 : Int))) (List.take (Int.toNat (↑(List.length t) : Int)) t)) =
      SV.str (List.drop (Int.toNat (r2 + (1 : Int))) (List.take (Int.toNat (↑(List.length t) : Int)) t)),
    (0 : Int) ≤ r2 + (1 : Int) ∧
      r2 + (1 : Int) ≤ (↑(List.length t) : Int) ∧ (↑(List.length t) : Int) ≤ (↑(List.length t) : Int),
    List.length
          (List.drop (0 : Nat) (List.take (Int.toNat r2) t) ++
            [UInt8.ofNat
                (Int.toNat
                  (IntKind.wrap IntKind.u8
                    (↑(BitVec.toNat
                          (BitVec.ofInt (8 : Nat)
                              (↑(UInt8.toNat
                                    (List.getD t (Int.toNat r2)
                                      {
                                        toBitVec :=
                                          {
                                            toFin :=
                                              ⟨(0 : Nat),
                                                Nat.mod_lt (0 : Nat) (BitVec.ofNat._proof_1 (8 : Nat))⟩ } })) :
                                Int) ^^^
                            { toFin := ⟨(1 : Nat), BitVec.ofInt._proof_1 (8 : Nat) (1 : Int)⟩ })) :
                      Int)))]) +
        List.length (List.drop (Int.toNat (r2 + (1 : Int))) (List.take (Int.toNat (↑(List.length t) : Int)) t)) ≤
      (9223372036854775807 : Nat),
    (0 : Int) ≤ r2 + (1 : Int) ∧
      r2 + (1 : Int) ≤ (↑(List.length t) : Int) ∧ (↑(List.length t) : Int) ≤ (↑(List.length t) : Int),
    In64 (r2 + (1 : Int)),
    List.length (List.drop (0 : Nat) (List.take (Int.toNat r2) t)) + (1 : Nat) ≤ (9223372036854775807 : Nat),
    (0 : Int) ≤ r2 ∧ r2 < (↑(List.length t) : Int),
    (0 : Int) ≤ (↑(0 : Nat) : Int) ∧ (↑(0 : Nat) : Int) ≤ r2 ∧ r2 ≤ (↑(List.length t) : Int),
    List.length (List.drop (0 : Nat) (List.take (Int.toNat r2) t)) +
        List.length (List.drop (Int.toNat (r2 + (1 : Int))) (List.take (Int.toNat (↑(List.length t) : Int)) t)) ≤
      (9223372036854775807 : Nat),
    (0 : Int) ≤ r2 + (1 : Int) ∧
      r2 + (1 : Int) ≤ (↑(List.length t) : Int) ∧ (↑(List.length t) : Int) ≤ (↑(List.length t) : Int),
    In64 (r2 + (1 : Int)), (0 : Int) ≤ (↑(0 : Nat) : Int) ∧ (↑(0 : Nat) : Int) ≤ r2 ∧ r2 ≤ (↑(List.length t) : Int),
    Spec.Holds P0 (sNumber at_ (↑(List.length t) : Int) r2), at_ = at_,
    (↑(List.length t) : Int) = (↑(List.length t) : Int), SV.str t = SV.str t,
    SV.int IntKind.i64 r1 = SV.int IntKind.i64 r1,
    SV.str (List.drop (0 : Nat) (List.take (Int.toNat r1) t)) =
      SV.str (List.drop (0 : Nat) (List.take (Int.toNat r1) t)),
    (0 : Int) ≤ (↑(0 : Nat) : Int) ∧ (↑(0 : Nat) : Int) ≤ r1 ∧ r1 ≤ (↑(List.length t) : Int), SV.str t = SV.str t,
    SV.int IntKind.i64 r1 = SV.int IntKind.i64 r1,
    SV.str (List.drop (Int.toNat r1) (List.take (Int.toNat (↑(List.length t) : Int)) t)) =
      SV.str (List.drop (Int.toNat r1) (List.take (Int.toNat (↑(List.length t) : Int)) t)),
    (0 : Int) ≤ r1 ∧ r1 ≤ (↑(List.length t) : Int) ∧ (↑(List.length t) : Int) ≤ (↑(List.length t) : Int),
    List.length (List.drop (0 : Nat) (List.take (Int.toNat r1) t) ++ [UInt8.ofNat (Int.toNat c)]) +
        List.length (List.drop (Int.toNat r1) (List.take (Int.toNat (↑(List.length t) : Int)) t)) ≤
      (9223372036854775807 : Nat),
    (0 : Int) ≤ r1 ∧ r1 ≤ (↑(List.length t) : Int) ∧ (↑(List.length t) : Int) ≤ (↑(List.length t) : Int),
    List.length (List.drop (0 : Nat) (List.take (Int.toNat r1) t)) + (1 : Nat) ≤ (9223372036854775807 : Nat),
    (0 : Int) ≤ (↑(0 : Nat) : Int) ∧ (↑(0 : Nat) : Int) ≤ r1 ∧ r1 ≤ (↑(List.length t) : Int),
    Spec.Holds P0 (sNumber at_ ((↑(List.length t) : Int) + (1 : Int)) r1), at_ = at_,
    (↑(List.length t) : Int) + (1 : Int) = (↑(List.length t) : Int) + (1 : Int),
    In64 ((↑(List.length t) : Int) + (1 : Int)), decide ((↑(List.length t) : Int) < (3 : Int)) = false, false = false,
    Spec.Holds P0 (sPut p1 p2 p3 p4 p5 p6 t (0 : Int)), p1 = p1, p2 = p2, p3 = p3, p4 = p4, p5 = p5, p6 = p6,
    Glob = Glob, Spec.Holds P0 (sCutOp k f a n v w p1 p2 p3 p4 p5 p6), k = k, f = f, a = a, n = n, v = v, w = w,
    Spec.Holds P0 sFirst, Glob = Glob] := by kernel_rfl

theorem bendsFFF_c [GG] (k f a n v w at_ c p1 p2 p3 p4 p5 p6 r1 r2 x1 x2 x3 x4 x5 x6 c1 y1 y2 y3 y4 y5 y6 c2 z1 z2 z3 z4 z5 z6 c3 : Int) (t s1 s2 s3 s4 s5 : List UInt8) : check P0 300 10 (sBends k f a n v w at_ c) [.call sFirst [0], .call (sCutOp k f a n v w p1 p2 p3 p4 p5 p6) [], .call (sPut p1 p2 p3 p4 p5 p6 t 0) [0], .br false, .br false, .call (sNumber at_ (t.length + 1) r1) [], .call (sNumber at_ t.length r2) [], .call (sGet s1 x1 x2 x3 x4 x5 x6 c1) [0], .call (sGet s2 y1 y2 y3 y4 y5 y6 c2) [0], .call (sGet s3 z1 z2 z3 z4 z5 z6 c3) [0], .call (sGet s4 0 0 0 0 0 0 10) [0], .call (sGet s5 0 0 0 0 0 0 10) [0], .br false, .br true, .br false, .br true, .br false, .br true, .br true, .br true, .br true] = some [true = true, Glob = Glob, true = true, true = true, true = true,
    (!(z1 == p1 && (z2 == p2 && (z3 == p3 && (z4 == p4 && (z5 == p5 && (z6 == p6 && true))))))) = true,
    (c3 != (0 : Int)) = false,
    (!(y1 == p1 && (y2 == p2 && (y3 == p3 && (y4 == p4 && (y5 == p5 && (y6 == p6 && true))))))) = true,
    (c2 != (0 : Int)) = false,
    (!(x1 == p1 && (x2 == p2 && (x3 == p3 && (x4 == p4 && (x5 == p5 && (x6 == p6 && true))))))) = true,
    (c1 != (0 : Int)) = false,
    Spec.Holds P0 (sGet s5 (0 : Int) (0 : Int) (0 : Int) (0 : Int) (0 : Int) (0 : Int) (10 : Int)),
    { toBitVec := { toFin := ⟨(32 : Nat), Nat.mod_lt (32 : Nat) (BitVec.ofNat._proof_1 (8 : Nat))⟩ } } :: t = s5,
    Glob = Glob, (1 : Nat) + List.length t ≤ (9223372036854775807 : Nat),
    Spec.Holds P0 (sGet s4 (0 : Int) (0 : Int) (0 : Int) (0 : Int) (0 : Int) (0 : Int) (10 : Int)),
    t ++ [{ toBitVec := { toFin := ⟨(32 : Nat), Nat.mod_lt (32 : Nat) (BitVec.ofNat._proof_1 (8 : Nat))⟩ } }] = s4,
    Glob = Glob, List.length t + (1 : Nat) ≤ (9223372036854775807 : Nat), Spec.Holds P0 (sGet s3 z1 z2 z3 z4 z5 z6 c3),
    List.drop (0 : Nat) (List.take (Int.toNat r2) t) ++
          [UInt8.ofNat
              (Int.toNat
                (IntKind.wrap IntKind.u8
                  (↑(BitVec.toNat
                        (BitVec.ofInt (8 : Nat)
                            (↑(UInt8.toNat
                                  (List.getD t (Int.toNat r2)
                                    {
                                      toBitVec :=
                                        {
                                          toFin :=
                                            ⟨(0 : Nat), Nat.mod_lt (0 : Nat) (BitVec.ofNat._proof_1 (8 : Nat))⟩ } })) :
                              Int) ^^^
                          { toFin := ⟨(1 : Nat), BitVec.ofInt._proof_1 (8 : Nat) (1 : Int)⟩ })) :
                    Int)))] ++
        List.drop (Int.toNat (r2 + (1 : Int))) (List.take (Int.toNat (↑(List.length t) : Int)) t) =
      s3,
    Glob = Glob, Spec.Holds P0 (sGet s2 y1 y2 y3 y4 y5 y6 c2),
    List.drop (0 : Nat) (List.take (Int.toNat r2) t) ++
        List.drop (Int.toNat (r2 + (1 : Int))) (List.take (Int.toNat (↑(List.length t) : Int)) t) =
      s2,
    Glob = Glob, Spec.Holds P0 (sGet s1 x1 x2 x3 x4 x5 x6 c1),
    List.drop (0 : Nat) (List.take (Int.toNat r1) t) ++ [UInt8.ofNat (Int.toNat c)] ++
        List.drop (Int.toNat r1) (List.take (Int.toNat (↑(List.length t) : Int)) t) =
      s1,
    Glob = Glob, SV.str t = SV.str t, SV.int IntKind.i64 r2 = SV.int IntKind.i64 r2,
    SV.str (List.drop (0 : Nat) (List.take (Int.toNat r2) t)) =
      SV.str (List.drop (0 : Nat) (List.take (Int.toNat r2) t)),
    (0 : Int) ≤ (↑(0 : Nat) : Int) ∧ (↑(0 : Nat) : Int) ≤ r2 ∧ r2 ≤ (↑(List.length t) : Int), SV.str t = SV.str t,
    SV.int IntKind.i64 r2 = SV.int IntKind.i64 r2,
    SV.int IntKind.i64 (r2 + (1 : Int)) = SV.int IntKind.i64 (r2 + (1 : Int)), In64 (r2 + (1 : Int)),
    SV.str (List.drop (Int.toNat (r2 + (1 : Int))) (List.take (Int.toNat (↑(List.length t) : Int)) t)) =
      SV.str (List.drop (Int.toNat (r2 + (1 : Int))) (List.take (Int.toNat (↑(List.length t) : Int)) t)),
    (0 : Int) ≤ r2 + (1 : Int) ∧
      r2 + (1 : Int) ≤ (↑(List.length t) : Int) ∧ (↑(List.length t) : Int) ≤ (↑(List.length t) : Int),
    List.length
          (List.drop (0 : Nat) (List.take (Int.toNat r2) t) ++
            [UInt8.ofNat
                (Int.toNat
                  (IntKind.wrap IntKind.u8
                    (↑(BitVec.toNat
                          (BitVec.ofInt (8 : Nat)
                              (↑(UInt8.toNat
                                    (List.getD t (Int.toNat r2)
                                      {
                                        toBitVec :=
                                          {
                                            toFin :=
                                              ⟨(0 : Nat),
                                                Nat.mod_lt (0 : Nat) (BitVec.ofNat._proof_1 (8 : Nat))⟩ } })) :
                                Int) ^^^
                            { toFin := ⟨(1 : Nat), BitVec.ofInt._proof_1 (8 : Nat) (1 : Int)⟩ })) :
                      Int)))]) +
        List.length (List.drop (Int.toNat (r2 + (1 : Int))) (List.take (Int.toNat (↑(List.length t) : Int)) t)) ≤
      (9223372036854775807 : Nat),
    (0 : Int) ≤ r2 + (1 : Int) ∧
      r2 + (1 : Int) ≤ (↑(List.length t) : Int) ∧ (↑(List.length t) : Int) ≤ (↑(List.length t) : Int),
    In64 (r2 + (1 : Int)),
    List.length (List.drop (0 : Nat) (List.take (Int.toNat r2) t)) + (1 : Nat) ≤ (9223372036854775807 : Nat),
    (0 : Int) ≤ r2 ∧ r2 < (↑(List.length t) : Int),
    (0 : Int) ≤ (↑(0 : Nat) : Int) ∧ (↑(0 : Nat) : Int) ≤ r2 ∧ r2 ≤ (↑(List.length t) : Int),
    List.length (List.drop (0 : Nat) (List.take (Int.toNat r2) t)) +
        List.length (List.drop (Int.toNat (r2 + (1 : Int))) (List.take (Int.toNat (↑(List.length t) : Int)) t)) ≤
      (9223372036854775807 : Nat),
    (0 : Int) ≤ r2 + (1 : Int) ∧
      r2 + (1 : Int) ≤ (↑(List.length t) : Int) ∧ (↑(List.length t) : Int) ≤ (↑(List.length t) : Int),
    In64 (r2 + (1 : Int)), (0 : Int) ≤ (↑(0 : Nat) : Int) ∧ (↑(0 : Nat) : Int) ≤ r2 ∧ r2 ≤ (↑(List.length t) : Int),
    Spec.Holds P0 (sNumber at_ (↑(List.length t) : Int) r2), at_ = at_,
    (↑(List.length t) : Int) = (↑(List.length t) : Int), SV.str t = SV.str t,
    SV.int IntKind.i64 r1 = SV.int IntKind.i64 r1,
    SV.str (List.drop (0 : Nat) (List.take (Int.toNat r1) t)) =
      SV.str (List.drop (0 : Nat) (List.take (Int.toNat r1) t)),
    (0 : Int) ≤ (↑(0 : Nat) : Int) ∧ (↑(0 : Nat) : Int) ≤ r1 ∧ r1 ≤ (↑(List.length t) : Int), SV.str t = SV.str t,
    SV.int IntKind.i64 r1 = SV.int IntKind.i64 r1,
    SV.str (List.drop (Int.toNat r1) (List.take (Int.toNat (↑(List.length t) : Int)) t)) =
      SV.str (List.drop (Int.toNat r1) (List.take (Int.toNat (↑(List.length t) : Int)) t)),
    (0 : Int) ≤ r1 ∧ r1 ≤ (↑(List.length t) : Int) ∧ (↑(List.length t) : Int) ≤ (↑(List.length t) : Int),
    List.length (List.drop (0 : Nat) (List.take (Int.toNat r1) t) ++ [UInt8.ofNat (Int.toNat c)]) +
        List.length (List.drop (Int.toNat r1) (List.take (Int.toNat (↑(List.length t) : Int)) t)) ≤
      (9223372036854775807 : Nat),
    (0 : Int) ≤ r1 ∧ r1 ≤ (↑(List.length t) : Int) ∧ (↑(List.length t) : Int) ≤ (↑(List.length t) : Int),
    List.length (List.drop (0 : Nat) (List.take (Int.toNat r1) t)) + (1 : Nat) ≤ (9223372036854775807 : Nat),
    (0 : Int) ≤ (↑(0 : Nat) : Int) ∧ (↑(0 : Nat) : Int) ≤ r1 ∧ r1 ≤ (↑(List.length t) : Int),
    Spec.Holds P0 (sNumber at_ ((↑(List.length t) : Int) + (1 : Int)) r1), at_ = at_,
    (↑(List.length t) : Int) + (1 : Int) = (↑(List.length t) : Int) + (1 : Int),
    In64 ((↑(List.length t) : Int) + (1 : Int)), decide ((↑(List.length t) : Int) < (3 : Int)) = false, false = false,
    Spec.Holds P0 (sPut p1 p2 p3 p4 p5 p6 t (0 : Int)), p1 = p1, p2 = p2, p3 = p3, p4 = p4, p5 = p5, p6 = p6,
    Glob = Glob, Spec.Holds P0 (sCutOp k f a n v w p1 p2 p3 p4 p5 p6), k = k, f = f, a = a, n = n, v = v, w = w,
    Spec.Holds P0 sFirst, Glob = Glob] := by kernel_rfl

end Go.OpP
