import Derived.Test.YtfnekhbekppgnaaDoorOE
import Derived.Lib.ItoaLen
namespace Go.OpP
open Go.Eng

/-! An operation's text. -/

def sPut [GG] (k f a n v w : Int) (t : List UInt8) (c : Int) : Eng.Spec := { f := 15, k := 1, m := 200, args := [opV k f a n v w], pre := G, ret := .tup [.str t, .int .i64 c], post := G }

theorem putNo_c [GG] (k f a n v w : Int) (t : List UInt8) (c : Int) (b : Bool) : check P0 300 10 (sPut k f a n v w t c) [.call (sMay k f a n v w b) [], .br true] = some [[] = t, (10 : Int) = c, Glob = Glob, (!b) = true, Spec.Holds P0 (sMay k f a n v w b), k = k, f = f, a = a, n = n,
    v = v, w = w] := by kernel_rfl

theorem putA_c [GG] (k f a n v w : Int) (t : List UInt8) (c : Int) (b : Bool) (nm tf ta tn tv tw tj : List UInt8) (o : Int) (fn fv fw : Bool) : check P0 300 10 (sPut k f a n v w t c) [.call (sMay k f a n v w b) [], .br false, .call (sForm k nm o fn fv fw) [], .br false, .br true, .call (sItoa n tn) [0], .br false, .br false, .call (sJoin [nm, tn] 2 tj) [0, 85]] = some [tj = t, (0 : Int) = c, Glob = Glob, Spec.Holds P0 (sJoin [nm, tn] (2 : Nat) tj),
    Value.string
        {
          data :=
            {
              toList :=
                [{
                    toBitVec :=
                      { toFin := ⟨(32 : Nat), Nat.mod_lt (32 : Nat) (BitVec.ofNat._proof_1 (8 : Nat))⟩ } }] } } =
      Value.string
        {
          data :=
            {
              toList :=
                [{
                    toBitVec :=
                      { toFin := ⟨(32 : Nat), Nat.mod_lt (32 : Nat) (BitVec.ofNat._proof_1 (8 : Nat))⟩ } }] } },
    nm = nm, tn = tn, Glob = Glob, fw = false, fv = false, (32 : Nat) ≤ (140737488355328 : Nat),
    (2 : Nat) ≤ (9223372036854775807 : Nat), Spec.Holds P0 (sItoa n tn), n = n, Glob = Glob, fn = true,
    (o != (0 : Int)) = false, Spec.Holds P0 (sForm k nm o fn fv fw), k = k, (!b) = false,
    Spec.Holds P0 (sMay k f a n v w b), k = k, f = f, a = a, n = n, v = v, w = w] := by kernel_rfl

theorem putB_c [GG] (k f a n v w : Int) (t : List UInt8) (c : Int) (b : Bool) (nm tf ta tn tv tw tj : List UInt8) (o : Int) (fn fv fw : Bool) : check P0 300 10 (sPut k f a n v w t c) [.call (sMay k f a n v w b) [], .br false, .call (sForm k nm o fn fv fw) [], .br false, .br false, .br false, .br false] = some [nm = t, (0 : Int) = c, Glob = Glob, fw = false, fv = false, fn = false, (o != (0 : Int)) = false,
    Spec.Holds P0 (sForm k nm o fn fv fw), k = k, (!b) = false, Spec.Holds P0 (sMay k f a n v w b), k = k, f = f, a = a,
    n = n, v = v, w = w] := by kernel_rfl

theorem putC1_c [GG] (k f a n v w : Int) (t : List UInt8) (c : Int) (b : Bool) (nm tf ta tn tv tw tj : List UInt8) (o : Int) (fn fv fw : Bool) : check P0 300 10 (sPut k f a n v w t c) [.call (sMay k f a n v w b) [], .br false, .call (sForm k nm o fn fv fw) [], .br true, .call (sItoa f tf) [0], .call (sItoa a ta) [0], .br true, .call (sItoa n tn) [0], .br false, .br false, .call (sJoin [nm, tf ++ [46] ++ ta, tn] 3 tj) [0, 87]] = some [tj = t, (0 : Int) = c, Glob = Glob, Spec.Holds P0 (sJoin [nm, tf ++ [(46 : UInt8)] ++ ta, tn] (3 : Nat) tj),
    Value.string
        {
          data :=
            {
              toList :=
                [{
                    toBitVec :=
                      { toFin := ⟨(32 : Nat), Nat.mod_lt (32 : Nat) (BitVec.ofNat._proof_1 (8 : Nat))⟩ } }] } } =
      Value.string
        {
          data :=
            {
              toList :=
                [{
                    toBitVec :=
                      { toFin := ⟨(32 : Nat), Nat.mod_lt (32 : Nat) (BitVec.ofNat._proof_1 (8 : Nat))⟩ } }] } },
    nm = nm,
    tf ++ [{ toBitVec := { toFin := ⟨(46 : Nat), Nat.mod_lt (46 : Nat) (BitVec.ofNat._proof_1 (8 : Nat))⟩ } }] ++ ta =
      tf ++ [{ toBitVec := { toFin := ⟨(46 : Nat), Nat.mod_lt (46 : Nat) (BitVec.ofNat._proof_1 (8 : Nat))⟩ } }] ++ ta,
    tn = tn, Glob = Glob, fw = false, fv = false, (48 : Nat) ≤ (140737488355328 : Nat),
    (3 : Nat) ≤ (9223372036854775807 : Nat), Spec.Holds P0 (sItoa n tn), n = n, Glob = Glob, fn = true,
    SV.sl (83 : Nat) (1 : Nat) (LN.l (0 : Nat)) (LN.l (1 : Nat)) =
      SV.sl (83 : Nat) (1 : Nat) (LN.l (0 : Nat)) (LN.l (1 : Nat)),
    SV.sl (83 : Nat) (1 : Nat) (LN.l (0 : Nat)) (LN.l (1 : Nat)) =
      SV.sl (83 : Nat) (1 : Nat) (LN.l (0 : Nat)) (LN.l (1 : Nat)),
    SV.sl (83 : Nat) (1 : Nat) (LN.l (0 : Nat)) (LN.l (1 : Nat)) =
      SV.sl (83 : Nat) (1 : Nat) (LN.l (0 : Nat)) (LN.l (1 : Nat)),
    SV.str
        (tf ++ [{ toBitVec := { toFin := ⟨(46 : Nat), Nat.mod_lt (46 : Nat) (BitVec.ofNat._proof_1 (8 : Nat))⟩ } }]) =
      SV.str
        (tf ++ [{ toBitVec := { toFin := ⟨(46 : Nat), Nat.mod_lt (46 : Nat) (BitVec.ofNat._proof_1 (8 : Nat))⟩ } }]),
    List.length tf + (1 : Nat) ≤ (9223372036854775807 : Nat),
    SV.ptr (1 : Nat) (LN.l (0 : Nat)) (0 : Nat) (2 : Nat) = SV.ptr (1 : Nat) (LN.l (0 : Nat)) (0 : Nat) (2 : Nat),
    SV.int IntKind.i64 a = SV.int IntKind.i64 a, (32 : Nat) ≤ (140737488355328 : Nat),
    (2 : Nat) ≤ (9223372036854775807 : Nat),
    List.length
          (tf ++ [{ toBitVec := { toFin := ⟨(46 : Nat), Nat.mod_lt (46 : Nat) (BitVec.ofNat._proof_1 (8 : Nat))⟩ } }]) +
        List.length ta ≤
      (9223372036854775807 : Nat),
    Spec.Holds P0 (sItoa a ta), a = a, Glob = Glob, List.length tf + (1 : Nat) ≤ (9223372036854775807 : Nat),
    Spec.Holds P0 (sItoa f tf), f = f, Glob = Glob, (o != (0 : Int)) = true, Spec.Holds P0 (sForm k nm o fn fv fw),
    k = k, (!b) = false, Spec.Holds P0 (sMay k f a n v w b), k = k, f = f, a = a, n = n, v = v, w = w] := by kernel_rfl

theorem putC2_c [GG] (k f a n v w : Int) (t : List UInt8) (c : Int) (b : Bool) (nm tf ta tn tv tw tj : List UInt8) (o : Int) (fn fv fw : Bool) : check P0 300 10 (sPut k f a n v w t c) [.call (sMay k f a n v w b) [], .br false, .call (sForm k nm o fn fv fw) [], .br true, .call (sItoa f tf) [0], .call (sItoa a ta) [0], .br true, .call (sItoa n tn) [0], .br true, .call (sFmtU v tv) [0], .br false, .call (sJoin [nm, tf ++ [46] ++ ta, tn, tv] 4 tj) [0, 89]] = some [tj = t, (0 : Int) = c, Glob = Glob, Spec.Holds P0 (sJoin [nm, tf ++ [(46 : UInt8)] ++ ta, tn, tv] (4 : Nat) tj),
    Value.string
        {
          data :=
            {
              toList :=
                [{
                    toBitVec :=
                      { toFin := ⟨(32 : Nat), Nat.mod_lt (32 : Nat) (BitVec.ofNat._proof_1 (8 : Nat))⟩ } }] } } =
      Value.string
        {
          data :=
            {
              toList :=
                [{
                    toBitVec :=
                      { toFin := ⟨(32 : Nat), Nat.mod_lt (32 : Nat) (BitVec.ofNat._proof_1 (8 : Nat))⟩ } }] } },
    nm = nm,
    tf ++ [{ toBitVec := { toFin := ⟨(46 : Nat), Nat.mod_lt (46 : Nat) (BitVec.ofNat._proof_1 (8 : Nat))⟩ } }] ++ ta =
      tf ++ [{ toBitVec := { toFin := ⟨(46 : Nat), Nat.mod_lt (46 : Nat) (BitVec.ofNat._proof_1 (8 : Nat))⟩ } }] ++ ta,
    tn = tn, tv = tv, Glob = Glob, fw = false, (64 : Nat) ≤ (140737488355328 : Nat),
    (4 : Nat) ≤ (9223372036854775807 : Nat), Spec.Holds P0 (sFmtU v tv), v = v, Glob = Glob, fv = true,
    (48 : Nat) ≤ (140737488355328 : Nat), (3 : Nat) ≤ (9223372036854775807 : Nat), Spec.Holds P0 (sItoa n tn), n = n,
    Glob = Glob, fn = true,
    SV.sl (83 : Nat) (1 : Nat) (LN.l (0 : Nat)) (LN.l (1 : Nat)) =
      SV.sl (83 : Nat) (1 : Nat) (LN.l (0 : Nat)) (LN.l (1 : Nat)),
    SV.sl (83 : Nat) (1 : Nat) (LN.l (0 : Nat)) (LN.l (1 : Nat)) =
      SV.sl (83 : Nat) (1 : Nat) (LN.l (0 : Nat)) (LN.l (1 : Nat)),
    SV.sl (83 : Nat) (1 : Nat) (LN.l (0 : Nat)) (LN.l (1 : Nat)) =
      SV.sl (83 : Nat) (1 : Nat) (LN.l (0 : Nat)) (LN.l (1 : Nat)),
    SV.str
        (tf ++ [{ toBitVec := { toFin := ⟨(46 : Nat), Nat.mod_lt (46 : Nat) (BitVec.ofNat._proof_1 (8 : Nat))⟩ } }]) =
      SV.str
        (tf ++ [{ toBitVec := { toFin := ⟨(46 : Nat), Nat.mod_lt (46 : Nat) (BitVec.ofNat._proof_1 (8 : Nat))⟩ } }]),
    List.length tf + (1 : Nat) ≤ (9223372036854775807 : Nat),
    SV.ptr (1 : Nat) (LN.l (0 : Nat)) (0 : Nat) (2 : Nat) = SV.ptr (1 : Nat) (LN.l (0 : Nat)) (0 : Nat) (2 : Nat),
    SV.int IntKind.i64 a = SV.int IntKind.i64 a, (32 : Nat) ≤ (140737488355328 : Nat),
    (2 : Nat) ≤ (9223372036854775807 : Nat),
    List.length
          (tf ++ [{ toBitVec := { toFin := ⟨(46 : Nat), Nat.mod_lt (46 : Nat) (BitVec.ofNat._proof_1 (8 : Nat))⟩ } }]) +
        List.length ta ≤
      (9223372036854775807 : Nat),
    Spec.Holds P0 (sItoa a ta), a = a, Glob = Glob, List.length tf + (1 : Nat) ≤ (9223372036854775807 : Nat),
    Spec.Holds P0 (sItoa f tf), f = f, Glob = Glob, (o != (0 : Int)) = true, Spec.Holds P0 (sForm k nm o fn fv fw),
    k = k, (!b) = false, Spec.Holds P0 (sMay k f a n v w b), k = k, f = f, a = a, n = n, v = v, w = w] := by kernel_rfl

theorem putC3_c [GG] (k f a n v w : Int) (t : List UInt8) (c : Int) (b : Bool) (nm tf ta tn tv tw tj : List UInt8) (o : Int) (fn fv fw : Bool) : check P0 300 10 (sPut k f a n v w t c) [.call (sMay k f a n v w b) [], .br false, .call (sForm k nm o fn fv fw) [], .br true, .call (sItoa f tf) [0], .call (sItoa a ta) [0], .br true, .call (sItoa n tn) [0], .br true, .call (sFmtU v tv) [0], .br true, .call (sFmtU w tw) [0], .call (sJoin [nm, tf ++ [46] ++ ta, tn, tv, tw] 5 tj) [0, 91]] = some [tj = t, (0 : Int) = c, Glob = Glob, Spec.Holds P0 (sJoin [nm, tf ++ [(46 : UInt8)] ++ ta, tn, tv, tw] (5 : Nat) tj),
    Value.string
        {
          data :=
            {
              toList :=
                [{
                    toBitVec :=
                      { toFin := ⟨(32 : Nat), Nat.mod_lt (32 : Nat) (BitVec.ofNat._proof_1 (8 : Nat))⟩ } }] } } =
      Value.string
        {
          data :=
            {
              toList :=
                [{
                    toBitVec :=
                      { toFin := ⟨(32 : Nat), Nat.mod_lt (32 : Nat) (BitVec.ofNat._proof_1 (8 : Nat))⟩ } }] } },
    nm = nm,
    tf ++ [{ toBitVec := { toFin := ⟨(46 : Nat), Nat.mod_lt (46 : Nat) (BitVec.ofNat._proof_1 (8 : Nat))⟩ } }] ++ ta =
      tf ++ [{ toBitVec := { toFin := ⟨(46 : Nat), Nat.mod_lt (46 : Nat) (BitVec.ofNat._proof_1 (8 : Nat))⟩ } }] ++ ta,
    tn = tn, tv = tv, tw = tw, Glob = Glob, (80 : Nat) ≤ (140737488355328 : Nat),
    (5 : Nat) ≤ (9223372036854775807 : Nat), Spec.Holds P0 (sFmtU w tw), w = w, Glob = Glob, fw = true,
    (64 : Nat) ≤ (140737488355328 : Nat), (4 : Nat) ≤ (9223372036854775807 : Nat), Spec.Holds P0 (sFmtU v tv), v = v,
    Glob = Glob, fv = true, (48 : Nat) ≤ (140737488355328 : Nat), (3 : Nat) ≤ (9223372036854775807 : Nat),
    Spec.Holds P0 (sItoa n tn), n = n, Glob = Glob, fn = true,
    SV.sl (83 : Nat) (1 : Nat) (LN.l (0 : Nat)) (LN.l (1 : Nat)) =
      SV.sl (83 : Nat) (1 : Nat) (LN.l (0 : Nat)) (LN.l (1 : Nat)),
    SV.sl (83 : Nat) (1 : Nat) (LN.l (0 : Nat)) (LN.l (1 : Nat)) =
      SV.sl (83 : Nat) (1 : Nat) (LN.l (0 : Nat)) (LN.l (1 : Nat)),
    SV.sl (83 : Nat) (1 : Nat) (LN.l (0 : Nat)) (LN.l (1 : Nat)) =
      SV.sl (83 : Nat) (1 : Nat) (LN.l (0 : Nat)) (LN.l (1 : Nat)),
    SV.str
        (tf ++ [{ toBitVec := { toFin := ⟨(46 : Nat), Nat.mod_lt (46 : Nat) (BitVec.ofNat._proof_1 (8 : Nat))⟩ } }]) =
      SV.str
        (tf ++ [{ toBitVec := { toFin := ⟨(46 : Nat), Nat.mod_lt (46 : Nat) (BitVec.ofNat._proof_1 (8 : Nat))⟩ } }]),
    List.length tf + (1 : Nat) ≤ (9223372036854775807 : Nat),
    SV.ptr (1 : Nat) (LN.l (0 : Nat)) (0 : Nat) (2 : Nat) = SV.ptr (1 : Nat) (LN.l (0 : Nat)) (0 : Nat) (2 : Nat),
    SV.int IntKind.i64 a = SV.int IntKind.i64 a, (32 : Nat) ≤ (140737488355328 : Nat),
    (2 : Nat) ≤ (9223372036854775807 : Nat),
    List.length
          (tf ++ [{ toBitVec := { toFin := ⟨(46 : Nat), Nat.mod_lt (46 : Nat) (BitVec.ofNat._proof_1 (8 : Nat))⟩ } }]) +
        List.length ta ≤
      (9223372036854775807 : Nat),
    Spec.Holds P0 (sItoa a ta), a = a, Glob = Glob, List.length tf + (1 : Nat) ≤ (9223372036854775807 : Nat),
    Spec.Holds P0 (sItoa f tf), f = f, Glob = Glob, (o != (0 : Int)) = true, Spec.Holds P0 (sForm k nm o fn fv fw),
    k = k, (!b) = false, Spec.Holds P0 (sMay k f a n v w b), k = k, f = f, a = a, n = n, v = v, w = w] := by kernel_rfl

theorem putD_c [GG] (k f a n v w : Int) (t : List UInt8) (c : Int) (b : Bool) (nm tf ta tn tv tw tj : List UInt8) (o : Int) (fn fv fw : Bool) : check P0 300 10 (sPut k f a n v w t c) [.call (sMay k f a n v w b) [], .br false, .call (sForm k nm o fn fv fw) [], .br true, .call (sItoa f tf) [0], .call (sItoa a ta) [0], .br false, .br false, .br false, .call (sJoin [nm, tf ++ [46] ++ ta] 2 tj) [0, 85]] = some [tj = t, (0 : Int) = c, Glob = Glob, Spec.Holds P0 (sJoin [nm, tf ++ [(46 : UInt8)] ++ ta] (2 : Nat) tj),
    Value.string
        {
          data :=
            {
              toList :=
                [{
                    toBitVec :=
                      { toFin := ⟨(32 : Nat), Nat.mod_lt (32 : Nat) (BitVec.ofNat._proof_1 (8 : Nat))⟩ } }] } } =
      Value.string
        {
          data :=
            {
              toList :=
                [{
                    toBitVec :=
                      { toFin := ⟨(32 : Nat), Nat.mod_lt (32 : Nat) (BitVec.ofNat._proof_1 (8 : Nat))⟩ } }] } },
    nm = nm,
    tf ++ [{ toBitVec := { toFin := ⟨(46 : Nat), Nat.mod_lt (46 : Nat) (BitVec.ofNat._proof_1 (8 : Nat))⟩ } }] ++ ta =
      tf ++ [{ toBitVec := { toFin := ⟨(46 : Nat), Nat.mod_lt (46 : Nat) (BitVec.ofNat._proof_1 (8 : Nat))⟩ } }] ++ ta,
    Glob = Glob, fw = false, fv = false, fn = false,
    SV.sl (83 : Nat) (1 : Nat) (LN.l (0 : Nat)) (LN.l (1 : Nat)) =
      SV.sl (83 : Nat) (1 : Nat) (LN.l (0 : Nat)) (LN.l (1 : Nat)),
    SV.sl (83 : Nat) (1 : Nat) (LN.l (0 : Nat)) (LN.l (1 : Nat)) =
      SV.sl (83 : Nat) (1 : Nat) (LN.l (0 : Nat)) (LN.l (1 : Nat)),
    SV.sl (83 : Nat) (1 : Nat) (LN.l (0 : Nat)) (LN.l (1 : Nat)) =
      SV.sl (83 : Nat) (1 : Nat) (LN.l (0 : Nat)) (LN.l (1 : Nat)),
    SV.str
        (tf ++ [{ toBitVec := { toFin := ⟨(46 : Nat), Nat.mod_lt (46 : Nat) (BitVec.ofNat._proof_1 (8 : Nat))⟩ } }]) =
      SV.str
        (tf ++ [{ toBitVec := { toFin := ⟨(46 : Nat), Nat.mod_lt (46 : Nat) (BitVec.ofNat._proof_1 (8 : Nat))⟩ } }]),
    List.length tf + (1 : Nat) ≤ (9223372036854775807 : Nat),
    SV.ptr (1 : Nat) (LN.l (0 : Nat)) (0 : Nat) (2 : Nat) = SV.ptr (1 : Nat) (LN.l (0 : Nat)) (0 : Nat) (2 : Nat),
    SV.int IntKind.i64 a = SV.int IntKind.i64 a, (32 : Nat) ≤ (140737488355328 : Nat),
    (2 : Nat) ≤ (9223372036854775807 : Nat),
    List.length
          (tf ++ [{ toBitVec := { toFin := ⟨(46 : Nat), Nat.mod_lt (46 : Nat) (BitVec.ofNat._proof_1 (8 : Nat))⟩ } }]) +
        List.length ta ≤
      (9223372036854775807 : Nat),
    Spec.Holds P0 (sItoa a ta), a = a, Glob = Glob, List.length tf + (1 : Nat) ≤ (9223372036854775807 : Nat),
    Spec.Holds P0 (sItoa f tf), f = f, Glob = Glob, (o != (0 : Int)) = true, Spec.Holds P0 (sForm k nm o fn fv fw),
    k = k, (!b) = false, Spec.Holds P0 (sMay k f a n v w b), k = k, f = f, a = a, n = n, v = v, w = w] := by kernel_rfl


def putWs (k f a n v w : Int) : List (List UInt8) :=
  nameOf k :: ((if ofOf k = 0 then [] else [Lib.itoa f ++ [46] ++ Lib.itoa a]) ++ ((if hasN k = true then [Lib.itoa n] else []) ++ ((if hasV k = true then [Lib.decDigits v.toNat] else []) ++ (if hasW k = true then [Lib.decDigits w.toNat] else []))))
def putT (k f a n v w : Int) : List UInt8 := Lib.join (putWs k f a n v w) [32]

theorem nameOf_le [GG] (k : Int) : (nameOf k).length ≤ 7 := by
  by_cases h : k < 1 ∨ 13 ≤ k
  · rw [(form_none h).1]; simp
  · have hk : k = 1 ∨ k = 2 ∨ k = 3 ∨ k = 4 ∨ k = 5 ∨ k = 6 ∨ k = 7 ∨ k = 8 ∨ k = 9 ∨ k = 10 ∨ k = 11 ∨ k = 12 := by omega
    rcases hk with rfl | rfl | rfl | rfl | rfl | rfl | rfl | rfl | rfl | rfl | rfl | rfl <;> decide

theorem dec_le {u : Int} (h0 : 0 ≤ u) (h1 : u ≤ 18446744073709551615) : (Lib.decDigits u.toNat).length ≤ 20 := by
  rw [Lib.decDigits_length]
  exact Lib.nDigits_le20 _ (by omega)

structure Fits (f a n v w : Int) : Prop where
  f0 : -9223372036854775808 ≤ f
  f1 : f ≤ 9223372036854775807
  a0 : -9223372036854775808 ≤ a
  a1 : a ≤ 9223372036854775807
  n0 : -9223372036854775808 ≤ n
  n1 : n ≤ 9223372036854775807
  v0 : 0 ≤ v
  v1 : v ≤ 18446744073709551615
  w0 : 0 ≤ w
  w1 : w ≤ 18446744073709551615

theorem putShA [GG] (k f a n v w : Int) (hb : mayB k f a n v w = true) (hf : Fits f a n v w) (ho : ofOf k = 0) (hn : hasN k = true) (hv : hasV k = false) (hw : hasW k = false) : (sPut k f a n v w (putT k f a n v w) 0).Holds P0 := by
  have hm := mayH k f a n v w
  rw [hb] at hm
  have hF := formH k
  rw [hn, hv, hw] at hF
  have l1 := Lib.itoa_length_le f hf.f0 hf.f1
  have l2 := Lib.itoa_length_le a hf.a0 hf.a1
  have l3 := Lib.itoa_length_le n hf.n0 hf.n1
  have l4 := dec_le hf.v0 hf.v1
  have l5 := dec_le hf.w0 hf.w1
  have l0 := nameOf_le k
  have qf := itoaH f hf.f0 hf.f1
  have qa := itoaH a hf.a0 hf.a1
  have qn := itoaH n hf.n0 hf.n1
  have qv := fmtUH v hf.v0 hf.v1
  have qw := fmtUH w hf.w0 hf.w1
  have qj := joinH ([nameOf k, Lib.itoa n]) 2 rfl (by omega) (by omega) (by simp only [Lib.join_cons, Lib.joinTail, List.map_cons, List.map_nil, List.flatten_cons, List.flatten_nil, List.length_append, List.length_cons, List.length_nil]; omega)
  have ht : putT k f a n v w = Lib.join [nameOf k, Lib.itoa n] [32] := by
    simp [putT, putWs, ho, hn, hv, hw]
  rw [ht]
  refine holds_of_check pok (putA_c k f a n v w _ 0 true (nameOf k) (Lib.itoa f) (Lib.itoa a) (Lib.itoa n) (Lib.decDigits v.toNat) (Lib.decDigits w.toNat) (Lib.join [nameOf k, Lib.itoa n] [32]) (ofOf k) true false false) ?_
  simp only [allOf]
  and_intros <;> first | trivial | rfl | assumption | omega | (simp; done) | (simp only [List.length_append, List.length_cons, List.length_nil]; omega) | (simpa using ho) | (simp [Lib.join_one])

theorem putShB [GG] (k f a n v w : Int) (hb : mayB k f a n v w = true) (hf : Fits f a n v w) (ho : ofOf k = 0) (hn : hasN k = false) (hv : hasV k = false) (hw : hasW k = false) : (sPut k f a n v w (putT k f a n v w) 0).Holds P0 := by
  have hm := mayH k f a n v w
  rw [hb] at hm
  have hF := formH k
  rw [hn, hv, hw] at hF
  have l1 := Lib.itoa_length_le f hf.f0 hf.f1
  have l2 := Lib.itoa_length_le a hf.a0 hf.a1
  have l3 := Lib.itoa_length_le n hf.n0 hf.n1
  have l4 := dec_le hf.v0 hf.v1
  have l5 := dec_le hf.w0 hf.w1
  have l0 := nameOf_le k
  have qf := itoaH f hf.f0 hf.f1
  have qa := itoaH a hf.a0 hf.a1
  have qn := itoaH n hf.n0 hf.n1
  have qv := fmtUH v hf.v0 hf.v1
  have qw := fmtUH w hf.w0 hf.w1
  have ht : putT k f a n v w = Lib.join [nameOf k] [32] := by
    simp [putT, putWs, ho, hn, hv, hw]
  rw [ht]
  refine holds_of_check pok (putB_c k f a n v w _ 0 true (nameOf k) (Lib.itoa f) (Lib.itoa a) (Lib.itoa n) (Lib.decDigits v.toNat) (Lib.decDigits w.toNat) ([]) (ofOf k) false false false) ?_
  simp only [allOf]
  and_intros <;> first | trivial | rfl | assumption | omega | (simp; done) | (simp only [List.length_append, List.length_cons, List.length_nil]; omega) | (simpa using ho) | (simp [Lib.join_one])

theorem putShC1 [GG] (k f a n v w : Int) (hb : mayB k f a n v w = true) (hf : Fits f a n v w) (ho : ofOf k ≠ 0) (hn : hasN k = true) (hv : hasV k = false) (hw : hasW k = false) : (sPut k f a n v w (putT k f a n v w) 0).Holds P0 := by
  have hm := mayH k f a n v w
  rw [hb] at hm
  have hF := formH k
  rw [hn, hv, hw] at hF
  have l1 := Lib.itoa_length_le f hf.f0 hf.f1
  have l2 := Lib.itoa_length_le a hf.a0 hf.a1
  have l3 := Lib.itoa_length_le n hf.n0 hf.n1
  have l4 := dec_le hf.v0 hf.v1
  have l5 := dec_le hf.w0 hf.w1
  have l0 := nameOf_le k
  have qf := itoaH f hf.f0 hf.f1
  have qa := itoaH a hf.a0 hf.a1
  have qn := itoaH n hf.n0 hf.n1
  have qv := fmtUH v hf.v0 hf.v1
  have qw := fmtUH w hf.w0 hf.w1
  have qj := joinH ([nameOf k, Lib.itoa f ++ [46] ++ Lib.itoa a, Lib.itoa n]) 3 rfl (by omega) (by omega) (by simp only [Lib.join_cons, Lib.joinTail, List.map_cons, List.map_nil, List.flatten_cons, List.flatten_nil, List.length_append, List.length_cons, List.length_nil]; omega)
  have ht : putT k f a n v w = Lib.join [nameOf k, Lib.itoa f ++ [46] ++ Lib.itoa a, Lib.itoa n] [32] := by
    simp [putT, putWs, ho, hn, hv, hw]
  rw [ht]
  refine holds_of_check pok (putC1_c k f a n v w _ 0 true (nameOf k) (Lib.itoa f) (Lib.itoa a) (Lib.itoa n) (Lib.decDigits v.toNat) (Lib.decDigits w.toNat) (Lib.join [nameOf k, Lib.itoa f ++ [46] ++ Lib.itoa a, Lib.itoa n] [32]) (ofOf k) true false false) ?_
  simp only [allOf]
  and_intros <;> first | trivial | rfl | assumption | omega | (simp; done) | (simp only [List.length_append, List.length_cons, List.length_nil]; omega) | (simpa using ho) | (simp [Lib.join_one])

theorem putShC2 [GG] (k f a n v w : Int) (hb : mayB k f a n v w = true) (hf : Fits f a n v w) (ho : ofOf k ≠ 0) (hn : hasN k = true) (hv : hasV k = true) (hw : hasW k = false) : (sPut k f a n v w (putT k f a n v w) 0).Holds P0 := by
  have hm := mayH k f a n v w
  rw [hb] at hm
  have hF := formH k
  rw [hn, hv, hw] at hF
  have l1 := Lib.itoa_length_le f hf.f0 hf.f1
  have l2 := Lib.itoa_length_le a hf.a0 hf.a1
  have l3 := Lib.itoa_length_le n hf.n0 hf.n1
  have l4 := dec_le hf.v0 hf.v1
  have l5 := dec_le hf.w0 hf.w1
  have l0 := nameOf_le k
  have qf := itoaH f hf.f0 hf.f1
  have qa := itoaH a hf.a0 hf.a1
  have qn := itoaH n hf.n0 hf.n1
  have qv := fmtUH v hf.v0 hf.v1
  have qw := fmtUH w hf.w0 hf.w1
  have qj := joinH ([nameOf k, Lib.itoa f ++ [46] ++ Lib.itoa a, Lib.itoa n, Lib.decDigits v.toNat]) 4 rfl (by omega) (by omega) (by simp only [Lib.join_cons, Lib.joinTail, List.map_cons, List.map_nil, List.flatten_cons, List.flatten_nil, List.length_append, List.length_cons, List.length_nil]; omega)
  have ht : putT k f a n v w = Lib.join [nameOf k, Lib.itoa f ++ [46] ++ Lib.itoa a, Lib.itoa n, Lib.decDigits v.toNat] [32] := by
    simp [putT, putWs, ho, hn, hv, hw]
  rw [ht]
  refine holds_of_check pok (putC2_c k f a n v w _ 0 true (nameOf k) (Lib.itoa f) (Lib.itoa a) (Lib.itoa n) (Lib.decDigits v.toNat) (Lib.decDigits w.toNat) (Lib.join [nameOf k, Lib.itoa f ++ [46] ++ Lib.itoa a, Lib.itoa n, Lib.decDigits v.toNat] [32]) (ofOf k) true true false) ?_
  simp only [allOf]
  and_intros <;> first | trivial | rfl | assumption | omega | (simp; done) | (simp only [List.length_append, List.length_cons, List.length_nil]; omega) | (simpa using ho) | (simp [Lib.join_one])

theorem putShC3 [GG] (k f a n v w : Int) (hb : mayB k f a n v w = true) (hf : Fits f a n v w) (ho : ofOf k ≠ 0) (hn : hasN k = true) (hv : hasV k = true) (hw : hasW k = true) : (sPut k f a n v w (putT k f a n v w) 0).Holds P0 := by
  have hm := mayH k f a n v w
  rw [hb] at hm
  have hF := formH k
  rw [hn, hv, hw] at hF
  have l1 := Lib.itoa_length_le f hf.f0 hf.f1
  have l2 := Lib.itoa_length_le a hf.a0 hf.a1
  have l3 := Lib.itoa_length_le n hf.n0 hf.n1
  have l4 := dec_le hf.v0 hf.v1
  have l5 := dec_le hf.w0 hf.w1
  have l0 := nameOf_le k
  have qf := itoaH f hf.f0 hf.f1
  have qa := itoaH a hf.a0 hf.a1
  have qn := itoaH n hf.n0 hf.n1
  have qv := fmtUH v hf.v0 hf.v1
  have qw := fmtUH w hf.w0 hf.w1
  have qj := joinH ([nameOf k, Lib.itoa f ++ [46] ++ Lib.itoa a, Lib.itoa n, Lib.decDigits v.toNat, Lib.decDigits w.toNat]) 5 rfl (by omega) (by omega) (by simp only [Lib.join_cons, Lib.joinTail, List.map_cons, List.map_nil, List.flatten_cons, List.flatten_nil, List.length_append, List.length_cons, List.length_nil]; omega)
  have ht : putT k f a n v w = Lib.join [nameOf k, Lib.itoa f ++ [46] ++ Lib.itoa a, Lib.itoa n, Lib.decDigits v.toNat, Lib.decDigits w.toNat] [32] := by
    simp [putT, putWs, ho, hn, hv, hw]
  rw [ht]
  refine holds_of_check pok (putC3_c k f a n v w _ 0 true (nameOf k) (Lib.itoa f) (Lib.itoa a) (Lib.itoa n) (Lib.decDigits v.toNat) (Lib.decDigits w.toNat) (Lib.join [nameOf k, Lib.itoa f ++ [46] ++ Lib.itoa a, Lib.itoa n, Lib.decDigits v.toNat, Lib.decDigits w.toNat] [32]) (ofOf k) true true true) ?_
  simp only [allOf]
  and_intros <;> first | trivial | rfl | assumption | omega | (simp; done) | (simp only [List.length_append, List.length_cons, List.length_nil]; omega) | (simpa using ho) | (simp [Lib.join_one])

theorem putShD [GG] (k f a n v w : Int) (hb : mayB k f a n v w = true) (hf : Fits f a n v w) (ho : ofOf k ≠ 0) (hn : hasN k = false) (hv : hasV k = false) (hw : hasW k = false) : (sPut k f a n v w (putT k f a n v w) 0).Holds P0 := by
  have hm := mayH k f a n v w
  rw [hb] at hm
  have hF := formH k
  rw [hn, hv, hw] at hF
  have l1 := Lib.itoa_length_le f hf.f0 hf.f1
  have l2 := Lib.itoa_length_le a hf.a0 hf.a1
  have l3 := Lib.itoa_length_le n hf.n0 hf.n1
  have l4 := dec_le hf.v0 hf.v1
  have l5 := dec_le hf.w0 hf.w1
  have l0 := nameOf_le k
  have qf := itoaH f hf.f0 hf.f1
  have qa := itoaH a hf.a0 hf.a1
  have qn := itoaH n hf.n0 hf.n1
  have qv := fmtUH v hf.v0 hf.v1
  have qw := fmtUH w hf.w0 hf.w1
  have qj := joinH ([nameOf k, Lib.itoa f ++ [46] ++ Lib.itoa a]) 2 rfl (by omega) (by omega) (by simp only [Lib.join_cons, Lib.joinTail, List.map_cons, List.map_nil, List.flatten_cons, List.flatten_nil, List.length_append, List.length_cons, List.length_nil]; omega)
  have ht : putT k f a n v w = Lib.join [nameOf k, Lib.itoa f ++ [46] ++ Lib.itoa a] [32] := by
    simp [putT, putWs, ho, hn, hv, hw]
  rw [ht]
  refine holds_of_check pok (putD_c k f a n v w _ 0 true (nameOf k) (Lib.itoa f) (Lib.itoa a) (Lib.itoa n) (Lib.decDigits v.toNat) (Lib.decDigits w.toNat) (Lib.join [nameOf k, Lib.itoa f ++ [46] ++ Lib.itoa a] [32]) (ofOf k) false false false) ?_
  simp only [allOf]
  and_intros <;> first | trivial | rfl | assumption | omega | (simp; done) | (simp only [List.length_append, List.length_cons, List.length_nil]; omega) | (simpa using ho) | (simp [Lib.join_one])

theorem may_true {k f a n v w : Int} (h : mayB k f a n v w = true) : 1 ≤ k ∧ k ≤ 12 ∧ 0 ≤ f ∧ f ≤ limW k ∧ 0 ≤ a ∧ a ≤ limA k ∧ 0 ≤ n ∧ n ≤ limN k ∧ (hasV k = true ∨ v = 0) ∧ (hasW k = true ∨ w = 0) := by
  unfold mayB withinB at h
  simp only [Bool.and_eq_true, decide_eq_true_eq, Bool.or_eq_true, beq_iff_eq] at h
  obtain ⟨⟨h1, h2⟩, ⟨⟨⟨⟨h3, h4⟩, h5, h6⟩, h7, h8⟩, h9⟩, h10⟩ := h
  exact ⟨h1, h2, h3, h4, h5, h6, h7, h8, h9, h10⟩

def putR (k f a n v w : Int) : List UInt8 := if mayB k f a n v w = true then putT k f a n v w else []
def putC (k f a n v w : Int) : Int := if mayB k f a n v w = true then 0 else 10

theorem putH [GG] (k f a n v w : Int) (hf : Fits f a n v w) : (sPut k f a n v w (putR k f a n v w) (putC k f a n v w)).Holds P0 := by
  unfold putR putC
  by_cases hb : mayB k f a n v w = true
  · rw [if_pos hb, if_pos hb]
    obtain ⟨h1, h2, _⟩ := may_true hb
    have hk : k = 1 ∨ k = 2 ∨ k = 3 ∨ k = 4 ∨ k = 5 ∨ k = 6 ∨ k = 7 ∨ k = 8 ∨ k = 9 ∨ k = 10 ∨ k = 11 ∨ k = 12 := by omega
    rcases hk with rfl | rfl | rfl | rfl | rfl | rfl | rfl | rfl | rfl | rfl | rfl | rfl
    · exact putShA 1 f a n v w hb hf (by decide) (by decide) (by decide) (by decide)
    · exact putShC1 2 f a n v w hb hf (by decide) (by decide) (by decide) (by decide)
    · exact putShB 3 f a n v w hb hf (by decide) (by decide) (by decide) (by decide)
    · exact putShB 4 f a n v w hb hf (by decide) (by decide) (by decide) (by decide)
    · exact putShD 5 f a n v w hb hf (by decide) (by decide) (by decide) (by decide)
    · exact putShC1 6 f a n v w hb hf (by decide) (by decide) (by decide) (by decide)
    · exact putShC2 7 f a n v w hb hf (by decide) (by decide) (by decide) (by decide)
    · exact putShC2 8 f a n v w hb hf (by decide) (by decide) (by decide) (by decide)
    · exact putShC3 9 f a n v w hb hf (by decide) (by decide) (by decide) (by decide)
    · exact putShD 10 f a n v w hb hf (by decide) (by decide) (by decide) (by decide)
    · exact putShB 11 f a n v w hb hf (by decide) (by decide) (by decide) (by decide)
    · exact putShD 12 f a n v w hb hf (by decide) (by decide) (by decide) (by decide)
  · rw [if_neg hb, if_neg hb]
    have hm := mayH k f a n v w
    have hb' : mayB k f a n v w = false := by simpa using hb
    rw [hb'] at hm
    exact holds_of_check pok (putNo_c k f a n v w _ _ false) (by simp [allOf, hm])

end Go.OpP
