import Derived.Test.YtfnekhbekppgnaaDoorOD
namespace Go.OpP
open Go.Eng

/-! What an operation is of, its name; whether it may be. -/

def sOf (k r : Int) : Eng.Spec := { f := 11, k := 0, m := 20, args := [.int .i64 k], pre := [], ret := .int .i64 r, post := [] }
def sName (k : Int) (r : List UInt8) : Eng.Spec := { f := 13, k := 0, m := 20, args := [.int .i64 k], pre := [], ret := .str r, post := [] }
def sWithin (x y : Int) (b : Bool) : Eng.Spec := { f := 25, k := 0, m := 5, args := [.int .i64 x, .int .i64 y], pre := [], ret := .bool b, post := [] }
def withinB (x y : Int) : Bool := decide (0 ≤ x ∧ x ≤ y)
def opV (k f a n v w : Int) : SV := .agg [.int .i64 k, .int .i64 f, .int .i64 a, .int .i64 n, .int .u64 v, .int .u64 w]
def sMay (k f a n v w : Int) (b : Bool) : Eng.Spec := { f := 10, k := 0, m := 60, args := [opV k f a n v w], pre := [], ret := .bool b, post := [] }

theorem of_c (k r : Int) (nm : List UInt8) (o : Int) (n v w : Bool) : check P0 300 10 (sOf k r) [.call (sForm k nm o n v w) []] = some [o = r, Spec.Holds P0 (sForm k nm o n v w), k = k] := by kernel_rfl

theorem name_c (k : Int) (r : List UInt8) (nm : List UInt8) (o : Int) (n v w : Bool) : check P0 300 10 (sName k r) [.call (sForm k nm o n v w) []] = some [nm = r, Spec.Holds P0 (sForm k nm o n v w), k = k] := by kernel_rfl

theorem withinT_c (x y : Int) (b : Bool) : check P0 300 10 (sWithin x y b) [.br true] = some [decide (x ≤ y) = b, decide (x ≥ (0 : Int)) = true] := by kernel_rfl

theorem withinF_c (x y : Int) (b : Bool) : check P0 300 10 (sWithin x y b) [.br false] = some [false = b, decide (x ≥ (0 : Int)) = false] := by kernel_rfl

theorem ofH [GG] (k : Int) : (sOf k (ofOf k)).Holds P0 := holds_of_check pok (of_c k _ _ _ _ _ _) (by simp only [allOf]; and_intros <;> first | trivial | rfl | exact formH k)
theorem nameH [GG] (k : Int) : (sName k (nameOf k)).Holds P0 := holds_of_check pok (name_c k _ _ _ _ _ _) (by simp only [allOf]; and_intros <;> first | trivial | rfl | exact formH k)
theorem withinH [GG] (x y : Int) : (sWithin x y (withinB x y)).Holds P0 := by
  by_cases h : 0 ≤ x
  · refine holds_of_check pok (withinT_c x y _) ?_
    simp [allOf, withinB, h]
  · refine holds_of_check pok (withinF_c x y _) ?_
    simp [allOf, withinB, h]

theorem mayN_c (k f a n v w : Int) (b : Bool) (nm : List UInt8) (o : Int) (fn fv fw b1 b2 b3 : Bool) : check P0 300 10 (sMay k f a n v w b) [.call (sForm k nm o fn fv fw) [], .br false, .br false, .br false, .br false] = some [false = b, (!nm == []) = false, fn = false, (k == (1 : Int)) = false, (o != (0 : Int)) = false,
    Spec.Holds P0 (sForm k nm o fn fv fw), k = k] := by kernel_rfl
theorem mayA1_c (k f a n v w : Int) (b : Bool) (nm : List UInt8) (o : Int) (fn fv fw b1 b2 b3 : Bool) : check P0 300 10 (sMay k f a n v w b) [.call (sForm k nm o fn fv fw) [], .br false, .br true, .br true, .call (sWithin f 0 b1) [], .br false] = some [false = b, b1 = false, Spec.Holds P0 (sWithin f (0 : Int) b1), f = f, (0 : Int) = (0 : Int), (!nm == []) = true,
    (k == (1 : Int)) = true, (o != (0 : Int)) = false, Spec.Holds P0 (sForm k nm o fn fv fw), k = k] := by kernel_rfl
theorem mayA2_c (k f a n v w : Int) (b : Bool) (nm : List UInt8) (o : Int) (fn fv fw b1 b2 b3 : Bool) : check P0 300 10 (sMay k f a n v w b) [.call (sForm k nm o fn fv fw) [], .br false, .br true, .br true, .call (sWithin f 0 b1) [], .br true, .call (sWithin a 0 b2) [], .br false] = some [false = b, b2 = false, Spec.Holds P0 (sWithin a (0 : Int) b2), a = a, (0 : Int) = (0 : Int), b1 = true,
    Spec.Holds P0 (sWithin f (0 : Int) b1), f = f, (0 : Int) = (0 : Int), (!nm == []) = true, (k == (1 : Int)) = true,
    (o != (0 : Int)) = false, Spec.Holds P0 (sForm k nm o fn fv fw), k = k] := by kernel_rfl
theorem mayA3_c (k f a n v w : Int) (b : Bool) (nm : List UInt8) (o : Int) (fn fv fw b1 b2 b3 : Bool) : check P0 300 10 (sMay k f a n v w b) [.call (sForm k nm o fn fv fw) [], .br false, .br true, .br true, .call (sWithin f 0 b1) [], .br true, .call (sWithin a 0 b2) [], .br true, .call (sWithin n 3 b3) [], .br false] = some [false = b, b3 = false, Spec.Holds P0 (sWithin n (3 : Int) b3), n = n, (3 : Int) = (3 : Int), b2 = true,
    Spec.Holds P0 (sWithin a (0 : Int) b2), a = a, (0 : Int) = (0 : Int), b1 = true,
    Spec.Holds P0 (sWithin f (0 : Int) b1), f = f, (0 : Int) = (0 : Int), (!nm == []) = true, (k == (1 : Int)) = true,
    (o != (0 : Int)) = false, Spec.Holds P0 (sForm k nm o fn fv fw), k = k] := by kernel_rfl
theorem mayA4_c (k f a n v w : Int) (b : Bool) (nm : List UInt8) (o : Int) (fn fv fw b1 b2 b3 : Bool) : check P0 300 10 (sMay k f a n v w b) [.call (sForm k nm o fn fv fw) [], .br false, .br true, .br true, .call (sWithin f 0 b1) [], .br true, .call (sWithin a 0 b2) [], .br true, .call (sWithin n 3 b3) [], .br true, .br false, .br false] = some [false = b, (v == (0 : Int)) = false, fv = false, b3 = true, Spec.Holds P0 (sWithin n (3 : Int) b3), n = n,
    (3 : Int) = (3 : Int), b2 = true, Spec.Holds P0 (sWithin a (0 : Int) b2), a = a, (0 : Int) = (0 : Int), b1 = true,
    Spec.Holds P0 (sWithin f (0 : Int) b1), f = f, (0 : Int) = (0 : Int), (!nm == []) = true, (k == (1 : Int)) = true,
    (o != (0 : Int)) = false, Spec.Holds P0 (sForm k nm o fn fv fw), k = k] := by kernel_rfl
theorem mayA5_c (k f a n v w : Int) (b : Bool) (nm : List UInt8) (o : Int) (fn fv fw b1 b2 b3 : Bool) : check P0 300 10 (sMay k f a n v w b) [.call (sForm k nm o fn fv fw) [], .br false, .br true, .br true, .call (sWithin f 0 b1) [], .br true, .call (sWithin a 0 b2) [], .br true, .call (sWithin n 3 b3) [], .br true, .br false, .br true, .br false] = some [(w == (0 : Int)) = b, fw = false, (v == (0 : Int)) = true, fv = false, b3 = true,
    Spec.Holds P0 (sWithin n (3 : Int) b3), n = n, (3 : Int) = (3 : Int), b2 = true,
    Spec.Holds P0 (sWithin a (0 : Int) b2), a = a, (0 : Int) = (0 : Int), b1 = true,
    Spec.Holds P0 (sWithin f (0 : Int) b1), f = f, (0 : Int) = (0 : Int), (!nm == []) = true, (k == (1 : Int)) = true,
    (o != (0 : Int)) = false, Spec.Holds P0 (sForm k nm o fn fv fw), k = k] := by kernel_rfl
theorem mayB1_c (k f a n v w : Int) (b : Bool) (nm : List UInt8) (o : Int) (fn fv fw b1 b2 b3 : Bool) : check P0 300 10 (sMay k f a n v w b) [.call (sForm k nm o fn fv fw) [], .br false, .br false, .br false, .br true, .call (sWithin f 0 b1) [], .br false] = some [false = b, b1 = false, Spec.Holds P0 (sWithin f (0 : Int) b1), f = f, (0 : Int) = (0 : Int), (!nm == []) = true,
    fn = false, (k == (1 : Int)) = false, (o != (0 : Int)) = false, Spec.Holds P0 (sForm k nm o fn fv fw), k = k] := by kernel_rfl
theorem mayB2_c (k f a n v w : Int) (b : Bool) (nm : List UInt8) (o : Int) (fn fv fw b1 b2 b3 : Bool) : check P0 300 10 (sMay k f a n v w b) [.call (sForm k nm o fn fv fw) [], .br false, .br false, .br false, .br true, .call (sWithin f 0 b1) [], .br true, .call (sWithin a 0 b2) [], .br false] = some [false = b, b2 = false, Spec.Holds P0 (sWithin a (0 : Int) b2), a = a, (0 : Int) = (0 : Int), b1 = true,
    Spec.Holds P0 (sWithin f (0 : Int) b1), f = f, (0 : Int) = (0 : Int), (!nm == []) = true, fn = false,
    (k == (1 : Int)) = false, (o != (0 : Int)) = false, Spec.Holds P0 (sForm k nm o fn fv fw), k = k] := by kernel_rfl
theorem mayB3_c (k f a n v w : Int) (b : Bool) (nm : List UInt8) (o : Int) (fn fv fw b1 b2 b3 : Bool) : check P0 300 10 (sMay k f a n v w b) [.call (sForm k nm o fn fv fw) [], .br false, .br false, .br false, .br true, .call (sWithin f 0 b1) [], .br true, .call (sWithin a 0 b2) [], .br true, .call (sWithin n 0 b3) [], .br false] = some [false = b, b3 = false, Spec.Holds P0 (sWithin n (0 : Int) b3), n = n, (0 : Int) = (0 : Int), b2 = true,
    Spec.Holds P0 (sWithin a (0 : Int) b2), a = a, (0 : Int) = (0 : Int), b1 = true,
    Spec.Holds P0 (sWithin f (0 : Int) b1), f = f, (0 : Int) = (0 : Int), (!nm == []) = true, fn = false,
    (k == (1 : Int)) = false, (o != (0 : Int)) = false, Spec.Holds P0 (sForm k nm o fn fv fw), k = k] := by kernel_rfl
theorem mayB4_c (k f a n v w : Int) (b : Bool) (nm : List UInt8) (o : Int) (fn fv fw b1 b2 b3 : Bool) : check P0 300 10 (sMay k f a n v w b) [.call (sForm k nm o fn fv fw) [], .br false, .br false, .br false, .br true, .call (sWithin f 0 b1) [], .br true, .call (sWithin a 0 b2) [], .br true, .call (sWithin n 0 b3) [], .br true, .br false, .br false] = some [false = b, (v == (0 : Int)) = false, fv = false, b3 = true, Spec.Holds P0 (sWithin n (0 : Int) b3), n = n,
    (0 : Int) = (0 : Int), b2 = true, Spec.Holds P0 (sWithin a (0 : Int) b2), a = a, (0 : Int) = (0 : Int), b1 = true,
    Spec.Holds P0 (sWithin f (0 : Int) b1), f = f, (0 : Int) = (0 : Int), (!nm == []) = true, fn = false,
    (k == (1 : Int)) = false, (o != (0 : Int)) = false, Spec.Holds P0 (sForm k nm o fn fv fw), k = k] := by kernel_rfl
theorem mayB5_c (k f a n v w : Int) (b : Bool) (nm : List UInt8) (o : Int) (fn fv fw b1 b2 b3 : Bool) : check P0 300 10 (sMay k f a n v w b) [.call (sForm k nm o fn fv fw) [], .br false, .br false, .br false, .br true, .call (sWithin f 0 b1) [], .br true, .call (sWithin a 0 b2) [], .br true, .call (sWithin n 0 b3) [], .br true, .br false, .br true, .br false] = some [(w == (0 : Int)) = b, fw = false, (v == (0 : Int)) = true, fv = false, b3 = true,
    Spec.Holds P0 (sWithin n (0 : Int) b3), n = n, (0 : Int) = (0 : Int), b2 = true,
    Spec.Holds P0 (sWithin a (0 : Int) b2), a = a, (0 : Int) = (0 : Int), b1 = true,
    Spec.Holds P0 (sWithin f (0 : Int) b1), f = f, (0 : Int) = (0 : Int), (!nm == []) = true, fn = false,
    (k == (1 : Int)) = false, (o != (0 : Int)) = false, Spec.Holds P0 (sForm k nm o fn fv fw), k = k] := by kernel_rfl
theorem mayC1_c (k f a n v w : Int) (b : Bool) (nm : List UInt8) (o : Int) (fn fv fw b1 b2 b3 : Bool) : check P0 300 10 (sMay k f a n v w b) [.call (sForm k nm o fn fv fw) [], .br true, .br false, .br true, .br true, .call (sWithin f 63 b1) [], .br false] = some [false = b, b1 = false, Spec.Holds P0 (sWithin f (63 : Int) b1), f = f, (63 : Int) = (63 : Int), (!nm == []) = true,
    fn = true, (k == (1 : Int)) = false, (o != (0 : Int)) = true, Spec.Holds P0 (sForm k nm o fn fv fw), k = k] := by kernel_rfl
theorem mayC2_c (k f a n v w : Int) (b : Bool) (nm : List UInt8) (o : Int) (fn fv fw b1 b2 b3 : Bool) : check P0 300 10 (sMay k f a n v w b) [.call (sForm k nm o fn fv fw) [], .br true, .br false, .br true, .br true, .call (sWithin f 63 b1) [], .br true, .call (sWithin a 999 b2) [], .br false] = some [false = b, b2 = false, Spec.Holds P0 (sWithin a (999 : Int) b2), a = a, (999 : Int) = (999 : Int), b1 = true,
    Spec.Holds P0 (sWithin f (63 : Int) b1), f = f, (63 : Int) = (63 : Int), (!nm == []) = true, fn = true,
    (k == (1 : Int)) = false, (o != (0 : Int)) = true, Spec.Holds P0 (sForm k nm o fn fv fw), k = k] := by kernel_rfl
theorem mayC3_c (k f a n v w : Int) (b : Bool) (nm : List UInt8) (o : Int) (fn fv fw b1 b2 b3 : Bool) : check P0 300 10 (sMay k f a n v w b) [.call (sForm k nm o fn fv fw) [], .br true, .br false, .br true, .br true, .call (sWithin f 63 b1) [], .br true, .call (sWithin a 999 b2) [], .br true, .call (sWithin n 65535 b3) [], .br false] = some [false = b, b3 = false, Spec.Holds P0 (sWithin n (65535 : Int) b3), n = n, (65535 : Int) = (65535 : Int), b2 = true,
    Spec.Holds P0 (sWithin a (999 : Int) b2), a = a, (999 : Int) = (999 : Int), b1 = true,
    Spec.Holds P0 (sWithin f (63 : Int) b1), f = f, (63 : Int) = (63 : Int), (!nm == []) = true, fn = true,
    (k == (1 : Int)) = false, (o != (0 : Int)) = true, Spec.Holds P0 (sForm k nm o fn fv fw), k = k] := by kernel_rfl
theorem mayC4_c (k f a n v w : Int) (b : Bool) (nm : List UInt8) (o : Int) (fn fv fw b1 b2 b3 : Bool) : check P0 300 10 (sMay k f a n v w b) [.call (sForm k nm o fn fv fw) [], .br true, .br false, .br true, .br true, .call (sWithin f 63 b1) [], .br true, .call (sWithin a 999 b2) [], .br true, .call (sWithin n 65535 b3) [], .br true, .br false, .br false] = some [false = b, (v == (0 : Int)) = false, fv = false, b3 = true, Spec.Holds P0 (sWithin n (65535 : Int) b3), n = n,
    (65535 : Int) = (65535 : Int), b2 = true, Spec.Holds P0 (sWithin a (999 : Int) b2), a = a,
    (999 : Int) = (999 : Int), b1 = true, Spec.Holds P0 (sWithin f (63 : Int) b1), f = f, (63 : Int) = (63 : Int),
    (!nm == []) = true, fn = true, (k == (1 : Int)) = false, (o != (0 : Int)) = true,
    Spec.Holds P0 (sForm k nm o fn fv fw), k = k] := by kernel_rfl
theorem mayC5_c (k f a n v w : Int) (b : Bool) (nm : List UInt8) (o : Int) (fn fv fw b1 b2 b3 : Bool) : check P0 300 10 (sMay k f a n v w b) [.call (sForm k nm o fn fv fw) [], .br true, .br false, .br true, .br true, .call (sWithin f 63 b1) [], .br true, .call (sWithin a 999 b2) [], .br true, .call (sWithin n 65535 b3) [], .br true, .br false, .br true, .br false] = some [(w == (0 : Int)) = b, fw = false, (v == (0 : Int)) = true, fv = false, b3 = true,
    Spec.Holds P0 (sWithin n (65535 : Int) b3), n = n, (65535 : Int) = (65535 : Int), b2 = true,
    Spec.Holds P0 (sWithin a (999 : Int) b2), a = a, (999 : Int) = (999 : Int), b1 = true,
    Spec.Holds P0 (sWithin f (63 : Int) b1), f = f, (63 : Int) = (63 : Int), (!nm == []) = true, fn = true,
    (k == (1 : Int)) = false, (o != (0 : Int)) = true, Spec.Holds P0 (sForm k nm o fn fv fw), k = k] := by kernel_rfl
theorem mayC6_c (k f a n v w : Int) (b : Bool) (nm : List UInt8) (o : Int) (fn fv fw b1 b2 b3 : Bool) : check P0 300 10 (sMay k f a n v w b) [.call (sForm k nm o fn fv fw) [], .br true, .br false, .br true, .br true, .call (sWithin f 63 b1) [], .br true, .call (sWithin a 999 b2) [], .br true, .call (sWithin n 65535 b3) [], .br true, .br true, .br false] = some [(w == (0 : Int)) = b, fw = false, fv = true, b3 = true, Spec.Holds P0 (sWithin n (65535 : Int) b3), n = n,
    (65535 : Int) = (65535 : Int), b2 = true, Spec.Holds P0 (sWithin a (999 : Int) b2), a = a,
    (999 : Int) = (999 : Int), b1 = true, Spec.Holds P0 (sWithin f (63 : Int) b1), f = f, (63 : Int) = (63 : Int),
    (!nm == []) = true, fn = true, (k == (1 : Int)) = false, (o != (0 : Int)) = true,
    Spec.Holds P0 (sForm k nm o fn fv fw), k = k] := by kernel_rfl
theorem mayC7_c (k f a n v w : Int) (b : Bool) (nm : List UInt8) (o : Int) (fn fv fw b1 b2 b3 : Bool) : check P0 300 10 (sMay k f a n v w b) [.call (sForm k nm o fn fv fw) [], .br true, .br false, .br true, .br true, .call (sWithin f 63 b1) [], .br true, .call (sWithin a 999 b2) [], .br true, .call (sWithin n 65535 b3) [], .br true, .br true, .br true] = some [true = b, fw = true, fv = true, b3 = true, Spec.Holds P0 (sWithin n (65535 : Int) b3), n = n,
    (65535 : Int) = (65535 : Int), b2 = true, Spec.Holds P0 (sWithin a (999 : Int) b2), a = a,
    (999 : Int) = (999 : Int), b1 = true, Spec.Holds P0 (sWithin f (63 : Int) b1), f = f, (63 : Int) = (63 : Int),
    (!nm == []) = true, fn = true, (k == (1 : Int)) = false, (o != (0 : Int)) = true,
    Spec.Holds P0 (sForm k nm o fn fv fw), k = k] := by kernel_rfl
theorem mayD1_c (k f a n v w : Int) (b : Bool) (nm : List UInt8) (o : Int) (fn fv fw b1 b2 b3 : Bool) : check P0 300 10 (sMay k f a n v w b) [.call (sForm k nm o fn fv fw) [], .br true, .br false, .br false, .br true, .call (sWithin f 63 b1) [], .br false] = some [false = b, b1 = false, Spec.Holds P0 (sWithin f (63 : Int) b1), f = f, (63 : Int) = (63 : Int), (!nm == []) = true,
    fn = false, (k == (1 : Int)) = false, (o != (0 : Int)) = true, Spec.Holds P0 (sForm k nm o fn fv fw), k = k] := by kernel_rfl
theorem mayD2_c (k f a n v w : Int) (b : Bool) (nm : List UInt8) (o : Int) (fn fv fw b1 b2 b3 : Bool) : check P0 300 10 (sMay k f a n v w b) [.call (sForm k nm o fn fv fw) [], .br true, .br false, .br false, .br true, .call (sWithin f 63 b1) [], .br true, .call (sWithin a 999 b2) [], .br false] = some [false = b, b2 = false, Spec.Holds P0 (sWithin a (999 : Int) b2), a = a, (999 : Int) = (999 : Int), b1 = true,
    Spec.Holds P0 (sWithin f (63 : Int) b1), f = f, (63 : Int) = (63 : Int), (!nm == []) = true, fn = false,
    (k == (1 : Int)) = false, (o != (0 : Int)) = true, Spec.Holds P0 (sForm k nm o fn fv fw), k = k] := by kernel_rfl
theorem mayD3_c (k f a n v w : Int) (b : Bool) (nm : List UInt8) (o : Int) (fn fv fw b1 b2 b3 : Bool) : check P0 300 10 (sMay k f a n v w b) [.call (sForm k nm o fn fv fw) [], .br true, .br false, .br false, .br true, .call (sWithin f 63 b1) [], .br true, .call (sWithin a 999 b2) [], .br true, .call (sWithin n 0 b3) [], .br false] = some [false = b, b3 = false, Spec.Holds P0 (sWithin n (0 : Int) b3), n = n, (0 : Int) = (0 : Int), b2 = true,
    Spec.Holds P0 (sWithin a (999 : Int) b2), a = a, (999 : Int) = (999 : Int), b1 = true,
    Spec.Holds P0 (sWithin f (63 : Int) b1), f = f, (63 : Int) = (63 : Int), (!nm == []) = true, fn = false,
    (k == (1 : Int)) = false, (o != (0 : Int)) = true, Spec.Holds P0 (sForm k nm o fn fv fw), k = k] := by kernel_rfl
theorem mayD4_c (k f a n v w : Int) (b : Bool) (nm : List UInt8) (o : Int) (fn fv fw b1 b2 b3 : Bool) : check P0 300 10 (sMay k f a n v w b) [.call (sForm k nm o fn fv fw) [], .br true, .br false, .br false, .br true, .call (sWithin f 63 b1) [], .br true, .call (sWithin a 999 b2) [], .br true, .call (sWithin n 0 b3) [], .br true, .br false, .br false] = some [false = b, (v == (0 : Int)) = false, fv = false, b3 = true, Spec.Holds P0 (sWithin n (0 : Int) b3), n = n,
    (0 : Int) = (0 : Int), b2 = true, Spec.Holds P0 (sWithin a (999 : Int) b2), a = a, (999 : Int) = (999 : Int),
    b1 = true, Spec.Holds P0 (sWithin f (63 : Int) b1), f = f, (63 : Int) = (63 : Int), (!nm == []) = true, fn = false,
    (k == (1 : Int)) = false, (o != (0 : Int)) = true, Spec.Holds P0 (sForm k nm o fn fv fw), k = k] := by kernel_rfl
theorem mayD5_c (k f a n v w : Int) (b : Bool) (nm : List UInt8) (o : Int) (fn fv fw b1 b2 b3 : Bool) : check P0 300 10 (sMay k f a n v w b) [.call (sForm k nm o fn fv fw) [], .br true, .br false, .br false, .br true, .call (sWithin f 63 b1) [], .br true, .call (sWithin a 999 b2) [], .br true, .call (sWithin n 0 b3) [], .br true, .br false, .br true, .br false] = some [(w == (0 : Int)) = b, fw = false, (v == (0 : Int)) = true, fv = false, b3 = true,
    Spec.Holds P0 (sWithin n (0 : Int) b3), n = n, (0 : Int) = (0 : Int), b2 = true,
    Spec.Holds P0 (sWithin a (999 : Int) b2), a = a, (999 : Int) = (999 : Int), b1 = true,
    Spec.Holds P0 (sWithin f (63 : Int) b1), f = f, (63 : Int) = (63 : Int), (!nm == []) = true, fn = false,
    (k == (1 : Int)) = false, (o != (0 : Int)) = true, Spec.Holds P0 (sForm k nm o fn fv fw), k = k] := by kernel_rfl
theorem mayClsA [GG] (k f a n v w : Int) (nm : List UInt8) (o : Int) (fn fv fw : Bool) (hF : (sForm k nm o fn fv fw).Holds P0) (hnm : nm ≠ []) (ho : o = 0) (hk : k = 1) (hfv : fv = false) (hfw : fw = false) :
    (sMay k f a n v w (withinB f 0 && withinB a 0 && withinB n 3 && (fv || v == 0) && (fw || w == 0))).Holds P0 := by
  have q1 := withinH f 0
  have q2 := withinH a 0
  have q3 := withinH n 3
  generalize withinB f 0 = b1 at *
  generalize withinB a 0 = b2 at *
  generalize withinB n 3 = b3 at *
  subst ho; subst hk; subst hfv; subst hfw
  cases b1
  · exact holds_of_check pok (mayA1_c 1 f a n v w _ nm 0 fn false false false b2 b3) (by simp [allOf, hF, hnm, q1, q2, q3, q1])
  cases b2
  · exact holds_of_check pok (mayA2_c 1 f a n v w _ nm 0 fn false false true false b3) (by simp [allOf, hF, hnm, q1, q2, q3, q1])
  cases b3
  · exact holds_of_check pok (mayA3_c 1 f a n v w _ nm 0 fn false false true true false) (by simp [allOf, hF, hnm, q1, q2, q3, q1])
  by_cases hv : v = 0
  · exact holds_of_check pok (mayA5_c 1 f a n v w _ nm 0 fn false false true true true) (by simp [allOf, hF, hnm, q1, q2, q3, hv, q1])
  · exact holds_of_check pok (mayA4_c 1 f a n v w _ nm 0 fn false false true true true) (by simp [allOf, hF, hnm, q1, q2, q3, hv, q1])

theorem mayClsB [GG] (k f a n v w : Int) (nm : List UInt8) (o : Int) (fn fv fw : Bool) (hF : (sForm k nm o fn fv fw).Holds P0) (hnm : nm ≠ []) (ho : o = 0) (hk : k ≠ 1) (hfn : fn = false) (hfv : fv = false) (hfw : fw = false) :
    (sMay k f a n v w (withinB f 0 && withinB a 0 && withinB n 0 && (fv || v == 0) && (fw || w == 0))).Holds P0 := by
  have q1 := withinH f 0
  have q2 := withinH a 0
  have q3 := withinH n 0
  generalize withinB f 0 = b1 at *
  generalize withinB a 0 = b2 at *
  generalize withinB n 0 = b3 at *
  subst ho; subst hfn; subst hfv; subst hfw
  cases b1
  · exact holds_of_check pok (mayB1_c k f a n v w _ nm 0 false false false false b2 b3) (by simp [allOf, hF, hnm, q1, q2, q3, hk])
  cases b2
  · exact holds_of_check pok (mayB2_c k f a n v w _ nm 0 false false false true false b3) (by simp [allOf, hF, hnm, q1, q2, q3, hk])
  cases b3
  · exact holds_of_check pok (mayB3_c k f a n v w _ nm 0 false false false true true false) (by simp [allOf, hF, hnm, q1, q2, q3, hk])
  by_cases hv : v = 0
  · exact holds_of_check pok (mayB5_c k f a n v w _ nm 0 false false false true true true) (by simp [allOf, hF, hnm, q1, q2, q3, hv, hk])
  · exact holds_of_check pok (mayB4_c k f a n v w _ nm 0 false false false true true true) (by simp [allOf, hF, hnm, q1, q2, q3, hv, hk])

theorem mayClsC [GG] (k f a n v w : Int) (nm : List UInt8) (o : Int) (fn fv fw : Bool) (hF : (sForm k nm o fn fv fw).Holds P0) (hnm : nm ≠ []) (ho : o ≠ 0) (hk : k ≠ 1) (hfn : fn = true) (hvw : fw = true → fv = true) :
    (sMay k f a n v w (withinB f 63 && withinB a 999 && withinB n 65535 && (fv || v == 0) && (fw || w == 0))).Holds P0 := by
  have q1 := withinH f 63
  have q2 := withinH a 999
  have q3 := withinH n 65535
  generalize withinB f 63 = b1 at *
  generalize withinB a 999 = b2 at *
  generalize withinB n 65535 = b3 at *
  subst hfn
  cases b1
  · exact holds_of_check pok (mayC1_c k f a n v w _ nm o true fv fw false b2 b3) (by simp [allOf, hF, hnm, q1, q2, q3, ho, hk])
  cases b2
  · exact holds_of_check pok (mayC2_c k f a n v w _ nm o true fv fw true false b3) (by simp [allOf, hF, hnm, q1, q2, q3, ho, hk])
  cases b3
  · exact holds_of_check pok (mayC3_c k f a n v w _ nm o true fv fw true true false) (by simp [allOf, hF, hnm, q1, q2, q3, ho, hk])
  cases fv
  · cases fw
    · by_cases hv : v = 0
      · exact holds_of_check pok (mayC5_c k f a n v w _ nm o true false false true true true) (by simp [allOf, hF, hnm, q1, q2, q3, hv, ho, hk])
      · exact holds_of_check pok (mayC4_c k f a n v w _ nm o true false false true true true) (by simp [allOf, hF, hnm, q1, q2, q3, hv, ho, hk])
    · exact absurd (hvw rfl) (by simp)
  · cases fw
    · exact holds_of_check pok (mayC6_c k f a n v w _ nm o true true false true true true) (by simp [allOf, hF, hnm, q1, q2, q3, ho, hk])
    · exact holds_of_check pok (mayC7_c k f a n v w _ nm o true true true true true true) (by simp [allOf, hF, hnm, q1, q2, q3, ho, hk])

theorem mayClsD [GG] (k f a n v w : Int) (nm : List UInt8) (o : Int) (fn fv fw : Bool) (hF : (sForm k nm o fn fv fw).Holds P0) (hnm : nm ≠ []) (ho : o ≠ 0) (hk : k ≠ 1) (hfn : fn = false) (hfv : fv = false) (hfw : fw = false) :
    (sMay k f a n v w (withinB f 63 && withinB a 999 && withinB n 0 && (fv || v == 0) && (fw || w == 0))).Holds P0 := by
  have q1 := withinH f 63
  have q2 := withinH a 999
  have q3 := withinH n 0
  generalize withinB f 63 = b1 at *
  generalize withinB a 999 = b2 at *
  generalize withinB n 0 = b3 at *
  subst hfn; subst hfv; subst hfw
  cases b1
  · exact holds_of_check pok (mayD1_c k f a n v w _ nm o false false false false b2 b3) (by simp [allOf, hF, hnm, q1, q2, q3, ho, hk])
  cases b2
  · exact holds_of_check pok (mayD2_c k f a n v w _ nm o false false false true false b3) (by simp [allOf, hF, hnm, q1, q2, q3, ho, hk])
  cases b3
  · exact holds_of_check pok (mayD3_c k f a n v w _ nm o false false false true true false) (by simp [allOf, hF, hnm, q1, q2, q3, ho, hk])
  by_cases hv : v = 0
  · exact holds_of_check pok (mayD5_c k f a n v w _ nm o false false false true true true) (by simp [allOf, hF, hnm, q1, q2, q3, hv, ho, hk])
  · exact holds_of_check pok (mayD4_c k f a n v w _ nm o false false false true true true) (by simp [allOf, hF, hnm, q1, q2, q3, hv, ho, hk])


def limW (k : Int) : Int := if ofOf k = 0 then 0 else 63
def limA (k : Int) : Int := if ofOf k = 0 then 0 else 999
def limN (k : Int) : Int := if k = 1 then 3 else if hasN k = true then 65535 else 0
def mayB (k f a n v w : Int) : Bool := decide (1 ≤ k ∧ k ≤ 12) && (withinB f (limW k) && withinB a (limA k) && withinB n (limN k) && (hasV k || v == 0) && (hasW k || w == 0))

theorem mayH [GG] (k f a n v w : Int) : (sMay k f a n v w (mayB k f a n v w)).Holds P0 := by
  by_cases h : k < 1 ∨ 13 ≤ k
  · obtain ⟨e1, e2, e3, e4, e5⟩ := form_none h
    have hF := formH k
    rw [e1, e2, e3, e4, e5] at hF
    have hb : mayB k f a n v w = false := by unfold mayB; rw [decide_eq_false (by omega)]; rfl
    rw [hb]
    exact holds_of_check pok (mayN_c k f a n v w _ [] 0 false false false false false false) (by simp [allOf, hF]; omega)
  · have hd : mayB k f a n v w = (withinB f (limW k) && withinB a (limA k) && withinB n (limN k) && (hasV k || v == 0) && (hasW k || w == 0)) := by
      unfold mayB; rw [decide_eq_true (by omega)]; rfl
    rw [hd]
    have hF := formH k
    have hk : k = 1 ∨ k = 2 ∨ k = 3 ∨ k = 4 ∨ k = 5 ∨ k = 6 ∨ k = 7 ∨ k = 8 ∨ k = 9 ∨ k = 10 ∨ k = 11 ∨ k = 12 := by omega
    rcases hk with rfl | rfl | rfl | rfl | rfl | rfl | rfl | rfl | rfl | rfl | rfl | rfl
    · exact mayClsA 1 f a n v w _ _ _ _ _ hF (by decide) (by decide) (by decide) (by decide) (by decide)
    · exact mayClsC 2 f a n v w _ _ _ _ _ hF (by decide) (by decide) (by decide) (by decide) (by decide)
    · exact mayClsB 3 f a n v w _ _ _ _ _ hF (by decide) (by decide) (by decide) (by decide) (by decide) (by decide)
    · exact mayClsB 4 f a n v w _ _ _ _ _ hF (by decide) (by decide) (by decide) (by decide) (by decide) (by decide)
    · exact mayClsD 5 f a n v w _ _ _ _ _ hF (by decide) (by decide) (by decide) (by decide) (by decide) (by decide)
    · exact mayClsC 6 f a n v w _ _ _ _ _ hF (by decide) (by decide) (by decide) (by decide) (by decide)
    · exact mayClsC 7 f a n v w _ _ _ _ _ hF (by decide) (by decide) (by decide) (by decide) (by decide)
    · exact mayClsC 8 f a n v w _ _ _ _ _ hF (by decide) (by decide) (by decide) (by decide) (by decide)
    · exact mayClsC 9 f a n v w _ _ _ _ _ hF (by decide) (by decide) (by decide) (by decide) (by decide)
    · exact mayClsD 10 f a n v w _ _ _ _ _ hF (by decide) (by decide) (by decide) (by decide) (by decide) (by decide)
    · exact mayClsB 11 f a n v w _ _ _ _ _ hF (by decide) (by decide) (by decide) (by decide) (by decide) (by decide)
    · exact mayClsD 12 f a n v w _ _ _ _ _ hF (by decide) (by decide) (by decide) (by decide) (by decide) (by decide)

end Go.OpP
