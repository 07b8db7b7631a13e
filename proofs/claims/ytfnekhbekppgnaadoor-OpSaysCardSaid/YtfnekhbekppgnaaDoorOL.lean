import Derived.Test.YtfnekhbekppgnaaDoorOK
namespace Go.OpP
open Go.Eng

/-! The document's: what an operation has; an operation that may be, out of any. -/

def sHasN (k : Int) (b : Bool) : Eng.Spec := { f := 21, k := 0, m := 3, args := [.int .i64 k], pre := [], ret := .bool b, post := [] }
def sHasV (k : Int) (b : Bool) : Eng.Spec := { f := 23, k := 0, m := 3, args := [.int .i64 k], pre := [], ret := .bool b, post := [] }
def sRefOf (k r : Int) : Eng.Spec := { f := 12, k := 0, m := 3, args := [.int .i64 k], pre := [], ret := .int .i64 r, post := [] }

theorem hasN0_c (k : Int) (b : Bool) : check P0 300 10 (sHasN k b) [.br true] = some [true = b, (k == (1 : Int)) = true] := by kernel_rfl

theorem hasN1_c (k : Int) (b : Bool) : check P0 300 10 (sHasN k b) [.br false, .br true] = some [true = b, (k == (2 : Int)) = true, (k == (1 : Int)) = false] := by kernel_rfl

theorem hasN2_c (k : Int) (b : Bool) : check P0 300 10 (sHasN k b) [.br false, .br false, .br true] = some [decide (k ≤ (9 : Int)) = b, decide (k ≥ (6 : Int)) = true, (k == (2 : Int)) = false, (k == (1 : Int)) = false] := by kernel_rfl

theorem hasN3_c (k : Int) (b : Bool) : check P0 300 10 (sHasN k b) [.br false, .br false, .br false] = some [false = b, decide (k ≥ (6 : Int)) = false, (k == (2 : Int)) = false, (k == (1 : Int)) = false] := by kernel_rfl

theorem hasV0_c (k : Int) (b : Bool) : check P0 300 10 (sHasV k b) [.br true] = some [decide (k ≤ (9 : Int)) = b, decide (k ≥ (7 : Int)) = true] := by kernel_rfl

theorem hasV1_c (k : Int) (b : Bool) : check P0 300 10 (sHasV k b) [.br false] = some [false = b, decide (k ≥ (7 : Int)) = false] := by kernel_rfl

theorem refOf2_c (k r : Int) : check P0 300 10 (sRefOf k r) [.br true, .br true] = some [(1 : Int) = r, (k == (2 : Int)) = true, (k == (2 : Int)) = true] := by kernel_rfl

theorem refOf10_c (k r : Int) : check P0 300 10 (sRefOf k r) [.br false, .br true, .br true] = some [(1 : Int) = r, (k == (10 : Int)) = true, (k == (10 : Int)) = true, (k == (2 : Int)) = false] := by kernel_rfl

theorem refOf12_c (k r : Int) : check P0 300 10 (sRefOf k r) [.br false, .br false, .br true] = some [(1 : Int) = r, (k == (12 : Int)) = true, (k == (10 : Int)) = false, (k == (2 : Int)) = false] := by kernel_rfl

theorem refOf6_c (k r : Int) : check P0 300 10 (sRefOf k r) [.br false, .br false, .br false, .br true, .br true] = some [(2 : Int) = r, (k == (6 : Int)) = true, (k == (6 : Int)) = true, (k == (12 : Int)) = false,
    (k == (10 : Int)) = false, (k == (2 : Int)) = false] := by kernel_rfl

theorem refOf7_c (k r : Int) : check P0 300 10 (sRefOf k r) [.br false, .br false, .br false, .br false, .br true, .br true] = some [(2 : Int) = r, (k == (7 : Int)) = true, (k == (7 : Int)) = true, (k == (6 : Int)) = false, (k == (12 : Int)) = false,
    (k == (10 : Int)) = false, (k == (2 : Int)) = false] := by kernel_rfl

theorem refOf8_c (k r : Int) : check P0 300 10 (sRefOf k r) [.br false, .br false, .br false, .br false, .br false, .br true, .br true] = some [(2 : Int) = r, (k == (8 : Int)) = true, (k == (8 : Int)) = true, (k == (7 : Int)) = false, (k == (6 : Int)) = false,
    (k == (12 : Int)) = false, (k == (10 : Int)) = false, (k == (2 : Int)) = false] := by kernel_rfl

theorem refOf9_c (k r : Int) : check P0 300 10 (sRefOf k r) [.br false, .br false, .br false, .br false, .br false, .br false, .br true] = some [(2 : Int) = r, (k == (9 : Int)) = true, (k == (8 : Int)) = false, (k == (7 : Int)) = false, (k == (6 : Int)) = false,
    (k == (12 : Int)) = false, (k == (10 : Int)) = false, (k == (2 : Int)) = false] := by kernel_rfl

theorem refOf5_c (k r : Int) : check P0 300 10 (sRefOf k r) [.br false, .br false, .br false, .br false, .br false, .br false, .br false, .br true] = some [(3 : Int) = r, (k == (5 : Int)) = true, (k == (9 : Int)) = false, (k == (8 : Int)) = false, (k == (7 : Int)) = false,
    (k == (6 : Int)) = false, (k == (12 : Int)) = false, (k == (10 : Int)) = false, (k == (2 : Int)) = false] := by kernel_rfl

theorem refOf0_c (k r : Int) : check P0 300 10 (sRefOf k r) [.br false, .br false, .br false, .br false, .br false, .br false, .br false, .br false] = some [(0 : Int) = r, (k == (5 : Int)) = false, (k == (9 : Int)) = false, (k == (8 : Int)) = false,
    (k == (7 : Int)) = false, (k == (6 : Int)) = false, (k == (12 : Int)) = false, (k == (10 : Int)) = false,
    (k == (2 : Int)) = false] := by kernel_rfl

theorem hasNH [GG] (k : Int) : (sHasN k (hasN k)).Holds P0 := by
  unfold hasN
  by_cases h1 : k = 1
  · exact holds_of_check pok (hasN0_c k _) (by simp [allOf, h1])
  by_cases h2 : k = 2
  · exact holds_of_check pok (hasN1_c k _) (by simp [allOf, h2])
  by_cases h3 : 6 ≤ k
  · exact holds_of_check pok (hasN2_c k _) (by simp [allOf, h1, h2, h3])
  · exact holds_of_check pok (hasN3_c k _) (by simp [allOf, h1, h2, h3])

theorem hasVH [GG] (k : Int) : (sHasV k (hasV k)).Holds P0 := by
  unfold hasV
  by_cases h1 : 7 ≤ k
  · exact holds_of_check pok (hasV0_c k _) (by simp [allOf, h1])
  · exact holds_of_check pok (hasV1_c k _) (by simp [allOf, h1])

theorem refOfH [GG] (k : Int) : (sRefOf k (ofOf k)).Holds P0 := by
  by_cases h2 : k = 2
  · subst h2; exact holds_of_check pok (refOf2_c _ _) (by simp [allOf, ofOf])
  by_cases h10 : k = 10
  · subst h10; exact holds_of_check pok (refOf10_c _ _) (by simp [allOf, ofOf])
  by_cases h12 : k = 12
  · subst h12; exact holds_of_check pok (refOf12_c _ _) (by simp [allOf, ofOf])
  by_cases h6 : k = 6
  · subst h6; exact holds_of_check pok (refOf6_c _ _) (by simp [allOf, ofOf])
  by_cases h7 : k = 7
  · subst h7; exact holds_of_check pok (refOf7_c _ _) (by simp [allOf, ofOf])
  by_cases h8 : k = 8
  · subst h8; exact holds_of_check pok (refOf8_c _ _) (by simp [allOf, ofOf])
  by_cases h9 : k = 9
  · subst h9; exact holds_of_check pok (refOf9_c _ _) (by simp [allOf, ofOf])
  by_cases h5 : k = 5
  · subst h5; exact holds_of_check pok (refOf5_c _ _) (by simp [allOf, ofOf])
  · have e : ofOf k = 0 := by
      unfold ofOf
      rw [if_neg (by omega), if_neg (by omega), if_neg (by omega)]
    exact holds_of_check pok (refOf0_c k _) (by simp [allOf, e, h2, h10, h12, h6, h7, h8, h9, h5])

def sCutOp (k f a n v w k' f' a' n' v' w' : Int) : Eng.Spec := { f := 19, k := 0, m := 40, args := [opV k f a n v w], pre := [], ret := opV k' f' a' n' v' w', post := [] }

theorem cut1FFT_c (k f a n v w k' f' a' n' v' w' r rn rf ra : Int) (bn bv : Bool) (o : Int) : check P0 300 10 (sCutOp k f a n v w k' f' a' n' v' w') [.call (sNumber k 12 r) [], .br true, .call (sNumber n 4 rn) [], .call (sHasV (1 + r) bv) [], .br true, .br true, .call (sRefOf (1 + r) o) [], .br false, .call (sNumber f 64 rf) [], .call (sNumber a 1000 ra) []] = some [(1 : Int) + r = k', rf = f', ra = a', rn = n', (0 : Int) = v', (0 : Int) = w',
    SV.ptr (0 : Nat) (LN.l (0 : Nat)) (0 : Nat) (2 : Nat) = SV.ptr (0 : Nat) (LN.l (0 : Nat)) (0 : Nat) (2 : Nat),
    SV.int IntKind.i64 a = SV.int IntKind.i64 a,
    SV.ptr (0 : Nat) (LN.l (0 : Nat)) (0 : Nat) (1 : Nat) = SV.ptr (0 : Nat) (LN.l (0 : Nat)) (0 : Nat) (1 : Nat),
    Spec.Holds P0 (sNumber a (1000 : Int) ra), a = a, (1000 : Int) = (1000 : Int),
    Spec.Holds P0 (sNumber f (64 : Int) rf), f = f, (64 : Int) = (64 : Int), (o == (0 : Int)) = false,
    Spec.Holds P0 (sRefOf ((1 : Int) + r) o), (1 : Int) + r = (1 : Int) + r, ((1 : Int) + r != (9 : Int)) = true,
    (!bv) = true, Spec.Holds P0 (sHasV ((1 : Int) + r) bv), (1 : Int) + r = (1 : Int) + r,
    Spec.Holds P0 (sNumber n (4 : Int) rn), n = n, (4 : Int) = (4 : Int), ((1 : Int) + r == (1 : Int)) = true,
    In64 ((1 : Int) + r), Spec.Holds P0 (sNumber k (12 : Int) r), k = k, (12 : Int) = (12 : Int)] := by kernel_rfl

theorem cut1FFF_c (k f a n v w k' f' a' n' v' w' r rn rf ra : Int) (bn bv : Bool) (o : Int) : check P0 300 10 (sCutOp k f a n v w k' f' a' n' v' w') [.call (sNumber k 12 r) [], .br true, .call (sNumber n 4 rn) [], .call (sHasV (1 + r) bv) [], .br true, .br true, .call (sRefOf (1 + r) o) [], .br true] = some [(1 : Int) + r = k', (0 : Int) = f', (0 : Int) = a', rn = n', (0 : Int) = v', (0 : Int) = w', (o == (0 : Int)) = true,
    Spec.Holds P0 (sRefOf ((1 : Int) + r) o), (1 : Int) + r = (1 : Int) + r, ((1 : Int) + r != (9 : Int)) = true,
    (!bv) = true, Spec.Holds P0 (sHasV ((1 : Int) + r) bv), (1 : Int) + r = (1 : Int) + r,
    Spec.Holds P0 (sNumber n (4 : Int) rn), n = n, (4 : Int) = (4 : Int), ((1 : Int) + r == (1 : Int)) = true,
    In64 ((1 : Int) + r), Spec.Holds P0 (sNumber k (12 : Int) r), k = k, (12 : Int) = (12 : Int)] := by kernel_rfl

theorem cutNTTT_c (k f a n v w k' f' a' n' v' w' r rn rf ra : Int) (bn bv : Bool) (o : Int) : check P0 300 10 (sCutOp k f a n v w k' f' a' n' v' w') [.call (sNumber k 12 r) [], .br false, .call (sHasN (1 + r) bn) [], .br true, .call (sNumber n 65536 rn) [], .call (sHasV (1 + r) bv) [], .br false, .br false, .call (sRefOf (1 + r) o) [], .br false, .call (sNumber f 64 rf) [], .call (sNumber a 1000 ra) []] = some [(1 : Int) + r = k', rf = f', ra = a', rn = n', v = v', w = w',
    SV.ptr (0 : Nat) (LN.l (0 : Nat)) (0 : Nat) (2 : Nat) = SV.ptr (0 : Nat) (LN.l (0 : Nat)) (0 : Nat) (2 : Nat),
    SV.int IntKind.i64 a = SV.int IntKind.i64 a,
    SV.ptr (0 : Nat) (LN.l (0 : Nat)) (0 : Nat) (1 : Nat) = SV.ptr (0 : Nat) (LN.l (0 : Nat)) (0 : Nat) (1 : Nat),
    Spec.Holds P0 (sNumber a (1000 : Int) ra), a = a, (1000 : Int) = (1000 : Int),
    Spec.Holds P0 (sNumber f (64 : Int) rf), f = f, (64 : Int) = (64 : Int), (o == (0 : Int)) = false,
    Spec.Holds P0 (sRefOf ((1 : Int) + r) o), (1 : Int) + r = (1 : Int) + r, ((1 : Int) + r != (9 : Int)) = false,
    (!bv) = false, Spec.Holds P0 (sHasV ((1 : Int) + r) bv), (1 : Int) + r = (1 : Int) + r,
    Spec.Holds P0 (sNumber n (65536 : Int) rn), n = n, (65536 : Int) = (65536 : Int), bn = true,
    Spec.Holds P0 (sHasN ((1 : Int) + r) bn), (1 : Int) + r = (1 : Int) + r, ((1 : Int) + r == (1 : Int)) = false,
    In64 ((1 : Int) + r), Spec.Holds P0 (sNumber k (12 : Int) r), k = k, (12 : Int) = (12 : Int)] := by kernel_rfl

theorem cutNTTF_c (k f a n v w k' f' a' n' v' w' r rn rf ra : Int) (bn bv : Bool) (o : Int) : check P0 300 10 (sCutOp k f a n v w k' f' a' n' v' w') [.call (sNumber k 12 r) [], .br false, .call (sHasN (1 + r) bn) [], .br true, .call (sNumber n 65536 rn) [], .call (sHasV (1 + r) bv) [], .br false, .br false, .call (sRefOf (1 + r) o) [], .br true] = some [(1 : Int) + r = k', (0 : Int) = f', (0 : Int) = a', rn = n', v = v', w = w', (o == (0 : Int)) = true,
    Spec.Holds P0 (sRefOf ((1 : Int) + r) o), (1 : Int) + r = (1 : Int) + r, ((1 : Int) + r != (9 : Int)) = false,
    (!bv) = false, Spec.Holds P0 (sHasV ((1 : Int) + r) bv), (1 : Int) + r = (1 : Int) + r,
    Spec.Holds P0 (sNumber n (65536 : Int) rn), n = n, (65536 : Int) = (65536 : Int), bn = true,
    Spec.Holds P0 (sHasN ((1 : Int) + r) bn), (1 : Int) + r = (1 : Int) + r, ((1 : Int) + r == (1 : Int)) = false,
    In64 ((1 : Int) + r), Spec.Holds P0 (sNumber k (12 : Int) r), k = k, (12 : Int) = (12 : Int)] := by kernel_rfl

theorem cutNTFT_c (k f a n v w k' f' a' n' v' w' r rn rf ra : Int) (bn bv : Bool) (o : Int) : check P0 300 10 (sCutOp k f a n v w k' f' a' n' v' w') [.call (sNumber k 12 r) [], .br false, .call (sHasN (1 + r) bn) [], .br true, .call (sNumber n 65536 rn) [], .call (sHasV (1 + r) bv) [], .br false, .br true, .call (sRefOf (1 + r) o) [], .br false, .call (sNumber f 64 rf) [], .call (sNumber a 1000 ra) []] = some [(1 : Int) + r = k', rf = f', ra = a', rn = n', v = v', (0 : Int) = w',
    SV.ptr (0 : Nat) (LN.l (0 : Nat)) (0 : Nat) (2 : Nat) = SV.ptr (0 : Nat) (LN.l (0 : Nat)) (0 : Nat) (2 : Nat),
    SV.int IntKind.i64 a = SV.int IntKind.i64 a,
    SV.ptr (0 : Nat) (LN.l (0 : Nat)) (0 : Nat) (1 : Nat) = SV.ptr (0 : Nat) (LN.l (0 : Nat)) (0 : Nat) (1 : Nat),
    Spec.Holds P0 (sNumber a (1000 : Int) ra), a = a, (1000 : Int) = (1000 : Int),
    Spec.Holds P0 (sNumber f (64 : Int) rf), f = f, (64 : Int) = (64 : Int), (o == (0 : Int)) = false,
    Spec.Holds P0 (sRefOf ((1 : Int) + r) o), (1 : Int) + r = (1 : Int) + r, ((1 : Int) + r != (9 : Int)) = true,
    (!bv) = false, Spec.Holds P0 (sHasV ((1 : Int) + r) bv), (1 : Int) + r = (1 : Int) + r,
    Spec.Holds P0 (sNumber n (65536 : Int) rn), n = n, (65536 : Int) = (65536 : Int), bn = true,
    Spec.Holds P0 (sHasN ((1 : Int) + r) bn), (1 : Int) + r = (1 : Int) + r, ((1 : Int) + r == (1 : Int)) = false,
    In64 ((1 : Int) + r), Spec.Holds P0 (sNumber k (12 : Int) r), k = k, (12 : Int) = (12 : Int)] := by kernel_rfl

theorem cutNTFF_c (k f a n v w k' f' a' n' v' w' r rn rf ra : Int) (bn bv : Bool) (o : Int) : check P0 300 10 (sCutOp k f a n v w k' f' a' n' v' w') [.call (sNumber k 12 r) [], .br false, .call (sHasN (1 + r) bn) [], .br true, .call (sNumber n 65536 rn) [], .call (sHasV (1 + r) bv) [], .br false, .br true, .call (sRefOf (1 + r) o) [], .br true] = some [(1 : Int) + r = k', (0 : Int) = f', (0 : Int) = a', rn = n', v = v', (0 : Int) = w', (o == (0 : Int)) = true,
    Spec.Holds P0 (sRefOf ((1 : Int) + r) o), (1 : Int) + r = (1 : Int) + r, ((1 : Int) + r != (9 : Int)) = true,
    (!bv) = false, Spec.Holds P0 (sHasV ((1 : Int) + r) bv), (1 : Int) + r = (1 : Int) + r,
    Spec.Holds P0 (sNumber n (65536 : Int) rn), n = n, (65536 : Int) = (65536 : Int), bn = true,
    Spec.Holds P0 (sHasN ((1 : Int) + r) bn), (1 : Int) + r = (1 : Int) + r, ((1 : Int) + r == (1 : Int)) = false,
    In64 ((1 : Int) + r), Spec.Holds P0 (sNumber k (12 : Int) r), k = k, (12 : Int) = (12 : Int)] := by kernel_rfl

theorem cutNFFT_c (k f a n v w k' f' a' n' v' w' r rn rf ra : Int) (bn bv : Bool) (o : Int) : check P0 300 10 (sCutOp k f a n v w k' f' a' n' v' w') [.call (sNumber k 12 r) [], .br false, .call (sHasN (1 + r) bn) [], .br true, .call (sNumber n 65536 rn) [], .call (sHasV (1 + r) bv) [], .br true, .br true, .call (sRefOf (1 + r) o) [], .br false, .call (sNumber f 64 rf) [], .call (sNumber a 1000 ra) []] = some [(1 : Int) + r = k', rf = f', ra = a', rn = n', (0 : Int) = v', (0 : Int) = w',
    SV.ptr (0 : Nat) (LN.l (0 : Nat)) (0 : Nat) (2 : Nat) = SV.ptr (0 : Nat) (LN.l (0 : Nat)) (0 : Nat) (2 : Nat),
    SV.int IntKind.i64 a = SV.int IntKind.i64 a,
    SV.ptr (0 : Nat) (LN.l (0 : Nat)) (0 : Nat) (1 : Nat) = SV.ptr (0 : Nat) (LN.l (0 : Nat)) (0 : Nat) (1 : Nat),
    Spec.Holds P0 (sNumber a (1000 : Int) ra), a = a, (1000 : Int) = (1000 : Int),
    Spec.Holds P0 (sNumber f (64 : Int) rf), f = f, (64 : Int) = (64 : Int), (o == (0 : Int)) = false,
    Spec.Holds P0 (sRefOf ((1 : Int) + r) o), (1 : Int) + r = (1 : Int) + r, ((1 : Int) + r != (9 : Int)) = true,
    (!bv) = true, Spec.Holds P0 (sHasV ((1 : Int) + r) bv), (1 : Int) + r = (1 : Int) + r,
    Spec.Holds P0 (sNumber n (65536 : Int) rn), n = n, (65536 : Int) = (65536 : Int), bn = true,
    Spec.Holds P0 (sHasN ((1 : Int) + r) bn), (1 : Int) + r = (1 : Int) + r, ((1 : Int) + r == (1 : Int)) = false,
    In64 ((1 : Int) + r), Spec.Holds P0 (sNumber k (12 : Int) r), k = k, (12 : Int) = (12 : Int)] := by kernel_rfl

theorem cutNFFF_c (k f a n v w k' f' a' n' v' w' r rn rf ra : Int) (bn bv : Bool) (o : Int) : check P0 300 10 (sCutOp k f a n v w k' f' a' n' v' w') [.call (sNumber k 12 r) [], .br false, .call (sHasN (1 + r) bn) [], .br true, .call (sNumber n 65536 rn) [], .call (sHasV (1 + r) bv) [], .br true, .br true, .call (sRefOf (1 + r) o) [], .br true] = some [(1 : Int) + r = k', (0 : Int) = f', (0 : Int) = a', rn = n', (0 : Int) = v', (0 : Int) = w', (o == (0 : Int)) = true,
    Spec.Holds P0 (sRefOf ((1 : Int) + r) o), (1 : Int) + r = (1 : Int) + r, ((1 : Int) + r != (9 : Int)) = true,
    (!bv) = true, Spec.Holds P0 (sHasV ((1 : Int) + r) bv), (1 : Int) + r = (1 : Int) + r,
    Spec.Holds P0 (sNumber n (65536 : Int) rn), n = n, (65536 : Int) = (65536 : Int), bn = true,
    Spec.Holds P0 (sHasN ((1 : Int) + r) bn), (1 : Int) + r = (1 : Int) + r, ((1 : Int) + r == (1 : Int)) = false,
    In64 ((1 : Int) + r), Spec.Holds P0 (sNumber k (12 : Int) r), k = k, (12 : Int) = (12 : Int)] := by kernel_rfl

theorem cut0FFT_c (k f a n v w k' f' a' n' v' w' r rn rf ra : Int) (bn bv : Bool) (o : Int) : check P0 300 10 (sCutOp k f a n v w k' f' a' n' v' w') [.call (sNumber k 12 r) [], .br false, .call (sHasN (1 + r) bn) [], .br false, .call (sNumber n 1 rn) [], .call (sHasV (1 + r) bv) [], .br true, .br true, .call (sRefOf (1 + r) o) [], .br false, .call (sNumber f 64 rf) [], .call (sNumber a 1000 ra) []] = some [(1 : Int) + r = k', rf = f', ra = a', rn = n', (0 : Int) = v', (0 : Int) = w',
    SV.ptr (0 : Nat) (LN.l (0 : Nat)) (0 : Nat) (2 : Nat) = SV.ptr (0 : Nat) (LN.l (0 : Nat)) (0 : Nat) (2 : Nat),
    SV.int IntKind.i64 a = SV.int IntKind.i64 a,
    SV.ptr (0 : Nat) (LN.l (0 : Nat)) (0 : Nat) (1 : Nat) = SV.ptr (0 : Nat) (LN.l (0 : Nat)) (0 : Nat) (1 : Nat),
    Spec.Holds P0 (sNumber a (1000 : Int) ra), a = a, (1000 : Int) = (1000 : Int),
    Spec.Holds P0 (sNumber f (64 : Int) rf), f = f, (64 : Int) = (64 : Int), (o == (0 : Int)) = false,
    Spec.Holds P0 (sRefOf ((1 : Int) + r) o), (1 : Int) + r = (1 : Int) + r, ((1 : Int) + r != (9 : Int)) = true,
    (!bv) = true, Spec.Holds P0 (sHasV ((1 : Int) + r) bv), (1 : Int) + r = (1 : Int) + r,
    Spec.Holds P0 (sNumber n (1 : Int) rn), n = n, (1 : Int) = (1 : Int), bn = false,
    Spec.Holds P0 (sHasN ((1 : Int) + r) bn), (1 : Int) + r = (1 : Int) + r, ((1 : Int) + r == (1 : Int)) = false,
    In64 ((1 : Int) + r), Spec.Holds P0 (sNumber k (12 : Int) r), k = k, (12 : Int) = (12 : Int)] := by kernel_rfl

theorem cut0FFF_c (k f a n v w k' f' a' n' v' w' r rn rf ra : Int) (bn bv : Bool) (o : Int) : check P0 300 10 (sCutOp k f a n v w k' f' a' n' v' w') [.call (sNumber k 12 r) [], .br false, .call (sHasN (1 + r) bn) [], .br false, .call (sNumber n 1 rn) [], .call (sHasV (1 + r) bv) [], .br true, .br true, .call (sRefOf (1 + r) o) [], .br true] = some [(1 : Int) + r = k', (0 : Int) = f', (0 : Int) = a', rn = n', (0 : Int) = v', (0 : Int) = w', (o == (0 : Int)) = true,
    Spec.Holds P0 (sRefOf ((1 : Int) + r) o), (1 : Int) + r = (1 : Int) + r, ((1 : Int) + r != (9 : Int)) = true,
    (!bv) = true, Spec.Holds P0 (sHasV ((1 : Int) + r) bv), (1 : Int) + r = (1 : Int) + r,
    Spec.Holds P0 (sNumber n (1 : Int) rn), n = n, (1 : Int) = (1 : Int), bn = false,
    Spec.Holds P0 (sHasN ((1 : Int) + r) bn), (1 : Int) + r = (1 : Int) + r, ((1 : Int) + r == (1 : Int)) = false,
    In64 ((1 : Int) + r), Spec.Holds P0 (sNumber k (12 : Int) r), k = k, (12 : Int) = (12 : Int)] := by kernel_rfl

def Op6.sv (o : Op6) : SV := opV o.k o.f o.a o.n o.v o.w
def cutK (o : Op6) : Int := 1 + numB o.k 12
def cutM (k : Int) : Int := if k = 1 then 4 else if hasN k = true then 65536 else 1
def cutF (o : Op6) : Op6 :=
  ⟨cutK o, if ofOf (cutK o) = 0 then 0 else numB o.f 64, if ofOf (cutK o) = 0 then 0 else numB o.a 1000, numB o.n (cutM (cutK o)), if hasV (cutK o) = true then o.v else 0, if cutK o = 9 then o.w else 0⟩

theorem cutH_ [GG] (o : Op6) : (sCutOp o.k o.f o.a o.n o.v o.w (cutF o).k (cutF o).f (cutF o).a (cutF o).n (cutF o).v (cutF o).w).Holds P0 := by
  obtain ⟨k, f, a, n, v, w⟩ := o
  have hr := numB_range k 12 (by omega)
  have q1 := numberH k 12 (by omega) (by omega)
  have q2 := hasNH (1 + numB k 12)
  have q3 := hasVH (1 + numB k 12)
  have q4 := refOfH (1 + numB k 12)
  have q5 := numberH f 64 (by omega) (by omega)
  have q6 := numberH a 1000 (by omega) (by omega)
  have q7 := numberH n 4 (by omega) (by omega)
  have q8 := numberH n 65536 (by omega) (by omega)
  have q9 := numberH n 1 (by omega) (by omega)
  have hin : In64 (1 + numB k 12) := by unfold In64; omega
  have e1 : 1 + numB k 12 = 1 → hasV (1 + numB k 12) = false := fun h => by rw [h]; rfl
  have e2 : 1 + numB k 12 = 9 → hasV (1 + numB k 12) = true := fun h => by rw [h]; rfl
  have e3 : hasV (1 + numB k 12) = true → hasN (1 + numB k 12) = true := fun h => by
    unfold hasV at h; unfold hasN
    simp only [decide_eq_true_eq] at h ⊢
    omega
  have e4 : hasN (1 + numB k 12) = hasN (1 + numB k 12) := rfl
  by_cases h1 : 1 + numB k 12 = 1
  · have hV' := e1 h1
    have hV : ¬ hasV (1 + numB k 12) = true := by rw [hV']; simp
    have h9 : ¬ (1 + numB k 12 = 9) := by omega
    by_cases hO : ofOf (1 + numB k 12) = 0
    · have hc : cutF ⟨k, f, a, n, v, w⟩ = ⟨1 + numB k 12, 0, 0, numB n 4, 0, 0⟩ := by
        show (⟨1 + numB k 12, if ofOf (1 + numB k 12) = 0 then 0 else numB f 64, if ofOf (1 + numB k 12) = 0 then 0 else numB a 1000, numB n (if 1 + numB k 12 = 1 then 4 else if hasN (1 + numB k 12) = true then 65536 else 1), if hasV (1 + numB k 12) = true then v else 0, if 1 + numB k 12 = 9 then w else 0⟩ : Op6) = _
        rw [if_pos hO, if_pos hO, if_pos h1, if_neg hV, if_neg h9]
      rw [hc]
      refine holds_of_check pok (cut1FFF_c k f a n v w _ _ _ _ _ _ (numB k 12) (numB n 4) (numB f 64) (numB a 1000) (hasN (1 + numB k 12)) (hasV (1 + numB k 12)) (ofOf (1 + numB k 12))) ?_
      simp only [allOf, beq_iff_eq, beq_eq_false_iff_ne, bne_iff_ne, bne_eq_false_iff_eq, ne_eq, Bool.not_eq_true', Bool.not_eq_false', Bool.not_eq_false]
      and_intros <;> first | trivial | rfl | assumption | omega
    · have hc : cutF ⟨k, f, a, n, v, w⟩ = ⟨1 + numB k 12, numB f 64, numB a 1000, numB n 4, 0, 0⟩ := by
        show (⟨1 + numB k 12, if ofOf (1 + numB k 12) = 0 then 0 else numB f 64, if ofOf (1 + numB k 12) = 0 then 0 else numB a 1000, numB n (if 1 + numB k 12 = 1 then 4 else if hasN (1 + numB k 12) = true then 65536 else 1), if hasV (1 + numB k 12) = true then v else 0, if 1 + numB k 12 = 9 then w else 0⟩ : Op6) = _
        rw [if_neg hO, if_neg hO, if_pos h1, if_neg hV, if_neg h9]
      rw [hc]
      refine holds_of_check pok (cut1FFT_c k f a n v w _ _ _ _ _ _ (numB k 12) (numB n 4) (numB f 64) (numB a 1000) (hasN (1 + numB k 12)) (hasV (1 + numB k 12)) (ofOf (1 + numB k 12))) ?_
      simp only [allOf, beq_iff_eq, beq_eq_false_iff_ne, bne_iff_ne, bne_eq_false_iff_eq, ne_eq, Bool.not_eq_true', Bool.not_eq_false', Bool.not_eq_false]
      and_intros <;> first | trivial | rfl | assumption | omega
  · by_cases hN : hasN (1 + numB k 12) = true
    · by_cases hV : hasV (1 + numB k 12) = true
      · by_cases h9 : 1 + numB k 12 = 9
        · by_cases hO : ofOf (1 + numB k 12) = 0
          · have hc : cutF ⟨k, f, a, n, v, w⟩ = ⟨1 + numB k 12, 0, 0, numB n 65536, v, w⟩ := by
              show (⟨1 + numB k 12, if ofOf (1 + numB k 12) = 0 then 0 else numB f 64, if ofOf (1 + numB k 12) = 0 then 0 else numB a 1000, numB n (if 1 + numB k 12 = 1 then 4 else if hasN (1 + numB k 12) = true then 65536 else 1), if hasV (1 + numB k 12) = true then v else 0, if 1 + numB k 12 = 9 then w else 0⟩ : Op6) = _
              rw [if_pos hO, if_pos hO, if_neg h1, if_pos hN, if_pos hV, if_pos h9]
            rw [hc]
            refine holds_of_check pok (cutNTTF_c k f a n v w _ _ _ _ _ _ (numB k 12) (numB n 65536) (numB f 64) (numB a 1000) (hasN (1 + numB k 12)) (hasV (1 + numB k 12)) (ofOf (1 + numB k 12))) ?_
            simp only [allOf, beq_iff_eq, beq_eq_false_iff_ne, bne_iff_ne, bne_eq_false_iff_eq, ne_eq, Bool.not_eq_true', Bool.not_eq_false', Bool.not_eq_false]
            and_intros <;> first | trivial | rfl | assumption | omega
          · have hc : cutF ⟨k, f, a, n, v, w⟩ = ⟨1 + numB k 12, numB f 64, numB a 1000, numB n 65536, v, w⟩ := by
              show (⟨1 + numB k 12, if ofOf (1 + numB k 12) = 0 then 0 else numB f 64, if ofOf (1 + numB k 12) = 0 then 0 else numB a 1000, numB n (if 1 + numB k 12 = 1 then 4 else if hasN (1 + numB k 12) = true then 65536 else 1), if hasV (1 + numB k 12) = true then v else 0, if 1 + numB k 12 = 9 then w else 0⟩ : Op6) = _
              rw [if_neg hO, if_neg hO, if_neg h1, if_pos hN, if_pos hV, if_pos h9]
            rw [hc]
            refine holds_of_check pok (cutNTTT_c k f a n v w _ _ _ _ _ _ (numB k 12) (numB n 65536) (numB f 64) (numB a 1000) (hasN (1 + numB k 12)) (hasV (1 + numB k 12)) (ofOf (1 + numB k 12))) ?_
            simp only [allOf, beq_iff_eq, beq_eq_false_iff_ne, bne_iff_ne, bne_eq_false_iff_eq, ne_eq, Bool.not_eq_true', Bool.not_eq_false', Bool.not_eq_false]
            and_intros <;> first | trivial | rfl | assumption | omega
        · by_cases hO : ofOf (1 + numB k 12) = 0
          · have hc : cutF ⟨k, f, a, n, v, w⟩ = ⟨1 + numB k 12, 0, 0, numB n 65536, v, 0⟩ := by
              show (⟨1 + numB k 12, if ofOf (1 + numB k 12) = 0 then 0 else numB f 64, if ofOf (1 + numB k 12) = 0 then 0 else numB a 1000, numB n (if 1 + numB k 12 = 1 then 4 else if hasN (1 + numB k 12) = true then 65536 else 1), if hasV (1 + numB k 12) = true then v else 0, if 1 + numB k 12 = 9 then w else 0⟩ : Op6) = _
              rw [if_pos hO, if_pos hO, if_neg h1, if_pos hN, if_pos hV, if_neg h9]
            rw [hc]
            refine holds_of_check pok (cutNTFF_c k f a n v w _ _ _ _ _ _ (numB k 12) (numB n 65536) (numB f 64) (numB a 1000) (hasN (1 + numB k 12)) (hasV (1 + numB k 12)) (ofOf (1 + numB k 12))) ?_
            simp only [allOf, beq_iff_eq, beq_eq_false_iff_ne, bne_iff_ne, bne_eq_false_iff_eq, ne_eq, Bool.not_eq_true', Bool.not_eq_false', Bool.not_eq_false]
            and_intros <;> first | trivial | rfl | assumption | omega
          · have hc : cutF ⟨k, f, a, n, v, w⟩ = ⟨1 + numB k 12, numB f 64, numB a 1000, numB n 65536, v, 0⟩ := by
              show (⟨1 + numB k 12, if ofOf (1 + numB k 12) = 0 then 0 else numB f 64, if ofOf (1 + numB k 12) = 0 then 0 else numB a 1000, numB n (if 1 + numB k 12 = 1 then 4 else if hasN (1 + numB k 12) = true then 65536 else 1), if hasV (1 + numB k 12) = true then v else 0, if 1 + numB k 12 = 9 then w else 0⟩ : Op6) = _
              rw [if_neg hO, if_neg hO, if_neg h1, if_pos hN, if_pos hV, if_neg h9]
            rw [hc]
            refine holds_of_check pok (cutNTFT_c k f a n v w _ _ _ _ _ _ (numB k 12) (numB n 65536) (numB f 64) (numB a 1000) (hasN (1 + numB k 12)) (hasV (1 + numB k 12)) (ofOf (1 + numB k 12))) ?_
            simp only [allOf, beq_iff_eq, beq_eq_false_iff_ne, bne_iff_ne, bne_eq_false_iff_eq, ne_eq, Bool.not_eq_true', Bool.not_eq_false', Bool.not_eq_false]
            and_intros <;> first | trivial | rfl | assumption | omega
      · have h9 : ¬ (1 + numB k 12 = 9) := fun h => hV (e2 h)
        have hV' : hasV (1 + numB k 12) = false := by simpa using hV
        by_cases hO : ofOf (1 + numB k 12) = 0
        · have hc : cutF ⟨k, f, a, n, v, w⟩ = ⟨1 + numB k 12, 0, 0, numB n 65536, 0, 0⟩ := by
            show (⟨1 + numB k 12, if ofOf (1 + numB k 12) = 0 then 0 else numB f 64, if ofOf (1 + numB k 12) = 0 then 0 else numB a 1000, numB n (if 1 + numB k 12 = 1 then 4 else if hasN (1 + numB k 12) = true then 65536 else 1), if hasV (1 + numB k 12) = true then v else 0, if 1 + numB k 12 = 9 then w else 0⟩ : Op6) = _
            rw [if_pos hO, if_pos hO, if_neg h1, if_pos hN, if_neg hV, if_neg h9]
          rw [hc]
          refine holds_of_check pok (cutNFFF_c k f a n v w _ _ _ _ _ _ (numB k 12) (numB n 65536) (numB f 64) (numB a 1000) (hasN (1 + numB k 12)) (hasV (1 + numB k 12)) (ofOf (1 + numB k 12))) ?_
          simp only [allOf, beq_iff_eq, beq_eq_false_iff_ne, bne_iff_ne, bne_eq_false_iff_eq, ne_eq, Bool.not_eq_true', Bool.not_eq_false', Bool.not_eq_false]
          and_intros <;> first | trivial | rfl | assumption | omega
        · have hc : cutF ⟨k, f, a, n, v, w⟩ = ⟨1 + numB k 12, numB f 64, numB a 1000, numB n 65536, 0, 0⟩ := by
            show (⟨1 + numB k 12, if ofOf (1 + numB k 12) = 0 then 0 else numB f 64, if ofOf (1 + numB k 12) = 0 then 0 else numB a 1000, numB n (if 1 + numB k 12 = 1 then 4 else if hasN (1 + numB k 12) = true then 65536 else 1), if hasV (1 + numB k 12) = true then v else 0, if 1 + numB k 12 = 9 then w else 0⟩ : Op6) = _
            rw [if_neg hO, if_neg hO, if_neg h1, if_pos hN, if_neg hV, if_neg h9]
          rw [hc]
          refine holds_of_check pok (cutNFFT_c k f a n v w _ _ _ _ _ _ (numB k 12) (numB n 65536) (numB f 64) (numB a 1000) (hasN (1 + numB k 12)) (hasV (1 + numB k 12)) (ofOf (1 + numB k 12))) ?_
          simp only [allOf, beq_iff_eq, beq_eq_false_iff_ne, bne_iff_ne, bne_eq_false_iff_eq, ne_eq, Bool.not_eq_true', Bool.not_eq_false', Bool.not_eq_false]
          and_intros <;> first | trivial | rfl | assumption | omega
    · have hN' : hasN (1 + numB k 12) = false := by simpa using hN
      have hV : ¬ hasV (1 + numB k 12) = true := fun h => hN (e3 h)
      have hV' : hasV (1 + numB k 12) = false := by simpa using hV
      have h9 : ¬ (1 + numB k 12 = 9) := fun h => hV (e2 h)
      by_cases hO : ofOf (1 + numB k 12) = 0
      · have hc : cutF ⟨k, f, a, n, v, w⟩ = ⟨1 + numB k 12, 0, 0, numB n 1, 0, 0⟩ := by
          show (⟨1 + numB k 12, if ofOf (1 + numB k 12) = 0 then 0 else numB f 64, if ofOf (1 + numB k 12) = 0 then 0 else numB a 1000, numB n (if 1 + numB k 12 = 1 then 4 else if hasN (1 + numB k 12) = true then 65536 else 1), if hasV (1 + numB k 12) = true then v else 0, if 1 + numB k 12 = 9 then w else 0⟩ : Op6) = _
          rw [if_pos hO, if_pos hO, if_neg h1, if_neg hN, if_neg hV, if_neg h9]
        rw [hc]
        refine holds_of_check pok (cut0FFF_c k f a n v w _ _ _ _ _ _ (numB k 12) (numB n 1) (numB f 64) (numB a 1000) (hasN (1 + numB k 12)) (hasV (1 + numB k 12)) (ofOf (1 + numB k 12))) ?_
        simp only [allOf, beq_iff_eq, beq_eq_false_iff_ne, bne_iff_ne, bne_eq_false_iff_eq, ne_eq, Bool.not_eq_true', Bool.not_eq_false', Bool.not_eq_false]
        and_intros <;> first | trivial | rfl | assumption | omega
      · have hc : cutF ⟨k, f, a, n, v, w⟩ = ⟨1 + numB k 12, numB f 64, numB a 1000, numB n 1, 0, 0⟩ := by
          show (⟨1 + numB k 12, if ofOf (1 + numB k 12) = 0 then 0 else numB f 64, if ofOf (1 + numB k 12) = 0 then 0 else numB a 1000, numB n (if 1 + numB k 12 = 1 then 4 else if hasN (1 + numB k 12) = true then 65536 else 1), if hasV (1 + numB k 12) = true then v else 0, if 1 + numB k 12 = 9 then w else 0⟩ : Op6) = _
          rw [if_neg hO, if_neg hO, if_neg h1, if_neg hN, if_neg hV, if_neg h9]
        rw [hc]
        refine holds_of_check pok (cut0FFT_c k f a n v w _ _ _ _ _ _ (numB k 12) (numB n 1) (numB f 64) (numB a 1000) (hasN (1 + numB k 12)) (hasV (1 + numB k 12)) (ofOf (1 + numB k 12))) ?_
        simp only [allOf, beq_iff_eq, beq_eq_false_iff_ne, bne_iff_ne, bne_eq_false_iff_eq, ne_eq, Bool.not_eq_true', Bool.not_eq_false', Bool.not_eq_false]
        and_intros <;> first | trivial | rfl | assumption | omega

theorem hasW_eq (k : Int) : hasW k = decide (k = 9) := rfl

theorem cut_may [GG] (o : Op6) : (cutF o).may = true := by
  obtain ⟨k, f, a, n, v, w⟩ := o
  have hr := numB_range k 12 (by omega)
  have r1 := numB_range f 64 (by omega)
  have r2 := numB_range a 1000 (by omega)
  have hM : 0 < cutM (1 + numB k 12) := by unfold cutM; by_cases h : 1 + numB k 12 = 1; rw [if_pos h]; omega; rw [if_neg h]; split <;> omega
  have r3 := numB_range n (cutM (1 + numB k 12)) hM
  have c1 : (cutF ⟨k, f, a, n, v, w⟩).k = 1 + numB k 12 := rfl
  have c2 : (cutF ⟨k, f, a, n, v, w⟩).f = if ofOf (1 + numB k 12) = 0 then 0 else numB f 64 := rfl
  have c3 : (cutF ⟨k, f, a, n, v, w⟩).a = if ofOf (1 + numB k 12) = 0 then 0 else numB a 1000 := rfl
  have c4 : (cutF ⟨k, f, a, n, v, w⟩).n = numB n (cutM (1 + numB k 12)) := rfl
  have c5 : (cutF ⟨k, f, a, n, v, w⟩).v = if hasV (1 + numB k 12) = true then v else 0 := rfl
  have c6 : (cutF ⟨k, f, a, n, v, w⟩).w = if 1 + numB k 12 = 9 then w else 0 := rfl
  unfold Op6.may mayB withinB
  simp only [Bool.and_eq_true, decide_eq_true_eq, Bool.or_eq_true, beq_iff_eq]
  rw [c1, c2, c3, c4, c5, c6]
  unfold limW limA limN
  unfold cutM at r3 ⊢
  refine ⟨by omega, ⟨⟨⟨⟨?_, ?_⟩, ?_⟩, ?_⟩, ?_⟩⟩
  · by_cases hO : ofOf (1 + numB k 12) = 0
    · rw [if_pos hO, if_pos hO]; omega
    · rw [if_neg hO, if_neg hO]; omega
  · by_cases hO : ofOf (1 + numB k 12) = 0
    · rw [if_pos hO, if_pos hO]; omega
    · rw [if_neg hO, if_neg hO]; omega
  · by_cases h1 : 1 + numB k 12 = 1
    · simp only [if_pos h1] at r3 ⊢; omega
    · by_cases hN : hasN (1 + numB k 12) = true
      · simp only [if_neg h1, if_pos hN] at r3 ⊢; omega
      · simp only [if_neg h1, if_neg hN] at r3 ⊢; omega
  · by_cases hV : hasV (1 + numB k 12) = true
    · exact .inl hV
    · rw [if_neg hV]; exact .inr rfl
  · by_cases hV : 1 + numB k 12 = 9
    · left; rw [hV]; rfl
    · rw [if_neg hV]; exact .inr rfl

theorem cut_in (o : Op6) (h : o.In) : (cutF o).In := by
  obtain ⟨h1, h2, h3, h4⟩ := h
  refine ⟨?_, ?_, ?_, ?_⟩ <;> simp only [cutF] <;> split <;> omega

theorem may_fits [GG] {o : Op6} (h : o.may = true) (hi : o.In) : Fits o.f o.a o.n o.v o.w := by
  obtain ⟨_, _, h3, h4, h5, h6, h7, h8, _⟩ := may_true h
  have l1 := limW_le o.k
  have l2 := limA_le o.k
  have l3 := limN_le o.k
  exact ⟨by omega, by omega, by omega, by omega, by omega, by omega, hi.v0, hi.v1, hi.w0, hi.w1⟩

end Go.OpP
