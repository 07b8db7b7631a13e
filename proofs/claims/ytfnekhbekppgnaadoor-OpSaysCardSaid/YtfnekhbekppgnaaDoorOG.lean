import Derived.Test.YtfnekhbekppgnaaDoorOF
namespace Go.OpP
open Go.Eng

/-! The next word, while there are some. -/

def sNext (is : Bool) (ws : List (List UInt8)) (off len : Nat) (t : List UInt8) (off' len' : Nat) : Eng.Spec :=
  { f := 33, k := 2, m := 5, args := [.bool is, .ptr 0 (.l 0) 0 0], pre := [(0, .blk [.sl 1 1 (.o off) (.o len)] 49), (1, .strs ws 9)],
    ret := .str t, post := [(0, .blk [.sl 1 1 (.o off') (.o len')] 49), (1, .strs ws 9)] }

theorem nextNo_c (is : Bool) (ws : List (List UInt8)) (off len : Nat) (t : List UInt8) (off' len' : Nat) : check P0 300 10 (sNext is ws off len t off' len') [.br true] = some [[] = t, off = off', len = len', ws = ws, (!is) = true] := by kernel_rfl

theorem nextEnd_c (is : Bool) (ws : List (List UInt8)) (off len : Nat) (t : List UInt8) (off' len' : Nat) : check P0 300 10 (sNext is ws off len t off' len') [.br false, .br true] = some [[] = t, off = off', len = len', ws = ws, ((↑len : Int) == (0 : Int)) = true, (!is) = false] := by kernel_rfl

theorem nextYes_c (is : Bool) (ws : List (List UInt8)) (off len : Nat) (t : List UInt8) (off' len' : Nat) : check P0 300 10 (sNext is ws off len t off' len') [.br false, .br false] = some [List.getD ws (off + (0 : Nat)) [] = t, off + (1 : Nat) = off', len - (1 : Nat) = len', ws = ws, (1 : Nat) ≤ len,
    len ≤ len, off + (0 : Nat) < List.length ws, (0 : Int) ≤ (0 : Int) ∧ (0 : Int) < (↑(LN.val (LN.o len)) : Int),
    ((↑len : Int) == (0 : Int)) = false, (!is) = false] := by kernel_rfl

def nxT (is : Bool) (ws : List (List UInt8)) (off : Nat) : List UInt8 := if is = true ∧ off < ws.length then ws.getD off [] else []
def nxO (is : Bool) (ws : List (List UInt8)) (off : Nat) : Nat := if is = true ∧ off < ws.length then off + 1 else off

theorem nxO_le {is : Bool} {ws : List (List UInt8)} {off : Nat} (h : off ≤ ws.length) : nxO is ws off ≤ ws.length := by
  unfold nxO; split <;> omega

theorem nextH [GG] (is : Bool) (ws : List (List UInt8)) (off len : Nat) (h : off + len = ws.length) : (sNext is ws off len (nxT is ws off) (nxO is ws off) (ws.length - nxO is ws off)).Holds P0 := by
  cases is
  · refine holds_of_check pok (nextNo_c _ _ _ _ _ _ _) ?_
    simp only [allOf, nxT, nxO]
    and_intros <;> first | trivial | rfl | omega | (simp; done) | (simp; omega)
  · by_cases hl : len = 0
    · refine holds_of_check pok (nextEnd_c _ _ _ _ _ _ _) ?_
      have ho : ¬ off < ws.length := by omega
      simp only [allOf, nxT, nxO, ho, and_false, if_false]
      and_intros <;> first | trivial | rfl | omega | (simp; done) | (simp; omega)
    · refine holds_of_check pok (nextYes_c _ _ _ _ _ _ _) ?_
      have ho : off < ws.length := by omega
      simp only [allOf, nxT, nxO, ho, and_true, if_true]
      and_intros <;> first | trivial | rfl | omega | (simp; done) | (simp; omega) | (simp [LN.val]; omega)

/-! The kind: the last one of that name. -/

def anys (n : Nat) : List SV := List.replicate n .any
def i0 : SV := .con (.int .i64 0)
def u0 : SV := .con (.int .u64 0)
def getFr (s : List UInt8) (k : Int) : List SV := [.str s, .any, .ptr 3 (.l 0) 0 0, i0, .ptr 1 (.l 0) 0 0, .ptr 0 (.l 0) 0 0, .int .i64 k] ++ anys 91
def getH (ws : List (List UInt8)) (kind : Int) (n : Nat) : Heap := [(0, .blk [.int .i64 kind, i0, i0, i0, u0, u0] 24), (1, .blk [.sl 2 1 (.l 0) (.o n)] 49), (2, .strs ws 9)]

theorem getHit_c (s : List UInt8) (k : Int) (ws : List (List UInt8)) (kind : Int) (n : Nat) (nm : List UInt8) : checkAt P0 300 10 17 [0, 0, 1, 0, 1, 1, 1] (getFr s k) (getH ws kind n) [.br true, .call (sName k nm) [], .br true] .normal (getFr s (k + 1)) (getH ws k n) 4 30 = some [s = s, k + (1 : Int) = k + (1 : Int), k = k, n = n, ws = ws, In64 (k + (1 : Int)),
    (nm == List.getD ws (0 : Nat) []) = true,
    SV.sl (2 : Nat) (1 : Nat) (LN.l (0 : Nat)) (LN.o n) = SV.sl (2 : Nat) (1 : Nat) (LN.l (0 : Nat)) (LN.o n),
    SV.ptr (2 : Nat) (LN.l (0 : Nat)) (1 : Nat) (0 : Nat) = SV.ptr (2 : Nat) (LN.l (0 : Nat)) (1 : Nat) (0 : Nat),
    (0 : Int) ≤ (0 : Int) ∧ (0 : Int) < (↑(LN.val (LN.o n)) : Int),
    SV.str (List.getD ws (0 : Nat) []) = SV.str (List.getD ws (0 : Nat) []), (0 : Nat) < List.length ws,
    (0 : Nat) < List.length ws, (0 : Int) ≤ (0 : Int) ∧ (0 : Int) < (↑(LN.val (LN.o n)) : Int),
    Spec.Holds P0 (sName k nm), k = k, decide (k ≤ (12 : Int)) = true] := by kernel_rfl

theorem getMiss_c (s : List UInt8) (k : Int) (ws : List (List UInt8)) (kind : Int) (n : Nat) (nm : List UInt8) : checkAt P0 300 10 17 [0, 0, 1, 0, 1, 1, 1] (getFr s k) (getH ws kind n) [.br true, .call (sName k nm) [], .br false] .normal (getFr s (k + 1)) (getH ws kind n) 4 30 = some [s = s, k + (1 : Int) = k + (1 : Int), kind = kind, n = n, ws = ws, In64 (k + (1 : Int)),
    (nm == List.getD ws (0 : Nat) []) = false,
    SV.sl (2 : Nat) (1 : Nat) (LN.l (0 : Nat)) (LN.o n) = SV.sl (2 : Nat) (1 : Nat) (LN.l (0 : Nat)) (LN.o n),
    SV.ptr (2 : Nat) (LN.l (0 : Nat)) (1 : Nat) (0 : Nat) = SV.ptr (2 : Nat) (LN.l (0 : Nat)) (1 : Nat) (0 : Nat),
    (0 : Int) ≤ (0 : Int) ∧ (0 : Int) < (↑(LN.val (LN.o n)) : Int),
    SV.str (List.getD ws (0 : Nat) []) = SV.str (List.getD ws (0 : Nat) []), (0 : Nat) < List.length ws,
    (0 : Nat) < List.length ws, (0 : Int) ≤ (0 : Int) ∧ (0 : Int) < (↑(LN.val (LN.o n)) : Int),
    Spec.Holds P0 (sName k nm), k = k, decide (k ≤ (12 : Int)) = true] := by kernel_rfl

theorem getEnd_c (s : List UInt8) (k : Int) (ws : List (List UInt8)) (kind : Int) (n : Nat) : checkAt P0 300 10 17 [0, 0, 1, 0, 1, 1, 1] (getFr s k) (getH ws kind n) [.br false] (.exit 0) (getFr s k) (getH ws kind n) 4 30 = some [s = s, k = k, kind = kind, n = n, ws = ws, decide (k ≤ (12 : Int)) = false] := by kernel_rfl

def kf (w0 : List UInt8) : Nat → Int → Int
  | 0, kind => kind
  | j + 1, kind => kf w0 j (if nameOf (12 - (j : Int)) = w0 then 12 - (j : Int) else kind)

theorem getLoop [GG] (s : List UInt8) (ws : List (List UInt8)) (n : Nat) (hn : 0 < n) (hw : 0 < ws.length) : ∀ (j : Nat) (kind : Int), j ≤ 12 →
    LoopIs P0 17 [0, 1, 0, 1, 1, 1] (getFr s (13 - (j : Int))) (getH ws kind n) (.exit 0) (getFr s 13) (getH ws (kf (ws.getD 0 []) j kind) n) 4 30 := by
  intro j
  induction j with
  | zero =>
    intro kind _
    refine LoopIs.out (by kernel_rfl) (code_of_check pok (getEnd_c s 13 ws kind n) ?_) (by simp)
    simp [allOf]
  | succ j ih =>
    intro kind hj
    have e1 : (13 : Int) - ((j + 1 : Nat) : Int) = 12 - (j : Int) := by omega
    have e2 : (12 : Int) - (j : Int) + 1 = 13 - (j : Int) := by omega
    rw [e1]
    unfold kf
    by_cases h : nameOf (12 - (j : Int)) = ws.getD 0 []
    · rw [if_pos h]
      have hr := ih (12 - (j : Int)) (by omega)
      rw [← e2] at hr
      refine LoopIs.step (code_of_check pok (getHit_c s (12 - (j : Int)) ws kind n (nameOf (12 - (j : Int)))) ?_) rfl rfl hr
      simp only [allOf, In64, LN.val, beq_iff_eq, decide_eq_true_eq]
      and_intros <;> first | trivial | rfl | omega | exact h | exact nameH _
    · rw [if_neg h]
      have hr := ih kind (by omega)
      rw [← e2] at hr
      refine LoopIs.step (code_of_check pok (getMiss_c s (12 - (j : Int)) ws kind n (nameOf (12 - (j : Int)))) ?_) rfl rfl hr
      simp only [allOf, In64, LN.val, beq_eq_false_iff_ne, ne_eq, decide_eq_true_eq]
      and_intros <;> first | trivial | rfl | omega | exact h | exact nameH _

end Go.OpP
