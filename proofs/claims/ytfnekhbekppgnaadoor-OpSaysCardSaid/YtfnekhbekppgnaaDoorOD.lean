import Derived.Test.YtfnekhbekppgnaaDoorOC
namespace Go.OpP
open Go.Eng

/-! Forms. -/

def nameOf (k : Int) : List UInt8 :=
  if k = 1 then [99, 114, 101, 97, 116, 101] else if k = 2 then [97, 108, 108, 111, 99] else if k = 3 then [112, 105, 110] else if k = 4 then [117, 110, 112, 105, 110]
  else if k = 5 then [104, 111, 108, 100] else if k = 6 then [108, 111, 97, 100] else if k = 7 then [115, 116, 111, 114, 101] else if k = 8 then [97, 100, 100]
  else if k = 9 then [99, 97, 115] else if k = 10 then [102, 114, 101, 101] else if k = 11 then [99, 111, 108, 108, 101, 99, 116] else if k = 12 then [115, 116, 97, 116, 115] else []
def ofOf (k : Int) : Int := if k = 2 ∨ k = 10 ∨ k = 12 then 1 else if 6 ≤ k ∧ k ≤ 9 then 2 else if k = 5 then 3 else 0
def hasN (k : Int) : Bool := decide (k = 1 ∨ k = 2 ∨ (6 ≤ k ∧ k ≤ 9))
def hasV (k : Int) : Bool := decide (7 ≤ k ∧ k ≤ 9)
def hasW (k : Int) : Bool := decide (k = 9)

def sForm (k : Int) (nm : List UInt8) (o : Int) (n v w : Bool) : Eng.Spec :=
  { f := 24, k := 0, m := 20, args := [.int .i64 k], pre := [], ret := .agg [.str nm, .int .i64 o, .bool n, .bool v, .bool w], post := [] }
def sFormL (k : Int) (nm : List UInt8) (o : Int) (n v w : Bool) : Eng.Spec :=
  { f := 24, k := 0, m := 20, args := [.con (.int .i64 k)], pre := [], ret := .agg [.str nm, .int .i64 o, .bool n, .bool v, .bool w], post := [] }

theorem formLo_c (k : Int) (nm : List UInt8) (o : Int) (n v w : Bool) : check P0 300 10 (sForm k nm o n v w) [.br true] = some [[] = nm, (0 : Int) = o, false = n, false = v, false = w, decide (k < (1 : Int)) = true] := by kernel_rfl

theorem formHi_c (k : Int) (nm : List UInt8) (o : Int) (n v w : Bool) : check P0 300 10 (sForm k nm o n v w) [.br false, .br true] = some [[] = nm, (0 : Int) = o, false = n, false = v, false = w, decide (k ≥ (↑(13 : Nat) : Int)) = true,
    decide (k < (1 : Int)) = false] := by kernel_rfl

theorem form1_c (nm : List UInt8) (o : Int) (n v w : Bool) : check P0 300 10 (sFormL 1 nm o n v w) [] = some [[{ toBitVec := { toFin := ⟨(99 : Nat), Nat.mod_lt (99 : Nat) (BitVec.ofNat._proof_1 (8 : Nat))⟩ } },
        { toBitVec := { toFin := ⟨(114 : Nat), Nat.mod_lt (114 : Nat) (BitVec.ofNat._proof_1 (8 : Nat))⟩ } },
        { toBitVec := { toFin := ⟨(101 : Nat), Nat.mod_lt (101 : Nat) (BitVec.ofNat._proof_1 (8 : Nat))⟩ } },
        { toBitVec := { toFin := ⟨(97 : Nat), Nat.mod_lt (97 : Nat) (BitVec.ofNat._proof_1 (8 : Nat))⟩ } },
        { toBitVec := { toFin := ⟨(116 : Nat), Nat.mod_lt (116 : Nat) (BitVec.ofNat._proof_1 (8 : Nat))⟩ } },
        { toBitVec := { toFin := ⟨(101 : Nat), Nat.mod_lt (101 : Nat) (BitVec.ofNat._proof_1 (8 : Nat))⟩ } }] =
      nm,
    (0 : Int) = o, true = n, false = v, false = w] := by kernel_rfl

theorem form2_c (nm : List UInt8) (o : Int) (n v w : Bool) : check P0 300 10 (sFormL 2 nm o n v w) [] = some [[{ toBitVec := { toFin := ⟨(97 : Nat), Nat.mod_lt (97 : Nat) (BitVec.ofNat._proof_1 (8 : Nat))⟩ } },
        { toBitVec := { toFin := ⟨(108 : Nat), Nat.mod_lt (108 : Nat) (BitVec.ofNat._proof_1 (8 : Nat))⟩ } },
        { toBitVec := { toFin := ⟨(108 : Nat), Nat.mod_lt (108 : Nat) (BitVec.ofNat._proof_1 (8 : Nat))⟩ } },
        { toBitVec := { toFin := ⟨(111 : Nat), Nat.mod_lt (111 : Nat) (BitVec.ofNat._proof_1 (8 : Nat))⟩ } },
        { toBitVec := { toFin := ⟨(99 : Nat), Nat.mod_lt (99 : Nat) (BitVec.ofNat._proof_1 (8 : Nat))⟩ } }] =
      nm,
    (1 : Int) = o, true = n, false = v, false = w] := by kernel_rfl

theorem form3_c (nm : List UInt8) (o : Int) (n v w : Bool) : check P0 300 10 (sFormL 3 nm o n v w) [] = some [[{ toBitVec := { toFin := ⟨(112 : Nat), Nat.mod_lt (112 : Nat) (BitVec.ofNat._proof_1 (8 : Nat))⟩ } },
        { toBitVec := { toFin := ⟨(105 : Nat), Nat.mod_lt (105 : Nat) (BitVec.ofNat._proof_1 (8 : Nat))⟩ } },
        { toBitVec := { toFin := ⟨(110 : Nat), Nat.mod_lt (110 : Nat) (BitVec.ofNat._proof_1 (8 : Nat))⟩ } }] =
      nm,
    (0 : Int) = o, false = n, false = v, false = w] := by kernel_rfl

theorem form4_c (nm : List UInt8) (o : Int) (n v w : Bool) : check P0 300 10 (sFormL 4 nm o n v w) [] = some [[{ toBitVec := { toFin := ⟨(117 : Nat), Nat.mod_lt (117 : Nat) (BitVec.ofNat._proof_1 (8 : Nat))⟩ } },
        { toBitVec := { toFin := ⟨(110 : Nat), Nat.mod_lt (110 : Nat) (BitVec.ofNat._proof_1 (8 : Nat))⟩ } },
        { toBitVec := { toFin := ⟨(112 : Nat), Nat.mod_lt (112 : Nat) (BitVec.ofNat._proof_1 (8 : Nat))⟩ } },
        { toBitVec := { toFin := ⟨(105 : Nat), Nat.mod_lt (105 : Nat) (BitVec.ofNat._proof_1 (8 : Nat))⟩ } },
        { toBitVec := { toFin := ⟨(110 : Nat), Nat.mod_lt (110 : Nat) (BitVec.ofNat._proof_1 (8 : Nat))⟩ } }] =
      nm,
    (0 : Int) = o, false = n, false = v, false = w] := by kernel_rfl

theorem form5_c (nm : List UInt8) (o : Int) (n v w : Bool) : check P0 300 10 (sFormL 5 nm o n v w) [] = some [[{ toBitVec := { toFin := ⟨(104 : Nat), Nat.mod_lt (104 : Nat) (BitVec.ofNat._proof_1 (8 : Nat))⟩ } },
        { toBitVec := { toFin := ⟨(111 : Nat), Nat.mod_lt (111 : Nat) (BitVec.ofNat._proof_1 (8 : Nat))⟩ } },
        { toBitVec := { toFin := ⟨(108 : Nat), Nat.mod_lt (108 : Nat) (BitVec.ofNat._proof_1 (8 : Nat))⟩ } },
        { toBitVec := { toFin := ⟨(100 : Nat), Nat.mod_lt (100 : Nat) (BitVec.ofNat._proof_1 (8 : Nat))⟩ } }] =
      nm,
    (3 : Int) = o, false = n, false = v, false = w] := by kernel_rfl

theorem form6_c (nm : List UInt8) (o : Int) (n v w : Bool) : check P0 300 10 (sFormL 6 nm o n v w) [] = some [[{ toBitVec := { toFin := ⟨(108 : Nat), Nat.mod_lt (108 : Nat) (BitVec.ofNat._proof_1 (8 : Nat))⟩ } },
        { toBitVec := { toFin := ⟨(111 : Nat), Nat.mod_lt (111 : Nat) (BitVec.ofNat._proof_1 (8 : Nat))⟩ } },
        { toBitVec := { toFin := ⟨(97 : Nat), Nat.mod_lt (97 : Nat) (BitVec.ofNat._proof_1 (8 : Nat))⟩ } },
        { toBitVec := { toFin := ⟨(100 : Nat), Nat.mod_lt (100 : Nat) (BitVec.ofNat._proof_1 (8 : Nat))⟩ } }] =
      nm,
    (2 : Int) = o, true = n, false = v, false = w] := by kernel_rfl

theorem form7_c (nm : List UInt8) (o : Int) (n v w : Bool) : check P0 300 10 (sFormL 7 nm o n v w) [] = some [[{ toBitVec := { toFin := ⟨(115 : Nat), Nat.mod_lt (115 : Nat) (BitVec.ofNat._proof_1 (8 : Nat))⟩ } },
        { toBitVec := { toFin := ⟨(116 : Nat), Nat.mod_lt (116 : Nat) (BitVec.ofNat._proof_1 (8 : Nat))⟩ } },
        { toBitVec := { toFin := ⟨(111 : Nat), Nat.mod_lt (111 : Nat) (BitVec.ofNat._proof_1 (8 : Nat))⟩ } },
        { toBitVec := { toFin := ⟨(114 : Nat), Nat.mod_lt (114 : Nat) (BitVec.ofNat._proof_1 (8 : Nat))⟩ } },
        { toBitVec := { toFin := ⟨(101 : Nat), Nat.mod_lt (101 : Nat) (BitVec.ofNat._proof_1 (8 : Nat))⟩ } }] =
      nm,
    (2 : Int) = o, true = n, true = v, false = w] := by kernel_rfl

theorem form8_c (nm : List UInt8) (o : Int) (n v w : Bool) : check P0 300 10 (sFormL 8 nm o n v w) [] = some [[{ toBitVec := { toFin := ⟨(97 : Nat), Nat.mod_lt (97 : Nat) (BitVec.ofNat._proof_1 (8 : Nat))⟩ } },
        { toBitVec := { toFin := ⟨(100 : Nat), Nat.mod_lt (100 : Nat) (BitVec.ofNat._proof_1 (8 : Nat))⟩ } },
        { toBitVec := { toFin := ⟨(100 : Nat), Nat.mod_lt (100 : Nat) (BitVec.ofNat._proof_1 (8 : Nat))⟩ } }] =
      nm,
    (2 : Int) = o, true = n, true = v, false = w] := by kernel_rfl

theorem form9_c (nm : List UInt8) (o : Int) (n v w : Bool) : check P0 300 10 (sFormL 9 nm o n v w) [] = some [[{ toBitVec := { toFin := ⟨(99 : Nat), Nat.mod_lt (99 : Nat) (BitVec.ofNat._proof_1 (8 : Nat))⟩ } },
        { toBitVec := { toFin := ⟨(97 : Nat), Nat.mod_lt (97 : Nat) (BitVec.ofNat._proof_1 (8 : Nat))⟩ } },
        { toBitVec := { toFin := ⟨(115 : Nat), Nat.mod_lt (115 : Nat) (BitVec.ofNat._proof_1 (8 : Nat))⟩ } }] =
      nm,
    (2 : Int) = o, true = n, true = v, true = w] := by kernel_rfl

theorem form10_c (nm : List UInt8) (o : Int) (n v w : Bool) : check P0 300 10 (sFormL 10 nm o n v w) [] = some [[{ toBitVec := { toFin := ⟨(102 : Nat), Nat.mod_lt (102 : Nat) (BitVec.ofNat._proof_1 (8 : Nat))⟩ } },
        { toBitVec := { toFin := ⟨(114 : Nat), Nat.mod_lt (114 : Nat) (BitVec.ofNat._proof_1 (8 : Nat))⟩ } },
        { toBitVec := { toFin := ⟨(101 : Nat), Nat.mod_lt (101 : Nat) (BitVec.ofNat._proof_1 (8 : Nat))⟩ } },
        { toBitVec := { toFin := ⟨(101 : Nat), Nat.mod_lt (101 : Nat) (BitVec.ofNat._proof_1 (8 : Nat))⟩ } }] =
      nm,
    (1 : Int) = o, false = n, false = v, false = w] := by kernel_rfl

theorem form11_c (nm : List UInt8) (o : Int) (n v w : Bool) : check P0 300 10 (sFormL 11 nm o n v w) [] = some [[{ toBitVec := { toFin := ⟨(99 : Nat), Nat.mod_lt (99 : Nat) (BitVec.ofNat._proof_1 (8 : Nat))⟩ } },
        { toBitVec := { toFin := ⟨(111 : Nat), Nat.mod_lt (111 : Nat) (BitVec.ofNat._proof_1 (8 : Nat))⟩ } },
        { toBitVec := { toFin := ⟨(108 : Nat), Nat.mod_lt (108 : Nat) (BitVec.ofNat._proof_1 (8 : Nat))⟩ } },
        { toBitVec := { toFin := ⟨(108 : Nat), Nat.mod_lt (108 : Nat) (BitVec.ofNat._proof_1 (8 : Nat))⟩ } },
        { toBitVec := { toFin := ⟨(101 : Nat), Nat.mod_lt (101 : Nat) (BitVec.ofNat._proof_1 (8 : Nat))⟩ } },
        { toBitVec := { toFin := ⟨(99 : Nat), Nat.mod_lt (99 : Nat) (BitVec.ofNat._proof_1 (8 : Nat))⟩ } },
        { toBitVec := { toFin := ⟨(116 : Nat), Nat.mod_lt (116 : Nat) (BitVec.ofNat._proof_1 (8 : Nat))⟩ } }] =
      nm,
    (0 : Int) = o, false = n, false = v, false = w] := by kernel_rfl

theorem form12_c (nm : List UInt8) (o : Int) (n v w : Bool) : check P0 300 10 (sFormL 12 nm o n v w) [] = some [[{ toBitVec := { toFin := ⟨(115 : Nat), Nat.mod_lt (115 : Nat) (BitVec.ofNat._proof_1 (8 : Nat))⟩ } },
        { toBitVec := { toFin := ⟨(116 : Nat), Nat.mod_lt (116 : Nat) (BitVec.ofNat._proof_1 (8 : Nat))⟩ } },
        { toBitVec := { toFin := ⟨(97 : Nat), Nat.mod_lt (97 : Nat) (BitVec.ofNat._proof_1 (8 : Nat))⟩ } },
        { toBitVec := { toFin := ⟨(116 : Nat), Nat.mod_lt (116 : Nat) (BitVec.ofNat._proof_1 (8 : Nat))⟩ } },
        { toBitVec := { toFin := ⟨(115 : Nat), Nat.mod_lt (115 : Nat) (BitVec.ofNat._proof_1 (8 : Nat))⟩ } }] =
      nm,
    (1 : Int) = o, false = n, false = v, false = w] := by kernel_rfl

theorem form_lit [GG] {k : Int} {nm : List UInt8} {o : Int} {n v w : Bool} (h : (sFormL k nm o n v w).Holds P0) : (sForm k nm o n v w).Holds P0 := by
  intro Fr e W vs hvs hat
  obtain ⟨x, rfl, hx⟩ := RL_one hvs
  refine h Fr e W [x] ⟨?_, trivial⟩ hat
  simpa only [SV.R] using hx

theorem form_none {k : Int} (h : k < 1 ∨ 13 ≤ k) : nameOf k = [] ∧ ofOf k = 0 ∧ hasN k = false ∧ hasV k = false ∧ hasW k = false := by
  refine ⟨?_, ?_, ?_, ?_, ?_⟩
  · unfold nameOf
    rw [if_neg (by omega), if_neg (by omega), if_neg (by omega), if_neg (by omega), if_neg (by omega), if_neg (by omega), if_neg (by omega), if_neg (by omega), if_neg (by omega), if_neg (by omega), if_neg (by omega), if_neg (by omega)]
  · unfold ofOf
    rw [if_neg (by omega), if_neg (by omega), if_neg (by omega)]
  · exact decide_eq_false (by omega)
  · exact decide_eq_false (by omega)
  · exact decide_eq_false (by omega)

theorem formH [GG] (k : Int) : (sForm k (nameOf k) (ofOf k) (hasN k) (hasV k) (hasW k)).Holds P0 := by
  by_cases h1 : k < 1
  · obtain ⟨e1, e2, e3, e4, e5⟩ := form_none (.inl h1)
    rw [e1, e2, e3, e4, e5]
    refine holds_of_check pok (formLo_c _ _ _ _ _ _) ?_
    simp only [allOf, decide_eq_true_eq]
    and_intros <;> first | trivial | rfl | omega
  · by_cases h2 : 13 ≤ k
    · obtain ⟨e1, e2, e3, e4, e5⟩ := form_none (.inr h2)
      rw [e1, e2, e3, e4, e5]
      refine holds_of_check pok (formHi_c _ _ _ _ _ _) ?_
      simp only [allOf, decide_eq_true_eq, decide_eq_false_iff_not]
      and_intros <;> first | trivial | rfl | omega
    · have hk : k = 1 ∨ k = 2 ∨ k = 3 ∨ k = 4 ∨ k = 5 ∨ k = 6 ∨ k = 7 ∨ k = 8 ∨ k = 9 ∨ k = 10 ∨ k = 11 ∨ k = 12 := by omega
      rcases hk with rfl | rfl | rfl | rfl | rfl | rfl | rfl | rfl | rfl | rfl | rfl | rfl
      · exact form_lit (holds_of_check pok (form1_c _ _ _ _ _) (by simp [allOf, nameOf, ofOf, hasN, hasV, hasW]))
      · exact form_lit (holds_of_check pok (form2_c _ _ _ _ _) (by simp [allOf, nameOf, ofOf, hasN, hasV, hasW]))
      · exact form_lit (holds_of_check pok (form3_c _ _ _ _ _) (by simp [allOf, nameOf, ofOf, hasN, hasV, hasW]))
      · exact form_lit (holds_of_check pok (form4_c _ _ _ _ _) (by simp [allOf, nameOf, ofOf, hasN, hasV, hasW]))
      · exact form_lit (holds_of_check pok (form5_c _ _ _ _ _) (by simp [allOf, nameOf, ofOf, hasN, hasV, hasW]))
      · exact form_lit (holds_of_check pok (form6_c _ _ _ _ _) (by simp [allOf, nameOf, ofOf, hasN, hasV, hasW]))
      · exact form_lit (holds_of_check pok (form7_c _ _ _ _ _) (by simp [allOf, nameOf, ofOf, hasN, hasV, hasW]))
      · exact form_lit (holds_of_check pok (form8_c _ _ _ _ _) (by simp [allOf, nameOf, ofOf, hasN, hasV, hasW]))
      · exact form_lit (holds_of_check pok (form9_c _ _ _ _ _) (by simp [allOf, nameOf, ofOf, hasN, hasV, hasW]))
      · exact form_lit (holds_of_check pok (form10_c _ _ _ _ _) (by simp [allOf, nameOf, ofOf, hasN, hasV, hasW]))
      · exact form_lit (holds_of_check pok (form11_c _ _ _ _ _) (by simp [allOf, nameOf, ofOf, hasN, hasV, hasW]))
      · exact form_lit (holds_of_check pok (form12_c _ _ _ _ _) (by simp [allOf, nameOf, ofOf, hasN, hasV, hasW]))

end Go.OpP
