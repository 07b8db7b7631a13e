import Derived.Test.YtfnekhbekppgnaaDoorOJ
import Derived.Test.YtfnekhbekppgnaaDoorOI
namespace Go.OpP
open Go.Eng

/-! The chapter's example. -/

def tt : SV := .con (.bool true)
def sFirst [GG] : Eng.Spec := { f := 8, k := 1, m := 1200, args := [], pre := G, ret := tt, post := G }

theorem first_c [GG] (t : List UInt8) (k f a n v w : Int) : check P0 300 10 sFirst [.call (sPut 7 0 1 3 77 0 t 0) [0], .call (sGet t k f a n v w 0) [0], .br true, .br true, .br true, .br true, .call (sMay 7 0 1 3 77 0 true) [], .br true, .call (sOf 5 3) []] = some [true = true, Glob = Glob, Spec.Holds P0 (sOf (5 : Int) (3 : Int)), (5 : Int) = (5 : Int), true = true,
    Spec.Holds P0 (sMay (7 : Int) (0 : Int) (1 : Int) (3 : Int) (77 : Int) (0 : Int) true), (7 : Int) = (7 : Int),
    (0 : Int) = (0 : Int), (1 : Int) = (1 : Int), (3 : Int) = (3 : Int), (77 : Int) = (77 : Int), (0 : Int) = (0 : Int),
    true = true,
    (k == (7 : Int) &&
        (f == (0 : Int) && (a == (1 : Int) && (n == (3 : Int) && (v == (77 : Int) && (w == (0 : Int) && true)))))) =
      true,
    true = true,
    (t ==
        [{ toBitVec := { toFin := ⟨(115 : Nat), Nat.mod_lt (115 : Nat) (BitVec.ofNat._proof_1 (8 : Nat))⟩ } },
          { toBitVec := { toFin := ⟨(116 : Nat), Nat.mod_lt (116 : Nat) (BitVec.ofNat._proof_1 (8 : Nat))⟩ } },
          { toBitVec := { toFin := ⟨(111 : Nat), Nat.mod_lt (111 : Nat) (BitVec.ofNat._proof_1 (8 : Nat))⟩ } },
          { toBitVec := { toFin := ⟨(114 : Nat), Nat.mod_lt (114 : Nat) (BitVec.ofNat._proof_1 (8 : Nat))⟩ } },
          { toBitVec := { toFin := ⟨(101 : Nat), Nat.mod_lt (101 : Nat) (BitVec.ofNat._proof_1 (8 : Nat))⟩ } },
          { toBitVec := { toFin := ⟨(32 : Nat), Nat.mod_lt (32 : Nat) (BitVec.ofNat._proof_1 (8 : Nat))⟩ } },
          { toBitVec := { toFin := ⟨(48 : Nat), Nat.mod_lt (48 : Nat) (BitVec.ofNat._proof_1 (8 : Nat))⟩ } },
          { toBitVec := { toFin := ⟨(46 : Nat), Nat.mod_lt (46 : Nat) (BitVec.ofNat._proof_1 (8 : Nat))⟩ } },
          { toBitVec := { toFin := ⟨(49 : Nat), Nat.mod_lt (49 : Nat) (BitVec.ofNat._proof_1 (8 : Nat))⟩ } },
          { toBitVec := { toFin := ⟨(32 : Nat), Nat.mod_lt (32 : Nat) (BitVec.ofNat._proof_1 (8 : Nat))⟩ } },
          { toBitVec := { toFin := ⟨(51 : Nat), Nat.mod_lt (51 : Nat) (BitVec.ofNat._proof_1 (8 : Nat))⟩ } },
          { toBitVec := { toFin := ⟨(32 : Nat), Nat.mod_lt (32 : Nat) (BitVec.ofNat._proof_1 (8 : Nat))⟩ } },
          { toBitVec := { toFin := ⟨(55 : Nat), Nat.mod_lt (55 : Nat) (BitVec.ofNat._proof_1 (8 : Nat))⟩ } },
          { toBitVec := { toFin := ⟨(55 : Nat), Nat.mod_lt (55 : Nat) (BitVec.ofNat._proof_1 (8 : Nat))⟩ } }]) =
      true,
    Spec.Holds P0 (sGet t k f a n v w (0 : Int)), t = t, Glob = Glob,
    Spec.Holds P0 (sPut (7 : Int) (0 : Int) (1 : Int) (3 : Int) (77 : Int) (0 : Int) t (0 : Int)),
    (7 : Int) = (7 : Int), (0 : Int) = (0 : Int), (1 : Int) = (1 : Int), (3 : Int) = (3 : Int), (77 : Int) = (77 : Int),
    (0 : Int) = (0 : Int), Glob = Glob] := by kernel_rfl

theorem dec_small (u : Nat) (h : u < 10) : Lib.decDigits u = [UInt8.ofNat (48 + u)] := by rw [Lib.decDigits, dif_pos h]

def o77 : Op6 := ⟨7, 0, 1, 3, 77, 0⟩
theorem o77_text [GG] : o77.text = [115, 116, 111, 114, 101, 32, 48, 46, 49, 32, 51, 32, 55, 55] := by
  have e77 : Lib.decDigits 77 = [55, 55] := by
    rw [Lib.decDigits, dif_neg (by omega), dec_small 7 (by omega)]
    rfl
  have e3 : Lib.itoa 3 = [51] := by rw [itoa_nat 3 (by omega), dec_small _ (by decide)]; rfl
  have e0 : Lib.itoa 0 = [48] := by rw [itoa_nat 0 (by omega), dec_small _ (by decide)]; rfl
  have e1 : Lib.itoa 1 = [49] := by rw [itoa_nat 1 (by omega), dec_small _ (by decide)]; rfl
  unfold Op6.text putT putWs o77
  simp only [e0, e1, e3, show (77 : Int).toNat = 77 by rfl, e77]
  decide

theorem firstH [GG] : sFirst.Holds P0 := by
  have hmay : o77.may = true := by decide
  have hin : o77.In := ⟨by decide, by decide, by decide, by decide⟩
  have hp := parse_text o77 hmay hin
  have hput := putH 7 0 1 3 77 0 ⟨by decide, by decide, by decide, by decide, by decide, by decide, by decide, by decide, by decide, by decide⟩
  have e1 : putR 7 0 1 3 77 0 = o77.text := by unfold putR; rw [if_pos (show mayB 7 0 1 3 77 0 = true from hmay)]; rfl
  have e2 : putC 7 0 1 3 77 0 = 0 := by unfold putC; rw [if_pos (show mayB 7 0 1 3 77 0 = true from hmay)]
  rw [e1, e2] at hput
  have hget := getH_ o77.text (by rw [o77_text]; decide) o77 0 (.inl ⟨by rw [hp]; exact hmay, by rw [hp], hp.symm, rfl⟩)
  have hm := mayH 7 0 1 3 77 0
  rw [show mayB 7 0 1 3 77 0 = true from hmay] at hm
  have ho := ofH 5
  rw [show ofOf 5 = 3 by decide] at ho
  refine holds_of_check pok (first_c o77.text 7 0 1 3 77 0) ?_
  simp only [allOf]
  and_intros <;> first | trivial | rfl | assumption | (rw [o77_text]; decide) | decide

end Go.OpP
