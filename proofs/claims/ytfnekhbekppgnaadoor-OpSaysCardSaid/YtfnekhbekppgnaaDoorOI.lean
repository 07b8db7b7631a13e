import Derived.Test.YtfnekhbekppgnaaDoorOH
namespace Go.OpP
open Go.Eng

def sNumber (v n r : Int) : Eng.Spec := { f := 20, k := 0, m := 5, args := [.int .i64 v, .int .i64 n], pre := [], ret := .int .i64 r, post := [] }

theorem numberA_c (v n r : Int) : check P0 300 10 (sNumber v n r) [.br false] = some [Int.tmod v n = r, decide (Int.tmod v n < (0 : Int)) = false, ¬n = (0 : Int)] := by kernel_rfl

theorem numberB_c (v n r : Int) : check P0 300 10 (sNumber v n r) [.br true] = some [Int.tmod v n + n = r, In64 (Int.tmod v n + n), decide (Int.tmod v n < (0 : Int)) = true, ¬n = (0 : Int)] := by kernel_rfl

def numB (v n : Int) : Int := if v.tmod n < 0 then v.tmod n + n else v.tmod n

theorem numB_range (v n : Int) (hn : 0 < n) : 0 ≤ numB v n ∧ numB v n < n := by
  unfold numB
  have h1 := Int.tmod_lt_of_pos v hn
  have h2 : -n < v.tmod n := by
    have := Int.lt_tmod_of_pos v hn
    omega
  split <;> omega

theorem numberH [GG] (v n : Int) (hn : 0 < n) (hn2 : n ≤ 9223372036854775807) : (sNumber v n (numB v n)).Holds P0 := by
  have h1 := Int.tmod_lt_of_pos v hn
  have h2 := Int.lt_tmod_of_pos v hn
  unfold numB
  by_cases h : v.tmod n < 0
  · rw [if_pos h]
    refine holds_of_check pok (numberB_c v n _) ?_
    simp only [allOf, In64, decide_eq_true_eq]
    and_intros <;> first | trivial | rfl | omega
  · rw [if_neg h]
    refine holds_of_check pok (numberA_c v n _) ?_
    simp only [allOf, In64, decide_eq_false_iff_not]
    and_intros <;> first | trivial | rfl | omega

end Go.OpP
