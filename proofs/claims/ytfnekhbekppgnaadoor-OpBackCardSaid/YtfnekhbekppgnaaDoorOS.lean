/- Proved: for every pair of operations the law OpBack returns true and its arguments read afterwards as before, in every world that holds the listed package-level variables; no further condition. -/
import Derived.Test.YtfnekhbekppgnaaDoorOR
namespace Go.OpP
open Go.Eng Go.ChangeShapes Go.WideShapes Go.ChangeAt Go.RowKit
open Go.Proofs
open Go.Proofs.YtfnekhbekppgnaaDoor

/-! The row and the card of OpBack. -/

set_option maxRecDepth 100000 in
theorem back_contract (H : Type) (enc : TypeId × Value → H) (W : World) (base : Nat) (args : Array Value) (ds gs : List (DataW H)) (before : List MemPlace)
    (hval : ∀ (j : Nat) t v, Tryd.f5.params[j]? = some t → args[j]? = some v → Value.okWide P0 W .any base t v)
    (hW : DataW.Whole enc P0 Tryd.f5.params.toList Rows.opBackSpec.vars false W args.toList ds gs before) (hL : laidMetH P0 laidAll W) (hsh : W.ShapedOpen P0) :
    Calls P0 5 args W fun e W' => ∃ v, e = .returned v ∧ Rows.opBackSpec.post enc P0 Tryd.f5 false true false false W args v W' := by
  have hW' := hW
  obtain ⟨p, q, hA0, hV, rfl, hfz, hnd⟩ := hW
  have hA : DataW.TrodAll enc P0 W 0 (fun _ => true) true Tryd.f5.params.toList args.toList ds p := hA0
  rw [Tryd.params5] at hA hval
  obtain ⟨v0, v1, d0, d1, p0, p1, rfl, rfl, rfl, h0, h1⟩ := trodAll_two hA
  obtain ⟨rfl, rfl⟩ := trodVars_none hV
  obtain ⟨a, wa, rfl, rfl, rfl⟩ := open_op (hval 0 24 v0 rfl rfl) h0
  obtain ⟨b, wb, rfl, rfl, rfl⟩ := open_op (hval 1 24 v1 rfl rfl) h1
  have walk := calls_of (globOk_of hsh hL) (fun g => @sBack g a.k a.f a.a a.n a.v a.w b.k b.f b.a b.n b.v b.w) (fun _ => rfl) (fun _ => rfl) (fun _ => rfl) 5 (fun _ => rfl)
    (fun g => @backH g a b wa.in wb.in) (vs := [opVal a, opVal b]) (fun _ => ⟨⟨_, rfl, rfl, rfl, rfl, rfl, rfl, rfl, trivial⟩, ⟨_, rfl, rfl, rfl, rfl, rfl, rfl, rfl, trivial⟩, trivial⟩)
  refine walk.mono fun e W' ⟨he, hg⟩ => ?_
  subst he
  refine ⟨_, rfl, _, _, _, [], [], [], hW', ?_, ?_, rfl, kept_of hg _, fun h => by cases h⟩
  · exact trodAll_cons_mk (shut_bool Tryd.underlying4 _) trodAll_mk0
  · exact trodAll_mk2 (shut_op wa) (shut_op wb)

theorem back_reads (os : Os) {H : Type} (enc : TypeId × Value → H) : ∃ places, DataW.whole enc P0 ((laidWorld os).forCall (fun _ _ => 0) ⟨#[], #[opVal zeroOp, opVal zeroOp], []⟩).memory Tryd.f5.params.toList Rows.opBackSpec.vars false #[opVal zeroOp, opVal zeroOp].toList 8 = some ([opData zeroOp, opData zeroOp], [], places) :=
  ⟨[], by kernel_rfl⟩

set_option maxRecDepth 100000 in
theorem back_lifted (os : Os) (started : os.Started) (H : Type) (enc : TypeId × Value → H) (F : Stop.Interp) :
    ReturnsInHanded {} Tryd.checked os 5 .any ((OpenSpec.ofChange Rows.opBackSpec).preRow enc P0 Tryd.f5 Rows.opBackRow.domain false Rows.opBackRow.laid) (((OpenSpec.ofChange Rows.opBackSpec).at F).post enc P0 Tryd.f5 false true false false) := by
  obtain ⟨places, hx⟩ := back_reads os enc
  refine returnsInHanded_of_row (C := Tryd.checked) (s := OpenSpec.ofChange Rows.opBackSpec) own started (by kernel_rfl) Tryd.func5
    (witness_row_atRef (enc := enc) (C := Tryd.checked) false (laidWorld os) #[opVal zeroOp, opVal zeroOp] rfl (by kernel_rfl) (by kernel_rfl) (by kernel_rfl)
      (OpenSpec.preRow_of_cond 8 hx (by kernel_rfl) (fun k hk => by cases hk) (by kernel_rfl) (laid_met os _))) ?_
  intro W base args ds gs before hval hW _ _ _ hL hsh _
  exact back_contract H enc W base args ds gs before hval hW hL hsh

theorem back_said : Rows.OpBackSaid :=
  OpenClaim.holds_of_cond 5 Tryd.f5 rfl rfl rfl rfl rfl rfl rfl ⟨rfl, rfl, rfl, rfl, rfl⟩ rfl rfl rfl rfl rfl (by kernel_rfl) Tryd.func5 (by kernel_rfl)
    (of_decide_eq_true (by kernel_rfl)) (by unfold Func.isWrapper; first | (rw [if_pos (by decide +kernel)]; kernel_rfl) | (rw [if_neg (by decide +kernel)]; exact ⟨rfl, rfl⟩))
    (fun os started H enc _ F => by rw [OpenClaim.pre_eq_preRow]; exact back_lifted os started H enc F)

theorem back_card : Rows.OpBackCardSaid :=
  Claim7.holds_tied_plain_at .later [] _ _ _ _ back_said (fun _ h => by cases h) (by kernel_rfl) (fun _ h => by cases h) opBack_row_tie rfl ⟨rfl, rfl⟩ (by kernel_rfl) rfl
    (plain_of (f := 5) (fn0 := Tryd.f5) (by kernel_rfl) Tryd.func5 (by rw [Tryd.params5]; intro t ht; simp at ht; exact .inl ht)) (by kernel_rfl)
end Go.OpP

namespace Go.Proofs.YtfnekhbekppgnaaDoor
/-- The card of OpBack. -/
theorem opBack_card : Rows.OpBackCardSaid := Go.OpP.back_card
end Go.Proofs.YtfnekhbekppgnaaDoor
