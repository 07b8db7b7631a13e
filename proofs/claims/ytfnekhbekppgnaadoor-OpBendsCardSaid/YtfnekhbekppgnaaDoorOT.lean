/- Proved: for every operation, every integer and every byte the law OpBends returns true and its arguments read afterwards as before, in every world that holds the listed package-level variables; no further condition. -/
import Derived.Test.YtfnekhbekppgnaaDoorOP
import Derived.Test.YtfnekhbekppgnaaDoorOR
namespace Go.OpP
open Go.Eng Go.ChangeShapes Go.WideShapes Go.ChangeAt Go.RowKit
open Go.Proofs
open Go.Proofs.YtfnekhbekppgnaaDoor

/-! The row and the card of OpBends. -/

set_option maxRecDepth 100000 in
theorem bends_contract (H : Type) (enc : TypeId × Value → H) (W : World) (base : Nat) (args : Array Value) (ds gs : List (DataW H)) (before : List MemPlace)
    (hval : ∀ (j : Nat) t v, Tryd.f6.params[j]? = some t → args[j]? = some v → Value.okWide P0 W .any base t v)
    (hW : DataW.Whole enc P0 Tryd.f6.params.toList Rows.opBendsSpec.vars false W args.toList ds gs before) (hL : laidMetH P0 laidAll W) (hsh : W.ShapedOpen P0) :
    Calls P0 6 args W fun e W' => ∃ v, e = .returned v ∧ Rows.opBendsSpec.post enc P0 Tryd.f6 false true false false W args v W' := by
  have hW' := hW
  obtain ⟨p, q, hA0, hV, rfl, hfz, hnd⟩ := hW
  have hA : DataW.TrodAll enc P0 W 0 (fun _ => true) true Tryd.f6.params.toList args.toList ds p := hA0
  rw [Tryd.params6] at hA hval
  obtain ⟨v0, v1, v2, d0, d1, d2, p0, p1, p2, rfl, rfl, rfl, h0, h1, h2⟩ := trodAll_three hA
  obtain ⟨rfl, rfl⟩ := trodVars_none hV
  obtain ⟨a, wa, rfl, rfl, rfl⟩ := open_op (hval 0 24 v0 rfl rfl) h0
  obtain ⟨x, rfl, rfl, rfl, wx⟩ := open_int Tryd.underlying3 (hval 1 3 v1 rfl rfl) h1
  obtain ⟨c, rfl, rfl, rfl, wc⟩ := open_int Tryd.underlying5 (hval 2 5 v2 rfl rfl) h2
  obtain ⟨c0, c1⟩ := bounds_u8 wc
  have walk := calls_of (globOk_of hsh hL) (fun g => @sBends g a.k a.f a.a a.n a.v a.w x c) (fun _ => rfl) (fun _ => rfl) (fun _ => rfl) 6 (fun _ => rfl)
    (fun g => @bendsH g a wa.in x c c0 c1) (vs := [opVal a, .int .i64 x, .int .u8 c]) (fun _ => ⟨⟨_, rfl, rfl, rfl, rfl, rfl, rfl, rfl, trivial⟩, rfl, rfl, trivial⟩)
  refine walk.mono fun e W' ⟨he, hg⟩ => ?_
  subst he
  refine ⟨_, rfl, _, _, _, [], [], [], hW', ?_, ?_, rfl, kept_of hg _, fun h => by cases h⟩
  · exact trodAll_cons_mk (shut_bool Tryd.underlying4 _) trodAll_mk0
  · exact trodAll_mk3 (shut_op wa) (shut_int Tryd.underlying3 wx) (shut_int Tryd.underlying5 wc)

theorem bends_reads (os : Os) {H : Type} (enc : TypeId × Value → H) : ∃ places, DataW.whole enc P0 ((laidWorld os).forCall (fun _ _ => 0) ⟨#[], #[opVal zeroOp, .int .i64 0, .int .u8 0], []⟩).memory Tryd.f6.params.toList Rows.opBendsSpec.vars false #[opVal zeroOp, .int .i64 0, .int .u8 0].toList 8 = some ([opData zeroOp, .lit (.int .i64 0), .lit (.int .u8 0)], [], places) :=
  ⟨[], by kernel_rfl⟩

set_option maxRecDepth 100000 in
theorem bends_lifted (os : Os) (started : os.Started) (H : Type) (enc : TypeId × Value → H) (F : Stop.Interp) :
    ReturnsInHanded {} Tryd.checked os 6 .any ((OpenSpec.ofChange Rows.opBendsSpec).preRow enc P0 Tryd.f6 Rows.opBendsRow.domain false Rows.opBendsRow.laid) (((OpenSpec.ofChange Rows.opBendsSpec).at F).post enc P0 Tryd.f6 false true false false) := by
  obtain ⟨places, hx⟩ := bends_reads os enc
  refine returnsInHanded_of_row (C := Tryd.checked) (s := OpenSpec.ofChange Rows.opBendsSpec) own started (by kernel_rfl) Tryd.func6
    (witness_row_atRef (enc := enc) (C := Tryd.checked) false (laidWorld os) #[opVal zeroOp, .int .i64 0, .int .u8 0] rfl (by kernel_rfl) (by kernel_rfl) (by kernel_rfl)
      (OpenSpec.preRow_of_cond 8 hx (by kernel_rfl) (fun k hk => by cases hk) (by kernel_rfl) (laid_met os _))) ?_
  intro W base args ds gs before hval hW _ _ _ hL hsh _
  exact bends_contract H enc W base args ds gs before hval hW hL hsh

theorem bends_said : Rows.OpBendsSaid :=
  OpenClaim.holds_of_cond 6 Tryd.f6 rfl rfl rfl rfl rfl rfl rfl ⟨rfl, rfl, rfl, rfl, rfl⟩ rfl rfl rfl rfl rfl (by kernel_rfl) Tryd.func6 (by kernel_rfl)
    (of_decide_eq_true (by kernel_rfl)) (by unfold Func.isWrapper; first | (rw [if_pos (by decide +kernel)]; kernel_rfl) | (rw [if_neg (by decide +kernel)]; exact ⟨rfl, rfl⟩))
    (fun os started H enc _ F => by rw [OpenClaim.pre_eq_preRow]; exact bends_lifted os started H enc F)

theorem bends_card : Rows.OpBendsCardSaid :=
  Claim7.holds_tied_plain_at .later [] _ _ _ _ bends_said (fun _ h => by cases h) (by kernel_rfl) (fun _ h => by cases h) opBends_row_tie rfl ⟨rfl, rfl⟩ (by kernel_rfl) rfl
    (plain_of (f := 6) (fn0 := Tryd.f6) (by kernel_rfl) Tryd.func6 (by rw [Tryd.params6]; intro t ht; simp at ht; rcases ht with rfl | rfl | rfl <;> simp)) (by kernel_rfl)
end Go.OpP

namespace Go.Proofs.YtfnekhbekppgnaaDoor
/-- The card of OpBends. -/
theorem opBends_card : Rows.OpBendsCardSaid := Go.OpP.bends_card
end Go.Proofs.YtfnekhbekppgnaaDoor
