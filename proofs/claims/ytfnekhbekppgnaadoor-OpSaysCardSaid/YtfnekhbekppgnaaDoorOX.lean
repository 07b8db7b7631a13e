/- Proved: for every operation the law OpSays returns true and its arguments read afterwards as before, in every world that holds the listed package-level variables; no further condition. -/
import Derived.Test.YtfnekhbekppgnaaDoorOW
import Derived.Test.YtfnekhbekppgnaaDoorOR
namespace Go.OpP
open Go.Eng Go.ChangeShapes Go.WideShapes Go.ChangeAt Go.RowKit
open Go.Proofs
open Go.Proofs.YtfnekhbekppgnaaDoor

/-! The row and the card of OpSays. -/

theorem WfOp.fits {o : Op6} (h : WfOp o) : Fits o.f o.a o.n o.v o.w := by
  obtain ⟨f0, f1⟩ := bounds_i64 h.f
  obtain ⟨a0, a1⟩ := bounds_i64 h.a
  obtain ⟨n0, n1⟩ := bounds_i64 h.n
  have hi := h.in
  exact ⟨f0, f1, a0, a1, n0, n1, hi.v0, hi.v1, hi.w0, hi.w1⟩

set_option maxRecDepth 100000 in
theorem says_contract (H : Type) (enc : TypeId × Value → H) (W : World) (base : Nat) (args : Array Value) (ds gs : List (DataW H)) (before : List MemPlace)
    (hval : ∀ (j : Nat) t v, Tryd.f3.params[j]? = some t → args[j]? = some v → Value.okWide P0 W .any base t v)
    (hW : DataW.Whole enc P0 Tryd.f3.params.toList Rows.opSaysSpec.vars false W args.toList ds gs before) (hL : laidMetH P0 laidAll W) (hsh : W.ShapedOpen P0) :
    Calls P0 3 args W fun e W' => ∃ v, e = .returned v ∧ Rows.opSaysSpec.post enc P0 Tryd.f3 false true false false W args v W' := by
  have hW' := hW
  obtain ⟨p, q, hA0, hV, rfl, hfz, hnd⟩ := hW
  have hA : DataW.TrodAll enc P0 W 0 (fun _ => true) true Tryd.f3.params.toList args.toList ds p := hA0
  rw [Tryd.params3] at hA hval
  obtain ⟨v0, d0, rfl, rfl, h0⟩ := trodAll_one hA
  obtain ⟨rfl, rfl⟩ := trodVars_none hV
  obtain ⟨a, wa, rfl, rfl, rfl⟩ := open_op (hval 0 24 v0 rfl rfl) h0
  have walk := calls_of (globOk_of hsh hL) (fun g => @sSays g a.k a.f a.a a.n a.v a.w) (fun _ => rfl) (fun _ => rfl) (fun _ => rfl) 3 (fun _ => rfl)
    (fun g => @saysH g a wa.in wa.fits) (vs := [opVal a]) (fun _ => ⟨⟨_, rfl, rfl, rfl, rfl, rfl, rfl, rfl, trivial⟩, trivial⟩)
  refine walk.mono fun e W' ⟨he, hg⟩ => ?_
  subst he
  refine ⟨_, rfl, _, _, _, [], [], [], hW', ?_, ?_, rfl, kept_of hg _, fun h => by cases h⟩
  · exact trodAll_cons_mk (shut_bool Tryd.underlying4 _) trodAll_mk0
  · exact trodAll_mk1 (shut_op wa)

theorem says_reads (os : Os) {H : Type} (enc : TypeId × Value → H) : ∃ places, DataW.whole enc P0 ((laidWorld os).forCall (fun _ _ => 0) ⟨#[], #[opVal zeroOp], []⟩).memory Tryd.f3.params.toList Rows.opSaysSpec.vars false #[opVal zeroOp].toList 8 = some ([opData zeroOp], [], places) :=
  ⟨[], by kernel_rfl⟩

set_option maxRecDepth 100000 in
theorem says_lifted (os : Os) (started : os.Started) (H : Type) (enc : TypeId × Value → H) (F : Stop.Interp) :
    ReturnsInHanded {} Tryd.checked os 3 .any ((OpenSpec.ofChange Rows.opSaysSpec).preRow enc P0 Tryd.f3 Rows.opSaysRow.domain false Rows.opSaysRow.laid) (((OpenSpec.ofChange Rows.opSaysSpec).at F).post enc P0 Tryd.f3 false true false false) := by
  obtain ⟨places, hx⟩ := says_reads os enc
  refine returnsInHanded_of_row (C := Tryd.checked) (s := OpenSpec.ofChange Rows.opSaysSpec) own started (by kernel_rfl) Tryd.func3
    (witness_row_atRef (enc := enc) (C := Tryd.checked) false (laidWorld os) #[opVal zeroOp] rfl (by kernel_rfl) (by kernel_rfl) (by kernel_rfl)
      (OpenSpec.preRow_of_cond 8 hx (by kernel_rfl) (fun k hk => by cases hk) (by kernel_rfl) (laid_met os _))) ?_
  intro W base args ds gs before hval hW _ _ _ hL hsh _
  exact says_contract H enc W base args ds gs before hval hW hL hsh

theorem says_said : Rows.OpSaysSaid :=
  OpenClaim.holds_of_cond 3 Tryd.f3 rfl rfl rfl rfl rfl rfl rfl ⟨rfl, rfl, rfl, rfl, rfl⟩ rfl rfl rfl rfl rfl (by kernel_rfl) Tryd.func3 (by kernel_rfl)
    (of_decide_eq_true (by kernel_rfl)) (by unfold Func.isWrapper; first | (rw [if_pos (by decide +kernel)]; kernel_rfl) | (rw [if_neg (by decide +kernel)]; exact ⟨rfl, rfl⟩))
    (fun os started H enc _ F => by rw [OpenClaim.pre_eq_preRow]; exact says_lifted os started H enc F)

theorem says_card : Rows.OpSaysCardSaid :=
  Claim7.holds_tied_plain_at .later [] _ _ _ _ says_said (fun _ h => by cases h) (by kernel_rfl) (fun _ h => by cases h) opSays_row_tie rfl ⟨rfl, rfl⟩ (by kernel_rfl) rfl
    (plain_of (f := 3) (fn0 := Tryd.f3) (by kernel_rfl) Tryd.func3 (by rw [Tryd.params3]; intro t ht; simp at ht; exact .inl ht)) (by kernel_rfl)
end Go.OpP

namespace Go.Proofs.YtfnekhbekppgnaaDoor
/-- The card of OpSays. -/
theorem opSays_card : Rows.OpSaysCardSaid := Go.OpP.says_card
end Go.Proofs.YtfnekhbekppgnaaDoor
