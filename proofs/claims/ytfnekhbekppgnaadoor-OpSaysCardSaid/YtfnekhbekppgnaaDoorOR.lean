import Derived.Test.YtfnekhbekppgnaaDoorON
import Derived.Test.YtfnekhbekppgnaaDoorCards
import Derived.Test.YtfnekhbekppgnaaDoorTie
import Derived.WalkKit
import Derived.ProofKit
import Derived.OpenShut
import Derived.Deep.DeepHandedRow
import Derived.Deep.DeepWitnessRowRef
import Derived.Lib.LaidTab
import Derived.Stop.LaidErr
import Derived.Shelf.Vars
import Derived.Lib.SmallJoins
import Derived.Lib.LaidU8
import Derived.Lib.DecodeN
namespace Go.OpP
open Go.Eng Go.ChangeShapes Go.WideShapes Go.ChangeAt Go.RowKit
open Go.Proofs
open Go.Proofs.YtfnekhbekppgnaaDoor

theorem own : ownKnob P0.godebug = none := by kernel_rfl
theorem star : "*" ++ "errors.errorString" = "*errors.errorString" := by decide
theorem row115 (u : TypeId) (h : P0.typeName? 3 u = some "*errors.errorString") : u = 115 :=
  typeName_ptr_named (nm := "errors.errorString") (by rw [star]; kernel_rfl) (by kernel_rfl) (by decide) u (by rw [star]; exact h)

/-- What the five rows list. -/
noncomputable def laidAll : List (String × DataW Unit) := Rows.opBackRow.laid

/-- What the row's list and the world's shape give. -/
theorem globOk_of {W : World} (hsh : W.ShapedOpen P0) (hL : laidMet P0 laidAll W) : GlobOk W := by
  have h1 := hL.tail
  have h2 := h1.tail
  have h3 := h2.tail
  have h4 := h3.tail
  have h5 := h4.tail
  have hg : P0.globalNamed "internal/strconv.uint64pow10" = some 0 := by kernel_rfl
  have ht : Lib.TabIs P0 W "internal/strconv.uint64pow10" .u64 Lib.pow10Tab :=
    Lib.tabIs_of_head hg (by kernel_rfl) Tryd.underlying97 Tryd.underlying22 (by kernel_rfl) (by kernel_rfl) h2
  obtain ⟨a3, s3, hv3, _⟩ := laid_sentinel (g := 3) h4 (by kernel_rfl) (by kernel_rfl) Tryd.underlying59 row115 Tryd.underlying115 Tryd.underlying117 rfl rfl Tryd.underlying9 (by kernel_rfl) (by kernel_rfl)
  obtain ⟨a2, s2, hv2, _⟩ := laid_sentinel (g := 2) h5 (by kernel_rfl) (by kernel_rfl) Tryd.underlying59 row115 Tryd.underlying115 Tryd.underlying117 rfl rfl Tryd.underlying9 (by kernel_rfl) (by kernel_rfl)
  have c3 := World.var?_cell (show P0.globalNamed "strconv.ErrRange" = some 3 by kernel_rfl) hv3 0
  have c2 := World.var?_cell (show P0.globalNamed "strconv.ErrSyntax" = some 2 by kernel_rfl) hv2 0
  refine ⟨?_, ?_, ⟨_, by simpa using c2, .inr ⟨_, _, rfl⟩⟩, ⟨_, by simpa using c3, .inr ⟨_, _, rfl⟩⟩⟩
  · unfold Lib.TabIs World.var? at ht
    rw [hg] at ht
    simp only [Option.bind_some] at ht
    split at ht
    · rename_i cs t fr hh
      simp only [Option.some.injEq] at ht
      exact ⟨t, fr, by rw [hh, ht]⟩
    · cases ht
  · exact cell_of_shapedOpen_int (P := P0) (g := 1) (t := 3) (zero := #[.int .i64 0]) hsh (of_decide_eq_true (by kernel_rfl)) (by kernel_rfl) rfl (by kernel_rfl) (by kernel_rfl) Tryd.underlying3

def opVal (o : Op6) : Value := .agg #[.int .i64 o.k, .int .i64 o.f, .int .i64 o.a, .int .i64 o.n, .int .u64 o.v, .int .u64 o.w]
def opData {H : Type} (o : Op6) : DataW H := .agg [.lit (.int .i64 o.k), .lit (.int .i64 o.f), .lit (.int .i64 o.a), .lit (.int .i64 o.n), .lit (.int .u64 o.v), .lit (.int .u64 o.w)]

structure WfOp (o : Op6) : Prop where
  k : (Lit.int .i64 o.k).wf = true
  f : (Lit.int .i64 o.f).wf = true
  a : (Lit.int .i64 o.a).wf = true
  n : (Lit.int .i64 o.n).wf = true
  v : (Lit.int .u64 o.v).wf = true
  w : (Lit.int .u64 o.w).wf = true

theorem WfOp.in {o : Op6} (h : WfOp o) : o.In := by
  obtain ⟨v0, v1⟩ := bounds_u64 h.v
  obtain ⟨w0, w1⟩ := bounds_u64 h.w
  exact ⟨v0, by omega, w0, by omega⟩

theorem cells24 : P0.cellsOf 24 = 6 := by kernel_rfl
theorem cells3 : P0.cellsOf 3 = 1 := by kernel_rfl
theorem cells22 : P0.cellsOf 22 = 1 := by kernel_rfl

section
variable {H : Type} {enc : TypeId × Value → H} {W : World} {base : Nat} {spare : Nat → Bool} {held : Bool}

theorem list6 {α : Type} : ∀ {l : List α}, l.length = 6 → ∃ a b c d e f, l = [a, b, c, d, e, f]
  | [a, b, c, d, e, f], _ => ⟨a, b, c, d, e, f, rfl⟩

set_option maxRecDepth 100000 in
theorem open_op {b : Nat} {v : Value} {d : DataW H} {p : List MemPlace} (hv : Value.okWide P0 W .any b 24 v) (h : DataW.Trod enc P0 W base spare held 24 v d p) :
    ∃ o : Op6, WfOp o ∧ v = opVal o ∧ d = opData o ∧ p = [] := by
  obtain ⟨cs, rfl, hsz⟩ := okWide_struct Tryd.underlying24 hv
  obtain ⟨l⟩ := cs
  obtain ⟨c0, c1, c2, c3, c4, c5, rfl⟩ := list6 (hsz.trans cells24)
  obtain ⟨fuel, hf⟩ := h
  obtain ⟨xs, m, _, hx, _, hlen, hg⟩ := DataW.trod_struct Tryd.underlying24 hf
  obtain ⟨y0, y1, y2, y3, y4, y5, rfl⟩ := list6 hlen
  have g0 := hg 0 _ rfl
  have g1 := hg 1 _ rfl
  have g2 := hg 2 _ rfl
  have g3 := hg 3 _ rfl
  have g4 := hg 4 _ rfl
  have g5 := hg 5 _ rfl
  clear hg hf
  simp only [Value.cells, cells3, cells22, List.drop, List.take] at g0 g1 g2 g3 g4 g5
  obtain ⟨k, e0, rfl, w0⟩ := DataW.trod_int Tryd.underlying3 g0
  obtain ⟨f, e1, rfl, w1⟩ := DataW.trod_int Tryd.underlying3 g1
  obtain ⟨a, e2, rfl, w2⟩ := DataW.trod_int Tryd.underlying3 g2
  obtain ⟨n, e3, rfl, w3⟩ := DataW.trod_int Tryd.underlying3 g3
  obtain ⟨v, e4, rfl, w4⟩ := DataW.trod_int Tryd.underlying22 g4
  obtain ⟨w, e5, rfl, w5⟩ := DataW.trod_int Tryd.underlying22 g5
  cases e0
  cases e1
  cases e2
  cases e3
  cases e4
  cases e5
  simp only [Prod.mk.injEq] at hx
  exact ⟨⟨k, f, a, n, v, w⟩, ⟨w0, w1, w2, w3, w4, w5⟩, rfl, hx.1, hx.2⟩

theorem shut_op {o : Op6} (h : WfOp o) : DataW.Trod enc P0 W base spare held 24 (opVal o) (opData o) [] := by
  obtain ⟨w0, w1, w2, w3, w4, w5⟩ := h
  refine ⟨2, ?_⟩
  simp [DataW.trod, opVal, opData, Value.cells, Tryd.underlying24, cells24, cells3, cells22, Tryd.underlying3, Tryd.underlying22, w0, w1, w2, w3, w4, w5]

end

theorem kept_of {W W' : World} (h : Olds W W') (may : MemPlace → Prop) : W.keptBut W' may := by
  obtain ⟨_, hb, ho, hp⟩ := h
  refine ⟨ho, hp, fun i hi => ?_⟩
  rw [hb i hi]
  cases W.heap[i]? with
  | none => rfl
  | some o =>
    cases o with
    | cells c t fr => exact ⟨rfl, rfl, rfl, fun _ _ => rfl⟩
    | map es cl => exact .inr ⟨rfl, rfl⟩
    | _ => rfl

/-- What a law's walk gives at the row's world. -/
theorem calls_of {W : World} (hG : GlobOk W) (S : GG → Eng.Spec) (hpre : ∀ g, (S g).pre = @G g) (hpost : ∀ g, (S g).post = @G g) (hret : ∀ g, (S g).ret = tt) (f : Nat) (hf : ∀ g, (S g).f = f)
    (hS : ∀ g, (S g).Holds P0) {vs : List Value} (hvs : ∀ g, SV.RL (fun _ => none) (S g).args vs) :
    Calls P0 f vs.toArray W fun e W' => e = .returned (.bool true) ∧ Olds W W' := by
  let g : GG := ⟨fun b => W.heap[b]?⟩
  have h := hS g
  unfold Eng.Spec.Holds at h
  rw [hpre g, hpost g, hret g, hf g] at h
  have hlt : ∀ b ∈ [0, 1, 2, 3], b < W.heap.size := Glob.lt [] [0, 1, 2, 3] W ⟨rfl, hG, fun _ _ => rfl⟩
  have hat : At (fun _ => none) W (@G g) (fun b => 4 ≤ b ∧ b < W.heap.size) := by
    refine ⟨⟨[0, 1, 2, 3], ⟨[0, 1, 2, 3], [], rfl, ⟨rfl, hG, fun _ _ => rfl⟩, rfl⟩, by decide, ?_⟩, fun b hb => hb.2⟩
    intro b hb hc
    simp only [List.mem_cons, List.not_mem_nil, or_false] at hb
    omega
  refine (h _ _ W vs (hvs g) hat (fun _ _ _ => rfl)).mono ?_
  rintro _ w' ⟨e', v, rfl, _, hv, hat', hk⟩
  refine ⟨by simp only [tt, SV.R] at hv; rw [hv], hk.2.1, fun b hb => ?_, hk.2.2.1, hk.2.2.2⟩
  by_cases h4 : 4 ≤ b
  · exact hk.1 b ⟨h4, hb⟩
  · obtain ⟨bs, hE, _⟩ := hat'.take (show Eng.look (@G g) 0 = some (.abs (@Glob g) []) from rfl)
    exact hE.2.2 b (by omega)

/-- A world for the witness. -/
noncomputable def laidWorld (os : Os) : World :=
  let N := (World.settled P0 os).heap.size
  let w0 := World.holding P0 os ⟨#[.cells #[.string ⟨#[118, 97, 108, 117, 101, 32, 111, 117, 116, 32, 111, 102, 32, 114, 97, 110, 103, 101]⟩] 117, .cells #[.string ⟨#[105, 110, 118, 97, 108, 105, 100, 32, 115, 121, 110, 116, 97, 120]⟩] 117], #[], []⟩
  let put (h : Array Obj) (g : Nat) (cs : Array Value) : Array Obj := h.modify g fun
    | .cells _ t frozen => .cells cs t frozen
    | o => o
  let h0 := put (put w0.heap 3 #[.iface 115 (.pointer (some ⟨N, 0, none⟩))]) 2 #[.iface 115 (.pointer (some ⟨N + 1, 0, none⟩))]
  let h1 := put h0 0 (Lib.pow10Tab.map fun z => Value.int .u64 z).toArray
  let h2 := put h1 4 (([0, 1, 28, 2, 29, 14, 24, 3, 30, 22, 20, 15, 25, 17, 4, 8, 31, 27, 13, 23, 21, 19, 16, 7, 26, 12, 18, 6, 11, 5, 10, 9] : List Int).map fun z => Value.int .u8 z).toArray
  let h3 := put h2 5 (([0, 1, 56, 2, 57, 49, 28, 3, 61, 58, 42, 50, 38, 29, 17, 4, 62, 47, 59, 36, 45, 43, 51, 22, 53, 39, 33, 30, 24, 18, 12, 5, 63, 55, 48, 27, 60, 41, 37, 16, 46, 35, 44, 21, 52, 32, 23, 11, 54, 26, 40, 15, 34, 20, 31, 10, 25, 14, 19, 9, 13, 8, 7, 6] : List Int).map fun z => Value.int .u8 z).toArray
  let h4 := put h3 6 (Lib.firstTab.map fun z => Value.int .u8 z).toArray
  let h5 := put h4 7 ((List.range 16).flatMap fun i => [Value.int .u8 (Lib.accLo i), Value.int .u8 (Lib.accHi i)]).toArray
  { w0 with heap := h5 }

theorem laid_met (os : Os) (args : Array Value) : laidMet P0 laidAll ((laidWorld os).forCall (fun _ _ => 0) ⟨#[], args, []⟩).memory :=
  laidMet_of_run' 8 (by kernel_rfl) (by kernel_rfl)

def zeroOp : Op6 := ⟨0, 0, 0, 0, 0, 0⟩

theorem plain_of {f : FuncId} {fn0 : Func} {nm : String} (hf0 : P0.funcNamed nm = some f) (hfn0 : P0.funcs[f]? = some fn0) (hp : ∀ t ∈ fn0.params, t = 24 ∨ t = 3 ∨ t = 5 ∨ t = 9)
    (g : FuncId) (fn : Func) (hf : Tryd.pinned.checked.prog.funcNamed nm = some g) (hfn : Tryd.pinned.checked.prog.funcs[g]? = some fn) :
    true = Tryd.pinned.checked.prog.looks [] ∧ ∀ (j : Nat) t, fn.params[j]? = some t → Tryd.pinned.checked.prog.wantsStandIn t = false := by
  obtain rfl : g = f := (Option.some.inj (hf0.symm.trans hf)).symm
  obtain rfl : fn = fn0 := (Option.some.inj (hfn0.symm.trans hfn)).symm
  refine ⟨by kernel_rfl, fun j t ht => ?_⟩
  rcases hp t (Array.mem_of_getElem? ht) with rfl | rfl | rfl | rfl
  · exact (show P0.wantsStandIn 24 = false by kernel_rfl)
  · exact (show P0.wantsStandIn 3 = false by kernel_rfl)
  · exact (show P0.wantsStandIn 5 = false by kernel_rfl)
  · exact (show P0.wantsStandIn 9 = false by kernel_rfl)

end Go.OpP
