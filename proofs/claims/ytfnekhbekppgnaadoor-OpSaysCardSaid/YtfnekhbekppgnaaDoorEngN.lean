import Derived.Test.YtfnekhbekppgnaaDoorEngMc
namespace Go.Eng
variable {P : Program}

/-! Contracts at a call. -/

def Spec.Holds (P : Program) (S : Spec) : Prop := FnOk P S.f S.args S.pre S.ret S.post S.k (S.k + S.m)

def renOf (k : Nat) (ns : List Nat) (nx : Nat) (n : Nat) : Nat := if n < k then ns.getD n 0 else nx + (n - k)

def applySpec (P : Program) (S : Spec) (ns : List Nat) (args : List SV) (st : St) : Option (SV × St) :=
  if ns.length = S.k ∧ ns.all (fun n => decide (n < st.nx)) = true then
    match simL args (renL (renOf S.k ns st.nx) S.args), matchPre (renH (renOf S.k ns st.nx) S.pre) st.hp with
    | some ps, some (rest, qs) => some (renSV (renOf S.k ns st.nx) S.ret,
        { hp := renH (renOf S.k ns st.nx) S.post ++ rest, nx := st.nx + S.m, orc := st.orc, cs := S.Holds P :: (ps ++ qs ++ st.cs) })
    | _, _ => none
  else none

theorem HSat.append {e : Env} {w : World} : ∀ {σ τ : Heap} {bs cs : List Nat}, HSat e w σ bs → HSat e w τ cs → HSat e w (σ ++ τ) (bs ++ cs)
  | [], τ, bs, cs, h, h' => by
    have : bs = [] := h
    subst this
    simpa using h'
  | (n, E) :: σ, τ, bs, cs, ⟨b₁, b₂, h1, h2, h3⟩, h' => by
    subst h1
    exact ⟨b₁, b₂ ++ cs, by simp, h2, HSat.append h3 h'⟩

theorem applySpec_ok {S : Spec} {ns : List Nat} {args : List SV} {st st' : St} {s : SV} (h : applySpec P S ns args st = some (s, st')) :
    Mono st st' ∧ ((∀ p ∈ st'.cs, p) → FnOk P S.f args st.hp s st'.hp st.nx st'.nx) := by
  unfold applySpec at h
  split at h
  · rename_i hc
    obtain ⟨hlen, hall⟩ := hc
    split at h
    · rename_i ps rest qs h1 h2
      cases h
      refine ⟨⟨⟨S.Holds P :: (ps ++ qs), rfl⟩, by simp⟩, fun hp Fr e w vs hvs hat hfree => ?_⟩
      have hS : S.Holds P := hp _ List.mem_cons_self
      have hps : ∀ p ∈ ps, p := fun p hpp => hp p (by simp [hpp])
      have hqs : ∀ p ∈ qs, p := fun p hpp => hp p (by simp [hpp])
      simp only at hfree ⊢
      generalize hr : renOf S.k ns st.nx = r at h1 h2 ⊢
      have hr1 : ∀ n, n < S.k → r n < st.nx := by
        intro n hn
        rw [← hr]
        unfold renOf
        rw [if_pos hn]
        rw [List.all_eq_true] at hall
        have := hall (ns.getD n 0) (by rw [List.getD_eq_getElem?_getD, List.getElem?_eq_getElem (by omega)]; simp)
        simpa using this
      have hr2 : ∀ n, S.k ≤ n → r n = st.nx + (n - S.k) := by
        intro n hn
        rw [← hr]
        unfold renOf
        rw [if_neg (by omega)]
      have hargs := (renL_RL (r := r) (e := e) S.args vs).1 (simL_ok _ _ h1 hps hvs)
      obtain ⟨bs, g1, g2, g3, g4⟩ := matchPre_ok h2 hqs hat
      obtain ⟨cs, d1, d2, d3⟩ := g4.ex
      have hpre := (renH_sat (r := r)).1 g1
      have hatc : At (fun n => e (r n)) w S.pre (fun b => Fr b ∨ b ∈ cs) := by
        refine ⟨⟨bs, hpre, g2, fun b hb hc => ?_⟩, fun b hb => ?_⟩
        · rcases hc with hc | hc
          · exact g3 b hb hc
          · exact d3 b hc (.inr hb)
        · rcases hb with hb | hb
          · exact hat.fl b hb
          · exact d1.lt b hb
      have hfreec : Free S.k (S.k + S.m) (fun n => e (r n)) := by
        intro n hn1 hn2
        show e (r n) = none
        rw [hr2 n hn1]
        exact hfree _ (by omega) (by omega)
      refine (hS _ _ w vs hargs hatc hfreec).mono ?_
      rintro en w' ⟨ec, v, rfl, hx, hv, hat', hk⟩
      let e' : Env := fun n => if st.nx ≤ n ∧ n < st.nx + S.m then ec (S.k + (n - st.nx)) else e n
      have he' : (fun n => e' (r n)) = ec := by
        funext n
        show (if st.nx ≤ r n ∧ r n < st.nx + S.m then ec (S.k + (r n - st.nx)) else e (r n)) = ec n
        by_cases hn : n < S.k
        · have := hr1 n hn
          rw [if_neg (by omega)]
          exact (hx.out n (.inl hn)).symm
        · have hrn := hr2 n (by omega)
          by_cases hn2 : n < S.k + S.m
          · rw [if_pos (by omega)]
            congr 1
            omega
          · rw [if_neg (by omega)]
            exact (hx.out n (.inr (by omega))).symm
      have hext : Ext st.nx (st.nx + S.m) e e' := by
        refine ⟨fun n k hn => ?_, fun n hn => ?_⟩
        · show (if st.nx ≤ n ∧ n < st.nx + S.m then ec (S.k + (n - st.nx)) else e n) = some k
          by_cases hc : st.nx ≤ n ∧ n < st.nx + S.m
          · rw [hfree n hc.1 hc.2] at hn; cases hn
          · rw [if_neg hc]; exact hn
        · show (if st.nx ≤ n ∧ n < st.nx + S.m then ec (S.k + (n - st.nx)) else e n) = e n
          rw [if_neg (by omega)]
      obtain ⟨bs', b1, b2, b3⟩ := hat'.ex
      refine ⟨e', v, rfl, hext, (renSV_R _ _).2 (by rw [he']; exact hv), ?_, ?_⟩
      · refine ⟨⟨bs' ++ cs, HSat.append (renH_sat.2 (by rw [he']; exact b1)) ((d1.loc fun b hb => hk.1 b (.inr hb)).mono hext.up), ?_, ?_⟩, fun b hb => Nat.lt_of_lt_of_le (hat.fl b hb) hk.2.1⟩
        · exact List.nodup_append.2 ⟨b2, d2, fun x hx y hy hxy => b3 x hx (.inr (hxy ▸ hy))⟩
        · intro b hb
          rcases List.mem_append.1 hb with hb | hb
          · exact fun hf => b3 b hb (.inl hf)
          · exact fun hf => d3 b hb (.inl hf)
      · exact ⟨fun b hb => hk.1 b (.inl hb), hk.2⟩
    · cases h
  · cases h

/-! One operation of a region. -/

structure POk (P : Program) : Prop where
  mixed : P.follows .mixedOrders = true
  names : ∀ (f : Nat) (fn : Func), P.funcs[f]? = some fn → fn.body.isSome = true → (fn.name == "runtime.NumGoroutine") = false

abbrev Rf := FuncId → List SV → St → Option (SV × St)

def RfOk (P : Program) (rf : Rf) : Prop :=
  ∀ f args st s st', rf f args st = some (s, st') → Mono st st' ∧ ((∀ p ∈ st'.cs, p) → FnOk P f args st.hp s st'.hp st.nx st'.nx)

def callWith (P : Program) (rf : Rf) (f : FuncId) (args : List SV) (st : St) : Option (SV × St) :=
  match st.orc with
  | .call S ns :: orc => if S.f = f then applySpec P S ns args { st with orc := orc } else rf f args st
  | _ => rf f args st

theorem callWith_ok {rf : Rf} (hrf : RfOk P rf) {f : FuncId} {args : List SV} {st st' : St} {s : SV} (h : callWith P rf f args st = some (s, st')) :
    Mono st st' ∧ ((∀ p ∈ st'.cs, p) → FnOk P f args st.hp s st'.hp st.nx st'.nx) := by
  unfold callWith at h
  split at h
  · rename_i S ns orc ho
    split at h
    · rename_i hf
      subst hf
      obtain ⟨h1, h2⟩ := applySpec_ok h
      exact ⟨⟨h1.cs, h1.nx⟩, h2⟩
    · exact hrf _ _ _ _ _ h
  · exact hrf _ _ _ _ _ h

def bodyOf (P : Program) (f : FuncId) : Bool :=
  match P.funcs[f]? with
  | some fn => fn.body.isSome
  | none => false

def exec1 (P : Program) (rf : Rf) (op : Op) (fr : Nat → SV) (st : St) : Option (SV × St) :=
  match op with
  | .call { callee := .value x, args := args, argTypes := _ } => match ev fr x with
    | .func (.func f) a b => if bodyOf P f = true then callWith P rf f (a ++ args.toList.map (ev fr) ++ b) st else none
    | _ => none
  | op => match stepNN P op fr st with
    | some r => some r
    | none => match stepStr P op fr st with
      | some r => some r
      | none => stepVal P op fr st

theorem run_callFunc_body (hP : POk P) {f : FuncId} (hb : bodyOf P f = true) (args : Array Value) (w : World) : (callFunc f args).run P w = .ok (.enter f args) w := by
  unfold bodyOf at hb
  cases hf : P.funcs[f]? with
  | none => rw [hf] at hb; cases hb
  | some fn =>
    rw [hf] at hb
    simp only at hb
    have hn := hP.names f fn hf hb
    have hnone : fn.body.isNone = false := by cases h : fn.body <;> simp [h] at hb ⊢
    simp only [callFunc, Sem.run_bind, run_program, Result.andThen_ok, hf, hn, Bool.false_eq_true, if_false, hnone]
    rfl

/-- A call of a function by its value. -/
theorem call_ok (hP : POk P) {o : Oper} {x : Operand} {args : Array Operand} {ts : Array TypeId} (hop : o.op = .call ⟨.value x, args, ts⟩) {fr : Nat → SV} {f : FuncId} {a b : List SV} (hx : ev fr x = .func (.func f) a b)
    (hb : bodyOf P f = true) {σ σ' : Heap} {s : SV} {lo hi : Nat} (hfn : FnOk P f (a ++ args.toList.map (ev fr) ++ b) σ s σ' lo hi)
    {Fr : Nat → Prop} {e : Env} {w : World} {act : Act} {Q : Exit → Act → World → Prop} {K : Act → World → Prop}
    (hρ : ∀ y ∈ o.op.operands, (ev fr y).R e (act.eval y)) (hat : At e w σ Fr) (hfree : Free lo hi e)
    (k : ∀ e' w' v, Ext lo hi e e' → s.R e' v → At e' w' σ' Fr → Kept Fr w w' → K (act.put o.dst v) w') : o.wp P act w K Q := by
  have hfv := hρ x (by rw [hop]; simp [Op.operands, Call.operands])
  rw [hx] at hfv
  simp only [SV.R] at hfv
  obtain ⟨u, v, hxv, hu, hv⟩ := hfv
  have hargs : SV.RL e (a ++ args.toList.map (ev fr) ++ b) (u ++ args.toList.map act.eval ++ v) :=
    RL_append (RL_append hu (RL_map _ fun y hy => hρ y (by rw [hop]; simp [Op.operands, Call.operands]; exact .inr (by simpa using hy)))) hv
  unfold Oper.wp
  have hexec : (execOp act.eval o).run P w = .ok (.enter f (u ++ args.toList.map act.eval ++ v).toArray) w := by
    unfold execOp
    rw [hop]
    simp only [resolve, hxv, Deferred.ofValue, Sem.run_bind, Sem.run_pure, Result.andThen_ok, invoke]
    rw [run_callFunc_body hP hb]
    congr 2
    apply Array.ext'
    simp
  rw [hexec]
  simp only [Oper.upon]
  refine (hfn Fr e w _ hargs hat hfree).mono ?_
  rintro en w' ⟨e', r, rfl, h1, h2, h3, h4⟩
  exact k e' w' r h1 h2 h3 h4

theorem exec1_ok (hP : POk P) {rf : Rf} (hrf : RfOk P rf) {ops : Array Oper} {i : Nat} {o : Oper} (ho : ops[i]? = some o) {fr : Nat → SV} {st st' : St} {s : SV} (h : exec1 P rf o.op fr st = some (s, st')) :
    Mono st st' ∧ ((∀ p ∈ st'.cs, p) → (∀ (e : Env) (a : Act), (∀ t ∈ o.looksAt ops, (fr t).R e (a.tmps.getD t undef)) → Region.wanted o (yielded ops a.tmps) = true) → StepOk P ops i fr st.hp s st'.hp st.nx st'.nx) := by
  unfold exec1 at h
  split at h
  · rename_i x args ts hop
    split at h
    · rename_i f a b hx
      split at h
      · rename_i hb
        obtain ⟨h1, h2⟩ := callWith_ok hrf h
        refine ⟨h1, fun hp hw Fr e w act Q K hr hat hfree k => ?_⟩
        unfold wpOp
        rw [ho]
        have hro := hr o ho
        simp only [hw e act hro, if_true]
        refine .inl (call_ok hP hop hx hb (h2 hp) (fun y hy => ev_ok fun t ht => hro t (by
          unfold Oper.looksAt
          refine List.mem_append.2 (.inl (List.mem_filterMap.2 ⟨y, by simpa using hy, by rw [ht]⟩)))) hat hfree fun e' w' v g1 g2 g3 g4 => ?_)
        have := k e' w' v g1 g2 g3 g4
        rw [ho] at this
        exact this
      · cases h
    · cases h
  · split at h
    · rename_i r hr
      cases h
      obtain ⟨h1, h2⟩ := stepNN_ok (o := o) hr
      exact ⟨h1, fun hp hw => StepOk.of_val ho hw (h2 hp)⟩
    · split at h
      · rename_i r hr
        cases h
        obtain ⟨h1, h2⟩ := stepStr_ok (o := o) hr
        exact ⟨h1, fun hp hw => StepOk.of_val ho hw (h2 hp)⟩
      · obtain ⟨h1, h2⟩ := stepVal_ok (o := o) h
        exact ⟨h1, fun hp hw => StepOk.of_val ho hw (h2 hp)⟩

def isGuard (ops : Array Oper) (i : Nat) : Bool := ops.toList.any fun o => match o.guard with | some (g, _) => g == i | none => false

def decide1 (ops : Array Oper) (i : Nat) (x : SV × St) : Option (SV × St) :=
  match x.1 with
  | .bool b => if isGuard ops i = true then
      match x.2.orc with
      | .br t :: orc => some (.con (.bool t), { x.2 with orc := orc, cs := (b = t) :: x.2.cs })
      | _ => none
    else some x
  | _ => some x

theorem StepOk.weaken {ops : Array Oper} {i : Nat} {fr : Nat → SV} {σ σ' : Heap} {s s' : SV} {lo hi : Nat} (h : StepOk P ops i fr σ s σ' lo hi) (hs : ∀ (e : Env) v, s.R e v → s'.R e v) : StepOk P ops i fr σ s' σ' lo hi :=
  fun Fr e w a Q K hr hat hfree k => h Fr e w a Q K hr hat hfree fun e' w' v h1 h2 h3 h4 => k e' w' v h1 (hs e' v h2) h3 h4

theorem decide1_ok {ops : Array Oper} {i : Nat} {x y : SV × St} (h : decide1 ops i x = some y) :
    Mono x.2 y.2 ∧ y.2.hp = x.2.hp ∧ y.2.nx = x.2.nx ∧ ((∀ p ∈ y.2.cs, p) → ∀ (e : Env) v, x.1.R e v → y.1.R e v) := by
  unfold decide1 at h
  split at h
  · rename_i b hb
    split at h
    · split at h
      · rename_i t orc ho
        cases h
        refine ⟨⟨⟨[_], rfl⟩, Nat.le_refl _⟩, rfl, rfl, fun hp e v hv => ?_⟩
        have := hp _ List.mem_cons_self
        rw [hb] at hv
        simp only [SV.R] at hv ⊢
        rw [hv, this]
      · cases h
    · cases h; exact ⟨Mono.refl _, rfl, rfl, fun _ _ _ hv => hv⟩
  · cases h; exact ⟨Mono.refl _, rfl, rfl, fun _ _ _ hv => hv⟩

def step0 (P : Program) (rf : Rf) (ops : Array Oper) (i : Nat) (fr : Nat → SV) (st : St) : Option (SV × St) :=
  match ops[i]? with
  | none => none
  | some o => match o.guard with
    | none => match exec1 P rf o.op fr st with
      | some x => decide1 ops i x
      | none => none
    | some (g, want) => match dstOf ops g with
      | some d => match fr d with
        | .con (.bool b) => if (b == want) = true then
            match exec1 P rf o.op fr st with
            | some x => decide1 ops i x
            | none => none
          else some (.con undef, st)
        | .con (.tuple _) => some (.con undef, st)
        | _ => none
      | none => none

theorem step0_ok (hP : POk P) {rf : Rf} (hrf : RfOk P rf) {ops : Array Oper} {i : Nat} {fr : Nat → SV} {st st' : St} {s : SV} (h : step0 P rf ops i fr st = some (s, st')) :
    Mono st st' ∧ ((∀ p ∈ st'.cs, p) → StepOk P ops i fr st.hp s st'.hp st.nx st'.nx) := by
  unfold step0 at h
  split at h
  · cases h
  · rename_i o ho
    have main : (∀ (e : Env) (a : Act), (∀ t ∈ o.looksAt ops, (fr t).R e (a.tmps.getD t undef)) → Region.wanted o (yielded ops a.tmps) = true) →
        ∀ {x}, exec1 P rf o.op fr st = some x → decide1 ops i x = some (s, st') → Mono st st' ∧ ((∀ p ∈ st'.cs, p) → StepOk P ops i fr st.hp s st'.hp st.nx st'.nx) := by
      intro hw x hx hd
      obtain ⟨s0, st0⟩ := x
      obtain ⟨h1, h2⟩ := exec1_ok hP hrf ho hx
      obtain ⟨g1, g2, g3, g4⟩ := decide1_ok hd
      simp only at g1 g2 g3 g4
      refine ⟨h1.trans g1, fun hp => ?_⟩
      rw [g2, g3]
      exact (h2 (g1.all hp) hw).weaken (g4 hp)
    split at h
    · rename_i hg
      split at h
      · rename_i x hx
        exact main (fun e a _ => by simp [Region.wanted, hg]) hx h
      · cases h
    · rename_i g want hg
      split at h
      · rename_i d hd
        split at h
        · rename_i b hb
          have hwant : ∀ (e : Env) (a : Act), (∀ t ∈ o.looksAt ops, (fr t).R e (a.tmps.getD t undef)) → Region.wanted o (yielded ops a.tmps) = (b == want) :=
            fun e a hr => wanted_of hr hg hd hb
          split at h
          · rename_i hbw
            split at h
            · rename_i x hx
              exact main (fun e a hr => by rw [hwant e a hr, hbw]) hx h
            · cases h
          · rename_i hbw
            cases h
            refine ⟨Mono.refl _, fun _ => ?_⟩
            have := StepOk.skip (P := P) (lo := st.nx) (hi := st.nx) (σ := st.hp) ho (fun e a hr => by rw [hwant e a hr]; simpa using hbw)
            exact this
        · rename_i u hu
          cases h
          exact ⟨Mono.refl _, fun _ => StepOk.skip (P := P) (lo := st.nx) (hi := st.nx) (σ := st.hp) ho (fun e a hr => wanted_of_undef hr hg hd hu)⟩
        · cases h
      · cases h

def step1 (P : Program) (rf : Rf) (ops : Array Oper) (i : Nat) (fr : Nat → SV) (st : St) : Option (SV × St) := step0 P rf ops i fr (mids i st)

theorem step1_ok (hP : POk P) {rf : Rf} (hrf : RfOk P rf) {ops : Array Oper} {i : Nat} {fr : Nat → SV} {st st' : St} {s : SV} (h : step1 P rf ops i fr st = some (s, st')) :
    Mono st st' ∧ ((∀ p ∈ st'.cs, p) → StepOk P ops i fr st.hp s st'.hp st.nx st'.nx) := by
  obtain ⟨h1, h2⟩ := mids_ok i st
  obtain ⟨g1, g2⟩ := step0_ok hP hrf h
  exact ⟨h1.trans g1, fun hp => (g2 hp).turn (h2 (g1.all hp)) h1.nx g1.nx⟩

/-! Regions in the text's order. -/

def runList (P : Program) (rf : Rf) (ops : Array Oper) : List Nat → List SV → St → Option (List SV × St)
  | [], fr, st => some (fr, st)
  | i :: rest, fr, st => match step1 P rf ops i (fget fr) st with
    | some (s, st') => runList P rf ops rest (fput fr (dstOf ops i) s) st'
    | none => none

theorem runList_ok (hP : POk P) {rf : Rf} (hrf : RfOk P rf) {ops : Array Oper} : ∀ {l : List Nat} {fr fr' : List SV} {st st' : St}, runList P rf ops l fr st = some (fr', st') →
    Mono st st' ∧ ((∀ p ∈ st'.cs, p) → OpsOk P ops l fr st.hp fr' st'.hp st.nx st'.nx)
  | [], fr, fr', st, st', h => by
    simp only [runList, Option.some.injEq, Prod.mk.injEq] at h
    obtain ⟨rfl, rfl⟩ := h
    exact ⟨Mono.refl _, fun _ => OpsOk.nil⟩
  | i :: rest, fr, fr', st, st', h => by
    unfold runList at h
    split at h
    · rename_i s st1 h1
      obtain ⟨g1, g2⟩ := step1_ok hP hrf h1
      obtain ⟨g3, g4⟩ := runList_ok hP hrf h
      exact ⟨g1.trans g3, fun hp => OpsOk.cons (g2 (g3.all hp)) (g4 hp) g1.nx g3.nx⟩
    · cases h

end Go.Eng
