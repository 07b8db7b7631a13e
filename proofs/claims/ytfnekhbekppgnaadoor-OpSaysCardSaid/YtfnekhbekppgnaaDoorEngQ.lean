import Derived.Test.YtfnekhbekppgnaaDoorEngP
namespace Go.Eng
variable {P : Program}

/-! Runs of functions. -/

def outOne (tmps : Array Value) : ResultVar → Sem Value
  | .tmp t => pure (tmps.getD t undef)
  | .cell a t => do
    let x ← asAddr (tmps.getD a undef)
    loadVar t x

theorem results_outs (fn : Func) (tmps : Array Value) : results fn tmps = (fn.results.mapM (outOne tmps) >>= fun vs =>
    pure (if h : vs.size = 1 then vs[0] else .tuple vs)) := by
  unfold results
  congr 2

def getOut (P : Program) (r : ResultVar) (fr : List SV) (st : St) : Option (SV × St) :=
  match r with
  | .tmp t => some (fget fr t, st)
  | .cell a t => stepLoad P t (fget fr a) st

theorem getOut_ok {r : ResultVar} {fr : List SV} {st st' : St} {s : SV} (h : getOut P r fr st = some (s, st')) :
    Mono st st' ∧ st'.hp = st.hp ∧ st'.nx = st.nx ∧ ((∀ p ∈ st'.cs, p) → ∀ {e w Fr} {tmps : Array Value}, (∀ t, (fget fr t).R e (tmps.getD t undef)) → At e w st.hp Fr → ∃ v, (outOne tmps r).run P w = .ok v w ∧ s.R e v) := by
  unfold getOut at h
  split at h
  · cases h
    exact ⟨Mono.refl _, rfl, rfl, fun _ e w Fr tmps hr _ => ⟨_, rfl, hr _⟩⟩
  · rename_i a t
    obtain ⟨h1, h2, h3, h4⟩ := stepLoad_ok h
    refine ⟨h1, h2, h3, fun hp e w Fr tmps hr hat => ?_⟩
    obtain ⟨u, g1, g2⟩ := h4 hp (hr a) hat
    refine ⟨u, ?_, g2⟩
    have hptr : ∃ ad, tmps.getD a undef = .pointer (some ad) := by
      have := hr a
      unfold stepLoad at h
      split at h
      · rename_i n i sz j hfa
        rw [hfa] at this
        simp only [SV.R] at this
        obtain ⟨k, _, hk⟩ := this
        exact ⟨_, hk⟩
      · cases h
    obtain ⟨ad, had⟩ := hptr
    rw [had] at g1
    have ho : outOne tmps (.cell a t) = (asAddr (tmps.getD a undef) >>= fun x => loadVar t x) := rfl
    rw [ho, had]
    simpa [Instr.loadAt, Instr.sureAddr, asAddr] using g1

def getOuts (P : Program) : List ResultVar → List SV → St → Option (List SV × St)
  | [], _, st => some ([], st)
  | r :: l, fr, st => match getOut P r fr st with
    | some (s, st1) => match getOuts P l fr st1 with
      | some (ss, st2) => some (s :: ss, st2)
      | none => none
    | none => none

theorem getOuts_ok : ∀ {l : List ResultVar} {fr : List SV} {st st' : St} {ss : List SV}, getOuts P l fr st = some (ss, st') →
    Mono st st' ∧ st'.hp = st.hp ∧ st'.nx = st.nx ∧ ((∀ p ∈ st'.cs, p) → ∀ {e w Fr} {tmps : Array Value}, (∀ t, (fget fr t).R e (tmps.getD t undef)) → At e w st.hp Fr →
      ∃ vs, (l.mapM (outOne tmps)).run P w = .ok vs w ∧ SV.RL e ss vs)
  | [], fr, st, st', ss, h => by
    cases h
    exact ⟨Mono.refl _, rfl, rfl, fun _ e w Fr tmps _ _ => ⟨[], by simp, SV.RL_nil e⟩⟩
  | r :: l, fr, st, st', ss, h => by
    unfold getOuts at h
    split at h
    · rename_i s st1 h1
      split at h
      · rename_i ss' st2 h2
        cases h
        obtain ⟨a1, a2, a3, a4⟩ := getOut_ok h1
        obtain ⟨b1, b2, b3, b4⟩ := getOuts_ok h2
        refine ⟨a1.trans b1, by rw [b2, a2], by rw [b3, a3], fun hp e w Fr tmps hr hat => ?_⟩
        obtain ⟨v, c1, c2⟩ := a4 (b1.all hp) hr hat
        obtain ⟨vs, d1, d2⟩ := b4 hp hr (by rw [a2]; exact hat)
        refine ⟨v :: vs, ?_, c2, d2⟩
        rw [List.mapM_cons]
        simp only [Sem.run_bind, c1, Result.andThen_ok, d1, Sem.run_pure]
      · cases h
    · cases h

def retOf (P : Program) (l : List ResultVar) (fr : List SV) (st : St) : Option (SV × St) :=
  match getOuts P l fr st with
  | some ([s], st') => some (s, st')
  | some (ss, st') => some (.tup ss, st')
  | none => none

theorem run_mapM_array {f : ResultVar → Sem Value} {w : World} {l : List ResultVar} {vs : List Value} (h : (l.mapM f).run P w = .ok vs w) : (l.toArray.mapM f).run P w = .ok vs.toArray w := by
  rw [List.mapM_toArray]
  show Sem.run P (_ <$> _) w = _
  rw [map_eq_pure_bind]
  simp only [Sem.run_bind, h, Result.andThen_ok, Sem.run_pure]

theorem retOf_ok {fn : Func} {fr : List SV} {st st' : St} {s : SV} (h : retOf P fn.results.toList fr st = some (s, st')) :
    Mono st st' ∧ st'.hp = st.hp ∧ st'.nx = st.nx ∧ ((∀ p ∈ st'.cs, p) → ∀ {e w Fr} {tmps : Array Value}, (∀ t, (fget fr t).R e (tmps.getD t undef)) → At e w st.hp Fr →
      ∃ v, (results fn tmps).run P w = .ok v w ∧ s.R e v) := by
  have main : ∀ {ss st'}, getOuts P fn.results.toList fr st = some (ss, st') → (∀ p ∈ st'.cs, p) → ∀ {e w Fr} {tmps : Array Value}, (∀ t, (fget fr t).R e (tmps.getD t undef)) → At e w st.hp Fr →
      ∃ vs : List Value, SV.RL e ss vs ∧ (results fn tmps).run P w = .ok (if h : vs.toArray.size = 1 then vs.toArray[0] else .tuple vs.toArray) w := by
    intro ss st' hg hp e w Fr tmps hr hat
    obtain ⟨_, _, _, h4⟩ := getOuts_ok hg
    obtain ⟨vs, g1, g2⟩ := h4 hp hr hat
    refine ⟨vs, g2, ?_⟩
    have := run_mapM_array g1
    rw [Array.toArray_toList] at this
    rw [results_outs]
    simp only [Sem.run_bind, this, Result.andThen_ok, Sem.run_pure]
  unfold retOf at h
  split at h
  · rename_i s' st1 hg
    cases h
    obtain ⟨h1, h2, h3, _⟩ := getOuts_ok hg
    refine ⟨h1, h2, h3, fun hp e w Fr tmps hr hat => ?_⟩
    obtain ⟨vs, g1, g2⟩ := main hg hp hr hat
    match vs, g1 with
    | [v], g1 => exact ⟨v, by simpa using g2, g1.1⟩
  · rename_i ss st1 hns hg
    cases h
    obtain ⟨h1, h2, h3, _⟩ := getOuts_ok hg
    refine ⟨h1, h2, h3, fun hp e w Fr tmps hr hat => ?_⟩
    obtain ⟨vs, g1, g2⟩ := main hg hp hr hat
    have hl := RL_length g1
    have hn1 : ¬ vs.toArray.size = 1 := by
      intro hc
      have : ss.length = 1 := by simpa [hl] using hc
      match ss, this with
      | [x], _ => exact hns x rfl
    rw [dif_neg hn1] at g2
    exact ⟨_, g2, by simp only [SV.R]; exact ⟨vs, rfl, g1⟩⟩
  · cases h

def runFn (P : Program) (k : Nat) : Nat → Rf
  | 0 => fun _ _ _ => none
  | d + 1 => fun f args st => match P.funcs[f]? with
    | some fn => match fn.body with
      | some c => match runCode P (runFn P k d) f k [] c (args ++ List.replicate (fn.ntmps - args.length) .any) st with
        | some ⟨.normal, fr, st'⟩ => retOf P fn.results.toList fr st'
        | some ⟨.ret, fr, st'⟩ => retOf P fn.results.toList fr st'
        | _ => none
      | none => none
    | none => none

theorem FrOk.args {e : Env} {args : List SV} {vs : List Value} {n : Nat} (h : SV.RL e args vs) : FrOk e (args ++ List.replicate (n - args.length) .any) { tmps := vs.toArray ++ Array.replicate (n - vs.toArray.size) undef, defers := [] } := by
  have hlen := RL_length h
  refine ⟨rfl, by simp [hlen], fun t => ?_⟩
  unfold fget
  by_cases ht : t < args.length
  · obtain ⟨v, h1, h2⟩ := RL_get h (List.getElem?_eq_getElem ht)
    have ht' : t < vs.length := by omega
    have : vs[t]? = some v := h1
    rw [List.getElem?_eq_getElem ht'] at this
    simp only [Option.some.injEq] at this
    simp only [List.getD_eq_getElem?_getD, List.getElem?_append_left ht, List.getElem?_eq_getElem ht, Array.getD_eq_getD_getElem?, Option.getD_some]
    rw [Array.getElem?_append_left (by simpa using ht')]
    simpa [List.getElem?_eq_getElem ht', this] using h2
  · have : (args ++ List.replicate (n - args.length) SV.any).getD t SV.any = SV.any := by
      rw [List.getD_eq_getElem?_getD, List.getElem?_append_right (by omega), List.getElem?_replicate]
      split <;> rfl
    rw [this]
    trivial

theorem Calls.of_code {f : FuncId} {fn : Func} {c : Code} {args fr' : List SV} {σ : Heap} {x : Exit} {s : SV} {lo : Nat} {st st' : St} (hf : P.funcs[f]? = some fn) (hb : fn.body = some c)
    (hc : CodeOk P c (args ++ List.replicate (fn.ntmps - args.length) .any) σ x fr' st.hp lo st.nx) (hx : x = .normal ∨ x = .ret) (hs : retOf P fn.results.toList fr' st = some (s, st')) (hp : ∀ p ∈ st'.cs, p) :
    FnOk P f args σ s st'.hp lo st'.nx := by
  obtain ⟨_, r2, r3, r4⟩ := retOf_ok hs
  rw [r2, r3]
  intro Fr e w vs hvs hat hfree
  refine calls_of_wp hf hb (hc Fr e w _ _ (FrOk.args hvs) hat hfree fun e' w' a' hx' hf' hat' hk => ?_)
  obtain ⟨v, h1, h2⟩ := r4 hp hf'.rel hat'
  rcases hx with rfl | rfl
  · exact ⟨hf'.df, v, h1, e', v, rfl, hx', h2, hat', hk⟩
  · exact ⟨hf'.df, v, h1, e', v, rfl, hx', h2, hat', hk⟩

theorem runFn_ok (hP : POk P) (k : Nat) : ∀ d, RfOk P (runFn P k d)
  | 0 => fun _ _ _ _ _ h => by cases h
  | d + 1 => fun f args st s st' h => by
    unfold runFn at h
    split at h
    · rename_i fn hfn
      split at h
      · rename_i c hc
        have hat : codeAt P f [] = some c := by unfold codeAt; rw [hfn]; exact hc
        split at h
        · rename_i fr st1 hr
          obtain ⟨h1, h2⟩ := runCode_ok hP (runFn_ok hP k d) hr hat
          obtain ⟨r1, _⟩ := retOf_ok h
          exact ⟨h1.trans r1, fun hp => Calls.of_code hfn hc (h2 (r1.all hp)).1 (.inl rfl) h hp⟩
        · rename_i fr st1 hr
          obtain ⟨h1, h2⟩ := runCode_ok hP (runFn_ok hP k d) hr hat
          obtain ⟨r1, _⟩ := retOf_ok h
          exact ⟨h1.trans r1, fun hp => Calls.of_code hfn hc (h2 (r1.all hp)).1 (.inr rfl) h hp⟩
        · cases h
      · cases h
    · cases h

/-! A contract out of a run. -/

theorem FnOk.weaken {f : FuncId} {args : List SV} {σ σ' τ : Heap} {s t : SV} {lo hi hi' : Nat} (h : FnOk P f args σ s σ' lo hi) (hhi : hi ≤ hi')
    (hs : ∀ (e : Env) v, s.R e v → t.R e v) (hh : ∀ (Fr : Nat → Prop) (e : Env) (w : World), At e w σ' Fr → At e w τ Fr) : FnOk P f args σ t τ lo hi' :=
  fun Fr e w vs hvs hat hfree => (h Fr e w vs hvs hat (hfree.sub (Nat.le_refl _) hhi)).mono fun _ _ ⟨e', v, h1, h2, h3, h4, h5⟩ =>
    ⟨e', v, h1, h2.wide (Nat.le_refl _) hhi, hs _ _ h3, hh _ _ _ h4, h5⟩

/-- What a run shows: the conditions under which the contract holds; none: the run fails. -/
def check (P : Program) (k d : Nat) (S : Spec) (orc : List Orc) : Option (List Prop) :=
  match runFn P k d S.f S.args { hp := S.pre, nx := S.k, orc := orc, cs := [] } with
  | some (s, st) => if (finish st).nx ≤ S.k + S.m then
      match simC s S.ret, matchPre S.post (finish st).hp with
      | some ps, some (_, qs) => some (ps ++ qs ++ (finish st).cs)
      | _, _ => none
    else none
  | none => none

def allOf : List Prop → Prop
  | [] => True
  | [p] => p
  | p :: l => p ∧ allOf l

theorem allOf_ok : ∀ {l : List Prop}, allOf l → ∀ p ∈ l, p
  | [], _, p, hp => by simp at hp
  | [q], h, p, hp => by cases List.mem_singleton.1 hp; exact h
  | q :: r :: l, h, p, hp => by
    rcases List.mem_cons.1 hp with rfl | hp
    · exact h.1
    · exact allOf_ok (l := r :: l) h.2 p hp

theorem At.of_match {e : Env} {w : World} {σ τ rest : Heap} {Fr : Nat → Prop} {ps : List Prop} (h : matchPre τ σ = some (rest, ps)) (hp : ∀ p ∈ ps, p) (hat : At e w σ Fr) : At e w τ Fr := by
  obtain ⟨bs, h1, h2, h3, h4⟩ := matchPre_ok h hp hat
  exact ⟨⟨bs, h1, h2, h3⟩, hat.fl⟩

theorem holds_of_check (hP : POk P) {k d : Nat} {S : Spec} {orc : List Orc} {ps : List Prop} (h : check P k d S orc = some ps) (hp : allOf ps) : S.Holds P := by
  unfold check at h
  split at h
  · rename_i s st hr
    split at h
    · rename_i hn
      split at h
      · rename_i qs rest rs h1 h2
        cases h
        obtain ⟨g1, g2⟩ := runFn_ok hP k d _ _ _ _ _ hr
        obtain ⟨q1, q2⟩ := finish_ok (st := st)
        have hall := allOf_ok hp
        have hcs : ∀ p ∈ (finish st).cs, p := fun p hpp => hall p (by simp [hpp])
        have hfn := (g2 (q1.all hcs)).turned (q2 hcs) g1.nx q1.nx
        refine hfn.weaken hn (fun e v hv => simC_ok _ _ h1 (fun p hpp => hall p (by simp [hpp])) hv) fun Fr e w hat => ?_
        exact At.of_match h2 (fun p hpp => hall p (by simp [hpp])) hat
      · cases h
    · cases h
  · cases h

end Go.Eng
