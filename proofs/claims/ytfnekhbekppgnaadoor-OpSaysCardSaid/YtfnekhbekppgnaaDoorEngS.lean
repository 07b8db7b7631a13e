import Derived.Test.YtfnekhbekppgnaaDoorEngR
namespace Go.Eng
variable {P : Program}

/-! Results under names of one's own choice. -/

/-- From lo on the names are those of a list. -/
def renTo (lo : Nat) (ns : List Nat) (n : Nat) : Nat := if n < lo then n else ns.getD (n - lo) 0

/-- The environment in which the chosen names stand for what the run's own ones stood for. -/
def backEnv (lo hi : Nat) (r : Nat → Nat) (e e₁ : Env) : Env := fun n => if lo ≤ n ∧ n < hi then e₁ (r n) else e n

theorem backEnv_ext {lo hi mid : Nat} {r : Nat → Nat} {e e₁ : Env} (hf : Free lo hi e) (_hx : Ext lo mid e e₁) : Ext lo hi e (backEnv lo hi r e e₁) := by
  refine ⟨fun n k hn => ?_, fun n hn => ?_⟩
  · unfold backEnv
    by_cases hc : lo ≤ n ∧ n < hi
    · rw [hf n hc.1 hc.2] at hn; cases hn
    · rw [if_neg hc]; exact hn
  · unfold backEnv
    rw [if_neg (by omega)]

theorem backEnv_eq {lo hi mid : Nat} {ns : List Nat} {e e₁ : Env} (hx : Ext lo mid e e₁) : ∀ n, n < hi → backEnv lo hi (renTo lo ns) e e₁ n = e₁ (renTo lo ns n) := by
  intro n hn
  unfold backEnv
  by_cases hc : lo ≤ n
  · rw [if_pos ⟨hc, hn⟩]
  · rw [if_neg (by omega)]
    unfold renTo
    rw [if_pos (by omega)]
    exact (hx.out n (.inl (by omega))).symm

theorem FrOk.back {lo hi mid : Nat} {ns : List Nat} {e e₁ : Env} {fr : List SV} {a : Act} (hx : Ext lo mid e e₁) (hb : belowL hi fr = true) (h : FrOk e₁ (renL (renTo lo ns) fr) a) : FrOk (backEnv lo hi (renTo lo ns) e e₁) fr a := by
  refine ⟨h.df, by rw [h.sz, renL_map]; simp, fun t => ?_⟩
  have h1 := h.rel t
  have h2 : fget (renL (renTo lo ns) fr) t = renSV (renTo lo ns) (fget fr t) := by
    unfold fget
    rw [renL_map, List.getD_eq_getElem?_getD, List.getD_eq_getElem?_getD, List.getElem?_map]
    cases fr[t]? <;> simp [renSV]
  rw [h2] at h1
  exact belowV_ok (backEnv_eq hx) _ _ (by unfold fget; exact belowL_get hb) ((renSV_R _ _).1 h1)

theorem At.back {lo hi mid : Nat} {ns : List Nat} {e e₁ : Env} {w : World} {σ : Heap} {Fr : Nat → Prop} (hx : Ext lo mid e e₁) (hb : belowH hi σ = true) (h : At e₁ w (renH (renTo lo ns) σ) Fr) : At (backEnv lo hi (renTo lo ns) e e₁) w σ Fr := by
  obtain ⟨bs, h1, h2, h3⟩ := h.ex
  exact ⟨⟨bs, belowH_ok (backEnv_eq hx) hb (renH_sat.1 h1), h2, h3⟩, h.fl⟩

theorem CodeOk.rename {c : Code} {fr fr' : List SV} {σ σ' : Heap} {x : Exit} {lo mid hi : Nat} {ns : List Nat} (h : CodeOk P c fr σ x (renL (renTo lo ns) fr') (renH (renTo lo ns) σ') lo mid) (hm : mid ≤ hi)
    (hf : belowL hi fr' = true) (hh : belowH hi σ' = true) : CodeOk P c fr σ x fr' σ' lo hi := by
  intro Fr e w a Q hfr hat hfree k
  refine h Fr e w a Q hfr hat (hfree.sub (Nat.le_refl _) hm) fun e₁ w' a' hx hf' hat' hk => ?_
  exact k _ w' a' (backEnv_ext hfree hx) (hf'.back hx hf) (hat'.back hx hh) hk

theorem FnOk.rename {f : FuncId} {args : List SV} {σ σ' : Heap} {s : SV} {lo mid hi : Nat} {ns : List Nat} (h : FnOk P f args σ (renSV (renTo lo ns) s) (renH (renTo lo ns) σ') lo mid) (hm : mid ≤ hi)
    (hs : belowV hi s = true) (hh : belowH hi σ' = true) : FnOk P f args σ s σ' lo hi := by
  intro Fr e w vs hvs hat hfree
  refine (h Fr e w vs hvs hat (hfree.sub (Nat.le_refl _) hm)).mono ?_
  rintro _ w' ⟨e₁, v, rfl, hx, hv, hat', hk⟩
  exact ⟨_, v, rfl, backEnv_ext hfree hx, belowV_ok (backEnv_eq hx) _ _ hs ((renSV_R _ _).1 hv), hat'.back hx hh, hk⟩

/-- As check, the results' names told by a list: where the run has what the contract names from k on. -/
def checkN (P : Program) (k d : Nat) (S : Spec) (orc : List Orc) (ns : List Nat) : Option (List Prop) :=
  match runFn P k d S.f S.args { hp := S.pre, nx := S.k, orc := orc, cs := [] } with
  | some (s, st) => if (finish st).nx ≤ S.k + S.m ∧ belowV (S.k + S.m) S.ret = true ∧ belowH (S.k + S.m) S.post = true then
      match simC s (renSV (renTo S.k ns) S.ret), matchPre (renH (renTo S.k ns) S.post) (finish st).hp with
      | some ps, some (_, qs) => some (ps ++ qs ++ (finish st).cs)
      | _, _ => none
    else none
  | none => none

theorem holds_of_checkN (hP : POk P) {k d : Nat} {S : Spec} {orc : List Orc} {ns : List Nat} {ps : List Prop} (h : checkN P k d S orc ns = some ps) (hp : allOf ps) : S.Holds P := by
  unfold checkN at h
  split at h
  · rename_i s st hr
    split at h
    · rename_i hn
      split at h
      · rename_i qs rest rs h1 h2
        cases h
        obtain ⟨g1, g2⟩ := runFn_ok hP k d _ _ _ _ _ hr
        obtain ⟨q1, q2⟩ := finish_ok (st := st)
        have hall := allOf_ok hp
        have hcs : ∀ p ∈ (finish st).cs, p := fun p hpp => hall p (by simp [hpp])
        have hfn := (g2 (q1.all hcs)).turned (q2 hcs) g1.nx q1.nx
        exact FnOk.rename (hfn.weaken (Nat.le_refl _) (fun e v hv => simC_ok _ _ h1 (fun p hpp => hall p (by simp [hpp])) hv) fun Fr e w hat => At.of_match h2 (fun p hpp => hall p (by simp [hpp])) hat) hn.1 hn.2.1 hn.2.2
      · cases h
    · cases h
  · cases h

/-- As checkAt, the results' names told by a list. -/
def checkAtN (P : Program) (k d : Nat) (f : FuncId) (path : List Nat) (fr : List SV) (σ : Heap) (orc : List Orc) (x : Exit) (fr' : List SV) (σ' : Heap) (lo hi : Nat) (ns : List Nat) : Option (List Prop) :=
  match runAt P k d f path fr { hp := σ, nx := lo, orc := orc, cs := [] } with
  | some o => if exitEq o.x x = true ∧ (finish o.st).nx ≤ hi ∧ belowL hi fr' = true ∧ belowH hi σ' = true then
      match simL o.fr (renL (renTo lo ns) fr'), matchPre (renH (renTo lo ns) σ') (finish o.st).hp with
      | some ps, some (_, qs) => some (ps ++ qs ++ (finish o.st).cs)
      | _, _ => none
    else none
  | none => none

theorem run_to (hP : POk P) {k d : Nat} {f : FuncId} {path : List Nat} {fr fr' : List SV} {σ σ' rest : Heap} {orc : List Orc} {lo : Nat} {o : Out} {qs rs : List Prop}
    (ho : runAt P k d f path fr { hp := σ, nx := lo, orc := orc, cs := [] } = some o) (h1 : simL o.fr fr' = some qs) (h2 : matchPre σ' (finish o.st).hp = some (rest, rs))
    (hq : ∀ p ∈ qs, p) (hr : ∀ p ∈ rs, p) (hc : ∀ p ∈ (finish o.st).cs, p) : lo ≤ (finish o.st).nx ∧ CodeAt P f path fr σ o.x fr' σ' lo (finish o.st).nx := by
  unfold runAt at ho
  split at ho
  · rename_i c hcode
    obtain ⟨g1, g2⟩ := runCode_ok hP (runFn_ok hP k d) ho hcode
    obtain ⟨q1, q2⟩ := finish_ok (st := o.st)
    have hok := (g2 (q1.all hc)).1
    refine ⟨Nat.le_trans g1.nx q1.nx, c, hcode, hok.post (fun e a hfr => FrOk_sim hfr h1 hq) ?_ g1.nx q1.nx⟩
    intro e w Fr hat hfree
    obtain ⟨e', hx', hat'⟩ := q2 hc e w Fr hat hfree
    exact ⟨e', hx', At.of_match h2 hr hat'⟩
  · cases ho

theorem code_of_checkN (hP : POk P) {k d : Nat} {f : FuncId} {path : List Nat} {fr fr' : List SV} {σ σ' : Heap} {orc : List Orc} {x : Exit} {lo hi : Nat} {ns : List Nat} {ps : List Prop}
    (h : checkAtN P k d f path fr σ orc x fr' σ' lo hi ns = some ps) (hp : allOf ps) : CodeAt P f path fr σ x fr' σ' lo hi := by
  unfold checkAtN at h
  split at h
  · rename_i o ho
    split at h
    · rename_i hc
      obtain ⟨hx, hn, hb1, hb2⟩ := hc
      split at h
      · rename_i qs rest rs h1 h2
        cases h
        have hall := allOf_ok hp
        obtain ⟨_, c, hcode, hok⟩ := run_to hP ho h1 h2 (fun p hpp => hall p (by simp [hpp])) (fun p hpp => hall p (by simp [hpp])) (fun p hpp => hall p (by simp [hpp]))
        rw [exitEq_ok hx] at hok
        exact ⟨c, hcode, hok.rename hn hb1 hb2⟩
      · cases h
    · cases h
  · cases h

/-! Loops: a round, and the loop anew from what it left, under the loop's own names. -/

def renNs (ns : List Nat) (n : Nat) : Nat := ns.getD n n

mutual
def outV (s lo : Nat) : SV → Bool
  | .ptr n _ _ _ => decide (n < s ∨ lo ≤ n)
  | .opt n => decide (n < s ∨ lo ≤ n)
  | .sl n _ _ _ => decide (n < s ∨ lo ≤ n)
  | .func _ a b => outL s lo a && outL s lo b
  | .agg l => outL s lo l
  | .tup l => outL s lo l
  | _ => true
def outL (s lo : Nat) : List SV → Bool
  | [] => true
  | v :: l => outV s lo v && outL s lo l
end

mutual
theorem outV_ok {s lo : Nat} {e e' : Env} (he : ∀ n, n < s ∨ lo ≤ n → e' n = e n) : ∀ (v : SV) (y : Value), outV s lo v = true → v.R e y → v.R e' y
  | .any, _, _, _ => trivial
  | .con _, _, _, h => h
  | .int _ _, _, _, h => h
  | .bool _, _, _, h => h
  | .str _, _, _, h => h
  | .ptr n _ _ _, _, hb, h => by
    simp only [outV, decide_eq_true_eq] at hb
    simp only [SV.R] at h ⊢
    rw [he n hb]; exact h
  | .opt n, _, hb, h => by
    simp only [outV, decide_eq_true_eq] at hb
    simp only [SV.R] at h ⊢
    rw [he n hb]; exact h
  | .sl n _ _ _, _, hb, h => by
    simp only [outV, decide_eq_true_eq] at hb
    simp only [SV.R] at h ⊢
    rw [he n hb]; exact h
  | .func _ a b, _, hb, h => by
    simp only [outV, Bool.and_eq_true] at hb
    simp only [SV.R] at h ⊢
    obtain ⟨u, v, h1, h2, h3⟩ := h
    exact ⟨u, v, h1, outL_ok he a u hb.1 h2, outL_ok he b v hb.2 h3⟩
  | .agg l, _, hb, h => by
    simp only [outV] at hb
    simp only [SV.R] at h ⊢
    obtain ⟨u, h1, h2⟩ := h
    exact ⟨u, h1, outL_ok he l u hb h2⟩
  | .tup l, _, hb, h => by
    simp only [outV] at hb
    simp only [SV.R] at h ⊢
    obtain ⟨u, h1, h2⟩ := h
    exact ⟨u, h1, outL_ok he l u hb h2⟩
theorem outL_ok {s lo : Nat} {e e' : Env} (he : ∀ n, n < s ∨ lo ≤ n → e' n = e n) : ∀ (l : List SV) (u : List Value), outL s lo l = true → SV.RL e l u → SV.RL e' l u
  | [], [], _, h => SV.RL_nil _
  | v :: l, y :: u, hb, h => by
    simp only [outL, Bool.and_eq_true] at hb
    simp only [SV.RL] at h ⊢
    exact ⟨outV_ok he v y hb.1 h.1, outL_ok he l u hb.2 h.2⟩
  | [], _ :: _, _, h => by simp [SV.RL] at h
  | _ :: _, [], _, h => by simp [SV.RL] at h
end

def outLL (s lo : Nat) : List (List SV) → Bool
  | [] => true
  | l :: r => outL s lo l && outLL s lo r

def outE (s lo : Nat) : Entry → Bool
  | .blk cs _ => outL s lo cs
  | .arr cs _ _ => outLL s lo cs
  | .ints _ _ _ => true
  | .row _ _ _ _ => false
  | .strs _ _ => true
  | .abs _ imps => imps.all fun n => decide (n < s ∨ lo ≤ n)

def outH (s lo : Nat) : Heap → Bool
  | [] => true
  | (n, E) :: σ => decide (n < s ∨ lo ≤ n) && outE s lo E && outH s lo σ

theorem outL_get {s lo : Nat} : ∀ {l : List SV} {j : Nat}, outL s lo l = true → outV s lo (l.getD j .any) = true
  | [], j, _ => by simp [outV]
  | v :: l, 0, h => by
    simp only [outL, Bool.and_eq_true] at h
    simpa using h.1
  | v :: l, j + 1, h => by
    simp only [outL, Bool.and_eq_true] at h
    simpa using outL_get (j := j) h.2

theorem outLL_get {s lo : Nat} : ∀ {cs : List (List SV)} {i : Nat}, outLL s lo cs = true → outL s lo (cs.getD i []) = true
  | [], i, _ => by simp [outL]
  | l :: r, 0, h => by
    simp only [outLL, Bool.and_eq_true] at h
    simpa using h.1
  | l :: r, i + 1, h => by
    simp only [outLL, Bool.and_eq_true] at h
    simpa using outLL_get (i := i) h.2

theorem outE_ok {s lo : Nat} {e e' : Env} (he : ∀ n, n < s ∨ lo ≤ n → e' n = e n) {w : World} {n : Nat} (hn : n < s ∨ lo ≤ n) : ∀ {E : Entry} {bs : List Nat}, outE s lo E = true → E.ok e w n bs → E.ok e' w n bs
  | .blk cs ty, bs, hb, ⟨k, h1, h2, u, h3, h4⟩ => ⟨k, (he n hn).trans h1, h2, u, h3, outL_ok he _ _ hb h4.1, h4.2⟩
  | .arr cs sz ty, bs, hb, h => rowOk.below h (he n hn) fun i j v => outV_ok he _ _ (outL_get (outLL_get hb))
  | .ints k l ty, bs, _, h => rowOk.below h (he n hn) fun i j v hv => by simpa [intsF, SV.R] using hv
  | .row _ _ _ _, _, hb, _ => by cases hb
  | .strs l ty, bs, _, h => rowOk.below h (he n hn) fun i j v hv => by simpa [strsF, SV.R] using hv
  | .abs A imps, bs, hb, h => by
    have : (n :: imps).map e' = (n :: imps).map e := by
      apply List.map_congr_left
      intro m hm
      rcases List.mem_cons.1 hm with rfl | hm
      · exact he _ hn
      · simp only [outE, List.all_eq_true, decide_eq_true_eq] at hb
        exact he _ (hb m hm)
    simp only [Entry.ok] at h ⊢
    rw [this]
    exact h

theorem outH_ok {s lo : Nat} {e e' : Env} (he : ∀ n, n < s ∨ lo ≤ n → e' n = e n) {w : World} : ∀ {σ : Heap} {bs : List Nat}, outH s lo σ = true → HSat e w σ bs → HSat e' w σ bs
  | [], _, _, h => h
  | (n, E) :: σ, bs, hb, ⟨b₁, b₂, h1, h2, h3⟩ => by
    simp only [outH, Bool.and_eq_true, decide_eq_true_eq] at hb
    exact ⟨b₁, b₂, h1, outE_ok he hb.1.1 hb.1.2 h2, outH_ok he hb.2 h3⟩

theorem LoopIs.next {f : FuncId} {path : List Nat} {fr fr₂ fr' : List SV} {σ σ₂ σ' : Heap} {x : Exit} {s lo mid hi : Nat} {ns : List Nat}
    (h : CodeAt P f (0 :: path) fr σ .normal (renL (renNs ns) fr₂) (renH (renNs ns) σ₂) lo mid) (hm : mid ≤ hi) (hsl : s ≤ lo) (hns : ∀ n, n < s → renNs ns n = n)
    (hbf : belowL lo fr₂ = true) (hbh : belowH lo σ₂ = true) (r : LoopIs P f path fr₂ σ₂ x fr' σ' lo hi) (hof : outL s lo fr' = true) (hoh : outH s lo σ' = true) :
    LoopIs P f path fr σ x fr' σ' lo hi := by
  obtain ⟨b, N, hb, hN⟩ := r
  obtain ⟨c, hc, hok⟩ := h
  rw [codeAt_loop hb] at hc
  cases hc
  refine ⟨b, N + 1, hb, fun Fr e w a Q hfr hat hfree k => ?_⟩
  rw [rounds_succ]
  refine hok Fr e w a _ hfr hat (hfree.sub (Nat.le_refl _) hm) fun e₁ w₁ a₁ hx₁ hf₁ hat₁ hk₁ => ?_
  let ec : Env := fun n => if n < lo then e₁ (renNs ns n) else if n < hi then none else e n
  have hec : ∀ n, n < lo → ec n = e₁ (renNs ns n) := fun n hn => by show (if n < lo then _ else _) = _; rw [if_pos hn]
  have hfree' : Free lo hi ec := fun n h1 h2 => by
    show (if n < lo then _ else if n < hi then none else e n) = none
    rw [if_neg (by omega), if_pos h2]
  have hfc : FrOk ec fr₂ a₁ := by
    refine ⟨hf₁.df, by rw [hf₁.sz, renL_map]; simp, fun t => ?_⟩
    have h1 := hf₁.rel t
    have h2 : fget (renL (renNs ns) fr₂) t = renSV (renNs ns) (fget fr₂ t) := by
      unfold fget
      rw [renL_map, List.getD_eq_getElem?_getD, List.getD_eq_getElem?_getD, List.getElem?_map]
      cases fr₂[t]? <;> simp [renSV]
    rw [h2] at h1
    exact belowV_ok hec _ _ (by unfold fget; exact belowL_get hbf) ((renSV_R _ _).1 h1)
  have hatc : At ec w₁ σ₂ Fr := by
    obtain ⟨bs, g1, g2, g3⟩ := hat₁.ex
    exact ⟨⟨bs, belowH_ok hec hbh (renH_sat.1 g1), g2, g3⟩, hat₁.fl⟩
  refine hN Fr ec w₁ a₁ Q hfc hatc hfree' fun e₂ w₂ a₂ hx₂ hf₂ hat₂ hk₂ => ?_
  let e' : Env := fun n => if lo ≤ n ∧ n < hi then e₂ n else e n
  have hx' : Ext lo hi e e' := by
    refine ⟨fun n b hn => ?_, fun n hn => ?_⟩
    · show (if lo ≤ n ∧ n < hi then e₂ n else e n) = some b
      by_cases hc : lo ≤ n ∧ n < hi
      · rw [hfree n hc.1 hc.2] at hn; cases hn
      · rw [if_neg hc]; exact hn
    · show (if lo ≤ n ∧ n < hi then e₂ n else e n) = e n
      rw [if_neg (by omega)]
  have heq : ∀ n, n < s ∨ lo ≤ n → e' n = e₂ n := by
    intro n hn
    show (if lo ≤ n ∧ n < hi then e₂ n else e n) = e₂ n
    by_cases hc : lo ≤ n ∧ n < hi
    · rw [if_pos hc]
    · rw [if_neg hc]
      by_cases hl : n < lo
      · have hs : n < s := by omega
        rw [hx₂.out n (.inl hl), hec n hl, hns n hs, hx₁.out n (.inl hl)]
      · have hh : hi ≤ n := by omega
        rw [hx₂.out n (.inr hh)]
        show e n = (if n < lo then _ else if n < hi then none else e n)
        rw [if_neg hl, if_neg (by omega)]
  refine k e' w₂ a₂ hx' ⟨hf₂.df, hf₂.sz, fun t => outV_ok heq _ _ (by unfold fget; exact outL_get hof) (hf₂.rel t)⟩ ?_ (hk₁.trans hk₂)
  obtain ⟨bs, g1, g2, g3⟩ := hat₂.ex
  exact ⟨⟨bs, outH_ok heq hoh g1, g2, g3⟩, hat₂.fl⟩

/-- A round: to a state of the same kind, its names told by a list; s: the names below it stay. -/
def checkNext (P : Program) (k d : Nat) (f : FuncId) (path : List Nat) (fr : List SV) (σ : Heap) (orc : List Orc) (fr₂ : List SV) (σ₂ : Heap) (s lo hi : Nat) (ns : List Nat) : Option (List Prop) :=
  match runAt P k d f (0 :: path) fr { hp := σ, nx := lo, orc := orc, cs := [] } with
  | some o => if exitEq o.x .normal = true ∧ (finish o.st).nx ≤ hi ∧ s ≤ lo ∧ (List.range s).all (fun n => renNs ns n == n) = true ∧ belowL lo fr₂ = true ∧ belowH lo σ₂ = true then
      match simL o.fr (renL (renNs ns) fr₂), matchPre (renH (renNs ns) σ₂) (finish o.st).hp with
      | some ps, some (_, qs) => some (ps ++ qs ++ (finish o.st).cs)
      | _, _ => none
    else none
  | none => none

theorem next_of_check (hP : POk P) {k d : Nat} {f : FuncId} {path : List Nat} {fr fr₂ fr' : List SV} {σ σ₂ σ' : Heap} {orc : List Orc} {x : Exit} {s lo hi : Nat} {ns : List Nat} {ps : List Prop}
    (h : checkNext P k d f path fr σ orc fr₂ σ₂ s lo hi ns = some ps) (hp : allOf ps) (r : LoopIs P f path fr₂ σ₂ x fr' σ' lo hi) (hof : outL s lo fr' = true) (hoh : outH s lo σ' = true) :
    LoopIs P f path fr σ x fr' σ' lo hi := by
  unfold checkNext at h
  split at h
  · rename_i o ho
    split at h
    · rename_i hc
      obtain ⟨hx, hn, hsl, hns, hb1, hb2⟩ := hc
      split at h
      · rename_i qs rest rs h1 h2
        cases h
        have hall := allOf_ok hp
        obtain ⟨_, hcode⟩ := run_to hP ho h1 h2 (fun p hpp => hall p (by simp [hpp])) (fun p hpp => hall p (by simp [hpp])) (fun p hpp => hall p (by simp [hpp]))
        rw [exitEq_ok hx] at hcode
        refine LoopIs.next hcode hn hsl (fun n hns' => ?_) hb1 hb2 r hof hoh
        rw [List.all_eq_true] at hns
        simpa using hns n (List.mem_range.2 hns')
      · cases h
    · cases h
  · cases h

end Go.Eng
