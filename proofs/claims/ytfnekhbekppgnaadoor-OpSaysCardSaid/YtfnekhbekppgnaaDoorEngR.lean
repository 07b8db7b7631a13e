import Derived.Test.YtfnekhbekppgnaaDoorEngQ
namespace Go.Eng
variable {P : Program}

/-! Names below a bound. -/

mutual
def belowV (lo : Nat) : SV → Bool
  | .ptr n _ _ _ => decide (n < lo)
  | .opt n => decide (n < lo)
  | .sl n _ _ _ => decide (n < lo)
  | .func _ a b => belowL lo a && belowL lo b
  | .agg l => belowL lo l
  | .tup l => belowL lo l
  | _ => true
def belowL (lo : Nat) : List SV → Bool
  | [] => true
  | s :: l => belowV lo s && belowL lo l
end

mutual
theorem belowV_ok {lo : Nat} {e e' : Env} (he : ∀ n, n < lo → e' n = e n) : ∀ (s : SV) (v : Value), belowV lo s = true → s.R e v → s.R e' v
  | .any, _, _, _ => trivial
  | .con _, _, _, h => h
  | .int _ _, _, _, h => h
  | .bool _, _, _, h => h
  | .str _, _, _, h => h
  | .ptr n _ _ _, _, hb, h => by
    simp only [belowV, decide_eq_true_eq] at hb
    simp only [SV.R] at h ⊢
    rw [he n hb]; exact h
  | .opt n, _, hb, h => by
    simp only [belowV, decide_eq_true_eq] at hb
    simp only [SV.R] at h ⊢
    rw [he n hb]; exact h
  | .sl n _ _ _, _, hb, h => by
    simp only [belowV, decide_eq_true_eq] at hb
    simp only [SV.R] at h ⊢
    rw [he n hb]; exact h
  | .func _ a b, _, hb, h => by
    simp only [belowV, Bool.and_eq_true] at hb
    simp only [SV.R] at h ⊢
    obtain ⟨u, v, h1, h2, h3⟩ := h
    exact ⟨u, v, h1, belowL_ok he a u hb.1 h2, belowL_ok he b v hb.2 h3⟩
  | .agg l, _, hb, h => by
    simp only [belowV] at hb
    simp only [SV.R] at h ⊢
    obtain ⟨u, h1, h2⟩ := h
    exact ⟨u, h1, belowL_ok he l u hb h2⟩
  | .tup l, _, hb, h => by
    simp only [belowV] at hb
    simp only [SV.R] at h ⊢
    obtain ⟨u, h1, h2⟩ := h
    exact ⟨u, h1, belowL_ok he l u hb h2⟩
theorem belowL_ok {lo : Nat} {e e' : Env} (he : ∀ n, n < lo → e' n = e n) : ∀ (l : List SV) (u : List Value), belowL lo l = true → SV.RL e l u → SV.RL e' l u
  | [], [], _, h => SV.RL_nil _
  | s :: l, v :: u, hb, h => by
    simp only [belowL, Bool.and_eq_true] at hb
    simp only [SV.RL] at h ⊢
    exact ⟨belowV_ok he s v hb.1 h.1, belowL_ok he l u hb.2 h.2⟩
  | [], _ :: _, _, h => by simp [SV.RL] at h
  | _ :: _, [], _, h => by simp [SV.RL] at h
end

def belowLL (lo : Nat) : List (List SV) → Bool
  | [] => true
  | l :: r => belowL lo l && belowLL lo r

def belowE (lo : Nat) : Entry → Bool
  | .blk cs _ => belowL lo cs
  | .arr cs _ _ => belowLL lo cs
  | .ints _ _ _ => true
  | .row _ _ _ _ => false
  | .strs _ _ => true
  | .abs _ imps => imps.all fun n => decide (n < lo)

def belowH (lo : Nat) : Heap → Bool
  | [] => true
  | (n, E) :: σ => decide (n < lo) && belowE lo E && belowH lo σ

theorem belowL_get {lo : Nat} : ∀ {l : List SV} {j : Nat}, belowL lo l = true → belowV lo (l.getD j .any) = true
  | [], j, _ => by simp [belowV]
  | s :: l, 0, h => by
    simp only [belowL, Bool.and_eq_true] at h
    simpa using h.1
  | s :: l, j + 1, h => by
    simp only [belowL, Bool.and_eq_true] at h
    simpa using belowL_get (j := j) h.2

theorem belowLL_get {lo : Nat} : ∀ {cs : List (List SV)} {i : Nat}, belowLL lo cs = true → belowL lo (cs.getD i []) = true
  | [], i, _ => by simp [belowL]
  | l :: r, 0, h => by
    simp only [belowLL, Bool.and_eq_true] at h
    simpa using h.1
  | l :: r, i + 1, h => by
    simp only [belowLL, Bool.and_eq_true] at h
    simpa using belowLL_get (i := i) h.2

theorem rowOk.below {e e' : Env} {w : World} {n sz len : Nat} {f : Nat → Nat → SV} {ty : TypeId} {bs : List Nat} (r : rowOk e w n sz len f ty bs) (hn : e' n = e n)
    (hf : ∀ i j v, (f i j).R e v → (f i j).R e' v) : rowOk e' w n sz len f ty bs := by
  obtain ⟨k, h1, h2 | ⟨h2, h3, h4, h4m, c, h5, h6, h7⟩⟩ := r
  · exact ⟨k, hn.trans h1, .inl h2⟩
  · refine ⟨k, hn.trans h1, .inr ⟨h2, h3, h4, h4m, c, h5, h6, fun i j hi hj => ?_⟩⟩
    obtain ⟨v, h8, h9⟩ := h7 i j hi hj
    exact ⟨v, h8, hf _ _ _ h9⟩

theorem belowE_ok {lo : Nat} {e e' : Env} (he : ∀ n, n < lo → e' n = e n) {w : World} {n : Nat} (hn : n < lo) : ∀ {E : Entry} {bs : List Nat}, belowE lo E = true → E.ok e w n bs → E.ok e' w n bs
  | .blk cs ty, bs, hb, ⟨k, h1, h2, u, h3, h4⟩ => ⟨k, (he n hn).trans h1, h2, u, h3, belowL_ok he _ _ hb h4.1, h4.2⟩
  | .arr cs sz ty, bs, hb, h => rowOk.below h (he n hn) fun i j v => belowV_ok he _ _ (belowL_get (belowLL_get hb))
  | .ints k l ty, bs, _, h => rowOk.below h (he n hn) fun i j v hv => by simpa [intsF, SV.R] using hv
  | .row _ _ _ _, _, hb, _ => by cases hb
  | .strs l ty, bs, _, h => rowOk.below h (he n hn) fun i j v hv => by simpa [strsF, SV.R] using hv
  | .abs A imps, bs, hb, h => by
    have : (n :: imps).map e' = (n :: imps).map e := by
      apply List.map_congr_left
      intro m hm
      rcases List.mem_cons.1 hm with rfl | hm
      · exact he _ hn
      · simp only [belowE, List.all_eq_true, decide_eq_true_eq] at hb
        exact he _ (hb m hm)
    simp only [Entry.ok] at h ⊢
    rw [this]
    exact h

theorem belowH_ok {lo : Nat} {e e' : Env} (he : ∀ n, n < lo → e' n = e n) {w : World} : ∀ {σ : Heap} {bs : List Nat}, belowH lo σ = true → HSat e w σ bs → HSat e' w σ bs
  | [], _, _, h => h
  | (n, E) :: σ, bs, hb, ⟨b₁, b₂, h1, h2, h3⟩ => by
    simp only [belowH, Bool.and_eq_true, decide_eq_true_eq] at hb
    exact ⟨b₁, b₂, h1, belowE_ok he hb.1.1 hb.1.2 h2, belowH_ok he hb.2 h3⟩

/-! Loops: round by round, the names that a round made forgotten behind it. -/

def CodeAt (P : Program) (f : FuncId) (path : List Nat) (fr : List SV) (σ : Heap) (x : Exit) (fr' : List SV) (σ' : Heap) (lo hi : Nat) : Prop :=
  ∃ c, codeAt P f path = some c ∧ CodeOk P c fr σ x fr' σ' lo hi

theorem codeAt_loop {f : FuncId} {path : List Nat} {b : Code} (h : codeAt P f path = some (.loop b)) : codeAt P f (0 :: path) = some b := by unfold codeAt; rw [h]

def isLoop (P : Program) (f : FuncId) (path : List Nat) : Bool :=
  match codeAt P f path with
  | some (.loop _) => true
  | _ => false

theorem isLoop_ok {f : FuncId} {path : List Nat} (h : isLoop P f path = true) : ∃ b, codeAt P f path = some (.loop b) := by
  unfold isLoop at h
  split at h
  · rename_i b hb; exact ⟨b, hb⟩
  · cases h

theorem LoopIs.out {f : FuncId} {path : List Nat} {fr fr' : List SV} {σ σ' : Heap} {x : Exit} {lo hi : Nat} (hl : isLoop P f path = true) (h : CodeAt P f (0 :: path) fr σ x fr' σ' lo hi) (hx : x ≠ .normal) : LoopIs P f path fr σ x fr' σ' lo hi := by
  obtain ⟨b, hb⟩ := isLoop_ok hl
  obtain ⟨c, hc, hok⟩ := h
  rw [codeAt_loop hb] at hc
  cases hc
  exact ⟨b, 1, hb, rounds_out hok hx⟩

theorem LoopIs.step {f : FuncId} {path : List Nat} {fr fr₁ fr' : List SV} {σ σ₁ σ' : Heap} {x : Exit} {lo hi : Nat} (h : CodeAt P f (0 :: path) fr σ .normal fr₁ σ₁ lo hi)
    (hf : belowL lo fr₁ = true) (hh : belowH lo σ₁ = true) (r : LoopIs P f path fr₁ σ₁ x fr' σ' lo hi) : LoopIs P f path fr σ x fr' σ' lo hi := by
  obtain ⟨b, N, hb, hN⟩ := r
  obtain ⟨c, hc, hok⟩ := h
  rw [codeAt_loop hb] at hc
  cases hc
  refine ⟨b, N + 1, hb, fun Fr e w a Q hfr hat hfree k => ?_⟩
  rw [rounds_succ]
  refine hok Fr e w a _ hfr hat hfree fun e' w' a' hx hf' hat' hk => ?_
  have he : ∀ n, n < lo → e n = e' n := fun n hn => (hx.out n (.inl hn)).symm
  refine hN Fr e w' a' Q ⟨hf'.df, hf'.sz, fun t => ?_⟩ ?_ hfree fun e'' w'' a'' hx' hf'' hat'' hk' => k e'' w'' a'' hx' hf'' hat'' (hk.trans hk')
  · exact belowV_ok he _ _ (by unfold fget; exact belowL_get hf) (hf'.rel t)
  · obtain ⟨bs, h1, h2, h3⟩ := hat'.ex
    exact ⟨⟨bs, belowH_ok he hh h1, h2, h3⟩, hat'.fl⟩

/-! What a run of a piece of code shows. -/

def runAt (P : Program) (k d : Nat) (f : FuncId) (path : List Nat) (fr : List SV) (st : St) : Option Out :=
  match codeAt P f path with
  | some c => runCode P (runFn P k d) f k path c fr st
  | none => none

def exitEq : Exit → Exit → Bool
  | .normal, .normal => true
  | .ret, .ret => true
  | .exit a, .exit b => a == b
  | _, _ => false

theorem exitEq_ok {a b : Exit} (h : exitEq a b = true) : a = b := by
  unfold exitEq at h
  split at h
  · rfl
  · rfl
  · rw [eq_of_beq h]
  · cases h

def checkAt (P : Program) (k d : Nat) (f : FuncId) (path : List Nat) (fr : List SV) (σ : Heap) (orc : List Orc) (x : Exit) (fr' : List SV) (σ' : Heap) (lo hi : Nat) : Option (List Prop) :=
  match runAt P k d f path fr { hp := σ, nx := lo, orc := orc, cs := [] } with
  | some o => if exitEq o.x x = true ∧ (finish o.st).nx ≤ hi then
      match simL o.fr fr', matchPre σ' (finish o.st).hp with
      | some ps, some (_, qs) => some (ps ++ qs ++ (finish o.st).cs)
      | _, _ => none
    else none
  | none => none

theorem CodeOk.post {c : Code} {fr fr₁ fr' : List SV} {σ τ σ' : Heap} {x : Exit} {lo mid hi : Nat} (h : CodeOk P c fr σ x fr₁ τ lo mid) (hf : ∀ (e : Env) (a : Act), FrOk e fr₁ a → FrOk e fr' a) (hg : Turns τ σ' mid hi) (l₁ : lo ≤ mid) (l₂ : mid ≤ hi) : CodeOk P c fr σ x fr' σ' lo hi := by
  intro Fr e w a Q hfr hat hfree k
  refine h Fr e w a Q hfr hat (hfree.sub (Nat.le_refl _) l₂) fun e' w' a' hx hf' hat' hk => ?_
  obtain ⟨e₂, x₂, a₂⟩ := hg e' w' Fr hat' ((hfree.sub l₁ (Nat.le_refl _)).of_ext hx (.inl (Nat.le_refl _)))
  exact k e₂ w' a' (hx.trans x₂ (Nat.le_refl _) l₂ l₁ (Nat.le_refl _)) (hf e₂ a' (hf'.mono x₂)) a₂ hk

theorem code_of_check (hP : POk P) {k d : Nat} {f : FuncId} {path : List Nat} {fr fr' : List SV} {σ σ' : Heap} {orc : List Orc} {x : Exit} {lo hi : Nat} {ps : List Prop}
    (h : checkAt P k d f path fr σ orc x fr' σ' lo hi = some ps) (hp : allOf ps) : CodeAt P f path fr σ x fr' σ' lo hi := by
  unfold checkAt at h
  split at h
  · rename_i o ho
    split at h
    · rename_i hc
      obtain ⟨hx, hn⟩ := hc
      split at h
      · rename_i qs rest rs h1 h2
        cases h
        unfold runAt at ho
        split at ho
        · rename_i c hcode
          obtain ⟨g1, g2⟩ := runCode_ok hP (runFn_ok hP k d) ho hcode
          obtain ⟨q1, q2⟩ := finish_ok (st := o.st)
          have hall := allOf_ok hp
          have hcs : ∀ p ∈ (finish o.st).cs, p := fun p hpp => hall p (by simp [hpp])
          have hok := (g2 (q1.all hcs)).1
          rw [exitEq_ok hx] at hok
          refine ⟨c, hcode, hok.post (fun e a hfr => FrOk_sim hfr h1 fun p hpp => hall p (by simp [hpp])) ?_ g1.nx (Nat.le_trans q1.nx hn)⟩
          intro e w Fr hat hfree
          obtain ⟨e', hx', hat'⟩ := q2 hcs e w Fr hat (hfree.sub (Nat.le_refl _) hn)
          exact ⟨e', hx'.wide (Nat.le_refl _) hn, At.of_match h2 (fun p hpp => hall p (by simp [hpp])) hat'⟩
        · cases ho
      · cases h
    · cases h
  · cases h

end Go.Eng
