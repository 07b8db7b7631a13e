import Derived.Test.YtfnekhbekppgnaaDoorEngN
namespace Go.Eng
variable {P : Program}

/-! Regions that draw their order, run once in the text's. -/

def isLoud : Op → Bool
  | .call { callee := .builtin b, args := _, argTypes := _ } => match b with
    | .len => false
    | .min => false
    | .max => false
    | _ => true
  | .call _ => true
  | .store _ _ _ => true
  | .alloc _ => true
  | .box _ _ => true
  | .buildSlice _ _ _ => true
  | .makeSlice _ _ _ => true
  | _ => false

theorem stepVal_quiet {op : Op} {fr : Nat → SV} {st st' : St} {s : SV} (hq : isLoud op = false) (h : stepVal P op fr st = some (s, st')) : st'.hp = st.hp ∧ st'.nx = st.nx := by
  cases op <;> simp only [stepVal] at h <;> try (cases h; done)
  case move x => cases h; exact ⟨rfl, rfl⟩
  case assign x => cases h; exact ⟨rfl, rfl⟩
  case pick c a b => split at h <;> cases h <;> exact ⟨rfl, rfl⟩
  case alloc elem => cases hq
  case box elem x => cases hq
  case build t parts => obtain ⟨_, h2⟩ := pureOp_some h; rw [h2]; exact ⟨rfl, rfl⟩
  case buildSlice t len parts => cases hq
  case load t a => obtain ⟨h1, h2, h3, h4⟩ := stepLoad_ok h; exact ⟨h2, h3⟩
  case store t a x => cases hq
  case nilCheck x => obtain ⟨_, h2⟩ := pureOp_some h; rw [h2]; exact ⟨rfl, rfl⟩
  case binOp op t x y yt => obtain ⟨h1, h2, h3, h4⟩ := stepBin_ok h; exact ⟨h2, h3⟩
  case unOp op t x => split at h <;> cases h; exact ⟨rfl, rfl⟩
  case convert src d x =>
    split at h <;> cases h
    obtain ⟨p1, p2, p3⟩ := popWr_ok st
    exact ⟨p1, p2⟩
  case makeFunc fn first captured => cases h; exact ⟨rfl, rfl⟩
  case makeSlice t l c => cases hq
  case slice t x lo hi mx =>
    cases mx with
    | some m => cases h
    | none =>
      simp only at h
      split at h <;> cases h
      exact ⟨rfl, rfl⟩
  case fieldAddr t x f => obtain ⟨_, h2⟩ := pureOp_some h; rw [h2]; exact ⟨rfl, rfl⟩
  case field t x f => obtain ⟨_, h2⟩ := pureOp_some h; rw [h2]; exact ⟨rfl, rfl⟩
  case indexAddr t x ix => obtain ⟨h1, h2, h3, h4⟩ := stepIndexAddr_ok h; exact ⟨h2, h3⟩
  case index t x ix => obtain ⟨_, h2⟩ := pureOp_some h; rw [h2]; exact ⟨rfl, rfl⟩
  case extract t i => obtain ⟨_, h2⟩ := pureOp_some h; rw [h2]; exact ⟨rfl, rfl⟩
  case call c =>
    obtain ⟨callee, args, ts⟩ := c
    cases callee <;> simp only at h <;> try (cases h; done)
    rename_i b
    unfold stepBuiltin at h
    split at h
    · split at h
      · split at h <;> cases h; exact ⟨rfl, rfl⟩
      · cases h
    · split at h <;> cases h; exact ⟨rfl, rfl⟩
    · split at h <;> cases h; exact ⟨rfl, rfl⟩
    · simp [isLoud] at hq
    · cases h

theorem stepNN_quiet {op : Op} {fr : Nat → SV} {st st' : St} {s : SV} (h : stepNN P op fr st = some (s, st')) : st'.hp = st.hp ∧ st'.nx = st.nx := by
  unfold stepNN at h
  split at h
  · split at h
    · split at h
      · cases h; exact ⟨rfl, rfl⟩
      · cases h
    · cases h
  · cases h

theorem stepStr_quiet {op : Op} {fr : Nat → SV} {st st' : St} {s : SV} (h : stepStr P op fr st = some (s, st')) : st'.hp = st.hp ∧ st'.nx = st.nx := by
  unfold stepStr at h
  split at h
  · split at h
    · cases h; exact ⟨rfl, rfl⟩
    · cases h
  · split at h
    · split at h
      · cases h; exact ⟨rfl, rfl⟩
      · cases h
    · cases h
  · split at h
    · split at h
      · split at h
        · cases h; exact ⟨rfl, rfl⟩
        · cases h
      · cases h
    · cases h
  · split at h
    · split at h
      · split at h
        · split at h
          · cases h; exact ⟨rfl, rfl⟩
          · cases h
        · cases h
      · cases h
    · cases h
  · cases h

theorem step0_quiet {rf : Rf} {ops : Array Oper} {i : Nat} {o : Oper} (ho : ops[i]? = some o) (hq : isLoud o.op = false) {fr : Nat → SV} {st st' : St} {s : SV} (h : step0 P rf ops i fr st = some (s, st')) :
    st'.hp = st.hp ∧ st'.nx = st.nx := by
  unfold step0 at h
  rw [ho] at h
  simp only at h
  have main : ∀ {x}, exec1 P rf o.op fr st = some x → decide1 ops i x = some (s, st') → st'.hp = st.hp ∧ st'.nx = st.nx := by
    intro x hx hd
    obtain ⟨s0, st0⟩ := x
    obtain ⟨_, g2, g3, _⟩ := decide1_ok hd
    have hv : st0.hp = st.hp ∧ st0.nx = st.nx := by
      unfold exec1 at hx
      split at hx
      · rename_i hop
        rw [hop] at hq
        simp [isLoud] at hq
      · split at hx
        · rename_i r hr
          cases hx
          exact stepNN_quiet hr
        · split at hx
          · rename_i r hr
            cases hx
            exact stepStr_quiet hr
          · exact stepVal_quiet hq hx
    exact ⟨g2.trans hv.1, g3.trans hv.2⟩
  split at h
  · split at h
    · rename_i x hx; exact main hx h
    · cases h
  · split at h
    · split at h
      · split at h
        · split at h
          · rename_i x hx; exact main hx h
          · cases h
        · cases h; exact ⟨rfl, rfl⟩
      · cases h; exact ⟨rfl, rfl⟩
      · cases h
    · cases h

def runRec (P : Program) (rf : Rf) (ops : Array Oper) : Nat → Nat → List SV → St → Option (List (SV × St))
  | 0, _, _, _ => some []
  | k + 1, i, fr, st => match step0 P rf ops i (fget fr) st with
    | some x => match runRec P rf ops k (i + 1) (fput fr (dstOf ops i) x.1) x.2 with
      | some tr => some (x :: tr)
      | none => none
    | none => none

def svAt (tr : List (SV × St)) (i : Nat) : SV := match tr[i]? with
  | some x => x.1
  | none => .any

def stAt (st : St) (tr : List (SV × St)) : Nat → St
  | 0 => st
  | i + 1 => match tr[i]? with
    | some x => x.2
    | none => st

def frsO (ops : Array Oper) (i : Nat) (fr : List SV) (tr : List (SV × St)) : Nat → List SV
  | 0 => fr
  | j + 1 => fput (frsO ops i fr tr j) (dstOf ops (i + j)) (svAt tr j)

theorem frsO_cons (ops : Array Oper) (i : Nat) (fr : List SV) (x : SV × St) (tr : List (SV × St)) : ∀ j, frsO ops i fr (x :: tr) (j + 1) = frsO ops (i + 1) (fput fr (dstOf ops i) x.1) tr j
  | 0 => rfl
  | j + 1 => by
    have ih := frsO_cons ops i fr x tr j
    show fput (frsO ops i fr (x :: tr) (j + 1)) (dstOf ops (i + (j + 1))) (svAt (x :: tr) (j + 1)) = fput (frsO ops (i + 1) (fput fr (dstOf ops i) x.1) tr j) (dstOf ops (i + 1 + j)) (svAt tr j)
    rw [ih, show i + (j + 1) = i + 1 + j by omega]
    simp [svAt]

theorem stAt_cons (st : St) (x : SV × St) (tr : List (SV × St)) (j : Nat) (hj : j ≤ tr.length) : stAt st (x :: tr) (j + 1) = stAt x.2 tr j := by
  cases j with
  | zero => simp [stAt]
  | succ j => simp [stAt, List.getElem?_eq_getElem (show j < tr.length by omega)]

theorem runRec_ok {rf : Rf} {ops : Array Oper} : ∀ {k i : Nat} {fr : List SV} {st : St} {tr : List (SV × St)}, runRec P rf ops k i fr st = some tr →
    tr.length = k ∧ ∀ j, j < k → step0 P rf ops (i + j) (fget (frsO ops i fr tr j)) (stAt st tr j) = some (svAt tr j, stAt st tr (j + 1))
  | 0, i, fr, st, tr, h => by
    simp only [runRec, Option.some.injEq] at h
    subst h
    exact ⟨rfl, fun j hj => by omega⟩
  | k + 1, i, fr, st, tr, h => by
    unfold runRec at h
    split at h
    · rename_i x hx
      split at h
      · rename_i tr' htr
        cases h
        obtain ⟨h1, h2⟩ := runRec_ok htr
        refine ⟨by simp [h1], fun j hj => ?_⟩
        cases j with
        | zero => simpa [frsO, stAt, svAt] using hx
        | succ j =>
          rw [frsO_cons, stAt_cons _ _ _ _ (by omega), stAt_cons _ _ _ _ (by omega), show i + (j + 1) = i + 1 + j by omega]
          have := h2 j (by omega)
          simpa [svAt] using this
      · cases h
    · cases h

def loudAt (ops : Array Oper) (i : Nat) : Bool := match ops[i]? with
  | some o => isLoud o.op
  | none => false

def lm (ops : Array Oper) : Nat → Nat
  | 0 => 0
  | i + 1 => match loudAt ops i with
    | true => lm ops i ||| 2 ^ i
    | false => lm ops i

theorem lm_bit (ops : Array Oper) (j : Nat) : ∀ i, (lm ops i).testBit j = (decide (j < i) && loudAt ops j)
  | 0 => by simp [lm]
  | i + 1 => by
    unfold lm
    cases h : loudAt ops i with
    | true =>
      simp only [Nat.testBit_or, lm_bit ops j i, Nat.testBit_two_pow]
      by_cases hj : j = i
      · subst hj; simp [h]
      · have e1 : decide (j < i + 1) = decide (j < i) := by simp; omega
        simp [e1, Ne.symm hj]
    | false =>
      simp only [lm_bit ops j i]
      by_cases hj : j = i
      · subst hj; simp [h]
      · have e1 : decide (j < i + 1) = decide (j < i) := by simp; omega
        rw [e1]

def maskOf (js : List Nat) (pl : List Nat) : Nat := js.foldr (fun j m => 2 ^ j ||| (pl.getD j 0 ||| m)) 0

theorem maskOf_bit (pl : List Nat) (j : Nat) : ∀ {js : List Nat}, (maskOf js pl).testBit j = true → ∃ k ∈ js, j = k ∨ (pl.getD k 0).testBit j = true
  | [], h => by simp [maskOf] at h
  | k :: js, h => by
    simp only [maskOf, List.foldr_cons, Nat.testBit_or, Nat.testBit_two_pow, Bool.or_eq_true, decide_eq_true_eq] at h
    rcases h with h | h | h
    · exact ⟨k, by simp, .inl h.symm⟩
    · exact ⟨k, by simp, .inr h⟩
    · obtain ⟨k', h1, h2⟩ := maskOf_bit pl j h
      exact ⟨k', by simp [h1], h2⟩

def preUpto (ops : Array Oper) : Nat → List Nat
  | 0 => []
  | i + 1 => preUpto ops i ++ [maskOf (bindsOn ops i) (preUpto ops i)]

def preMk (ops : Array Oper) : Nat → Nat → List Nat → List Nat
  | 0, _, acc => acc
  | k + 1, i, acc => preMk ops k (i + 1) (acc ++ [maskOf (bindsOn ops i) acc])

/-- What of the operations' order is to be looked at. -/
def ordOk (ops : Array Oper) (pl : List Nat) (n : Nat) : Bool :=
  (List.range n).all fun i =>
    (bindsOn ops i).all (fun j => decide (j < i)) && (pl.getD i 0 == maskOf (bindsOn ops i) pl) &&
    (namesOf ops i).all fun t => (List.range n).all fun j =>
      j == i || !(dstOf ops j == some t) || (decide (j < i) && (pl.getD i 0).testBit j) || (decide (i < j) && (pl.getD j 0).testBit i)

def allowed (ops : Array Oper) (pl : List Nat) (n i m : Nat) : Bool :=
  (List.range n).all fun j => (!((pl.getD i 0).testBit j && loudAt ops j) || m.testBit j) && !(m.testBit j && (pl.getD j 0).testBit i)

def stagesOf (ops : Array Oper) (n : Nat) : List Nat := 0 :: ((List.range n).filter (loudAt ops)).map (· + 1)

def chainOk (ops : Array Oper) (pl : List Nat) (n : Nat) (stages : List Nat) : Bool :=
  (List.range n).all fun i => !loudAt ops i || stages.all fun a => !(allowed ops pl n i (lm ops a)) || (lm ops a).testBit i || lm ops a == lm ops i

/-- A quiet operation at another stage. -/
def againAt (P : Program) (rf : Rf) (ops : Array Oper) (fr : List SV) (st : St) (tr : List (SV × St)) (i a : Nat) : Option (List Prop) :=
  match step0 P rf ops i (fget (frsO ops 0 fr tr i)) { hp := (stAt st tr a).hp, nx := (stAt st tr i).nx, orc := (stAt st tr i).orc, cs := [] } with
  | some (s, st') => some ((s = svAt tr i) :: st'.cs)
  | none => none

def againAll (P : Program) (rf : Rf) (ops : Array Oper) (pl : List Nat) (n : Nat) (fr : List SV) (st : St) (tr : List (SV × St)) (i : Nat) : List Nat → Option (List Prop)
  | [] => some []
  | a :: rest => match againAll P rf ops pl n fr st tr i rest with
    | some ps => if allowed ops pl n i (lm ops a) = true ∧ lm ops a ≠ lm ops i then
        match againAt P rf ops fr st tr i a with
        | some qs => some (qs ++ ps)
        | none => none
      else some ps
    | none => none

def againOps (P : Program) (rf : Rf) (ops : Array Oper) (pl : List Nat) (n : Nat) (fr : List SV) (st : St) (tr : List (SV × St)) (stages : List Nat) : List Nat → Option (List Prop)
  | [] => some []
  | i :: rest => match againOps P rf ops pl n fr st tr stages rest with
    | some ps => if loudAt ops i = true then some ps else
        match againAll P rf ops pl n fr st tr i stages with
        | some qs => some (qs ++ ps)
        | none => none
    | none => none

/-! Regions whose loud operations are no chain: all states that can be come to. -/

def latRun (P : Program) (rf : Rf) (ops : Array Oper) (fr : List SV) (st : St) (tr : List (SV × St)) (i : Nat) (σ : Heap) : Option (SV × St) :=
  step0 P rf ops i (fget (frsO ops 0 fr tr i)) { hp := σ, nx := (stAt st tr i).nx, orc := (stAt st tr i).orc, cs := [] }

def latAdd (P : Program) (rf : Rf) (ops : Array Oper) (pl : List Nat) (n : Nat) (fr : List SV) (st : St) (tr : List (SV × St)) (i : Nat) : List (Nat × Heap) → List (Nat × Heap)
  | [] => []
  | (m, σ) :: T => match allowed ops pl n i m with
    | true => match latRun P rf ops fr st tr i σ with
      | some (_, st') => (m ||| 2 ^ i, st'.hp) :: (m, σ) :: latAdd P rf ops pl n fr st tr i T
      | none => (m, σ) :: latAdd P rf ops pl n fr st tr i T
    | false => (m, σ) :: latAdd P rf ops pl n fr st tr i T

def latT (P : Program) (rf : Rf) (ops : Array Oper) (pl : List Nat) (n : Nat) (fr : List SV) (st : St) (tr : List (SV × St)) : List Nat → List (Nat × Heap) → List (Nat × Heap)
  | [], T => T
  | i :: rest, T => match loudAt ops i with
    | true => latT P rf ops pl n fr st tr rest (latAdd P rf ops pl n fr st tr i T)
    | false => latT P rf ops pl n fr st tr rest T

theorem latAdd_mem {rf : Rf} {ops : Array Oper} {pl : List Nat} {n : Nat} {fr : List SV} {st : St} {tr : List (SV × St)} {i : Nat} {x : Nat × Heap} : ∀ {T : List (Nat × Heap)}, x ∈ T → x ∈ latAdd P rf ops pl n fr st tr i T
  | [], h => by cases h
  | (m, σ) :: T, h => by
    unfold latAdd
    rcases List.mem_cons.1 h with rfl | h
    · split
      · split <;> simp
      · simp
    · split
      · split <;> simp [latAdd_mem h]
      · simp [latAdd_mem h]

theorem latT_mem {rf : Rf} {ops : Array Oper} {pl : List Nat} {n : Nat} {fr : List SV} {st : St} {tr : List (SV × St)} {x : Nat × Heap} : ∀ (l : List Nat) (T : List (Nat × Heap)), x ∈ T → x ∈ latT P rf ops pl n fr st tr l T
  | [], _, h => h
  | i :: rest, T, h => by
    unfold latT
    split
    · exact latT_mem rest _ (latAdd_mem h)
    · exact latT_mem rest _ h

def lookT : List (Nat × Heap) → Nat → Option Heap
  | [], _ => none
  | (m, σ) :: T, k => if m == k then some σ else lookT T k

theorem lookT_mem : ∀ {T : List (Nat × Heap)} {k : Nat} {σ : Heap}, lookT T k = some σ → (k, σ) ∈ T
  | [], _, _, h => by cases h
  | (m, τ) :: T, k, σ, h => by
    unfold lookT at h
    split at h
    · rename_i hm
      cases h
      have : m = k := by simpa using hm
      subst this
      exact List.mem_cons_self
    · exact List.mem_cons_of_mem _ (lookT_mem h)

def latOne (P : Program) (rf : Rf) (ops : Array Oper) (pl : List Nat) (n : Nat) (fr : List SV) (st : St) (tr : List (SV × St)) (T : List (Nat × Heap)) (m : Nat) (σ : Heap) (i : Nat) : Option (List Prop) :=
  if allowed ops pl n i m = true ∧ (loudAt ops i && m.testBit i) = false then
    match latRun P rf ops fr st tr i σ with
    | some (s, st') => if st'.nx ≤ (stAt st tr (i + 1)).nx then
        match loudAt ops i with
        | true => match lookT T (m ||| 2 ^ i) with
          | some σ' => match matchPre σ' st'.hp with
            | some (_, ps) => some ((s = svAt tr i) :: (ps ++ st'.cs))
            | none => none
          | none => none
        | false => some ((s = svAt tr i) :: st'.cs)
      else none
    | none => none
  else some []

def latIs (P : Program) (rf : Rf) (ops : Array Oper) (pl : List Nat) (n : Nat) (fr : List SV) (st : St) (tr : List (SV × St)) (T : List (Nat × Heap)) (m : Nat) (σ : Heap) : List Nat → Option (List Prop)
  | [] => some []
  | i :: rest => match latOne P rf ops pl n fr st tr T m σ i, latIs P rf ops pl n fr st tr T m σ rest with
    | some ps, some qs => some (ps ++ qs)
    | _, _ => none

def latAll (P : Program) (rf : Rf) (ops : Array Oper) (pl : List Nat) (n : Nat) (fr : List SV) (st : St) (tr : List (SV × St)) (T : List (Nat × Heap)) : List (Nat × Heap) → Option (List Prop)
  | [] => some []
  | (m, σ) :: rest => match latIs P rf ops pl n fr st tr T m σ (List.range n), latAll P rf ops pl n fr st tr T rest with
    | some ps, some qs => some (ps ++ qs)
    | _, _ => none

theorem latIs_mem {rf : Rf} {ops : Array Oper} {pl : List Nat} {n : Nat} {fr : List SV} {st : St} {tr : List (SV × St)} {T : List (Nat × Heap)} {m : Nat} {σ : Heap} : ∀ {l : List Nat} {ps : List Prop}, latIs P rf ops pl n fr st tr T m σ l = some ps →
    ∀ i ∈ l, ∃ qs, latOne P rf ops pl n fr st tr T m σ i = some qs ∧ ∀ q ∈ qs, q ∈ ps
  | [], _, _, i, hi => by cases hi
  | j :: rest, ps, h, i, hi => by
    unfold latIs at h
    split at h
    · rename_i ps' qs h1 h2
      cases h
      rcases List.mem_cons.1 hi with rfl | hi
      · exact ⟨_, h1, fun q hq => by simp [hq]⟩
      · obtain ⟨rs, r1, r2⟩ := latIs_mem h2 i hi
        exact ⟨rs, r1, fun q hq => by simp [r2 q hq]⟩
    · cases h

theorem latAll_mem {rf : Rf} {ops : Array Oper} {pl : List Nat} {n : Nat} {fr : List SV} {st : St} {tr : List (SV × St)} {T : List (Nat × Heap)} : ∀ {l : List (Nat × Heap)} {ps : List Prop}, latAll P rf ops pl n fr st tr T l = some ps →
    ∀ m σ, (m, σ) ∈ l → ∃ qs, latIs P rf ops pl n fr st tr T m σ (List.range n) = some qs ∧ ∀ q ∈ qs, q ∈ ps
  | [], _, _, m, σ, hm => by cases hm
  | (k, τ) :: rest, ps, h, m, σ, hm => by
    unfold latAll at h
    split at h
    · rename_i ps' qs h1 h2
      cases h
      rcases List.mem_cons.1 hm with he | hm
      · cases he
        exact ⟨_, h1, fun q hq => by simp [hq]⟩
      · obtain ⟨rs, r1, r2⟩ := latAll_mem h2 m σ hm
        exact ⟨rs, r1, fun q hq => by simp [r2 q hq]⟩
    · cases h

theorem StepOk.wide {ops : Array Oper} {i : Nat} {fr : Nat → SV} {σ σ' : Heap} {s : SV} {lo mid hi : Nat} (h : StepOk P ops i fr σ s σ' lo mid) (hm : mid ≤ hi) : StepOk P ops i fr σ s σ' lo hi :=
  fun Fr e w a Q K hr hat hfree k => h Fr e w a Q K hr hat (hfree.sub (Nat.le_refl _) hm) fun e' w' v h1 h2 h3 h4 => k e' w' v (h1.wide (Nat.le_refl _) hm) h2 h3 h4

theorem At.matched {e : Env} {w : World} {pre σ rest : Heap} {ps : List Prop} {Fr : Nat → Prop} (h : matchPre pre σ = some (rest, ps)) (hp : ∀ p ∈ ps, p) (hat : At e w σ Fr) : At e w pre Fr := by
  obtain ⟨bs, h1, h2, h3, _⟩ := matchPre_ok h hp hat
  exact ⟨⟨bs, h1, h2, h3⟩, hat.fl⟩

theorem StepOk.matched {ops : Array Oper} {i : Nat} {fr : Nat → SV} {σ σ' σ₂ rest : Heap} {s : SV} {lo hi : Nat} {ps : List Prop} (h : StepOk P ops i fr σ s σ' lo hi) (hm : matchPre σ₂ σ' = some (rest, ps)) (hp : ∀ p ∈ ps, p) : StepOk P ops i fr σ s σ₂ lo hi :=
  fun Fr e w a Q K hr hat hfree k => h Fr e w a Q K hr hat hfree fun e' w' v h1 h2 h3 h4 => k e' w' v h1 h2 (h3.matched hm hp) h4

def runLat (P : Program) (rf : Rf) (ops : Array Oper) (pl : List Nat) (fr : List SV) (st : St) (tr : List (SV × St)) : Option (List SV × St) :=
  if ordOk ops pl ops.size = true then
    match latT P rf ops pl ops.size fr st tr (List.range ops.size) [(0, st.hp)] with
    | T => match T.filter (fun x => x.1 == lm ops ops.size), lookT T 0 with
      | [x], some _ => match latAll P rf ops pl ops.size fr st tr T T with
        | some ps => some (frsO ops 0 fr tr ops.size, { hp := x.2, nx := (stAt st tr ops.size).nx, orc := (stAt st tr ops.size).orc, cs := ps ++ (stAt st tr ops.size).cs })
        | none => none
      | _, _ => none
  else none

theorem runLat_ok (hP : POk P) {rf : Rf} (hrf : RfOk P rf) {ops : Array Oper} {id : Nat} {fr fr' : List SV} {st st' : St} {tr : List (SV × St)} (htr : runRec P rf ops ops.size 0 fr st = some tr)
    {pl : List Nat} (h : runLat P rf ops pl fr st tr = some (fr', st')) :
    Mono st st' ∧ ((∀ p ∈ st'.cs, p) → CodeOk P (.region id ops true) fr st.hp .normal fr' st'.hp st.nx st'.nx) := by
  unfold runLat at h
  split at h
  · rename_i hord
    simp only at h
    generalize hT0 : latT P rf ops pl ops.size fr st tr (List.range ops.size) [(0, st.hp)] = T at h
    split at h
    · rename_i x σ0 hx h0
      split at h
      · rename_i ps hps
        cases h
        obtain ⟨hlen, hstep⟩ := runRec_ok htr
        simp only [Nat.zero_add] at hstep
        have hmono1 : ∀ j, j < ops.size → Mono (stAt st tr j) (stAt st tr (j + 1)) := fun j hj => (step0_ok hP hrf (hstep j hj)).1
        have hmono : ∀ a b, a ≤ b → b ≤ ops.size → Mono (stAt st tr a) (stAt st tr b) := by
          intro a b hab hb
          induction b with
          | zero => have : a = 0 := by omega
                    subst this; exact Mono.refl _
          | succ b ih =>
            by_cases he : a = b + 1
            · subst he; exact Mono.refl _
            · exact (ih (by omega) (by omega)).trans (hmono1 b (by omega))
        obtain ⟨q1, q2⟩ := hmono 0 ops.size (by omega) (Nat.le_refl _)
        obtain ⟨l, hl⟩ := q1
        refine ⟨⟨⟨ps ++ l, by simp only [hl, List.append_assoc]; rfl⟩, q2⟩, fun hp => ?_⟩
        have hextra : ∀ p ∈ ps, p := fun p hpp => hp p (by simp [hpp])
        let p : Plan P ops := { fr := fr, σ := st.hp, sv := svAt tr, nx := fun i => (stAt st tr i).nx, pre := fun i => pl.getD i 0, L := lm ops ops.size, T := T }
        have hfrs : ∀ j, p.frs j = frsO ops 0 fr tr j := by
          intro j
          induction j with
          | zero => rfl
          | succ j ih => rw [Plan.frs, ih, frsO, Nat.zero_add]
        simp only [ordOk, List.all_eq_true, List.mem_range, Bool.and_eq_true, decide_eq_true_eq, beq_iff_eq, Bool.or_eq_true, Bool.not_eq_true'] at hord
        have hlow : ∀ i, i < ops.size → ∀ j, (pl.getD i 0).testBit j = true → j < i := by
          intro i
          induction i using Nat.strongRecOn with
          | _ i ih =>
            intro hi j hj
            obtain ⟨⟨h1, h2⟩, h3⟩ := hord i hi
            rw [h2] at hj
            obtain ⟨k, hk1, hk2⟩ := maskOf_bit pl j hj
            have := h1 k hk1
            rcases hk2 with rfl | hk2
            · exact this
            · have := ih k this (by omega) j hk2
              omega
        have hallow : ∀ i m, i < ops.size → (∀ j, (p.pre i).testBit j = true → p.L.testBit j = true → m.testBit j = true) → (∀ j, j < ops.size → m.testBit j = true → (p.pre j).testBit i = false) → allowed ops pl ops.size i m = true := by
          intro i m hi h1 h2
          simp only [allowed, List.all_eq_true, List.mem_range, Bool.and_eq_true, Bool.or_eq_true, Bool.not_eq_true', Bool.and_eq_false_iff]
          intro j hj
          constructor
          · by_cases hb : (pl.getD i 0).testBit j = true ∧ loudAt ops j = true
            · right
              refine h1 j hb.1 ?_
              show (lm ops ops.size).testBit j = true
              rw [lm_bit]
              simp [hj, hb.2]
            · left
              cases hx : (pl.getD i 0).testBit j with
              | false => exact .inl rfl
              | true =>
                right
                cases hy : loudAt ops j with
                | false => rfl
                | true => exact absurd ⟨hx, hy⟩ hb
          · cases hx : m.testBit j with
            | false => exact .inl rfl
            | true => right; exact h2 j hj hx
        have hone : ∀ i m σ, i < ops.size → (m, σ) ∈ p.T → ∃ qs, latOne P rf ops pl ops.size fr st tr T m σ i = some qs ∧ ∀ q ∈ qs, q := by
          intro i m σ hi hm
          obtain ⟨qs, g1, g2⟩ := latAll_mem hps m σ hm
          obtain ⟨rs, r1, r2⟩ := latIs_mem g1 i (List.mem_range.2 hi)
          exact ⟨rs, r1, fun q hq => hextra q (g2 q (r2 q hq))⟩
        have hstart : (0, st.hp) ∈ T := by
          rw [← hT0]
          exact latT_mem _ _ List.mem_cons_self
        have good : p.Good := by
          refine { ord := fun i hi j hj => (hord i hi).1.1 j hj, pre := ?_, own := ?_, nx := fun i hi => (hmono1 i hi).nx, start := hstart, quiet := ?_, loud := ?_ }
          · intro i hi j hj
            refine ⟨hlow i hi j hj, ?_⟩
            have hj' : (pl.getD i 0).testBit j = true := hj
            rw [(hord i hi).1.2] at hj'
            obtain ⟨k, hk1, hk2⟩ := maskOf_bit pl j hj'
            rcases hk2 with rfl | hk2
            · exact .inl hk1
            · exact .inr ⟨k, hk1, hk2⟩
          · intro i hi t ht j hj hji hd
            rcases (hord i hi).2 t ht j hj with ((h1 | h1) | h1) | h1
            · exact absurd h1 hji
            · rw [hd] at h1; simp at h1
            · exact .inl h1
            · exact .inr h1
          · intro i hi hL m σ hm hup hno
            have hl : loudAt ops i = false := by
              have : (lm ops ops.size).testBit i = false := hL
              rw [lm_bit] at this
              simpa [hi] using this
            · obtain ⟨qs, g1, g2⟩ := hone i m σ hi hm
              unfold latOne at g1
              rw [if_pos ⟨hallow i m hi hup hno, by simp [hl]⟩] at g1
              split at g1
              · rename_i s st1 hs1
                split at g1
                · rename_i hnx
                  rw [hl] at g1
                  simp only [Option.some.injEq] at g1
                  subst g1
                  unfold latRun at hs1
                  have ho : ops[i]? = some ops[i] := Array.getElem?_eq_getElem hi
                  have hl' : isLoud ops[i].op = false := by unfold loudAt at hl; rw [ho] at hl; exact hl
                  obtain ⟨_, k2⟩ := step0_ok hP hrf hs1
                  obtain ⟨z1, z2⟩ := step0_quiet ho hl' hs1
                  have hsv : s = svAt tr i := g2 _ List.mem_cons_self
                  have k3 := k2 fun p hpp => g2 _ (List.mem_cons_of_mem _ hpp)
                  simp only at k3 z1 z2
                  rw [z1, hsv] at k3
                  rw [hfrs]
                  exact k3.wide hnx
                · cases g1
              · cases g1
          · intro i hi hL m σ hm hmi hup hno
            have hl : loudAt ops i = true := by
              have : (lm ops ops.size).testBit i = true := hL
              rw [lm_bit] at this
              simpa [hi] using this
            obtain ⟨qs, g1, g2⟩ := hone i m σ hi hm
            unfold latOne at g1
            rw [if_pos ⟨hallow i m hi hup hno, by simp [hmi]⟩] at g1
            split at g1
            · rename_i s st1 hs1
              split at g1
              · rename_i hnx
                rw [hl] at g1
                simp only at g1
                split at g1
                · rename_i σ' hσ'
                  split at g1
                  · rename_i rest qs' hm'
                    cases g1
                    unfold latRun at hs1
                    obtain ⟨_, k2⟩ := step0_ok hP hrf hs1
                    have hsv : s = svAt tr i := g2 _ List.mem_cons_self
                    have k3 := k2 fun p hpp => g2 _ (by simp [hpp])
                    simp only at k3
                    rw [hsv] at k3
                    refine ⟨σ', m ||| 2 ^ i, ?_, lookT_mem hσ', fun j => ?_⟩
                    · rw [hfrs]
                      exact (k3.wide hnx).matched hm' fun p hpp => g2 _ (by simp [hpp])
                    · simp only [Nat.testBit_or, Nat.testBit_two_pow]
                      congr 1
                      simp [eq_comm]
                  · cases g1
                · cases g1
              · cases g1
            · cases g1
        have hcode := CodeOk.region_draw (id := id) (p := p) hP.mixed good (σ' := x.2) (by
          intro m σ hm hbits hout
          have hmf : m = lm ops ops.size := by
            apply Nat.eq_of_testBit_eq
            intro j
            by_cases hj : j < ops.size
            · exact hbits j hj
            · rw [hout j (by omega), lm_bit]
              have e2 : decide (j < ops.size) = false := by simp; omega
              rw [e2]; rfl
          have hin : (m, σ) ∈ T.filter (fun x => x.1 == lm ops ops.size) := List.mem_filter.2 ⟨hm, by simp [hmf]⟩
          rw [hx] at hin
          simp only [List.mem_cons, List.not_mem_nil, or_false] at hin
          rw [← hin])
        rw [hfrs] at hcode
        exact hcode
      · cases h
    · cases h
  · cases h

def runDraw (P : Program) (rf : Rf) (ops : Array Oper) (fr : List SV) (st : St) : Option (List SV × St) :=
  match runRec P rf ops ops.size 0 fr st with
  | some tr => match preMk ops ops.size 0 [] with
    | pl => if ordOk ops pl ops.size = true ∧ chainOk ops pl ops.size (stagesOf ops ops.size) = true then
        match againOps P rf ops pl ops.size fr st tr (stagesOf ops ops.size) (List.range ops.size) with
        | some ps => some (frsO ops 0 fr tr ops.size, (stAt st tr ops.size).add ps)
        | none => none
      else runLat P rf ops pl fr st tr
  | none => none

theorem againAll_mem {rf : Rf} {ops : Array Oper} {pl : List Nat} {n : Nat} {fr : List SV} {st : St} {tr : List (SV × St)} {i : Nat} : ∀ {stages : List Nat} {ps : List Prop}, againAll P rf ops pl n fr st tr i stages = some ps →
    ∀ a ∈ stages, allowed ops pl n i (lm ops a) = true → lm ops a ≠ lm ops i → ∃ qs, againAt P rf ops fr st tr i a = some qs ∧ ∀ q ∈ qs, q ∈ ps
  | [], ps, _, a, ha, _, _ => by cases ha
  | b :: rest, ps, h, a, ha, h1, h2 => by
    unfold againAll at h
    split at h
    · rename_i ps' hps
      rcases List.mem_cons.1 ha with rfl | ha
      · rw [if_pos ⟨h1, h2⟩] at h
        split at h
        · rename_i qs hq
          cases h
          exact ⟨qs, hq, fun q hq => by simp [hq]⟩
        · cases h
      · obtain ⟨qs, hq1, hq2⟩ := againAll_mem hps a ha h1 h2
        split at h
        · split at h
          · cases h; exact ⟨qs, hq1, fun q hq => by simp [hq2 q hq]⟩
          · cases h
        · cases h; exact ⟨qs, hq1, hq2⟩
    · cases h

theorem againOps_mem {rf : Rf} {ops : Array Oper} {pl : List Nat} {n : Nat} {fr : List SV} {st : St} {tr : List (SV × St)} {stages : List Nat} : ∀ {l : List Nat} {ps : List Prop}, againOps P rf ops pl n fr st tr stages l = some ps →
    ∀ i ∈ l, loudAt ops i = false → ∃ qs, againAll P rf ops pl n fr st tr i stages = some qs ∧ ∀ q ∈ qs, q ∈ ps
  | [], ps, _, a, ha, _ => by cases ha
  | b :: rest, ps, h, i, hi, hl => by
    unfold againOps at h
    split at h
    · rename_i ps' hps
      rcases List.mem_cons.1 hi with rfl | hi
      · rw [if_neg (by simp [hl])] at h
        split at h
        · rename_i qs hq
          cases h
          exact ⟨qs, hq, fun q hq => by simp [hq]⟩
        · cases h
      · obtain ⟨qs, hq1, hq2⟩ := againOps_mem hps i hi hl
        split at h
        · cases h; exact ⟨qs, hq1, hq2⟩
        · split at h
          · cases h; exact ⟨qs, hq1, fun q hq => by simp [hq2 q hq]⟩
          · cases h
    · cases h

theorem runDraw_ok (hP : POk P) {rf : Rf} (hrf : RfOk P rf) {ops : Array Oper} {id : Nat} {fr fr' : List SV} {st st' : St} (h : runDraw P rf ops fr st = some (fr', st')) :
    Mono st st' ∧ ((∀ p ∈ st'.cs, p) → CodeOk P (.region id ops true) fr st.hp .normal fr' st'.hp st.nx st'.nx) := by
  unfold runDraw at h
  split at h
  · rename_i tr htr
    simp only at h
    generalize hpl : preMk ops ops.size 0 [] = pl at h
    split at h
    · rename_i hc
      obtain ⟨hord, hchain⟩ := hc
      split at h
      · rename_i ps hps
        cases h
        obtain ⟨hlen, hstep⟩ := runRec_ok htr
        simp only [Nat.zero_add] at hstep
        -- the states grow
        have hmono1 : ∀ j, j < ops.size → Mono (stAt st tr j) (stAt st tr (j + 1)) := fun j hj => (step0_ok hP hrf (hstep j hj)).1
        have hmono : ∀ a b, a ≤ b → b ≤ ops.size → Mono (stAt st tr a) (stAt st tr b) := by
          intro a b hab hb
          induction b with
          | zero => have : a = 0 := by omega
                    subst this; exact Mono.refl _
          | succ b ih =>
            by_cases he : a = b + 1
            · subst he; exact Mono.refl _
            · exact (ih (by omega) (by omega)).trans (hmono1 b (by omega))
        have hall : Mono st ((stAt st tr ops.size).add ps) := (hmono 0 ops.size (by omega) (Nat.le_refl _)).trans (Mono.add _ _)
        refine ⟨hall, fun hp => ?_⟩
        have hcs : ∀ j, j ≤ ops.size → ∀ p ∈ (stAt st tr j).cs, p := fun j hj => ((hmono j ops.size hj (Nat.le_refl _)).trans (Mono.add _ _)).all hp
        have hextra : ∀ p ∈ ps, p := all_add hp
        -- quiet operations leave the heap
        have hquiet : ∀ j, j < ops.size → loudAt ops j = false → (stAt st tr (j + 1)).hp = (stAt st tr j).hp ∧ (stAt st tr (j + 1)).nx = (stAt st tr j).nx := by
          intro j hj hl
          have ho : ops[j]? = some ops[j] := Array.getElem?_eq_getElem hj
          unfold loudAt at hl
          rw [ho] at hl
          exact step0_quiet ho hl (hstep j hj)
        have hsame : ∀ a b, a ≤ b → b ≤ ops.size → lm ops a = lm ops b → (stAt st tr a).hp = (stAt st tr b).hp := by
          intro a b hab hb hm
          induction b with
          | zero => have : a = 0 := by omega
                    subst this; rfl
          | succ b ih =>
            by_cases he : a = b + 1
            · subst he; rfl
            · have hl : loudAt ops b = false := by
                have h1 := congrArg (fun m => Nat.testBit m b) hm
                simp only [lm_bit] at h1
                have e1 : decide (b < a) = false := by simp; omega
                rw [e1] at h1
                simpa using h1.symm
              have hm' : lm ops a = lm ops b := by
                rw [hm, lm, hl]
              rw [(hquiet b (by omega) hl).1]
              exact ih (by omega) (by omega) hm'
        have hsame' : ∀ a b, a ≤ ops.size → b ≤ ops.size → lm ops a = lm ops b → (stAt st tr a).hp = (stAt st tr b).hp := by
          intro a b ha hb hm
          rcases Nat.le_total a b with h | h
          · exact hsame a b h hb hm
          · exact (hsame b a h ha hm.symm).symm
        -- each stage is a stage of the list
        have hstage : ∀ a, a ≤ ops.size → ∃ a' ∈ stagesOf ops ops.size, a' ≤ ops.size ∧ lm ops a' = lm ops a := by
          intro a
          induction a with
          | zero => intro _; exact ⟨0, by simp [stagesOf], by omega, rfl⟩
          | succ a ih =>
            intro ha
            cases hl : loudAt ops a with
            | true => exact ⟨a + 1, by simp [stagesOf]; exact ⟨by omega, hl⟩, ha, rfl⟩
            | false =>
              obtain ⟨a', h1, h2, h3⟩ := ih (by omega)
              exact ⟨a', h1, h2, by rw [h3, lm, hl]⟩
        let p : Plan P ops := { fr := fr, σ := st.hp, sv := svAt tr, nx := fun i => (stAt st tr i).nx, pre := fun i => pl.getD i 0, L := lm ops ops.size, T := (List.range (ops.size + 1)).map fun a => (lm ops a, (stAt st tr a).hp) }
        have hfrs : ∀ j, p.frs j = frsO ops 0 fr tr j := by
          intro j
          induction j with
          | zero => rfl
          | succ j ih => rw [Plan.frs, ih, frsO, Nat.zero_add]
        have hT : ∀ {m σ}, (m, σ) ∈ p.T → ∃ a, a ≤ ops.size ∧ m = lm ops a ∧ σ = (stAt st tr a).hp := by
          intro m σ hm
          obtain ⟨a, h1, h2⟩ := List.mem_map.1 hm
          simp only [Prod.mk.injEq] at h2
          exact ⟨a, by have := List.mem_range.1 h1; omega, h2.1.symm, h2.2.symm⟩
        have hTin : ∀ a, a ≤ ops.size → (lm ops a, (stAt st tr a).hp) ∈ p.T := fun a ha => List.mem_map.2 ⟨a, List.mem_range.2 (by omega), rfl⟩
        simp only [ordOk, List.all_eq_true, List.mem_range, Bool.and_eq_true, decide_eq_true_eq, beq_iff_eq, Bool.or_eq_true, Bool.not_eq_true'] at hord
        have hlow : ∀ i, i < ops.size → ∀ j, (pl.getD i 0).testBit j = true → j < i := by
          intro i
          induction i using Nat.strongRecOn with
          | _ i ih =>
            intro hi j hj
            obtain ⟨⟨h1, h2⟩, h3⟩ := hord i hi
            rw [h2] at hj
            obtain ⟨k, hk1, hk2⟩ := maskOf_bit pl j hj
            have := h1 k hk1
            rcases hk2 with rfl | hk2
            · exact this
            · have := ih k this (by omega) j hk2
              omega
        have hallow : ∀ i m, i < ops.size → (∀ j, (p.pre i).testBit j = true → p.L.testBit j = true → m.testBit j = true) → (∀ j, j < ops.size → m.testBit j = true → (p.pre j).testBit i = false) → allowed ops pl ops.size i m = true := by
          intro i m hi h1 h2
          simp only [allowed, List.all_eq_true, List.mem_range, Bool.and_eq_true, Bool.or_eq_true, Bool.not_eq_true', Bool.and_eq_false_iff]
          intro j hj
          constructor
          · by_cases hb : (pl.getD i 0).testBit j = true ∧ loudAt ops j = true
            · right
              refine h1 j hb.1 ?_
              show (lm ops ops.size).testBit j = true
              rw [lm_bit]
              simp [hj, hb.2]
            · left
              cases hx : (pl.getD i 0).testBit j with
              | false => exact .inl rfl
              | true =>
                right
                cases hy : loudAt ops j with
                | false => rfl
                | true => exact absurd ⟨hx, hy⟩ hb
          · cases hx : m.testBit j with
            | false => exact .inl rfl
            | true => right; exact h2 j hj hx
        have good : p.Good := by
          refine { ord := fun i hi j hj => (hord i hi).1.1 j hj, pre := ?_, own := ?_, nx := fun i hi => (hmono1 i hi).nx, start := hTin 0 (by omega), quiet := ?_, loud := ?_ }
          · intro i hi j hj
            refine ⟨hlow i hi j hj, ?_⟩
            have hj' : (pl.getD i 0).testBit j = true := hj
            rw [(hord i hi).1.2] at hj'
            obtain ⟨k, hk1, hk2⟩ := maskOf_bit pl j hj'
            rcases hk2 with rfl | hk2
            · exact .inl hk1
            · exact .inr ⟨k, hk1, hk2⟩
          · intro i hi t ht j hj hji hd
            rcases (hord i hi).2 t ht j hj with ((h1 | h1) | h1) | h1
            · exact absurd h1 hji
            · rw [hd] at h1; simp at h1
            · exact .inl h1
            · exact .inr h1
          · intro i hi hL m σ hm hup hno
            have hl : loudAt ops i = false := by
              have : (lm ops ops.size).testBit i = false := hL
              rw [lm_bit] at this
              simpa [hi] using this
            obtain ⟨a, ha, rfl, rfl⟩ := hT hm
            obtain ⟨a', ha1, ha2, ha3⟩ := hstage a ha
            have hall' := hallow i _ hi hup hno
            obtain ⟨q1, q2⟩ := hquiet i hi hl
            obtain ⟨_, g2⟩ := step0_ok hP hrf (hstep i hi)
            by_cases hsm : lm ops a' = lm ops i
            · have e1 : (stAt st tr a).hp = (stAt st tr i).hp := hsame' a i ha (by omega) (by rw [← ha3, hsm])
              rw [e1, hfrs]
              have := g2 (hcs (i + 1) (by omega))
              rw [q1] at this
              exact this
            · obtain ⟨qs, hq1, hq2⟩ := againOps_mem hps i (List.mem_range.2 hi) hl
              obtain ⟨rs, hr1, hr2⟩ := againAll_mem hq1 a' ha1 (by rw [ha3]; exact hall') hsm
              unfold againAt at hr1
              split at hr1
              · rename_i s st1 hs1
                cases hr1
                obtain ⟨_, k2⟩ := step0_ok hP hrf hs1
                have ho : ops[i]? = some ops[i] := Array.getElem?_eq_getElem hi
                have hl' : isLoud ops[i].op = false := by unfold loudAt at hl; rw [ho] at hl; exact hl
                obtain ⟨z1, z2⟩ := step0_quiet ho hl' hs1
                have hsv : s = svAt tr i := hextra _ (hq2 _ (hr2 _ List.mem_cons_self))
                have k3 := k2 fun p hpp => hextra _ (hq2 _ (hr2 _ (List.mem_cons_of_mem _ hpp)))
                simp only at k3 z1 z2
                rw [z1, z2, hsv, hsame' a' a ha2 ha ha3] at k3
                rw [hfrs]
                show StepOk P ops i (fget (frsO ops 0 fr tr i)) (stAt st tr a).hp (svAt tr i) (stAt st tr a).hp (stAt st tr i).nx (stAt st tr (i + 1)).nx
                rw [q2]
                exact k3
              · cases hr1
          · intro i hi hL m σ hm hmi hup hno
            have hl : loudAt ops i = true := by
              have : (lm ops ops.size).testBit i = true := hL
              rw [lm_bit] at this
              simpa [hi] using this
            obtain ⟨a, ha, rfl, rfl⟩ := hT hm
            obtain ⟨a', ha1, ha2, ha3⟩ := hstage a ha
            have hall' := hallow i _ hi hup hno
            simp only [chainOk, List.all_eq_true, List.mem_range, Bool.or_eq_true, Bool.not_eq_true', beq_iff_eq] at hchain
            have hch : lm ops a = lm ops i := by
              rcases hchain i hi with h1 | h1
              · rw [hl] at h1; cases h1
              · rcases h1 a' ha1 with (h2 | h2) | h2
                · rw [ha3, hall'] at h2; cases h2
                · rw [ha3, hmi] at h2; cases h2
                · rw [← ha3, h2]
            have e1 : (stAt st tr a).hp = (stAt st tr i).hp := hsame' a i ha (by omega) hch
            obtain ⟨_, g2⟩ := step0_ok hP hrf (hstep i hi)
            refine ⟨(stAt st tr (i + 1)).hp, lm ops (i + 1), ?_, hTin (i + 1) (by omega), fun j => ?_⟩
            · rw [e1, hfrs]
              exact g2 (hcs (i + 1) (by omega))
            · rw [hch, lm, hl]
              simp only [Nat.testBit_or, Nat.testBit_two_pow]
              congr 1
              simp [eq_comm]
        have hcode := CodeOk.region_draw (id := id) (p := p) hP.mixed good (σ' := (stAt st tr ops.size).hp) (by
          intro m σ hm hbits _
          obtain ⟨a, ha, rfl, rfl⟩ := hT hm
          refine hsame' a ops.size ha (Nat.le_refl _) ?_
          apply Nat.eq_of_testBit_eq
          intro j
          by_cases hj : j < ops.size
          · cases hlj : loudAt ops j with
            | true =>
              have h1 : (lm ops ops.size).testBit j = true := by rw [lm_bit]; simp [hj, hlj]
              rw [hbits j hj]
            | false => rw [lm_bit, lm_bit, hlj]; simp
          · rw [lm_bit, lm_bit]
            have e1 : decide (j < a) = false := by simp; omega
            have e2 : decide (j < ops.size) = false := by simp; omega
            rw [e1, e2])
        rw [hfrs] at hcode
        exact hcode
      · cases h
    · exact runLat_ok hP hrf htr h
  · cases h

end Go.Eng
