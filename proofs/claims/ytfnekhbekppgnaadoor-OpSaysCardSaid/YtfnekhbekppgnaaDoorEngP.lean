import Derived.Test.YtfnekhbekppgnaaDoorEngO
import Derived.LoopN
import Derived.Scope
namespace Go.Eng
variable {P : Program}

/-! Loops. -/

def RoundsOk (P : Program) (body : Code) (N : Nat) (fr : List SV) (σ : Heap) (x : Exit) (fr' : List SV) (σ' : Heap) (lo hi : Nat) : Prop :=
  ∀ (Fr : Nat → Prop) (e : Env) (w : World) (a : Act) (Q : Exit → Act → World → Prop), FrOk e fr a → At e w σ Fr → Free lo hi e →
    (∀ e' w' a', Ext lo hi e e' → FrOk e' fr' a' → At e' w' σ' Fr → Kept Fr w w' → Q x a' w') → Code.rounds P body Q N a w

theorem RoundsOk.code {c : Code} {N : Nat} {fr fr' : List SV} {σ σ' : Heap} {x : Exit} {lo hi : Nat} (h : RoundsOk P c N fr σ x fr' σ' lo hi) : CodeOk P (.loop c) fr σ x fr' σ' lo hi :=
  fun Fr e w a Q hf hat hfree k => wp_loop_rounds N (h Fr e w a Q hf hat hfree k)

theorem RoundsOk.turnF {c : Code} {N : Nat} {fr fr₁ fr' : List SV} {σ τ σ' : Heap} {x : Exit} {lo mid hi : Nat} (hg : TurnsF fr σ fr₁ τ lo mid) (h : RoundsOk P c N fr₁ τ x fr' σ' mid hi) (l₁ : lo ≤ mid) (l₂ : mid ≤ hi) : RoundsOk P c N fr σ x fr' σ' lo hi := by
  intro Fr e w a Q hf hat hfree k
  obtain ⟨e₁, x₁, f₁, a₁⟩ := hg e w Fr a hf hat (hfree.sub (Nat.le_refl _) l₂)
  exact h Fr e₁ w a Q f₁ a₁ ((hfree.sub l₁ (Nat.le_refl _)).of_ext x₁ (.inl (Nat.le_refl _))) fun e' w' a' hx hf' hat' hk =>
    k e' w' a' (x₁.trans hx (Nat.le_refl _) l₂ l₁ (Nat.le_refl _)) hf' hat' hk

theorem RoundsOk.turn {c : Code} {N : Nat} {fr fr' : List SV} {σ τ σ' : Heap} {x : Exit} {lo mid hi : Nat} (hg : Turns σ τ lo mid) (h : RoundsOk P c N fr τ x fr' σ' mid hi) (l₁ : lo ≤ mid) (l₂ : mid ≤ hi) : RoundsOk P c N fr σ x fr' σ' lo hi := by
  intro Fr e w a Q hf hat hfree k
  obtain ⟨e₁, x₁, a₁⟩ := hg e w Fr hat (hfree.sub (Nat.le_refl _) l₂)
  exact h Fr e₁ w a Q (hf.mono x₁) a₁ ((hfree.sub l₁ (Nat.le_refl _)).of_ext x₁ (.inl (Nat.le_refl _))) fun e' w' a' hx hf' hat' hk =>
    k e' w' a' (x₁.trans hx (Nat.le_refl _) l₂ l₁ (Nat.le_refl _)) hf' hat' hk

/-- A piece of a function's code, by the way to it, the last turn first. -/
def codeAt (P : Program) (f : FuncId) : List Nat → Option Code
  | [] => match P.funcs[f]? with
    | some fn => fn.body
    | none => none
  | i :: path => match codeAt P f path with
    | some (.seq a b) => if i = 0 then some a else some b
    | some (.cond _ a b) => if i = 0 then some a else some b
    | some (.block _ b) => some b
    | some (.loop b) => some b
    | _ => none

/-- What is shown of a loop: from a frame and a heap to others, in some rounds. -/
def LoopIs (P : Program) (f : FuncId) (path : List Nat) (fr : List SV) (σ : Heap) (x : Exit) (fr' : List SV) (σ' : Heap) (lo hi : Nat) : Prop :=
  ∃ c N, codeAt P f path = some (.loop c) ∧ RoundsOk P c N fr σ x fr' σ' lo hi

/-! Runs of code. -/

structure Out where
  x : Exit
  fr : List SV
  st : St

/-- A loop taken by what was shown of it. -/
def applyLoop (P : Program) (f : FuncId) (path : List Nat) (fr : List SV) (st : St) : Option Out :=
  match st.orc with
  | .loop x fr₁ fr₂ pre post k m ns :: orc =>
    if ns.length = k ∧ ns.all (fun n => decide (n < st.nx)) = true then
      match simL fr (renL (renOf k ns st.nx) fr₁), matchPre (renH (renOf k ns st.nx) pre) st.hp with
      | some ps, some (rest, qs) => some { x := x, fr := renL (renOf k ns st.nx) fr₂, st := { hp := renH (renOf k ns st.nx) post ++ rest, nx := st.nx + m, orc := orc, cs := LoopIs P f path fr₁ pre x fr₂ post k (k + m) :: (ps ++ qs ++ st.cs) } }
      | _, _ => none
    else none
  | _ => none

theorem simL_length : ∀ {l m : List SV} {ps : List Prop}, simL l m = some ps → l.length = m.length
  | [], [], _, _ => rfl
  | a :: l, b :: m, ps, h => by
    unfold simL at h
    split at h
    · rename_i h1 h2
      simp [simL_length h2]
    · cases h
  | [], _ :: _, _, h => by simp [simL] at h
  | _ :: _, [], _, h => by simp [simL] at h

theorem FrOk_sim {e : Env} {fr fr₁ : List SV} {a : Act} {ps : List Prop} (h : FrOk e fr a) (hs : simL fr fr₁ = some ps) (hp : ∀ p ∈ ps, p) : FrOk e fr₁ a := by
  have hlen := simL_length hs
  refine ⟨h.df, by rw [h.sz, hlen], fun t => ?_⟩
  have hrl : SV.RL e fr a.tmps.toList := by
    refine RL_of_get (by simpa using h.sz.symm) fun i s v h1 h2 => ?_
    have := h.rel i
    unfold fget at this
    rw [List.getD_eq_getElem?_getD, h1, Array.getD_eq_getD_getElem?, show a.tmps[i]? = some v by simpa using h2] at this
    exact this
  have hrl' := simL_ok _ _ hs hp hrl
  unfold fget
  by_cases ht : t < fr₁.length
  · obtain ⟨v, h1, h2⟩ := RL_get hrl' (List.getElem?_eq_getElem ht)
    rw [List.getD_eq_getElem?_getD, List.getElem?_eq_getElem ht, Array.getD_eq_getD_getElem?, show a.tmps[t]? = some v by simpa using h1]
    exact h2
  · rw [List.getD_eq_getElem?_getD, List.getElem?_eq_none (by omega)]
    simp [SV.R]

theorem FrOk.ren {r : Nat → Nat} {e : Env} {fr : List SV} {a : Act} : FrOk e (renL r fr) a ↔ FrOk (fun n => e (r n)) fr a := by
  have key : ∀ t, fget (renL r fr) t = renSV r (fget fr t) := by
    intro t
    unfold fget
    rw [renL_map, List.getD_eq_getElem?_getD, List.getD_eq_getElem?_getD, List.getElem?_map]
    cases fr[t]? <;> simp [renSV]
  constructor
  · intro h
    exact ⟨h.df, by rw [h.sz, renL_map]; simp, fun t => (renSV_R _ _).1 (by rw [← key]; exact h.rel t)⟩
  · intro h
    exact ⟨h.df, by rw [h.sz, renL_map]; simp, fun t => by rw [key]; exact (renSV_R _ _).2 (h.rel t)⟩

theorem applyLoop_ok {f : FuncId} {path : List Nat} {body : Code} (hc : codeAt P f path = some (.loop body)) {fr : List SV} {st : St} {o : Out} (h : applyLoop P f path fr st = some o) :
    Mono st o.st ∧ ((∀ p ∈ o.st.cs, p) → ∃ N, RoundsOk P body N fr st.hp o.x o.fr o.st.hp st.nx o.st.nx) := by
  unfold applyLoop at h
  split at h
  · rename_i x fr₁ fr₂ pre post k m ns orc ho
    split at h
    · rename_i hcn
      obtain ⟨hlen, hall⟩ := hcn
      split at h
      · rename_i ps rest qs h1 h2
        cases h
        refine ⟨⟨⟨_ :: (ps ++ qs), rfl⟩, by simp⟩, fun hp => ?_⟩
        obtain ⟨c, N, hc', hN⟩ := hp _ List.mem_cons_self
        rw [hc] at hc'
        cases hc'
        refine ⟨N, fun Fr e w a Q hf hat hfree k' => ?_⟩
        have hps : ∀ p ∈ ps, p := fun p hpp => hp p (by simp [hpp])
        have hqs : ∀ p ∈ qs, p := fun p hpp => hp p (by simp [hpp])
        simp only at hfree k'
        generalize hr : renOf k ns st.nx = r at h1 h2 k'
        have hr1 : ∀ n, n < k → r n < st.nx := by
          intro n hn
          rw [← hr]
          unfold renOf
          rw [if_pos hn]
          rw [List.all_eq_true] at hall
          have := hall (ns.getD n 0) (by rw [List.getD_eq_getElem?_getD, List.getElem?_eq_getElem (by omega)]; simp)
          simpa using this
        have hr2 : ∀ n, k ≤ n → r n = st.nx + (n - k) := by
          intro n hn
          rw [← hr]
          unfold renOf
          rw [if_neg (by omega)]
        have hfr1 := FrOk.ren.1 (FrOk_sim hf h1 hps)
        obtain ⟨bs, g1, g2, g3, g4⟩ := matchPre_ok h2 hqs hat
        obtain ⟨cs, d1, d2, d3⟩ := g4.ex
        have hatc : At (fun n => e (r n)) w pre (fun b => Fr b ∨ b ∈ cs) := by
          refine ⟨⟨bs, renH_sat.1 g1, g2, fun b hb hc => ?_⟩, fun b hb => ?_⟩
          · rcases hc with hc | hc
            · exact g3 b hb hc
            · exact d3 b hc (.inr hb)
          · rcases hb with hb | hb
            · exact hat.fl b hb
            · exact d1.lt b hb
        have hfreec : Free k (k + m) (fun n => e (r n)) := by
          intro n hn1 hn2
          show e (r n) = none
          rw [hr2 n hn1]
          exact hfree _ (by omega) (by omega)
        refine hN _ _ w a Q hfr1 hatc hfreec fun ec w' a' hx hf' hat' hk => ?_
        let e' : Env := fun n => if st.nx ≤ n ∧ n < st.nx + m then ec (k + (n - st.nx)) else e n
        have he' : (fun n => e' (r n)) = ec := by
          funext n
          show (if st.nx ≤ r n ∧ r n < st.nx + m then ec (k + (r n - st.nx)) else e (r n)) = ec n
          by_cases hn : n < k
          · have := hr1 n hn
            rw [if_neg (by omega)]
            exact (hx.out n (.inl hn)).symm
          · have hrn := hr2 n (by omega)
            by_cases hn2 : n < k + m
            · rw [if_pos (by omega)]
              congr 1
              omega
            · rw [if_neg (by omega)]
              exact (hx.out n (.inr (by omega))).symm
        have hext : Ext st.nx (st.nx + m) e e' := by
          refine ⟨fun n b hn => ?_, fun n hn => ?_⟩
          · show (if st.nx ≤ n ∧ n < st.nx + m then ec (k + (n - st.nx)) else e n) = some b
            by_cases hc : st.nx ≤ n ∧ n < st.nx + m
            · rw [hfree n hc.1 hc.2] at hn; cases hn
            · rw [if_neg hc]; exact hn
          · show (if st.nx ≤ n ∧ n < st.nx + m then ec (k + (n - st.nx)) else e n) = e n
            rw [if_neg (by omega)]
        refine k' e' w' a' hext (FrOk.ren.2 (by rw [he']; exact hf')) ?_ ⟨fun b hb => hk.1 b (.inl hb), hk.2⟩
        obtain ⟨bs', b1, b2, b3⟩ := hat'.ex
        refine ⟨⟨bs' ++ cs, HSat.append (renH_sat.2 (by rw [he']; exact b1)) ((d1.loc fun b hb => hk.1 b (.inr hb)).mono hext.up), ?_, ?_⟩, fun b hb => Nat.lt_of_lt_of_le (hat.fl b hb) hk.2.1⟩
        · exact List.nodup_append.2 ⟨b2, d2, fun x hx y hy hxy => b3 x hx (.inr (hxy ▸ hy))⟩
        · intro b hb
          rcases List.mem_append.1 hb with hb | hb
          · exact fun hf => b3 b hb (.inl hf)
          · exact fun hf => d3 b hb (.inl hf)
      · cases h
    · cases h
  · cases h

def condOf (c : SV) (st : St) : Option (Bool × St) :=
  match c with
  | .con (.bool t) => some (t, st)
  | .bool b => match st.orc with
    | .br t :: orc => some (t, { st with orc := orc, cs := (b = t) :: st.cs })
    | _ => none
  | _ => none

def runCode (P : Program) (rf : Rf) (f : FuncId) : Nat → List Nat → Code → List SV → St → Option Out
  | 0, _, _, _, _ => none
  | k + 1, path, c, fr, st => match c with
    | .skip => some ⟨.normal, fr, st⟩
    | .label _ => some ⟨.normal, fr, st⟩
    | .region r ops false => match runList P rf ops (List.range ops.size) (prepAt f r fr st).1 (prepAt f r fr st).2 with
      | some (fr', st') => some ⟨.normal, fr', st'⟩
      | none => none
    | .region r ops true => match runDraw P rf ops (prepAt f r fr st).1 (prepAt f r fr st).2 with
      | some (fr', st') => some ⟨.normal, fr', st'⟩
      | none => none
    | .seq a b => match runCode P rf f k (0 :: path) a fr st with
      | some ⟨.normal, fr₁, st₁⟩ => runCode P rf f k (1 :: path) b fr₁ st₁
      | some o => some o
      | none => none
    | .cond c a b => match condOf (ev (fget fr) c) st with
      | some (true, st₁) => runCode P rf f k (0 :: path) a fr st₁
      | some (false, st₁) => runCode P rf f k (1 :: path) b fr st₁
      | none => none
    | .block id b => match runCode P rf f k (0 :: path) b fr st with
      | some ⟨.exit id', fr₁, st₁⟩ => if id' = id then some ⟨.normal, fr₁, st₁⟩ else some ⟨.exit id', fr₁, st₁⟩
      | some o => some o
      | none => none
    | .loop b => match applyLoop P f path (prepAt f 1000 fr st).1 (prepAt f 1000 fr st).2 with
      | some o => some o
      | none => match runCode P rf f k (0 :: path) b fr st with
        | some ⟨.normal, fr₁, st₁⟩ => runCode P rf f k path (.loop b) fr₁ st₁
        | some o => some o
        | none => none
    | .exit id => some ⟨.exit id, fr, st⟩
    | .ret => some ⟨.ret, fr, st⟩
    | _ => none

theorem CodeOk.seq {a b : Code} {fr fr₁ fr' : List SV} {σ σ₁ σ' : Heap} {x : Exit} {lo mid hi : Nat} (h₁ : CodeOk P a fr σ .normal fr₁ σ₁ lo mid) (h₂ : CodeOk P b fr₁ σ₁ x fr' σ' mid hi)
    (l₁ : lo ≤ mid) (l₂ : mid ≤ hi) : CodeOk P (.seq a b) fr σ x fr' σ' lo hi := by
  intro Fr e w act Q hf hat hfree k
  refine wp_seq (h₁ Fr e w act _ hf hat (hfree.sub (Nat.le_refl _) l₂) fun e' w' a' hx hf' hat' hk => ?_)
  exact h₂ Fr e' w' a' Q hf' hat' ((hfree.sub l₁ (Nat.le_refl _)).of_ext hx (.inl (Nat.le_refl _))) fun e'' w'' a'' hx' hf'' hat'' hk' =>
    k e'' w'' a'' (hx.trans hx' (Nat.le_refl _) l₂ l₁ (Nat.le_refl _)) hf'' hat'' (hk.trans hk')

theorem CodeOk.seq_out {a b : Code} {fr fr' : List SV} {σ σ' : Heap} {x : Exit} {lo hi : Nat} (h₁ : CodeOk P a fr σ x fr' σ' lo hi) (hx : x ≠ .normal) : CodeOk P (.seq a b) fr σ x fr' σ' lo hi := by
  intro Fr e w act Q hf hat hfree k
  refine wp_seq (h₁ Fr e w act _ hf hat hfree fun e' w' a' hx' hf' hat' hk => ?_)
  have := k e' w' a' hx' hf' hat' hk
  cases x <;> first | exact absurd rfl hx | exact this

/-- One round more ahead of a loop. -/
theorem rounds_of {body : Code} {fr fr₁ fr' : List SV} {σ σ₁ σ' : Heap} {x : Exit} {lo mid hi N : Nat} (h₁ : CodeOk P body fr σ .normal fr₁ σ₁ lo mid) (l₁ : lo ≤ mid) (l₂ : mid ≤ hi)
    (h₂ : ∀ (Fr : Nat → Prop) (e : Env) (w : World) (a : Act) (Q : Exit → Act → World → Prop), FrOk e fr₁ a → At e w σ₁ Fr → Free mid hi e →
      (∀ e' w' a', Ext mid hi e e' → FrOk e' fr' a' → At e' w' σ' Fr → Kept Fr w w' → Q x a' w') → Code.rounds P body Q N a w)
    (Fr : Nat → Prop) (e : Env) (w : World) (a : Act) (Q : Exit → Act → World → Prop) (hf : FrOk e fr a) (hat : At e w σ Fr) (hfree : Free lo hi e)
    (k : ∀ e' w' a', Ext lo hi e e' → FrOk e' fr' a' → At e' w' σ' Fr → Kept Fr w w' → Q x a' w') : Code.rounds P body Q (N + 1) a w := by
  rw [rounds_succ]
  refine h₁ Fr e w a _ hf hat (hfree.sub (Nat.le_refl _) l₂) fun e' w' a' hx hf' hat' hk => ?_
  exact h₂ Fr e' w' a' Q hf' hat' ((hfree.sub l₁ (Nat.le_refl _)).of_ext hx (.inl (Nat.le_refl _))) fun e'' w'' a'' hx' hf'' hat'' hk' =>
    k e'' w'' a'' (hx.trans hx' (Nat.le_refl _) l₂ l₁ (Nat.le_refl _)) hf'' hat'' (hk.trans hk')

theorem rounds_out {body : Code} {fr fr' : List SV} {σ σ' : Heap} {x : Exit} {lo hi N : Nat} (h₁ : CodeOk P body fr σ x fr' σ' lo hi) (hx : x ≠ .normal)
    (Fr : Nat → Prop) (e : Env) (w : World) (a : Act) (Q : Exit → Act → World → Prop) (hf : FrOk e fr a) (hat : At e w σ Fr) (hfree : Free lo hi e)
    (k : ∀ e' w' a', Ext lo hi e e' → FrOk e' fr' a' → At e' w' σ' Fr → Kept Fr w w' → Q x a' w') : Code.rounds P body Q (N + 1) a w := by
  rw [rounds_succ]
  refine h₁ Fr e w a _ hf hat hfree fun e' w' a' hx' hf' hat' hk => ?_
  have := k e' w' a' hx' hf' hat' hk
  cases x <;> first | exact absurd rfl hx | exact this

theorem condOf_ok {c : SV} {st st' : St} {t : Bool} (h : condOf c st = some (t, st')) : Mono st st' ∧ st'.hp = st.hp ∧ st'.nx = st.nx ∧ ((∀ p ∈ st'.cs, p) → ∀ (e : Env) v, c.R e v → v = .bool t) := by
  unfold condOf at h
  split at h
  · cases h; exact ⟨Mono.refl _, rfl, rfl, fun _ e v hv => by simpa [SV.R] using hv⟩
  · split at h
    · cases h
      refine ⟨⟨⟨[_], rfl⟩, Nat.le_refl _⟩, rfl, rfl, fun hp e v hv => ?_⟩
      have := hp _ List.mem_cons_self
      simp only [SV.R] at hv
      rw [hv, this]
    · cases h
  · cases h

theorem runCode_ok (hP : POk P) {rf : Rf} (hrf : RfOk P rf) {f : FuncId} : ∀ {k : Nat} {path : List Nat} {c : Code} {fr : List SV} {st : St} {o : Out}, runCode P rf f k path c fr st = some o → codeAt P f path = some c →
    Mono st o.st ∧ ((∀ p ∈ o.st.cs, p) → CodeOk P c fr st.hp o.x o.fr o.st.hp st.nx o.st.nx ∧
      ∀ body, c = .loop body → (∃ N, RoundsOk P body N fr st.hp o.x o.fr o.st.hp st.nx o.st.nx))
  | 0, path, c, fr, st, o, h, _ => by cases h
  | k + 1, path, c, fr, st, o, h, hc => by
    have noLoop : ∀ {Y : Nat → Prop}, (∀ body, c ≠ .loop body) → (∀ body, c = .loop body → ∃ N, Y N) := fun hn body hb => absurd hb (hn body)
    cases c <;> simp only [runCode] at h <;> try (cases h; done)
    case skip =>
      cases h
      exact ⟨Mono.refl _, fun _ => ⟨fun Fr e w a Q hf hat _ k => wp_skip (k e w a (Ext.refl _ _ _) hf hat (Kept.refl _ _)), fun _ hb => by cases hb⟩⟩
    case label l =>
      cases h
      exact ⟨Mono.refl _, fun _ => ⟨fun Fr e w a Q hf hat _ k => wp_label (k e w a (Ext.refl _ _ _) hf hat (Kept.refl _ _)), fun _ hb => by cases hb⟩⟩
    case region id ops draw =>
      obtain ⟨q1, q2⟩ := prepAt_ok (f := f) (r := id) (fr := fr) (st := st)
      cases draw with
      | false =>
        simp only at h
        split at h
        · rename_i fr' st' hr
          cases h
          obtain ⟨g1, g2⟩ := runList_ok hP hrf hr
          refine ⟨q1.trans g1, fun hp => ⟨?_, fun _ hb => by cases hb⟩⟩
          exact CodeOk.turnF (q2 (g1.all hp)) (CodeOk.region (id := id) (g2 hp)) q1.nx g1.nx
        · cases h
      | true =>
        simp only at h
        split at h
        · rename_i fr' st' hr
          cases h
          obtain ⟨g1, g2⟩ := runDraw_ok (id := id) hP hrf hr
          refine ⟨q1.trans g1, fun hp => ⟨?_, fun _ hb => by cases hb⟩⟩
          exact CodeOk.turnF (q2 (g1.all hp)) (g2 hp) q1.nx g1.nx
        · cases h
    case seq a b =>
      have ha : codeAt P f (0 :: path) = some a := by unfold codeAt; rw [hc]; rfl
      have hb : codeAt P f (1 :: path) = some b := by unfold codeAt; rw [hc]; rfl
      split at h
      · rename_i fr₁ st₁ h1
        obtain ⟨g1, g2⟩ := runCode_ok hP hrf h1 ha
        obtain ⟨g3, g4⟩ := runCode_ok hP hrf h hb
        exact ⟨g1.trans g3, fun hp => ⟨CodeOk.seq (g2 (g3.all hp)).1 (g4 hp).1 g1.nx g3.nx, fun _ hb => by cases hb⟩⟩
      · rename_i o' h1 hn
        cases h
        obtain ⟨g1, g2⟩ := runCode_ok hP hrf hn ha
        refine ⟨g1, fun hp => ⟨CodeOk.seq_out (g2 hp).1 fun hx => ?_, fun _ hb => by cases hb⟩⟩
        obtain ⟨x, fr₁, st₁⟩ := o
        simp only at hx
        subst hx
        exact h1 _ _ rfl
      · cases h
    case cond c a b =>
      have ha : codeAt P f (0 :: path) = some a := by unfold codeAt; rw [hc]; rfl
      have hb : codeAt P f (1 :: path) = some b := by unfold codeAt; rw [hc]; rfl
      split at h
      · rename_i st₁ hc
        obtain ⟨q1, q2, q3, q4⟩ := condOf_ok hc
        obtain ⟨g1, g2⟩ := runCode_ok hP hrf h ha
        refine ⟨q1.trans g1, fun hp => ⟨fun Fr e w act Q hf hat hfree k => ?_, fun _ hb => by cases hb⟩⟩
        have hcv := q4 (g1.all hp) e _ (ev_ok (a := act) (x := c) fun t _ => hf.rel t)
        have := (g2 hp).1
        rw [q2, q3] at this
        exact wp_cond hcv (this Fr e w act Q hf hat hfree k)
      · rename_i st₁ hc
        obtain ⟨q1, q2, q3, q4⟩ := condOf_ok hc
        obtain ⟨g1, g2⟩ := runCode_ok hP hrf h hb
        refine ⟨q1.trans g1, fun hp => ⟨fun Fr e w act Q hf hat hfree k => ?_, fun _ hb => by cases hb⟩⟩
        have hcv := q4 (g1.all hp) e _ (ev_ok (a := act) (x := c) fun t _ => hf.rel t)
        have := (g2 hp).1
        rw [q2, q3] at this
        exact wp_cond hcv (this Fr e w act Q hf hat hfree k)
      · cases h
    case block id b =>
      have hb : codeAt P f (0 :: path) = some b := by unfold codeAt; rw [hc]
      split at h
      · rename_i id' fr₁ st₁ h1
        obtain ⟨g1, g2⟩ := runCode_ok hP hrf h1 hb
        split at h
        · rename_i hid
          subst hid
          cases h
          refine ⟨g1, fun hp => ⟨fun Fr e w act Q hf hat hfree k => wp_block ((g2 hp).1 Fr e w act _ hf hat hfree fun e' w' a' hx hf' hat' hk => ?_), fun _ hb => by cases hb⟩⟩
          simp only [Exit.inBlock, if_true]
          exact k e' w' a' hx hf' hat' hk
        · rename_i hid
          cases h
          refine ⟨g1, fun hp => ⟨fun Fr e w act Q hf hat hfree k => wp_block ((g2 hp).1 Fr e w act _ hf hat hfree fun e' w' a' hx hf' hat' hk => ?_), fun _ hb => by cases hb⟩⟩
          simp only [Exit.inBlock, hid, if_false]
          exact k e' w' a' hx hf' hat' hk
      · rename_i o' hn h1
        cases h
        obtain ⟨g1, g2⟩ := runCode_ok hP hrf h1 hb
        refine ⟨g1, fun hp => ⟨fun Fr e w act Q hf hat hfree k => wp_block ((g2 hp).1 Fr e w act _ hf hat hfree fun e' w' a' hx hf' hat' hk => ?_), fun _ hb => by cases hb⟩⟩
        obtain ⟨x, fr₁, st₁⟩ := o
        have hQ := k e' w' a' hx hf' hat' hk
        cases x <;> first | exact hQ | exact absurd rfl (hn _ _ _)
      · cases h
    case loop body =>
      have hb : codeAt P f (0 :: path) = some body := by unfold codeAt; rw [hc]
      obtain ⟨q1, q2⟩ := prepAt_ok (f := f) (r := 1000) (fr := fr) (st := st)
      split at h
      · rename_i o' ho
        cases h
        obtain ⟨g1, g2⟩ := applyLoop_ok hc ho
        have hr : (∀ p ∈ o.st.cs, p) → ∃ N, RoundsOk P body N fr st.hp o.x o.fr o.st.hp st.nx o.st.nx := by
          intro hp
          obtain ⟨N, hN⟩ := g2 hp
          exact ⟨N, hN.turnF (q2 (g1.all hp)) q1.nx g1.nx⟩
        refine ⟨q1.trans g1, fun hp => ⟨?_, fun body' hb => by cases hb; exact hr hp⟩⟩
        obtain ⟨N, hN⟩ := hr hp
        exact hN.code
      · split at h
        · rename_i fr₁ st₁ h1
          obtain ⟨g1, g2⟩ := runCode_ok hP hrf h1 hb
          obtain ⟨g3, g4⟩ := runCode_ok hP hrf h hc
          have hr : (∀ p ∈ o.st.cs, p) → ∃ N, RoundsOk P body N fr st.hp o.x o.fr o.st.hp st.nx o.st.nx := by
            intro hp
            obtain ⟨N, hN⟩ := (g4 hp).2 body rfl
            exact ⟨N + 1, rounds_of (g2 (g3.all hp)).1 g1.nx g3.nx hN⟩
          refine ⟨g1.trans g3, fun hp => ⟨?_, fun body' hb => by cases hb; exact hr hp⟩⟩
          obtain ⟨N, hN⟩ := hr hp
          exact hN.code
        · rename_i o' hn h1
          cases h
          obtain ⟨g1, g2⟩ := runCode_ok hP hrf h1 hb
          have hr : (∀ p ∈ o.st.cs, p) → RoundsOk P body 1 fr st.hp o.x o.fr o.st.hp st.nx o.st.nx := by
            intro hp
            refine rounds_out (g2 hp).1 fun hx => ?_
            obtain ⟨x, fr₁, st₁⟩ := o
            simp only at hx
            subst hx
            exact hn _ _ rfl
          refine ⟨g1, fun hp => ⟨?_, fun body' hb => by cases hb; exact ⟨1, hr hp⟩⟩⟩
          exact (hr hp).code
        · cases h
    case exit id =>
      cases h
      exact ⟨Mono.refl _, fun _ => ⟨fun Fr e w a Q hf hat _ k => wp_exit (k e w a (Ext.refl _ _ _) hf hat (Kept.refl _ _)), fun _ hb => by cases hb⟩⟩
    case ret =>
      cases h
      exact ⟨Mono.refl _, fun _ => ⟨fun Fr e w a Q hf hat _ k => wp_ret (k e w a (Ext.refl _ _ _) hf hat (Kept.refl _ _)), fun _ hb => by cases hb⟩⟩

end Go.Eng
