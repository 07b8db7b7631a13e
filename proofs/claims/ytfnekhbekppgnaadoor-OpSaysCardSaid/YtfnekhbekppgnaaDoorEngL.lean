import Derived.Test.YtfnekhbekppgnaaDoorEngK
namespace Go.Eng
variable {P : Program}

def popWr (st : St) : Bool × St :=
  match st.orc with
  | .wr :: orc => (true, { st with orc := orc })
  | _ => (false, st)

theorem popWr_ok (st : St) : (popWr st).2.hp = st.hp ∧ (popWr st).2.nx = st.nx ∧ (popWr st).2.cs = st.cs := by
  unfold popWr
  split <;> simp

def okShape : SV → Bool
  | .ptr _ _ _ _ => true
  | .func _ _ _ => true
  | .agg _ => true
  | .bool _ => true
  | .con (.pointer _) => true
  | .con .nilFunc => true
  | .con (.bool _) => true
  | .con (.agg _) => true
  | .con (.slice _ _ _) => true
  | _ => false

theorem okShape_eql {e : Env} {a : SV} (h : okShape a = true) {x : Value} (hx : a.R e x) (t : TypeId) (y : Value) :
    binOp .eql t x y = (do pure (.bool (← Op.equal t x y))) ∧ binOp .neq t x y = (do pure (.bool (!(← Op.equal t x y)))) := by
  have : (∃ p, x = .pointer p) ∨ x = .nilFunc ∨ (∃ b, x = .bool b) ∨ (∃ u, x = .agg u) ∨ (∃ f u v, x = .func f u v) ∨ (∃ f u v, x = .slice f u v) := by
    cases a <;> simp [okShape] at h
    case con v => simp only [SV.R] at hx; subst hx; cases x <;> simp at h ⊢
    case bool b => simp only [SV.R] at hx; subst hx; simp
    case ptr n i sz j => simp only [SV.R] at hx; obtain ⟨k, _, rfl⟩ := hx; simp
    case func f u v => simp only [SV.R] at hx; obtain ⟨_, _, rfl, _⟩ := hx; simp
    case agg l => simp only [SV.R] at hx; obtain ⟨_, rfl, _⟩ := hx; simp
  rcases this with ⟨p, rfl⟩ | rfl | ⟨b, rfl⟩ | ⟨u, rfl⟩ | ⟨f, u, v, rfl⟩ | ⟨f, u, v, rfl⟩ <;> cases y <;> exact ⟨rfl, rfl⟩

def stepEq (P : Program) (t : TypeId) (a b : SV) : Option (Bool × Bool) :=
  match strOf a, strOf b with
  | some (x, lx), some (y, ly) => some (x == y, lx && ly)
  | _, _ => if okShape a = true ∧ eqGuardS P t a b = true then eqS P 100 t a b else none

theorem stepEq_ok {t : TypeId} {a b : SV} {r l : Bool} (h : stepEq P t a b = some (r, l)) {e : Env} (w : World) {x y : Value} (hx : a.R e x) (hy : b.R e y) (X Y : Operand) :
    ((do eqGuard .eql t X Y x y; binOp .eql t x y) : Sem Value).run P w = .ok (.bool r) w ∧ ((do eqGuard .neq t X Y x y; binOp .neq t x y) : Sem Value).run P w = .ok (.bool (!r)) w := by
  unfold stepEq at h
  split at h
  · rename_i s1 l1 s2 l2 h1 h2
    cases h
    rw [strOf_ok hx h1, strOf_ok hy h2]
    constructor
    · simp [eqGuard, binOp, Op.stringOp, ByteArray.toList_eq]
    · simp [eqGuard, binOp, Op.stringOp, ByteArray.toList_eq]
  · split at h
    · rename_i hc
      have hg := fun op => eqGuardS_ok hc.2 w hx hy op X Y
      obtain ⟨h1, h2⟩ := okShape_eql hc.1 hx t y
      have he : (Op.equal t x y).run P w = .ok r w := eqS_ok w h hx hy (D := 10000) (by omega)
      constructor
      · simp only [Sem.run_bind, hg, Result.andThen_ok, h1, he, Sem.run_pure]
      · simp only [Sem.run_bind, hg, Result.andThen_ok, h2, he, Sem.run_pure]
    · cases h

def stepBin (P : Program) (op : BinOp) (t : TypeId) (a b : SV) (st : St) : Option (SV × St) :=
  match numOf a, numOf b with
  | some (k, m, lx), some (k2, n, ly) => match intBin op k k2 m n lx ly (popWr st).1 with
    | some (s, ps) => some (s, (popWr st).2.add ps)
    | none => none
  | _, _ => match op with
    | .eql => match stepEq P t a b with
      | some (r, l) => some (mkBool l r, st)
      | none => none
    | .neq => match stepEq P t a b with
      | some (r, l) => some (mkBool l (!r), st)
      | none => none
    | _ => none

theorem stepBin_ok {op : BinOp} {t : TypeId} {a b s : SV} {st st' : St} (h : stepBin P op t a b st = some (s, st')) :
    Mono st st' ∧ st'.hp = st.hp ∧ st'.nx = st.nx ∧ ((∀ p ∈ st'.cs, p) → ∀ {e : Env} (w : World) {x y : Value} (X Y : Operand), a.R e x → b.R e y →
      ∃ v, ((do eqGuard op t X Y x y; binOp op t x y) : Sem Value).run P w = .ok v w ∧ s.R e v) := by
  unfold stepBin at h
  split at h
  · rename_i k m lx k2 n ly h1 h2
    split at h
    · rename_i s' ps hb
      cases h
      obtain ⟨p1, p2, p3⟩ := popWr_ok st
      refine ⟨⟨⟨ps, by simp [St.add, p3]⟩, by simp [St.add, p2]⟩, p1, p2, fun hp e w x y X Y hx hy => ?_⟩
      rw [numOf_ok hx h1, numOf_ok hy h2]
      obtain ⟨v, r1, r2⟩ := intBin_ok (P := P) hb (fun p hpp => hp p (by simp [St.add, hpp])) e w t
      refine ⟨v, ?_, r2⟩
      have hg : (eqGuard op t X Y (.int k m) (.int k2 n)).run P w = .ok () w := by cases op <;> rfl
      simp only [Sem.run_bind, hg, Result.andThen_ok, r1]
    · cases h
  · split at h
    · split at h
      · rename_i r l he
        cases h
        exact ⟨Mono.refl _, rfl, rfl, fun _ e w x y X Y hx hy => ⟨_, (stepEq_ok he w hx hy X Y).1, R_mkBool e _ _⟩⟩
      · cases h
    · split at h
      · rename_i r l he
        cases h
        exact ⟨Mono.refl _, rfl, rfl, fun _ e w x y X Y hx hy => ⟨_, (stepEq_ok he w hx hy X Y).2, R_mkBool e _ _⟩⟩
      · cases h
    · cases h

def evParts (fr : Nat → SV) (ps : Array (Nat × Operand)) : List (Nat × SV) := ps.toList.map fun p => (p.1, ev fr p.2)

def stepBuiltin (P : Program) (b : Builtin) (ts : Array TypeId) (args : List SV) (st : St) : Option (SV × St) :=
  match b, args with
  | .len, [x] => match ts[0]? with
    | some t => match stepLen P t x with
      | some s => some (s, st)
      | none => none
    | none => none
  | .min, [x, y] => match stepMinMax false x y with
    | some s => some (s, st)
    | none => none
  | .max, [x, y] => match stepMinMax true x y with
    | some s => some (s, st)
    | none => none
  | .append, [d, s] => match ts.toList with
    | [t, t'] => if t = t' then stepAppend P t d s st else none
    | _ => none
  | _, _ => none

def pureOp (s : Option SV) (st : St) : Option (SV × St) :=
  match s with
  | some s => some (s, st)
  | none => none

def stepVal (P : Program) (op : Op) (fr : Nat → SV) (st : St) : Option (SV × St) :=
  match op with
  | .move x => some (ev fr x, st)
  | .assign x => some (ev fr x, st)
  | .pick c a b => match boolOf (ev fr c) with
    | some (true, true) => some (ev fr a, st)
    | some (false, true) => some (ev fr b, st)
    | _ => none
  | .alloc elem => match zeroT P elem with
    | some z => some (stepNew elem (z.cells.toList.map .con) st)
    | none => none
  | .box elem x => match cellsOf (ev fr x) with
    | some cs => some (stepNew elem cs st)
    | none => none
  | .build t parts => pureOp (stepBuild P t (evParts fr parts)) st
  | .buildSlice t len parts => stepBuildSlice P t len (evParts fr parts) st
  | .load t a => stepLoad P t (ev fr a) st
  | .store t a x => stepStore P t (ev fr a) (ev fr x) st
  | .nilCheck x => pureOp (stepNil (ev fr x)) st
  | .binOp op t x y _ => stepBin P op t (ev fr x) (ev fr y) st
  | .unOp op _ x => match stepUn op (ev fr x) with
    | some (s, ps) => some (s, st.add ps)
    | none => none
  | .convert src dst x => match stepConv P src dst (ev fr x) (popWr st).1 with
    | some (s, ps) => some (s, (popWr st).2.add ps)
    | none => none
  | .makeFunc fn first captured => some (.func fn (first.toList.map (ev fr)) (captured.toList.map (ev fr)), st)
  | .makeSlice t l c => stepMake P t (ev fr l) (ev fr c) st
  | .slice t x lo hi none => match stepSlice P t (ev fr x) (lo.map (ev fr)) (hi.map (ev fr)) with
    | some (s, ps) => some (s, st.add ps)
    | none => none
  | .fieldAddr t x f => pureOp (stepFieldAddr P t (ev fr x) f) st
  | .field t x f => pureOp (stepField P t (ev fr x) f) st
  | .indexAddr t x ix => stepIndexAddr P t (ev fr x) (ev fr ix) st
  | .index t x ix => pureOp (stepIndex P t (ev fr x) (ev fr ix)) st
  | .extract t i => pureOp (stepExtract (ev fr t) i) st
  | .call { callee := .builtin b, args := args, argTypes := ts } => stepBuiltin P b ts (args.toList.map (ev fr)) st
  | _ => none

theorem pureOp_some {s : Option SV} {st st' : St} {r : SV} (h : pureOp s st = some (r, st')) : s = some r ∧ st' = st := by
  unfold pureOp at h
  cases s with
  | none => cases h
  | some s => cases h; exact ⟨rfl, rfl⟩

theorem evParts_ok {fr : Nat → SV} {e : Env} {ρ : Operand → Value} (ps : Array (Nat × Operand)) (h : ∀ p ∈ ps.toList, (ev fr p.2).R e (ρ p.2)) :
    (evParts fr ps).map Prod.fst = ((ps.map fun p => (p.1, ρ p.2)).toList).map Prod.fst ∧ SV.RL e ((evParts fr ps).map Prod.snd) (((ps.map fun p => (p.1, ρ p.2)).toList).map Prod.snd) := by
  constructor
  · simp [evParts]
  · simp only [evParts, List.map_map, Array.toList_map]
    exact RL_map _ fun p hp => h p hp

/-- All operations that yield a value. -/
theorem stepVal_ok {o : Oper} {fr : Nat → SV} {st st' : St} {s : SV} (h : stepVal P o.op fr st = some (s, st')) :
    Mono st st' ∧ ((∀ p ∈ st'.cs, p) → ValOk P o fr st.hp s st'.hp st.nx st'.nx) := by
  obtain ⟨dst, op, type, pos, after, guard⟩ := o
  simp only at h
  have pureV : ∀ {r : SV}, s = r → st' = st → (∀ (e : Env) (w : World) (ρ : Operand → Value), (∀ x ∈ op.operands, (ev fr x).R e (ρ x)) → ∃ v, (execOp ρ ⟨dst, op, type, pos, after, guard⟩).run P w = .ok (.value v) w ∧ r.R e v) →
      Mono st st' ∧ ((∀ p ∈ st'.cs, p) → ValOk P ⟨dst, op, type, pos, after, guard⟩ fr st.hp s st'.hp st.nx st'.nx) := by
    rintro r rfl rfl hv
    exact ⟨Mono.refl _, fun _ => ValOk.pure hv⟩
  cases op <;> simp only [stepVal] at h <;> try (cases h; done)
  case move x => cases h; exact pureV rfl rfl fun e w ρ hx => ⟨ρ x, by simp [execOp], hx x (by simp [Op.operands])⟩
  case assign x => cases h; exact pureV rfl rfl fun e w ρ hx => ⟨ρ x, by simp [execOp], hx x (by simp [Op.operands])⟩
  case pick c a b =>
    split at h
    · rename_i hb
      cases h
      exact pureV rfl rfl fun e w ρ hx => ⟨ρ a, by simp [execOp, boolOf_ok (hx c (by simp [Op.operands])) hb, asBool], hx a (by simp [Op.operands])⟩
    · rename_i hb
      cases h
      exact pureV rfl rfl fun e w ρ hx => ⟨ρ b, by simp [execOp, boolOf_ok (hx c (by simp [Op.operands])) hb, asBool], hx b (by simp [Op.operands])⟩
    · cases h
  case alloc elem =>
    split at h
    · rename_i z hz
      cases h
      refine ⟨⟨⟨[], rfl⟩, by simp⟩, fun _ Fr e w ρ hx hat hfree => ?_⟩
      obtain ⟨e', w', u, h1, h2, h3, h4, h5⟩ := stepNew_ok (P := P) elem (z.cells.toList.map .con) st (v := z) (RL_con _) hat hfree
      exact ⟨e', w', _, _, by simp [execOp, Instr.alloc, run_zeroT hz, h1] <;> rfl, .inl rfl, h2, h3, h4, h5⟩
    · cases h
  case box elem x =>
    split at h
    · rename_i cs hc
      cases h
      refine ⟨⟨⟨[], rfl⟩, by simp⟩, fun _ Fr e w ρ hx hat hfree => ?_⟩
      obtain ⟨e', w', u, h1, h2, h3, h4, h5⟩ := stepNew_ok (P := P) elem cs st (v := ρ x) (cellsOf_ok (hx x (by simp [Op.operands])) hc) hat hfree
      exact ⟨e', w', _, _, by simp [execOp, Instr.box, h1] <;> rfl, .inl rfl, h2, h3, h4, h5⟩
    · cases h
  case build t parts =>
    obtain ⟨h1, h2⟩ := pureOp_some h
    refine pureV rfl h2 fun e w ρ hx => ?_
    obtain ⟨g1, g2⟩ := evParts_ok (e := e) (ρ := ρ) parts fun p hp => hx _ (by simp [Op.operands]; exact ⟨p.1, by simpa using hp⟩)
    obtain ⟨u, r1, r2⟩ := stepBuild_ok h1 w g1 g2
    exact ⟨u, by simp [execOp]; rw [r1]; rfl, r2⟩
  case buildSlice t len parts =>
    obtain ⟨h1, h2⟩ := stepBuildSlice_ok h
    refine ⟨h1, fun _ Fr e w ρ hx hat hfree => ?_⟩
    obtain ⟨g1, g2⟩ := evParts_ok (e := e) (ρ := ρ) parts fun p hp => hx _ (by simp [Op.operands]; exact ⟨p.1, by simpa using hp⟩)
    obtain ⟨e', w', v, r1, r2, r3, r4, r5⟩ := h2 g1 g2 hat hfree
    exact ⟨e', w', _, _, by simp [execOp]; rw [r1]; rfl, .inl rfl, r2, r3, r4, r5⟩
  case load t a =>
    obtain ⟨h1, h2, h3, h4⟩ := stepLoad_ok h
    refine ⟨h1, fun hp Fr e w ρ hx hat hfree => ?_⟩
    obtain ⟨u, r1, r2⟩ := h4 hp (hx a (by simp [Op.operands])) hat
    exact ⟨e, w, _, u, by simp [execOp, r1] <;> rfl, .inl rfl, Ext.refl _ _ _, r2, by rw [h2]; exact hat, Kept.refl _ _⟩
  case store t a x =>
    obtain ⟨h1, h2, h3, h4⟩ := stepStore_ok h
    refine ⟨h1, fun hp Fr e w ρ hx hat hfree => ?_⟩
    obtain ⟨w', r1, r2, r3⟩ := h4 hp (hx a (by simp [Op.operands])) (hx x (by simp [Op.operands])) hat
    exact ⟨e, w', _, undef, by simp [execOp, r1] <;> rfl, .inr ⟨rfl, rfl⟩, Ext.refl _ _ _, by rw [h3]; simp [SV.R], r2, r3⟩
  case nilCheck x =>
    obtain ⟨h1, h2⟩ := pureOp_some h
    exact pureV rfl h2 fun e w ρ hx => ⟨ρ x, stepNil_ok h1 w (hx x (by simp [Op.operands])) _ x rfl ρ rfl⟩
  case binOp op t x y yt =>
    obtain ⟨h1, h2, h3, h4⟩ := stepBin_ok h
    refine ⟨h1, fun hp Fr e w ρ hx hat hfree => ?_⟩
    obtain ⟨v, r1, r2⟩ := h4 hp w x y (hx x (by simp [Op.operands])) (hx y (by simp [Op.operands]))
    refine ⟨e, w, _, v, ?_, .inl rfl, Ext.refl _ _ _, r2, by rw [h2]; exact hat, Kept.refl _ _⟩
    simp only [execOp, Sem.run_bind] at r1 ⊢
    rw [r1]
    rfl
  case unOp op t x =>
    split at h
    · rename_i s' ps hs
      cases h
      refine ⟨Mono.add _ _, fun hp Fr e w ρ hx hat hfree => ?_⟩
      obtain ⟨v, r1, r2⟩ := stepUn_ok (P := P) hs (all_add hp) w (hx x (by simp [Op.operands]))
      exact ⟨e, w, _, v, by simp [execOp, r1] <;> rfl, .inl rfl, Ext.refl _ _ _, r2, hat, Kept.refl _ _⟩
    · cases h
  case convert src d x =>
    split at h
    · rename_i s' ps hs
      cases h
      obtain ⟨p1, p2, p3⟩ := popWr_ok st
      refine ⟨⟨⟨ps, by simp [St.add, p3]⟩, by simp [St.add, p2]⟩, fun hp Fr e w ρ hx hat hfree => ?_⟩
      obtain ⟨v, r1, r2⟩ := stepConv_ok hs (fun p hpp => hp p (by simp [St.add, hpp])) w (hx x (by simp [Op.operands]))
      exact ⟨e, w, _, v, by simp [execOp, r1] <;> rfl, .inl rfl, Ext.refl _ _ _, r2, by simp only [St.add, p1]; exact hat, Kept.refl _ _⟩
    · cases h
  case makeFunc fn first captured =>
    cases h
    refine pureV rfl rfl fun e w ρ hx => ⟨.func fn (first.map ρ) (captured.map ρ), by simp [execOp, Instr.makeFunc], ?_⟩
    simp only [SV.R]
    refine ⟨first.toList.map ρ, captured.toList.map ρ, by rw [show first.map ρ = (first.toList.map ρ).toArray from (by apply Array.ext'; simp), show captured.map ρ = (captured.toList.map ρ).toArray from (by apply Array.ext'; simp)], ?_, ?_⟩
    · exact RL_map _ fun x hxm => hx x (by simp [Op.operands]; exact .inl (by simpa using hxm))
    · exact RL_map _ fun x hxm => hx x (by simp [Op.operands]; exact .inr (by simpa using hxm))
  case makeSlice t l c =>
    obtain ⟨h1, h2⟩ := stepMake_ok h
    refine ⟨h1, fun hp Fr e w ρ hx hat hfree => ?_⟩
    obtain ⟨e', w', v, r1, r2, r3, r4, r5⟩ := h2 hp (hx l (by simp [Op.operands])) (hx c (by simp [Op.operands])) hat hfree
    exact ⟨e', w', _, _, by simp [execOp, r1] <;> rfl, .inl rfl, r2, r3, r4, r5⟩
  case slice t x lo hi mx =>
    cases mx with
    | some m => cases h
    | none =>
    simp only at h
    split at h
    · rename_i s' ps hs
      cases h
      refine ⟨Mono.add _ _, fun hp Fr e w ρ hx hat hfree => ?_⟩
      obtain ⟨v, r1, r2⟩ := stepSlice_ok hs (all_add hp) w (lv := lo.map ρ) (hv := hi.map ρ) (hx x (by simp [Op.operands]))
        (fun s hs' => by
          cases lo with
          | none => cases hs'
          | some l => cases hs'; exact ⟨_, rfl, hx l (by simp [Op.operands])⟩) (fun hs' => by cases lo <;> simp at hs' ⊢)
        (fun s hs' => by
          cases hi with
          | none => cases hs'
          | some l => cases hs'; exact ⟨_, rfl, hx l (by simp [Op.operands])⟩) (fun hs' => by cases hi <;> simp at hs' ⊢)
      exact ⟨e, w, _, v, by simp [execOp, r1] <;> rfl, .inl rfl, Ext.refl _ _ _, r2, hat, Kept.refl _ _⟩
    · cases h
  case fieldAddr t x f =>
    obtain ⟨h1, h2⟩ := pureOp_some h
    refine pureV rfl h2 fun e w ρ hx => ?_
    obtain ⟨u, r1, r2⟩ := stepFieldAddr_ok h1 w (hx x (by simp [Op.operands]))
    exact ⟨u, by simp [execOp, r1], r2⟩
  case field t x f =>
    obtain ⟨h1, h2⟩ := pureOp_some h
    refine pureV rfl h2 fun e w ρ hx => ?_
    obtain ⟨u, r1, r2⟩ := stepField_ok h1 w (hx x (by simp [Op.operands]))
    exact ⟨u, by simp [execOp, r1], r2⟩
  case indexAddr t x ix =>
    obtain ⟨h1, h2, h3, h4⟩ := stepIndexAddr_ok h
    refine ⟨h1, fun hp Fr e w ρ hx hat hfree => ?_⟩
    obtain ⟨v, r1, r2⟩ := h4 hp w (hx x (by simp [Op.operands])) (hx ix (by simp [Op.operands]))
    exact ⟨e, w, _, v, by simp [execOp, r1] <;> rfl, .inl rfl, Ext.refl _ _ _, r2, by rw [h2]; exact hat, Kept.refl _ _⟩
  case index t x ix =>
    obtain ⟨h1, h2⟩ := pureOp_some h
    refine pureV rfl h2 fun e w ρ hx => ?_
    obtain ⟨u, r1, r2⟩ := stepIndex_ok h1 w (hx x (by simp [Op.operands])) (hx ix (by simp [Op.operands]))
    exact ⟨u, by simp [execOp, r1], r2⟩
  case extract t i =>
    obtain ⟨h1, h2⟩ := pureOp_some h
    refine pureV rfl h2 fun e w ρ hx => ?_
    obtain ⟨u, r1, r2⟩ := stepExtract_ok (P := P) h1 w (hx t (by simp [Op.operands]))
    exact ⟨u, by simp [execOp, r1], r2⟩
  case call c =>
    obtain ⟨callee, args, ts⟩ := c
    cases callee <;> simp only at h <;> try (cases h; done)
    rename_i b
    have hargs : ∀ (e : Env) (ρ : Operand → Value), (∀ x ∈ (Op.call ⟨.builtin b, args, ts⟩).operands, (ev fr x).R e (ρ x)) → SV.RL e (args.toList.map (ev fr)) (args.toList.map ρ) := fun e ρ hx =>
      RL_map _ fun x hxm => hx x (by simp [Op.operands, Call.operands]; simpa using hxm)
    have hexec' : ∀ (ρ : Operand → Value) (w : World), ∃ cs, (execOp ρ ⟨dst, .call ⟨.builtin b, args, ts⟩, type, pos, after, guard⟩).run P w =
        (builtin b ts type cs (args.toList.map ρ).toArray).run P w := by
      intro ρ w
      rw [show (args.toList.map ρ).toArray = args.map ρ from (by apply Array.ext'; simp)]
      exact ⟨_, rfl⟩
    unfold stepBuiltin at h
    split at h
    · rename_i x hargs'
      split at h
      · rename_i t ht
        split at h
        · rename_i s' hs
          cases h
          refine ⟨Mono.refl _, fun hp Fr e w ρ hx hat hfree => ?_⟩
          have hr := hargs e ρ hx
          rw [hargs'] at hr
          generalize hav : args.toList.map ρ = av at hr
          match av, hr with
          | [v], hr =>
            simp only [SV.RL] at hr
            obtain ⟨u, r1, r2⟩ := stepLen_ok hs w hr.1 ts ht type
            refine ⟨e, w, _, u, ?_, .inl rfl, Ext.refl _ _ _, r2, hat, Kept.refl _ _⟩
            obtain ⟨cs, hexec⟩ := hexec' ρ w
            rw [hexec, hav]
            simp [builtin, r1]
        · cases h
      · cases h
    · rename_i x y hargs'
      split at h
      · rename_i s' hs
        cases h
        refine ⟨Mono.refl _, fun hp Fr e w ρ hx hat hfree => ?_⟩
        have hr := hargs e ρ hx
        rw [hargs'] at hr
        generalize hav : args.toList.map ρ = av at hr
        match av, hr with
        | [v, u], hr =>
          simp only [SV.RL] at hr
          obtain ⟨r, r1, r2⟩ := stepMin_ok (P := P) hs w hr.1 hr.2.1 ts type
          refine ⟨e, w, _, r, ?_, .inl rfl, Ext.refl _ _ _, r2, hat, Kept.refl _ _⟩
          obtain ⟨cs, hexec⟩ := hexec' ρ w
          rw [hexec, hav]
          simp [builtin, r1]
      · cases h
    · rename_i x y hargs'
      split at h
      · rename_i s' hs
        cases h
        refine ⟨Mono.refl _, fun hp Fr e w ρ hx hat hfree => ?_⟩
        have hr := hargs e ρ hx
        rw [hargs'] at hr
        generalize hav : args.toList.map ρ = av at hr
        match av, hr with
        | [v, u], hr =>
          simp only [SV.RL] at hr
          obtain ⟨r, r1, r2⟩ := stepMax_ok (P := P) hs w hr.1 hr.2.1 ts type
          refine ⟨e, w, _, r, ?_, .inl rfl, Ext.refl _ _ _, r2, hat, Kept.refl _ _⟩
          obtain ⟨cs, hexec⟩ := hexec' ρ w
          rw [hexec, hav]
          simp [builtin, r1]
      · cases h
    · rename_i d s' hargs'
      split at h
      · rename_i t t' hts
        split at h
        · rename_i htt
          subst htt
          obtain ⟨h1, h2⟩ := stepAppend_ok h
          refine ⟨h1, fun hp Fr e w ρ hx hat hfree => ?_⟩
          have hr := hargs e ρ hx
          rw [hargs'] at hr
          generalize hav : args.toList.map ρ = av at hr
          match av, hr with
          | [v, u], hr =>
            simp only [SV.RL] at hr
            obtain ⟨e', w', r, r1, r2, r3, r4, r5⟩ := h2 hp type hr.1 hr.2.1 hat hfree
            refine ⟨e', w', _, r, ?_, .inl rfl, r2, r3, r4, r5⟩
            have hts' : ts = #[t, t] := Array.ext' (by simpa using hts)
            obtain ⟨cs, hexec⟩ := hexec' ρ w
            rw [hexec, hav, hts']
            simp [builtin, r1]
        · cases h
      · cases h
    · cases h

end Go.Eng
