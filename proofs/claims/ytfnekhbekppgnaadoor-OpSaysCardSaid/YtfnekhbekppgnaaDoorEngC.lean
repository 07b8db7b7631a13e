import Derived.Test.YtfnekhbekppgnaaDoorEngB
import Derived.WalkKit
namespace Go.Eng
variable {P : Program}

/-! Lists of values. -/

theorem RL_length {e : Env} : ∀ {l : List SV} {u : List Value}, SV.RL e l u → l.length = u.length
  | [], [], _ => rfl
  | _ :: l, _ :: u, h => by
    simp only [SV.RL] at h
    simp [RL_length h.2]
  | [], _ :: _, h => by simp [SV.RL] at h
  | _ :: _, [], h => by simp [SV.RL] at h

theorem RL_get {e : Env} : ∀ {l : List SV} {u : List Value} {i : Nat} {s : SV}, SV.RL e l u → l[i]? = some s → ∃ v, u[i]? = some v ∧ s.R e v
  | [], [], _, _, _, hs => by simp at hs
  | x :: l, y :: u, 0, s, h, hs => by
    simp only [SV.RL] at h
    simp at hs
    exact ⟨y, by simp, hs ▸ h.1⟩
  | x :: l, y :: u, i + 1, s, h, hs => by
    simp only [SV.RL] at h
    simp only [List.getElem?_cons_succ] at hs ⊢
    exact RL_get h.2 hs
  | [], _ :: _, _, _, h, _ => by simp [SV.RL] at h
  | _ :: _, [], _, _, h, _ => by simp [SV.RL] at h

theorem RL_of_get {e : Env} : ∀ {l : List SV} {u : List Value}, l.length = u.length → (∀ (i : Nat) (s : SV) (v : Value), l[i]? = some s → u[i]? = some v → s.R e v) → SV.RL e l u
  | [], [], _, _ => SV.RL_nil e
  | x :: l, y :: u, hl, h => by
    simp only [SV.RL]
    exact ⟨h 0 x y (by simp) (by simp), RL_of_get (by simpa using hl) fun i s v h1 h2 => h (i + 1) s v (by simpa using h1) (by simpa using h2)⟩
  | [], _ :: _, hl, _ => by simp at hl
  | _ :: _, [], hl, _ => by simp at hl

theorem RL_iff {e : Env} {l : List SV} {u : List Value} : SV.RL e l u ↔ l.length = u.length ∧ ∀ (i : Nat) (s : SV) (v : Value), l[i]? = some s → u[i]? = some v → s.R e v :=
  ⟨fun h => ⟨RL_length h, fun i s v h1 h2 => by
    obtain ⟨v', h3, h4⟩ := RL_get h h1
    rw [h2] at h3
    cases h3
    exact h4⟩, fun h => RL_of_get h.1 h.2⟩

theorem RL_append {e : Env} : ∀ {l l' : List SV} {u u' : List Value}, SV.RL e l u → SV.RL e l' u' → SV.RL e (l ++ l') (u ++ u')
  | [], _, [], _, _, h => by simpa using h
  | _ :: l, _, _ :: u, _, h, h' => by
    simp only [SV.RL, List.cons_append] at h ⊢
    exact ⟨h.1, RL_append h.2 h'⟩
  | [], _, _ :: _, _, h, _ => by simp [SV.RL] at h
  | _ :: _, _, [], _, h, _ => by simp [SV.RL] at h

theorem RL_take {e : Env} {l : List SV} {u : List Value} (n : Nat) (h : SV.RL e l u) : SV.RL e (l.take n) (u.take n) := by
  rw [RL_iff] at h ⊢
  refine ⟨by simp [h.1], fun i s v h1 h2 => ?_⟩
  rw [List.getElem?_take] at h1 h2
  split at h1
  · rename_i hi
    rw [if_pos hi] at h2
    exact h.2 i s v h1 h2
  · cases h1

theorem RL_drop {e : Env} {l : List SV} {u : List Value} (n : Nat) (h : SV.RL e l u) : SV.RL e (l.drop n) (u.drop n) := by
  rw [RL_iff] at h ⊢
  refine ⟨by simp [h.1], fun i s v h1 h2 => ?_⟩
  rw [List.getElem?_drop] at h1 h2
  exact h.2 _ s v h1 h2

theorem RL_set {e : Env} {l : List SV} {u : List Value} (n : Nat) {s : SV} {v : Value} (h : SV.RL e l u) (hs : s.R e v) : SV.RL e (l.set n s) (u.set n v) := by
  rw [RL_iff] at h ⊢
  refine ⟨by simp [h.1], fun i s' v' h1 h2 => ?_⟩
  rw [List.getElem?_set] at h1 h2
  split at h1
  · rename_i hi
    rw [if_pos hi] at h2
    split at h1
    · split at h2
      · simp at h1 h2
        subst h1; subst h2
        exact hs
      · cases h2
    · cases h1
  · rename_i hi
    rw [if_neg hi] at h2
    exact h.2 i s' v' h1 h2

theorem RL_con {e : Env} : ∀ (l : List Value), SV.RL e (l.map .con) l
  | [] => by simp [SV.RL]
  | v :: l => by simp only [List.map_cons, SV.RL]; exact ⟨by simp [SV.R], RL_con l⟩

theorem RL_map {e : Env} {α : Type} {f : α → SV} {g : α → Value} : ∀ (l : List α), (∀ x ∈ l, (f x).R e (g x)) → SV.RL e (l.map f) (l.map g)
  | [], _ => by simp [SV.RL]
  | x :: l, h => by
    simp only [List.map_cons, SV.RL]
    exact ⟨h x (by simp), RL_map l fun y hy => h y (by simp [hy])⟩

/-- The cells of a value that is stored. -/
def cellsOf : SV → Option (List SV)
  | .any => none
  | .tup _ => none
  | .agg l => some l
  | .con (.agg cs) => some (cs.toList.map .con)
  | .con (.tuple _) => none
  | s => some [s]

theorem cellsOf_ok {e : Env} {s : SV} {v : Value} {l : List SV} (h : s.R e v) (hc : cellsOf s = some l) : SV.RL e l v.cells.toList := by
  cases s with
  | any => cases hc
  | tup _ => cases hc
  | agg l' =>
    simp [cellsOf] at hc
    simp only [SV.R] at h
    obtain ⟨u, rfl, hu⟩ := h
    subst hc
    simpa [Value.cells] using hu
  | con x =>
    simp only [SV.R] at h
    rw [h]
    cases x <;> simp [cellsOf] at hc
    case agg cs => subst hc; simpa [Value.cells] using RL_con cs.toList
    all_goals (subst hc; simp [Value.cells, SV.RL, SV.R])
  | int k n => simp [cellsOf] at hc; subst hc; simp only [SV.R] at h; subst h; simp [Value.cells, SV.RL, SV.R]
  | bool b => simp [cellsOf] at hc; subst hc; simp only [SV.R] at h; subst h; simp [Value.cells, SV.RL, SV.R]
  | str l => simp [cellsOf] at hc; subst hc; simp only [SV.R] at h; subst h; simp [Value.cells, SV.RL, SV.R]
  | ptr n i sz j =>
    simp [cellsOf] at hc; subst hc
    have h' := h
    simp only [SV.R] at h'
    obtain ⟨k, _, rfl⟩ := h'
    simp only [Value.cells, SV.RL]; exact ⟨h, trivial⟩
  | sl n sz off len =>
    simp [cellsOf] at hc; subst hc
    have h' := h
    simp only [SV.R] at h'
    obtain ⟨k, _, ⟨_, _, _, rfl⟩ | ⟨_, _, o, _, rfl⟩⟩ := h' <;> (simp only [Value.cells, SV.RL]; exact ⟨h, trivial⟩)
  | func f a b =>
    simp [cellsOf] at hc; subst hc
    have h' := h
    simp only [SV.R] at h'
    obtain ⟨u, v, rfl, _, _⟩ := h'
    simp only [Value.cells, SV.RL]; exact ⟨h, trivial⟩
  | opt n =>
    simp [cellsOf] at hc; subst hc
    have h' := h
    simp only [SV.R] at h'
    obtain ⟨k, _, ⟨_, rfl⟩ | ⟨_, rfl⟩⟩ := h' <;> (simp only [Value.cells, SV.RL]; exact ⟨h, trivial⟩)

/-- May it be stored in one cell? -/
def cellLike : SV → Bool
  | .any => false
  | .tup _ => false
  | .agg _ => false
  | .con (.agg _) => false
  | .con (.tuple _) => false
  | _ => true

theorem cellLike_ok {e : Env} {s : SV} {v : Value} (h : s.R e v) (hc : cellLike s = true) : v.oneCell' = true := by
  cases s with
  | any => cases hc
  | tup _ => cases hc
  | agg l' => cases hc
  | con x =>
    simp only [SV.R] at h
    rw [h]
    cases x <;> simp [cellLike] at hc <;> rfl
  | int k n => simp only [SV.R] at h; subst h; rfl
  | bool b => simp only [SV.R] at h; subst h; rfl
  | str l => simp only [SV.R] at h; subst h; rfl
  | ptr n i sz j => simp only [SV.R] at h; obtain ⟨k, _, rfl⟩ := h; rfl
  | sl n sz off len => simp only [SV.R] at h; obtain ⟨k, _, ⟨_, _, _, rfl⟩ | ⟨_, _, o, _, rfl⟩⟩ := h <;> rfl
  | func f a b => simp only [SV.R] at h; obtain ⟨u, v, rfl, _, _⟩ := h; rfl
  | opt n => simp only [SV.R] at h; obtain ⟨k, _, ⟨_, rfl⟩ | ⟨_, rfl⟩⟩ := h <;> rfl

/-! What an operation that yields a value is shown to do. -/

def NextIs (n : Next) (v : Value) : Prop := n = .value v ∨ (n = .skip ∧ v = undef)

def ValOk (P : Program) (o : Oper) (fr : Nat → SV) (σ : Heap) (s : SV) (σ' : Heap) (lo hi : Nat) : Prop :=
  ∀ (Fr : Nat → Prop) (e : Env) (w : World) (ρ : Operand → Value), (∀ x ∈ o.op.operands, (ev fr x).R e (ρ x)) → At e w σ Fr → Free lo hi e →
    ∃ e' w' n v, (execOp ρ o).run P w = .ok n w' ∧ NextIs n v ∧ Ext lo hi e e' ∧ s.R e' v ∧ At e' w' σ' Fr ∧ Kept Fr w w'

/-- Only computes: no memory is looked at. -/
theorem ValOk.pure {o : Oper} {fr : Nat → SV} {σ : Heap} {s : SV} {lo hi : Nat}
    (h : ∀ (e : Env) (w : World) (ρ : Operand → Value), (∀ x ∈ o.op.operands, (ev fr x).R e (ρ x)) → ∃ v, (execOp ρ o).run P w = .ok (.value v) w ∧ s.R e v) :
    ValOk P o fr σ s σ lo hi := fun Fr e w ρ hx ha _ => by
  obtain ⟨v, h1, h2⟩ := h e w ρ hx
  exact ⟨e, w, _, v, h1, .inl rfl, Ext.refl _ _ _, h2, ha, Kept.refl _ _⟩

theorem wanted_of {ops : Array Oper} {o : Oper} {fr : Nat → SV} {a : Act} {e : Env} (hr : ∀ t ∈ o.looksAt ops, (fr t).R e (a.tmps.getD t undef)) :
    ∀ {g : Nat} {want b : Bool} {d : Tmp}, o.guard = some (g, want) → (ops[g]?).bind (·.dst) = some d → fr d = .con (.bool b) →
      Region.wanted o (yielded ops a.tmps) = (b == want) := by
  intro g want b d hg hd hf
  have := hr d (by unfold Oper.looksAt; rw [hg]; simp only; rw [hd]; simp)
  rw [hf] at this
  simp only [SV.R] at this
  have ht : a.tmps[d]? = some (.bool b) := by
    cases hh : a.tmps[d]? with
    | none => rw [Array.getD_eq_getD_getElem?, hh] at this; simp [undef] at this
    | some v => rw [Array.getD_eq_getD_getElem?, hh] at this; simp at this; rw [this]
  simp [Region.wanted, hg, yielded, hd, ht]

theorem wanted_of_undef {ops : Array Oper} {o : Oper} {fr : Nat → SV} {a : Act} {e : Env} (hr : ∀ t ∈ o.looksAt ops, (fr t).R e (a.tmps.getD t undef)) :
    ∀ {g : Nat} {want : Bool} {d : Tmp} {u : Array Value}, o.guard = some (g, want) → (ops[g]?).bind (·.dst) = some d → fr d = .con (.tuple u) →
      Region.wanted o (yielded ops a.tmps) = false := by
  intro g want d u hg hd hf
  have := hr d (by unfold Oper.looksAt; rw [hg]; simp only; rw [hd]; simp)
  rw [hf] at this
  simp only [SV.R] at this
  cases hh : a.tmps[d]? with
  | none => simp [Region.wanted, hg, yielded, hd, hh]
  | some v =>
    rw [Array.getD_eq_getD_getElem?, hh] at this
    simp at this
    subst this
    simp [Region.wanted, hg, yielded, hd, hh]

theorem StepOk.of_val {ops : Array Oper} {i : Nat} {o : Oper} {fr : Nat → SV} {σ σ' : Heap} {s : SV} {lo hi : Nat} (ho : ops[i]? = some o)
    (hw : ∀ (e : Env) (a : Act), (∀ t ∈ o.looksAt ops, (fr t).R e (a.tmps.getD t undef)) → Region.wanted o (yielded ops a.tmps) = true)
    (h : ValOk P o fr σ s σ' lo hi) : StepOk P ops i fr σ s σ' lo hi := by
  intro Fr e w a Q K hr ha hfree k
  unfold wpOp
  rw [ho]
  have hro := hr o ho
  simp only [hw e a hro, if_true]
  refine .inl ?_
  unfold Oper.wp
  obtain ⟨e', w', n, v, h1, h2, h3, h4, h5, h6⟩ := h Fr e w a.eval (fun x hx => ev_ok fun t ht => hro t (by
    unfold Oper.looksAt
    refine List.mem_append.2 (.inl (List.mem_filterMap.2 ⟨x, by simpa using hx, by rw [ht]⟩)))) ha hfree
  rw [h1]
  have := k e' w' v h3 h4 h5 h6
  rw [ho] at this
  rcases h2 with rfl | ⟨rfl, rfl⟩
  · exact this
  · exact this

theorem StepOk.skip {ops : Array Oper} {i : Nat} {o : Oper} {fr : Nat → SV} {σ : Heap} {lo hi : Nat} (ho : ops[i]? = some o)
    (hw : ∀ (e : Env) (a : Act), (∀ t ∈ o.looksAt ops, (fr t).R e (a.tmps.getD t undef)) → Region.wanted o (yielded ops a.tmps) = false) :
    StepOk P ops i fr σ (.con undef) σ lo hi := by
  intro Fr e w a Q K hr ha hfree k
  unfold wpOp
  rw [ho]
  simp only [hw e a (hr o ho), Bool.false_eq_true, if_false]
  have := k e w undef (Ext.refl _ _ _) (by simp [SV.R]) ha (Kept.refl _ _)
  rw [ho] at this
  exact this

end Go.Eng
