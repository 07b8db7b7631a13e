import Derived.Test.YtfnekhbekppgnaaDoorEngA
namespace Go.Eng
variable {P : Program}

/-! Regions in the order of the text. -/

def OpsOk (P : Program) (ops : Array Oper) (l : List Nat) (fr : List SV) (σ : Heap) (fr' : List SV) (σ' : Heap) (lo hi : Nat) : Prop :=
  ∀ (Fr : Nat → Prop) (e : Env) (w : World) (a : Act) (Q : Exit → Act → World → Prop),
    FrOk e fr a → At e w σ Fr → Free lo hi e →
    (∀ e' w' a', Ext lo hi e e' → FrOk e' fr' a' → At e' w' σ' Fr → Kept Fr w w' → Q .normal a' w') →
    wpOps P ops Q l a w

theorem OpsOk.nil {ops : Array Oper} {fr : List SV} {σ : Heap} {lo hi : Nat} : OpsOk P ops [] fr σ fr σ lo hi :=
  fun Fr e w a Q hf ha _ k => by
    simpa [wpOps] using k e w a (Ext.refl _ _ _) hf ha (Kept.refl _ _)

theorem OpsOk.cons {ops : Array Oper} {i : Nat} {rest : List Nat} {fr fr' : List SV} {σ σ₁ σ' : Heap} {s : SV} {lo mid hi : Nat}
    (h₁ : StepOk P ops i (fget fr) σ s σ₁ lo mid) (h₂ : OpsOk P ops rest (fput fr ((ops[i]?).bind (·.dst)) s) σ₁ fr' σ' mid hi)
    (l₁ : lo ≤ mid) (l₂ : mid ≤ hi) : OpsOk P ops (i :: rest) fr σ fr' σ' lo hi := by
  intro Fr e w a Q hf ha hfree k
  rw [wpOps_cons]
  refine h₁ Fr e w a Q _ (fun _ _ t _ => hf.rel t) ha (hfree.sub (Nat.le_refl _) l₂) fun e' w' v x r at' kp => ?_
  refine h₂ Fr e' w' _ Q ((hf.mono x).put r) at' ((hfree.sub l₁ (Nat.le_refl _)).of_ext x (.inl (Nat.le_refl _))) fun e'' w'' a' x' hf' at'' kp' => ?_
  exact k e'' w'' a' (x.trans x' (Nat.le_refl _) l₂ l₁ (Nat.le_refl _)) hf' at'' (kp.trans kp')

theorem CodeOk.region {id : Nat} {ops : Array Oper} {fr fr' : List SV} {σ σ' : Heap} {lo hi : Nat}
    (h : OpsOk P ops (List.range ops.size) fr σ fr' σ' lo hi) : CodeOk P (.region id ops false) fr σ .normal fr' σ' lo hi :=
  fun Fr e w a Q hf ha hfree k => wp_region (h Fr e w a Q hf ha hfree k)

/-! Regions that draw their order. -/

structure Plan (P : Program) (ops : Array Oper) where
  fr : List SV
  σ : Heap
  sv : Nat → SV
  nx : Nat → Nat
  pre : Nat → Nat
  L : Nat
  T : List (Nat × Heap)

def dstOf (ops : Array Oper) (i : Nat) : Option Tmp := (ops[i]?).bind (·.dst)

def Plan.frs {ops : Array Oper} (p : Plan P ops) : Nat → List SV
  | 0 => p.fr
  | i + 1 => fput (p.frs i) (dstOf ops i) (p.sv i)

/-- What stands in a temporary when of the first k operations those in D are done. -/
def Plan.cur {ops : Array Oper} (p : Plan P ops) (D : Nat → Bool) (t : Nat) : Nat → SV
  | 0 => fget p.fr t
  | i + 1 => if D i = true ∧ dstOf ops i = some t ∧ t < p.fr.length then p.sv i else p.cur D t i

theorem Plan.frs_length {ops : Array Oper} (p : Plan P ops) : ∀ i, (p.frs i).length = p.fr.length
  | 0 => rfl
  | i + 1 => by rw [Plan.frs, fput_length, p.frs_length i]

theorem Plan.frs_cur {ops : Array Oper} (p : Plan P ops) (t : Nat) : ∀ i, fget (p.frs i) t = p.cur (fun _ => true) t i
  | 0 => rfl
  | i + 1 => by
    rw [Plan.frs, fget_fput, Plan.cur, p.frs_length i, p.frs_cur t i]
    simp

theorem Plan.cur_congr {ops : Array Oper} (p : Plan P ops) {D D' : Nat → Bool} {t : Nat} : ∀ {k}, (∀ j, j < k → dstOf ops j = some t → D j = D' j) → p.cur D t k = p.cur D' t k
  | 0, _ => rfl
  | k + 1, h => by
    have ih := p.cur_congr (k := k) fun j hj hd => h j (by omega) hd
    rw [Plan.cur, Plan.cur, ih]
    by_cases hd : dstOf ops k = some t
    · rw [h k (by omega) hd]
    · simp [hd]

theorem Plan.cur_skip {ops : Array Oper} (p : Plan P ops) {D : Nat → Bool} {t i : Nat} : ∀ {k}, i ≤ k → (∀ j, i ≤ j → j < k → dstOf ops j = some t → D j = false) → p.cur D t k = p.cur D t i
  | 0, hi, _ => by
    have : i = 0 := by omega
    subst this
    rfl
  | k + 1, hi, h => by
    by_cases he : i = k + 1
    · subst he; rfl
    · have ih := p.cur_skip (k := k) (by omega) fun j h1 h2 hd => h j h1 (by omega) hd
      rw [Plan.cur]
      by_cases hd : dstOf ops k = some t
      · rw [h k (by omega) (by omega) hd]
        simpa using ih
      · simp [hd, ih]

def namesOf (ops : Array Oper) (i : Nat) : List Tmp :=
  match ops[i]? with
  | some o => o.looksAt ops ++ o.dst.toList
  | none => []

def bindsOn (ops : Array Oper) (i : Nat) : List Nat :=
  match ops[i]? with
  | some o => (o.after.toList.filter (Region.binds .any)).map (·.on)
  | none => []

structure Plan.Good {ops : Array Oper} (p : Plan P ops) : Prop where
  ord : ∀ i, i < ops.size → ∀ j ∈ bindsOn ops i, j < i
  pre : ∀ i, i < ops.size → ∀ j, (p.pre i).testBit j = true → j < i ∧ (j ∈ bindsOn ops i ∨ ∃ k ∈ bindsOn ops i, (p.pre k).testBit j = true)
  own : ∀ i, i < ops.size → ∀ t ∈ namesOf ops i, ∀ j, j < ops.size → j ≠ i → dstOf ops j = some t → (j < i ∧ (p.pre i).testBit j = true) ∨ (i < j ∧ (p.pre j).testBit i = true)
  nx : ∀ i, i < ops.size → p.nx i ≤ p.nx (i + 1)
  start : (0, p.σ) ∈ p.T
  quiet : ∀ i, i < ops.size → p.L.testBit i = false → ∀ m σ, (m, σ) ∈ p.T → (∀ j, (p.pre i).testBit j = true → p.L.testBit j = true → m.testBit j = true) →
    (∀ j, j < ops.size → m.testBit j = true → (p.pre j).testBit i = false) → StepOk P ops i (fget (p.frs i)) σ (p.sv i) σ (p.nx i) (p.nx (i + 1))
  loud : ∀ i, i < ops.size → p.L.testBit i = true → ∀ m σ, (m, σ) ∈ p.T → m.testBit i = false → (∀ j, (p.pre i).testBit j = true → p.L.testBit j = true → m.testBit j = true) →
    (∀ j, j < ops.size → m.testBit j = true → (p.pre j).testBit i = false) →
    ∃ σ' m', StepOk P ops i (fget (p.frs i)) σ (p.sv i) σ' (p.nx i) (p.nx (i + 1)) ∧ (m', σ') ∈ p.T ∧ ∀ j, m'.testBit j = (m.testBit j || decide (j = i))

structure Plan.Inv {ops : Array Oper} (p : Plan P ops) (e₀ : Env) (w₀ : World) (Fr : Nat → Prop) (D : Nat → Bool) (e : Env) (w : World) (a : Act) (m : Nat) (σ : Heap) : Prop where
  closed : ∀ i, i < ops.size → D i = true → ∀ j ∈ bindsOn ops i, D j = true
  tab : (m, σ) ∈ p.T
  mask : ∀ j, j < ops.size → m.testBit j = (D j && p.L.testBit j)
  out : ∀ j, ops.size ≤ j → m.testBit j = false
  df : a.defers = []
  sz : a.tmps.size = p.fr.length
  rel : ∀ t, (p.cur D t ops.size).R e (a.tmps.getD t undef)
  sat : At e w σ Fr
  kept : Kept Fr w₀ w
  ext : Ext (p.nx 0) (p.nx ops.size) e₀ e
  free : ∀ i, i < ops.size → D i = false → Free (p.nx i) (p.nx (i + 1)) e

theorem Plan.pre_done {ops : Array Oper} {p : Plan P ops} (g : p.Good) {D : Nat → Bool} (hc : ∀ i, i < ops.size → D i = true → ∀ j ∈ bindsOn ops i, D j = true) :
    ∀ i, i < ops.size → (∀ j ∈ bindsOn ops i, D j = true) → ∀ j, (p.pre i).testBit j = true → D j = true := by
  intro i
  induction i using Nat.strongRecOn with
  | _ i ih =>
    intro hi hb j hj
    obtain ⟨_, h | ⟨k, hk, hkj⟩⟩ := g.pre i hi j hj
    · exact hb j h
    · have hki := g.ord i hi k hk
      exact ih k hki (by omega) (hc k (by omega) (hb k hk)) j hkj

theorem nx_le {ops : Array Oper} {p : Plan P ops} (g : p.Good) : ∀ i j, i ≤ j → j ≤ ops.size → p.nx i ≤ p.nx j := by
  intro i j hij hj
  induction j with
  | zero => have : i = 0 := by omega
            subst this; exact Nat.le_refl _
  | succ j ih =>
    by_cases h : i = j + 1
    · subst h; exact Nat.le_refl _
    · exact Nat.le_trans (ih (by omega) (by omega)) (g.nx j (by omega))

def listedD (listed : Array Bool) : Nat → Bool := fun i => listed.getD i false

theorem mem_bindsOn {ops : Array Oper} {i : Nat} {o : Oper} (h : ops[i]? = some o) {j : Nat} : j ∈ bindsOn ops i ↔ ∃ e ∈ o.after, Region.binds .any e = true ∧ e.on = j := by
  unfold bindsOn
  rw [h]
  simp only [List.mem_map, List.mem_filter, Array.mem_toList_iff]
  constructor
  · rintro ⟨e, ⟨h1, h2⟩, h3⟩; exact ⟨e, h1, h2, h3⟩
  · rintro ⟨e, h1, h2, h3⟩; exact ⟨e, ⟨h1, h2⟩, h3⟩

theorem mem_ready_iff {ops : Array Oper} {listed : Array Bool} {i : Nat} (hs : listed.size = ops.size) :
    i ∈ Region.ready .any ops listed ↔ i < ops.size ∧ listedD listed i = false ∧ ∀ j ∈ bindsOn ops i, listedD listed j = true := by
  unfold Region.ready
  simp only [List.mem_filter, List.mem_range, Bool.and_eq_true, Bool.not_eq_true', listedD]
  constructor
  · rintro ⟨h1, h2, h3⟩
    have ho : ops[i]? = some ops[i] := Array.getElem?_eq_getElem h1
    refine ⟨h1, ?_, fun j hj => ?_⟩
    · rw [Array.getD_eq_getD_getElem?, Array.getElem?_eq_getElem (by omega)] at h2 ⊢
      simpa using h2
    · rw [ho] at h3
      obtain ⟨e, h4, h5, h6⟩ := (mem_bindsOn ho).1 hj
      simp only [Option.map_some, Option.getD_some, Array.all_eq_true_iff_forall_mem] at h3
      have := h3 e h4
      rw [h5] at this
      simp only [Bool.not_true, Bool.false_or] at this
      rw [← h6]; exact this
  · rintro ⟨h1, h2, h3⟩
    have ho : ops[i]? = some ops[i] := Array.getElem?_eq_getElem h1
    refine ⟨h1, ?_, ?_⟩
    · rw [Array.getD_eq_getD_getElem?, Array.getElem?_eq_getElem (by omega)] at h2 ⊢
      simpa using h2
    · rw [ho]
      simp only [Option.map_some, Option.getD_some, Array.all_eq_true_iff_forall_mem]
      intro e he
      cases hb : Region.binds .any e with
      | false => rfl
      | true => simpa using h3 e.on ((mem_bindsOn ho).2 ⟨e, he, hb, rfl⟩)

/-- How many are not yet listed. -/
def left (listed : Array Bool) (n : Nat) : Nat := ((List.range n).filter fun i => !listedD listed i).length

theorem listedD_set {listed : Array Bool} {i : Nat} (h : i < listed.size) (j : Nat) : listedD (listed.setIfInBounds i true) j = (listedD listed j || decide (j = i)) := by
  unfold listedD
  by_cases hj : j = i
  · subst hj; simp [h]
  · simp only [Array.getD_eq_getD_getElem?, Array.getElem?_setIfInBounds_ne (Ne.symm hj)]
    simp [hj]

theorem left_set {listed : Array Bool} {i n : Nat} (h : i < listed.size) (hn : i < n) (hf : listedD listed i = false) : left (listed.setIfInBounds i true) n + 1 = left listed n := by
  unfold left
  have key : ∀ (l : List Nat), l.Nodup → i ∈ l → ((l.filter fun j => !listedD (listed.setIfInBounds i true) j).length + 1 = (l.filter fun j => !listedD listed j).length) := by
    intro l hnd hm
    induction l with
    | nil => cases hm
    | cons x l ih =>
      simp only [List.filter_cons, listedD_set h]
      have hnd' := List.nodup_cons.1 hnd
      by_cases hx : x = i
      · subst hx
        have hsame : (l.filter fun j => !(listedD listed j || decide (j = x))) = l.filter fun j => !listedD listed j := by
          apply List.filter_congr
          intro y hy
          have : y ≠ x := fun h => hnd'.1 (h ▸ hy)
          simp [this]
        rw [hsame]
        simp [hf]
      · have hm' : i ∈ l := by
          rcases List.mem_cons.1 hm with h | h
          · exact absurd h.symm hx
          · exact h
        have := ih hnd'.2 hm'
        simp only [listedD_set h] at this
        cases hl : listedD listed x
        · simp only [hx, decide_false, Bool.or_false, Bool.not_false, if_true, List.length_cons]; omega
        · simp only [Bool.true_or, Bool.not_true, Bool.false_eq_true, if_false]; omega
  exact key _ List.nodup_range (List.mem_range.2 hn)

theorem Plan.any {ops : Array Oper} {p : Plan P ops} (g : p.Good) {e₀ : Env} {w₀ : World} {Fr : Nat → Prop} {Q : Exit → Act → World → Prop}
    (fin : ∀ D e w a m σ, p.Inv e₀ w₀ Fr D e w a m σ → (∀ i, i < ops.size → D i = true) → Q .normal a w) :
    ∀ fuel listed e w a m σ, listed.size = ops.size → left listed ops.size ≤ fuel → p.Inv e₀ w₀ Fr (listedD listed) e w a m σ →
      wpAny P .any ops Q fuel listed a w := by
  intro fuel
  have done : ∀ (listed : Array Bool), left listed ops.size = 0 → ∀ i, i < ops.size → listedD listed i = true := by
    intro listed h i hi
    unfold left at h
    have := List.length_eq_zero_iff.1 h
    rw [List.filter_eq_nil_iff] at this
    simpa using this i (List.mem_range.2 hi)
  have empty : ∀ (listed : Array Bool), listed.size = ops.size → Region.ready .any ops listed = [] → ∀ i, i < ops.size → listedD listed i = true := by
    intro listed hs h i
    induction i using Nat.strongRecOn with
    | _ i ih =>
      intro hi
      by_cases hl : listedD listed i = true
      · exact hl
      · exfalso
        have : i ∈ Region.ready .any ops listed := (mem_ready_iff hs).2 ⟨hi, by simpa using hl, fun j hj => ih j (g.ord i hi j hj) (by have := g.ord i hi j hj; omega)⟩
        rw [h] at this
        cases this
  induction fuel with
  | zero =>
    intro listed e w a m σ hs hl inv
    have hall := done listed (by omega)
    refine ⟨?_, fin _ _ _ _ _ _ inv hall⟩
    apply List.eq_nil_iff_forall_not_mem.2
    intro i hi
    obtain ⟨h1, h2, _⟩ := (mem_ready_iff hs).1 hi
    rw [hall i h1] at h2
    cases h2
  | succ fuel ih =>
    intro listed e w a m σ hs hl inv
    refine ⟨fun h => fin _ _ _ _ _ _ inv (empty listed hs h), fun i hi => ?_⟩
    obtain ⟨hin, hun, hb⟩ := (mem_ready_iff hs).1 hi
    have hpre := Plan.pre_done g inv.closed i hin hb
    -- nobody that is listed waits for i
    have hno : ∀ j, j < ops.size → listedD listed j = true → (p.pre j).testBit i = false := by
      intro j hj hd
      cases hc : (p.pre j).testBit i with
      | false => rfl
      | true =>
        have := Plan.pre_done g inv.closed j hj (inv.closed j hj hd) i hc
        rw [this] at hun; cases hun
    have hmlow : ∀ j, m.testBit j = true → j < ops.size ∧ listedD listed j = true ∧ p.L.testBit j = true := by
      intro j h
      by_cases hj : j < ops.size
      · rw [inv.mask j hj] at h
        simp at h
        exact ⟨hj, h.1, h.2⟩
      · rw [inv.out j (by omega)] at h; cases h
    have hup : ∀ j, (p.pre i).testBit j = true → p.L.testBit j = true → m.testBit j = true := by
      intro j h1 h2
      have hj : j < ops.size := by have := (g.pre i hin j h1).1; omega
      rw [inv.mask j hj, hpre j h1, h2]; rfl
    have hnm : ∀ j, j < ops.size → m.testBit j = true → (p.pre j).testBit i = false := fun j hj h => hno j hj (hmlow j h).2.1
    -- the operands are as in the text's order
    have hcur : ∀ t ∈ namesOf ops i, p.cur (listedD listed) t ops.size = fget (p.frs i) t := by
      intro t ht
      rw [p.frs_cur, p.cur_skip (i := i) (by omega)]
      · refine p.cur_congr fun j hj hd => ?_
        rcases g.own i hin t ht j (by omega) (by omega) hd with ⟨_, h⟩ | ⟨h, _⟩
        · exact hpre j h
        · omega
      · intro j h1 h2 hd
        by_cases hji : j = i
        · subst hji; exact hun
        · rcases g.own i hin t ht j h2 hji hd with ⟨h, _⟩ | ⟨_, h⟩
          · omega
          · cases hc : listedD listed j with
            | false => rfl
            | true => rw [hno j h2 hc] at h; cases h
    have hops : ∀ o, ops[i]? = some o → ∀ t ∈ o.looksAt ops, (fget (p.frs i) t).R e (a.tmps.getD t undef) := by
      intro o ho t ht
      rw [← hcur t (by unfold namesOf; rw [ho]; simp [ht])]
      exact inv.rel t
    have hset := fun j => listedD_set (listed := listed) (i := i) (by omega) j
    -- what comes behind it
    have next : ∀ e' w' v m' σ', Ext (p.nx i) (p.nx (i + 1)) e e' → (p.sv i).R e' v → At e' w' σ' Fr → Kept Fr w w' → (m', σ') ∈ p.T →
        (∀ j, m'.testBit j = (m.testBit j || (decide (j = i) && p.L.testBit i))) →
        wpAny P .any ops Q fuel (listed.setIfInBounds i true) (a.put ((ops[i]?).bind (·.dst)) v) w' := by
      intro e' w' v m' σ' x r at' kp hT hm'
      refine ih (listed.setIfInBounds i true) e' w' _ m' σ' (by simpa using hs) (by have := left_set (n := ops.size) (by omega : i < listed.size) hin hun; omega) ?_
      refine { closed := ?_, tab := hT, mask := ?_, out := ?_, df := by rw [put_defers]; exact inv.df, sz := by rw [put_size]; exact inv.sz, rel := ?_, sat := at', kept := inv.kept.trans kp, ext := ?_, free := ?_ }
      · intro j hj hd k hk
        rw [hset] at hd ⊢
        by_cases hji : j = i
        · subst hji; rw [hb k hk]; rfl
        · simp [hji] at hd
          rw [inv.closed j hj hd k hk]; rfl
      · intro j hj
        rw [hm', inv.mask j hj, hset]
        by_cases hji : j = i
        · subst hji; simp [hun]
        · simp [hji]
      · intro j hj
        rw [hm', inv.out j hj]
        have : j ≠ i := by omega
        simp [this]
      · intro t
        rw [put_getD]
        by_cases hd : dstOf ops i = some t
        · have hd' : (ops[i]?).bind (·.dst) = some t := hd
          have htn : t ∈ namesOf ops i := by
            unfold namesOf
            rw [Array.getElem?_eq_getElem hin] at hd' ⊢
            simp at hd' ⊢
            exact .inr hd'
          have e1 : p.cur (listedD (listed.setIfInBounds i true)) t ops.size = p.cur (listedD (listed.setIfInBounds i true)) t (i + 1) := by
            refine p.cur_skip (by omega) fun j h1 h2 hdj => ?_
            rw [hset]
            rcases g.own i hin t htn j h2 (by omega) hdj with ⟨h, _⟩ | ⟨_, h⟩
            · omega
            · have hlj : listedD listed j = false := by
                cases hc : listedD listed j with
                | false => rfl
                | true => rw [hno j h2 hc] at h; cases h
              have : j ≠ i := by omega
              simp [hlj, this]
          rw [e1, Plan.cur, hset]
          by_cases hl : t < a.tmps.size
          · simp only [hd', hl, and_self, if_true]
            have hl' : t < p.fr.length := by rw [← inv.sz]; exact hl
            simp [hd, hl']
            exact r
          · have hl' : ¬ t < p.fr.length := by rw [← inv.sz]; exact hl
            simp only [hl, and_false, if_false, hl']
            have hbig : ∀ k D, p.cur D t k = fget p.fr t := by
              intro k D
              induction k with
              | zero => rfl
              | succ k ihk => rw [Plan.cur]; simp [hl', ihk]
            rw [hbig]
            have := inv.rel t
            rw [hbig] at this
            exact SV.R_mono x.up _ _ this
        · have hd' : ¬ (ops[i]?).bind (·.dst) = some t := hd
          simp only [hd', false_and, if_false]
          rw [p.cur_congr (D' := listedD listed) (t := t) fun j hj hdj => ?_]
          · exact SV.R_mono x.up _ _ (inv.rel t)
          · rw [hset]
            have : j ≠ i := fun h => hd (h ▸ hdj)
            simp [this]
      · exact inv.ext.trans x (Nat.le_refl _) (Nat.le_refl _) (nx_le g 0 i (by omega) (by omega)) (nx_le g (i + 1) ops.size (by omega) (Nat.le_refl _))
      · intro j hj hdj
        rw [hset] at hdj
        simp at hdj
        refine (inv.free j hj hdj.1).of_ext x ?_
        rcases Nat.lt_or_gt_of_ne hdj.2 with h | h
        · exact .inr (nx_le g (j + 1) i (by omega) (by omega))
        · exact .inl (nx_le g (i + 1) j (by omega) (by omega))
    cases hL : p.L.testBit i with
    | false =>
      refine g.quiet i hin hL m σ inv.tab hup hnm Fr e w a Q _ hops inv.sat (inv.free i hin hun) fun e' w' v x r at' kp => ?_
      exact next e' w' v m σ x r at' kp inv.tab fun j => by simp [hL]
    | true =>
      have hmi : m.testBit i = false := by rw [inv.mask i hin, hun]; rfl
      obtain ⟨σ', m', hstep, hT, hm'⟩ := g.loud i hin hL m σ inv.tab hmi hup hnm
      refine hstep Fr e w a Q _ hops inv.sat (inv.free i hin hun) fun e' w' v x r at' kp => ?_
      exact next e' w' v m' σ' x r at' kp hT fun j => by simp [hm', hL]

theorem CodeOk.region_draw {id : Nat} {ops : Array Oper} {p : Plan P ops} (hm : P.follows .mixedOrders = true) (g : p.Good) {σ' : Heap}
    (hfin : ∀ m σ, (m, σ) ∈ p.T → (∀ j, j < ops.size → m.testBit j = p.L.testBit j) → (∀ j, ops.size ≤ j → m.testBit j = false) → σ = σ') :
    CodeOk P (.region id ops true) p.fr p.σ .normal (p.frs ops.size) σ' (p.nx 0) (p.nx ops.size) := by
  intro Fr e w a Q hf ha hfree k
  refine wp_region_any hm ?_
  have hfalse : ∀ i, listedD (Array.replicate ops.size false) i = false := by
    intro i
    unfold listedD
    by_cases h : i < ops.size
    · simp [h]
    · simp [h]
  refine Plan.any (e₀ := e) (w₀ := w) (Fr := Fr) g ?_ ops.size _ e _ a 0 p.σ (by simp) ?_ ?_
  · intro D e' w' a' m σ inv hall
    have : σ = σ' := hfin m σ inv.tab (fun j hj => by rw [inv.mask j hj, hall j hj]; rfl) inv.out
    subst this
    refine k e' w' a' inv.ext ⟨inv.df, by rw [inv.sz, p.frs_length], fun t => ?_⟩ inv.sat inv.kept
    have := inv.rel t
    rw [p.cur_congr (D' := fun _ => true) fun j hj _ => hall j hj, ← p.frs_cur] at this
    exact this
  · unfold left
    refine Nat.le_trans (List.length_filter_le _ _) (by simp)
  · refine { closed := ?_, tab := g.start, mask := ?_, out := by simp, df := hf.df, sz := hf.sz, rel := ?_, sat := At.of_heap (w := w) rfl ha, kept := Kept.of_heap (w := w) rfl rfl rfl, ext := Ext.refl _ _ _, free := ?_ }
    · intro i _ h; rw [hfalse] at h; cases h
    · intro j _; simp [hfalse]
    · intro t
      have : p.cur (listedD (Array.replicate ops.size false)) t ops.size = fget p.fr t := p.cur_skip (i := 0) (by omega) fun j _ _ _ => hfalse j
      rw [this]
      exact hf.rel t
    · intro i hi _
      exact hfree.sub (nx_le g 0 i (by omega) (by omega)) (nx_le g (i + 1) ops.size (by omega) (Nat.le_refl _))

end Go.Eng
