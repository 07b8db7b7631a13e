import Derived.Test.YtfnekhbekppgnaaDoorEngL
namespace Go.Eng
variable {P : Program}

/-! One symbolic value says no more than another one: under conditions. -/

def simLN (a b : LN) : Option (List Prop) :=
  match a, b with
  | .l x, .l y => if x = y then some [] else none
  | a, b => some [a.val = b.val]

theorem simLN_ok {a b : LN} {ps : List Prop} (h : simLN a b = some ps) (hp : ∀ p ∈ ps, p) : a.val = b.val := by
  unfold simLN at h
  split at h
  · split at h
    · rename_i he; rw [he]
    · cases h
  · cases h; exact hp _ (List.mem_singleton.2 rfl)

mutual
def simC : SV → SV → Option (List Prop)
  | _, .any => some []
  | .con (.int k m), .con (.int k' n) => if k = k' ∧ m = n then some [] else none
  | .con (.int k m), .int k' n => if k = k' then some [m = n] else none
  | .int k m, .con (.int k' n) => if k = k' then some [m = n] else none
  | .int k m, .int k' n => if k = k' then some [m = n] else none
  | .con (.bool m), .bool n => some [m = n]
  | .bool m, .con (.bool n) => some [m = n]
  | .bool m, .bool n => some [m = n]
  | .con (.string x), .str l => some [x.data.toList = l]
  | .str l, .con (.string x) => some [l = x.data.toList]
  | .str l, .str m => some [l = m]
  | .con x, .con y => some [x = y]
  | .ptr n i sz j, .ptr n' i' sz' j' => if n = n' ∧ sz = sz' ∧ j = j' then simLN i i' else none
  | .sl n sz off len, .sl n' sz' off' len' => if n = n' ∧ sz = sz' then
      match simLN off off', simLN len len' with
      | some ps, some qs => some (ps ++ qs)
      | _, _ => none
    else none
  | .func f a b, .func f' a' b' => if f = f' then
      match simL a a', simL b b' with
      | some ps, some qs => some (ps ++ qs)
      | _, _ => none
    else none
  | .agg l, .agg l' => simL l l'
  | .tup l, .tup l' => simL l l'
  | .opt n, .opt n' => if n = n' then some [] else none
  | _, _ => none
def simL : List SV → List SV → Option (List Prop)
  | [], [] => some []
  | a :: l, b :: m => match simC a b, simL l m with
    | some ps, some qs => some (ps ++ qs)
    | _, _ => none
  | _, _ => none
end

mutual
theorem simC_ok {e : Env} : ∀ (a b : SV) {ps : List Prop} {v : Value}, simC a b = some ps → (∀ p ∈ ps, p) → a.R e v → b.R e v := by
  intro a b ps v h hp hv
  unfold simC at h
  split at h
  · simp [SV.R]
  · split at h
    · rename_i hc; obtain ⟨rfl, rfl⟩ := hc; exact hv
    · cases h
  · split at h
    · rename_i hk
      subst hk; cases h
      simp only [SV.R] at hv ⊢
      rw [hv, hp _ (List.mem_singleton.2 rfl)]
    · cases h
  · split at h
    · rename_i hk
      subst hk; cases h
      simp only [SV.R] at hv ⊢
      rw [hv, hp _ (List.mem_singleton.2 rfl)]
    · cases h
  · split at h
    · rename_i hk
      subst hk; cases h
      simp only [SV.R] at hv ⊢
      rw [hv, hp _ (List.mem_singleton.2 rfl)]
    · cases h
  · cases h
    simp only [SV.R] at hv ⊢
    rw [hv, hp _ (List.mem_singleton.2 rfl)]
  · cases h
    simp only [SV.R] at hv ⊢
    rw [hv, hp _ (List.mem_singleton.2 rfl)]
  · cases h
    simp only [SV.R] at hv ⊢
    rw [hv, hp _ (List.mem_singleton.2 rfl)]
  · cases h
    simp only [SV.R] at hv ⊢
    rw [hv, ← hp _ (List.mem_singleton.2 rfl)]
  · cases h
    simp only [SV.R] at hv ⊢
    rw [hv, hp _ (List.mem_singleton.2 rfl)]
  · cases h
    simp only [SV.R] at hv ⊢
    rw [hv, hp _ (List.mem_singleton.2 rfl)]
  · cases h
    simp only [SV.R] at hv ⊢
    rw [hv, hp _ (List.mem_singleton.2 rfl)]
  · split at h
    · rename_i hc
      obtain ⟨rfl, rfl, rfl⟩ := hc
      have hl := simLN_ok h hp
      simp only [SV.R] at hv ⊢
      rw [← hl]; exact hv
    · cases h
  · split at h
    · rename_i hc
      obtain ⟨rfl, rfl⟩ := hc
      split at h
      · rename_i ps' qs h1 h2
        cases h
        have e1 := simLN_ok h1 fun p hpp => hp p (by simp [hpp])
        have e2 := simLN_ok h2 fun p hpp => hp p (by simp [hpp])
        simp only [SV.R] at hv ⊢
        rw [← e1, ← e2]; exact hv
      · cases h
    · cases h
  · split at h
    · rename_i hc
      subst hc
      split at h
      · rename_i ps' qs h1 h2
        cases h
        simp only [SV.R] at hv ⊢
        obtain ⟨u, w, r1, r2, r3⟩ := hv
        exact ⟨u, w, r1, simL_ok _ _ h1 (fun p hpp => hp p (by simp [hpp])) r2, simL_ok _ _ h2 (fun p hpp => hp p (by simp [hpp])) r3⟩
      · cases h
    · cases h
  · simp only [SV.R] at hv ⊢
    obtain ⟨u, r1, r2⟩ := hv
    exact ⟨u, r1, simL_ok _ _ h hp r2⟩
  · simp only [SV.R] at hv ⊢
    obtain ⟨u, r1, r2⟩ := hv
    exact ⟨u, r1, simL_ok _ _ h hp r2⟩
  · split at h
    · rename_i hc; subst hc; exact hv
    · cases h
  · cases h
theorem simL_ok {e : Env} : ∀ (l m : List SV) {ps : List Prop} {u : List Value}, simL l m = some ps → (∀ p ∈ ps, p) → SV.RL e l u → SV.RL e m u := by
  intro l m ps u h hp hu
  unfold simL at h
  split at h
  · exact hu
  · rename_i a l b m
    split at h
    · rename_i ps' qs h1 h2
      cases h
      cases u with
      | nil => simp [SV.RL] at hu
      | cons v u =>
        simp only [SV.RL] at hu ⊢
        exact ⟨simC_ok _ _ h1 (fun p hpp => hp p (by simp [hpp])) hu.1, simL_ok _ _ h2 (fun p hpp => hp p (by simp [hpp])) hu.2⟩
    · cases h
  · cases h
end

def simLL : List (List SV) → List (List SV) → Option (List Prop)
  | [], [] => some []
  | a :: l, b :: m => match simL a b, simLL l m with
    | some ps, some qs => some (ps ++ qs)
    | _, _ => none
  | _, _ => none

theorem simLL_ok {e : Env} : ∀ {l m : List (List SV)} {ps : List Prop}, simLL l m = some ps → (∀ p ∈ ps, p) → l.length = m.length ∧ ∀ i j v, (arrF l i j).R e v → (arrF m i j).R e v
  | [], [], ps, h, _ => ⟨rfl, fun i j v hv => hv⟩
  | a :: l, b :: m, ps, h, hp => by
    unfold simLL at h
    split at h
    · rename_i ps' qs h1 h2
      cases h
      obtain ⟨r1, r2⟩ := simLL_ok (e := e) h2 fun p hpp => hp p (by simp [hpp])
      refine ⟨by simp [r1], fun i j v hv => ?_⟩
      cases i with
      | succ i => simpa [arrF] using r2 i j v (by simpa [arrF] using hv)
      | zero =>
        have key : ∀ (a b : List SV) (ps : List Prop), simL a b = some ps → (∀ p ∈ ps, p) → ∀ j, (a.getD j .any).R e v → (b.getD j .any).R e v := by
          intro a
          induction a with
          | nil =>
            intro b ps h hp j hv
            cases b with
            | nil => exact hv
            | cons y b => simp [simL] at h
          | cons x a ih =>
            intro b ps h hp j hv
            cases b with
            | nil => simp [simL] at h
            | cons y b =>
              unfold simL at h
              split at h
              · rename_i ps1 qs1 g1 g2
                cases h
                cases j with
                | zero => simpa using simC_ok _ _ g1 (fun p hpp => hp p (by simp [hpp])) (by simpa using hv)
                | succ j => simpa using ih b qs1 g2 (fun p hpp => hp p (by simp [hpp])) j (by simpa using hv)
              · cases h
        simpa [arrF] using key a b ps' h1 (fun p hpp => hp p (by simp [hpp])) j (by simpa [arrF] using hv)
    · cases h
  | [], _ :: _, _, h, _ => by simp [simLL] at h
  | _ :: _, [], _, h, _ => by simp [simLL] at h

def simCont (sz : Nat) (c d : Cont) : Option (List Prop) :=
  match c, d with
  | .ints k l, .ints k' l' => if k = k' then some [l = l'] else none
  | .arr cs, .arr ds => simLL cs ds
  | .arr cs, .ints k l' => match asInts k cs with
    | some l => if sz = 1 then some [l = l'] else none
    | none => none
  | c, d => some [c.len = d.len, ∀ i j, i < c.len → j < sz → c.f i j = d.f i j]

theorem simCont_ok {e : Env} {sz : Nat} {c d : Cont} {ps : List Prop} (h : simCont sz c d = some ps) (hp : ∀ p ∈ ps, p) :
    d.len = c.len ∧ ∀ i j, i < c.len → j < sz → ∀ v, (c.f i j).R e v → (d.f i j).R e v := by
  unfold simCont at h
  split at h
  · split at h
    · rename_i hk
      subst hk
      cases h
      have := hp _ (List.mem_singleton.2 rfl)
      subst this
      exact ⟨rfl, fun _ _ _ _ _ h => h⟩
    · cases h
  · obtain ⟨r1, r2⟩ := simLL_ok (e := e) h hp
    exact ⟨r1.symm, fun i j _ _ v hv => r2 i j v hv⟩
  · split at h
    · rename_i cs k l' l ha
      split at h
      · rename_i hs
        subst hs
        cases h
        have := hp _ (List.mem_singleton.2 rfl)
        subst this
        obtain ⟨r1, r2⟩ := asInts_ok (e := e) ha
        refine ⟨r1, fun i j hi hj v hv => ?_⟩
        have hj0 : j = 0 := by omega
        subst hj0
        exact r2 i v hi hv
      · cases h
    · cases h
  · cases h
    have h1 := hp _ (List.mem_cons_self)
    have h2 := hp _ (List.mem_cons_of_mem _ (List.mem_singleton.2 rfl))
    exact ⟨h1.symm, fun i j hi hj v hv => by rw [← h2 i j hi hj]; exact hv⟩

def simE (E F : Entry) : Option (List Prop) :=
  match E, F with
  | .blk cs ty, .blk ds ty' => if ty = ty' then simL cs ds else none
  | .abs A imps, .abs B jmps => if imps = jmps then some [A = B] else none
  | .strs l ty, .strs l' ty' => if ty = ty' then some [l = l'] else none
  | E, F => match rowView E, rowView F with
    | some (sz, c, ty), some (sz', d, ty') => if sz = sz' ∧ ty = ty' then simCont sz c d else none
    | _, _ => none

theorem rowView_inv {F : Entry} {sz : Nat} {d : Cont} {ty : TypeId} (h : rowView F = some (sz, d, ty)) {e : Env} {w : World} {n : Nat} {bs : List Nat} (hr : rowOk e w n sz d.len d.f ty bs) : F.ok e w n bs := by
  cases F <;> simp [rowView] at h
  · obtain ⟨rfl, rfl, rfl⟩ := h; exact hr
  · obtain ⟨rfl, rfl, rfl⟩ := h; exact hr
  · obtain ⟨rfl, rfl, rfl⟩ := h; exact hr
  · obtain ⟨rfl, rfl, rfl⟩ := h; exact hr

theorem simE_ok {E F : Entry} {ps : List Prop} (h : simE E F = some ps) (hp : ∀ p ∈ ps, p) {e : Env} {w : World} {n : Nat} {bs : List Nat} (hE : E.ok e w n bs) : F.ok e w n bs := by
  unfold simE at h
  split at h
  · split at h
    · rename_i hty
      subst hty
      obtain ⟨k, h1, h2, u, h3, h4, h5⟩ := hE
      exact ⟨k, h1, h2, u, h3, simL_ok _ _ h hp h4, h5⟩
    · cases h
  · split at h
    · rename_i hi
      subst hi
      cases h
      have := hp _ (List.mem_singleton.2 rfl)
      subst this
      exact hE
    · cases h
  · split at h
    · rename_i hty
      subst hty
      cases h
      have := hp _ (List.mem_singleton.2 rfl)
      subst this
      exact hE
    · cases h
  · split at h
    · rename_i sz c ty sz' d ty' h1 h2
      split at h
      · rename_i hc
        obtain ⟨rfl, rfl⟩ := hc
        obtain ⟨r1, _⟩ := rowView_ok h1 hE
        obtain ⟨q1, q2⟩ := simCont_ok (e := e) h hp
        exact rowView_inv h2 (r1.congr q1 q2)
      · cases h
    · cases h

/-! Names put in the place of others. -/

mutual
def renSV (r : Nat → Nat) : SV → SV
  | .any => .any
  | .con x => .con x
  | .int k n => .int k n
  | .bool b => .bool b
  | .ptr n i sz j => .ptr (r n) i sz j
  | .sl n sz off len => .sl (r n) sz off len
  | .func f a b => .func f (renL r a) (renL r b)
  | .agg l => .agg (renL r l)
  | .tup l => .tup (renL r l)
  | .opt n => .opt (r n)
  | .str l => .str l
def renL (r : Nat → Nat) : List SV → List SV
  | [] => []
  | s :: l => renSV r s :: renL r l
end

mutual
theorem renSV_R {r : Nat → Nat} {e : Env} : ∀ (s : SV) (v : Value), (renSV r s).R e v ↔ s.R (fun n => e (r n)) v
  | .any, _ => by simp [renSV, SV.R]
  | .con _, _ => by simp [renSV, SV.R]
  | .int _ _, _ => by simp [renSV, SV.R]
  | .bool _, _ => by simp [renSV, SV.R]
  | .ptr _ _ _ _, _ => by simp [renSV, SV.R]
  | .opt _, _ => by simp [renSV, SV.R]
  | .str _, _ => by simp [renSV, SV.R]
  | .sl _ _ _ _, _ => by simp [renSV, SV.R]
  | .func _ a b, _ => by
    simp only [renSV, SV.R]
    constructor
    · rintro ⟨u, v, h1, h2, h3⟩; exact ⟨u, v, h1, (renL_RL a u).1 h2, (renL_RL b v).1 h3⟩
    · rintro ⟨u, v, h1, h2, h3⟩; exact ⟨u, v, h1, (renL_RL a u).2 h2, (renL_RL b v).2 h3⟩
  | .agg l, _ => by
    simp only [renSV, SV.R]
    constructor
    · rintro ⟨u, h1, h2⟩; exact ⟨u, h1, (renL_RL l u).1 h2⟩
    · rintro ⟨u, h1, h2⟩; exact ⟨u, h1, (renL_RL l u).2 h2⟩
  | .tup l, _ => by
    simp only [renSV, SV.R]
    constructor
    · rintro ⟨u, h1, h2⟩; exact ⟨u, h1, (renL_RL l u).1 h2⟩
    · rintro ⟨u, h1, h2⟩; exact ⟨u, h1, (renL_RL l u).2 h2⟩
theorem renL_RL {r : Nat → Nat} {e : Env} : ∀ (l : List SV) (u : List Value), SV.RL e (renL r l) u ↔ SV.RL (fun n => e (r n)) l u
  | [], [] => by simp [renL, SV.RL]
  | s :: l, v :: u => by
    simp only [renL, SV.RL]
    rw [renSV_R s v, renL_RL l u]
  | [], _ :: _ => by simp [renL, SV.RL]
  | _ :: _, [] => by simp [renL, SV.RL]
end

theorem renL_map {r : Nat → Nat} : ∀ (l : List SV), renL r l = l.map (renSV r)
  | [] => rfl
  | s :: l => by simp [renL, renL_map l]

def renE (r : Nat → Nat) : Entry → Entry
  | .blk cs ty => .blk (renL r cs) ty
  | .arr cs sz ty => .arr (cs.map (renL r)) sz ty
  | .ints k l ty => .ints k l ty
  | .row sz n f ty => .row sz n (fun i j => renSV r (f i j)) ty
  | .strs l ty => .strs l ty
  | .abs A imps => .abs A (imps.map r)

theorem renE_ok {r : Nat → Nat} {e : Env} {w : World} {n : Nat} {E : Entry} {bs : List Nat} : (renE r E).ok e w (r n) bs ↔ E.ok (fun n => e (r n)) w n bs := by
  have row : ∀ {sz len : Nat} {f f' : Nat → Nat → SV} {ty : TypeId}, (∀ i j, i < len → j < sz → ∀ v, (f' i j).R e v ↔ (f i j).R (fun n => e (r n)) v) →
      (rowOk e w (r n) sz len f' ty bs ↔ rowOk (fun n => e (r n)) w n sz len f ty bs) := by
    intro sz len f f' ty hf
    constructor
    · rintro ⟨k, h1, h2 | ⟨h2, h3, h4, h4m, c, h5, h6, h7⟩⟩
      · exact ⟨k, h1, .inl h2⟩
      · exact ⟨k, h1, .inr ⟨h2, h3, h4, h4m, c, h5, h6, fun i j hi hj => by
          obtain ⟨v, h8, h9⟩ := h7 i j hi hj
          exact ⟨v, h8, (hf i j hi hj v).1 h9⟩⟩⟩
    · rintro ⟨k, h1, h2 | ⟨h2, h3, h4, h4m, c, h5, h6, h7⟩⟩
      · exact ⟨k, h1, .inl h2⟩
      · exact ⟨k, h1, .inr ⟨h2, h3, h4, h4m, c, h5, h6, fun i j hi hj => by
          obtain ⟨v, h8, h9⟩ := h7 i j hi hj
          exact ⟨v, h8, (hf i j hi hj v).2 h9⟩⟩⟩
  cases E with
  | blk cs ty =>
    simp only [renE, Entry.ok]
    constructor
    · rintro ⟨k, h1, h2, u, h3, h4⟩; exact ⟨k, h1, h2, u, h3, (renL_RL _ _).1 h4.1, h4.2⟩
    · rintro ⟨k, h1, h2, u, h3, h4⟩; exact ⟨k, h1, h2, u, h3, (renL_RL _ _).2 h4.1, h4.2⟩
  | arr cs sz ty =>
    simp only [renE, Entry.ok, List.length_map]
    refine row fun i j hi hj v => ?_
    have : arrF (cs.map (renL r)) i j = renSV r (arrF cs i j) := by
      unfold arrF
      simp only [List.getD_eq_getElem?_getD, List.getElem?_map]
      cases h : cs[i]? with
      | none => simp [renSV]
      | some c =>
        simp only [Option.map_some, Option.getD_some, renL_map, List.getElem?_map]
        cases h' : c[j]? with
        | none => simp [renSV]
        | some s => simp
    rw [this]
    exact renSV_R _ _
  | ints k l ty =>
    simp only [renE, Entry.ok]
    exact row fun i j hi hj v => by simp [intsF, SV.R]
  | strs l ty =>
    simp only [renE, Entry.ok]
    exact row fun i j hi hj v => by simp [strsF, SV.R]
  | row sz len f ty =>
    simp only [renE, Entry.ok]
    exact row fun i j hi hj v => renSV_R _ _
  | abs A imps =>
    simp only [renE, Entry.ok]
    have : (r n :: imps.map r).map e = (n :: imps).map fun n => e (r n) := by simp [Function.comp_def]
    rw [this]

def renH (r : Nat → Nat) (σ : Heap) : Heap := σ.map fun x => (r x.1, renE r x.2)

theorem renH_sat {r : Nat → Nat} {e : Env} {w : World} : ∀ {σ : Heap} {bs : List Nat}, HSat e w (renH r σ) bs ↔ HSat (fun n => e (r n)) w σ bs
  | [], bs => by simp [renH, HSat]
  | (n, E) :: σ, bs => by
    simp only [renH, List.map_cons, HSat]
    constructor
    · rintro ⟨b₁, b₂, h1, h2, h3⟩; exact ⟨b₁, b₂, h1, renE_ok.1 h2, renH_sat.1 h3⟩
    · rintro ⟨b₁, b₂, h1, h2, h3⟩; exact ⟨b₁, b₂, h1, renE_ok.2 h2, renH_sat.2 h3⟩

/-! A part of a heap that is as is asked. -/

def matchPre : Heap → Heap → Option (Heap × List Prop)
  | [], σ => some (σ, [])
  | (n, F) :: pre, σ => match look σ n with
    | some E => match simE E F, matchPre pre (del σ n) with
      | some ps, some (rest, qs) => some (rest, ps ++ qs)
      | _, _ => none
    | none => none

theorem matchPre_ok {e : Env} {w : World} : ∀ {pre σ rest : Heap} {ps : List Prop} {Fr : Nat → Prop}, matchPre pre σ = some (rest, ps) → (∀ p ∈ ps, p) → At e w σ Fr →
    ∃ bs, HSat e w pre bs ∧ bs.Nodup ∧ (∀ b ∈ bs, ¬ Fr b) ∧ At e w rest (fun b => Fr b ∨ b ∈ bs)
  | [], σ, rest, ps, Fr, h, hp, hat => by
    simp only [matchPre, Option.some.injEq, Prod.mk.injEq] at h
    obtain ⟨rfl, rfl⟩ := h
    refine ⟨[], rfl, by simp, by simp, ?_⟩
    obtain ⟨bs, h1, h2, h3⟩ := hat.ex
    exact ⟨⟨bs, h1, h2, fun b hb => by simpa using h3 b hb⟩, fun b hb => hat.fl b (by simpa using hb)⟩
  | (n, F) :: pre, σ, rest, ps, Fr, h, hp, hat => by
    unfold matchPre at h
    split at h
    · rename_i E hl
      split at h
      · rename_i ps' rest' qs h1 h2
        cases h
        obtain ⟨bs, hE, hnd, hbf, hat'⟩ := hat.take hl
        obtain ⟨cs, g1, g2, g3, g4⟩ := matchPre_ok h2 (fun p hpp => hp p (by simp [hpp])) hat'
        refine ⟨bs ++ cs, ⟨bs, cs, rfl, simE_ok h1 (fun p hpp => hp p (by simp [hpp])) hE, g1⟩, ?_, ?_, ?_⟩
        · exact List.nodup_append.2 ⟨hnd, g2, fun x hx y hy hxy => g3 y hy (.inr (hxy ▸ hx))⟩
        · intro b hb
          rcases List.mem_append.1 hb with hb | hb
          · exact hbf b hb
          · exact fun hf => g3 b hb (.inl hf)
        · obtain ⟨ds, d1, d2, d3⟩ := g4.ex
          refine ⟨⟨ds, d1, d2, fun b hb hc => d3 b hb ?_⟩, fun b hb => g4.fl b ?_⟩
          · rcases hc with hc | hc
            · exact .inl (.inl hc)
            · rcases List.mem_append.1 hc with hc | hc
              · exact .inl (.inr hc)
              · exact .inr hc
          · rcases hb with hb | hb
            · exact .inl (.inl hb)
            · rcases List.mem_append.1 hb with hb | hb
              · exact .inl (.inr hb)
              · exact .inr hb
      · cases h
    · cases h

end Go.Eng
