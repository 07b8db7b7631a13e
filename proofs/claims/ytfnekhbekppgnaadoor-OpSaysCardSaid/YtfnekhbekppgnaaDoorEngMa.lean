import Derived.Test.YtfnekhbekppgnaaDoorEngM
namespace Go.Eng
variable {P : Program}

/-! Ghosts: a heap told in other words, between operations. -/

/-- The names of a thing's inside: its own one, those that it may look at, the hidden ones. -/
def renP (n : Nat) (imps ns : List Nat) (i : Nat) : Nat := ((n :: imps) ++ ns).getD i n

def packEnv (is hs : List (Option Blk)) : Env := fun i => (is ++ hs).getD i (is.getD 0 none)

/-- A heap as one thing: its names from those of is on are hidden. -/
def Packed (h : Nat) (τ : Heap) : Asn where
  P is bs w := ∃ hs : List (Option Blk), hs.length = h ∧ HSat (packEnv is hs) w τ bs
  up is is' bs w hu := by
    rintro ⟨hs, h1, h2⟩
    refine ⟨hs, h1, h2.mono fun i k hi => ?_⟩
    unfold packEnv at hi ⊢
    obtain ⟨hl, hu⟩ := hu
    have h0 : ∀ k, is.getD 0 none = some k → is'.getD 0 none = some k := by
      intro k hk
      rw [List.getD_eq_getElem?_getD] at hk ⊢
      cases hi0 : is[0]? with
      | none => rw [hi0] at hk; cases hk
      | some x =>
        rw [hi0] at hk
        simp only [Option.getD_some] at hk
        subst hk
        rw [hu 0 k hi0]
        rfl
    by_cases hc : i < is.length
    · rw [List.getD_eq_getElem?_getD, List.getElem?_append_left hc, List.getElem?_eq_getElem hc] at hi
      simp only [Option.getD_some] at hi
      rw [List.getD_eq_getElem?_getD, List.getElem?_append_left (by omega), hu i k (by rw [List.getElem?_eq_getElem hc, hi])]
      rfl
    · rw [List.getD_eq_getElem?_getD, List.getElem?_append_right (by omega)] at hi ⊢
      rw [hl] at hi
      cases hh : hs[i - is'.length]? with
      | none => rw [hh] at hi; exact h0 k hi
      | some x => rw [hh] at hi; exact hi
  loc is bs w w' := fun ⟨hs, h1, h2⟩ h => ⟨hs, h1, h2.loc h⟩
  lt is bs w := fun ⟨_, _, h2⟩ => h2.lt

/-- A thing opened: its inside, under new names. -/
theorem At.open {e : Env} {w : World} {σ : Heap} {Fr : Nat → Prop} {n nx h : Nat} {τ : Heap} {imps : List Nat} (hat : At e w σ Fr) (hl : look σ n = some (.abs (Packed h τ) imps)) (hf : Free nx (nx + h) e) :
    ∃ e', Ext nx (nx + h) e e' ∧ At e' w (renH (renP n imps (List.range' nx h)) τ ++ del σ n) Fr := by
  obtain ⟨bs, hE, hnd, hbf, hat'⟩ := hat.take hl
  obtain ⟨hs, h1, h2⟩ := hE
  let e' : Env := fun m => if nx ≤ m ∧ m < nx + h then hs.getD (m - nx) none else e m
  have hx : Ext nx (nx + h) e e' := by
    refine ⟨fun m k hm => ?_, fun m hm => ?_⟩
    · show (if nx ≤ m ∧ m < nx + h then hs.getD (m - nx) none else e m) = some k
      by_cases hc : nx ≤ m ∧ m < nx + h
      · rw [hf m hc.1 hc.2] at hm; cases hm
      · rw [if_neg hc]; exact hm
    · show (if nx ≤ m ∧ m < nx + h then hs.getD (m - nx) none else e m) = e m
      rw [if_neg (by omega)]
  have hold : ∀ m k, e m = some k → e' m = some k := hx.up
  have key : ∀ i k, packEnv ((n :: imps).map e) hs i = some k → e' (renP n imps (List.range' nx h) i) = some k := by
    intro i k hi
    unfold packEnv at hi
    unfold renP
    by_cases hc : i < (n :: imps).length
    · rw [List.getD_eq_getElem?_getD, List.getElem?_append_left (by simpa using hc), List.getElem?_map, List.getElem?_eq_getElem hc] at hi
      rw [List.getD_eq_getElem?_getD, List.getElem?_append_left hc, List.getElem?_eq_getElem hc]
      exact hold _ _ hi
    · rw [List.getD_eq_getElem?_getD, List.getElem?_append_right (by simpa using hc), List.length_map] at hi
      rw [List.getD_eq_getElem?_getD, List.getElem?_append_right (by omega)]
      simp only [List.length_cons] at hi hc ⊢
      by_cases hc2 : i - (imps.length + 1) < h
      · rw [List.getElem?_eq_getElem (by omega)] at hi
        rw [List.getElem?_range' (by omega)]
        simp only [Option.getD_some, Nat.one_mul] at hi ⊢
        show (if nx ≤ _ ∧ _ < nx + h then hs.getD _ none else e _) = some k
        rw [if_pos (by omega), show nx + (i - (imps.length + 1)) - nx = i - (imps.length + 1) by omega, List.getD_eq_getElem?_getD, List.getElem?_eq_getElem (by omega)]
        exact hi
      · rw [List.getElem?_eq_none (by omega)] at hi
        rw [List.getElem?_eq_none (by simp; omega)]
        simp only [Option.getD_none] at hi ⊢
        exact hold _ _ hi
  obtain ⟨cs, d1, d2, d3⟩ := hat'.ex
  have hτ : HSat e' w (renH (renP n imps (List.range' nx h)) τ) bs := renH_sat.2 (h2.mono key)
  refine ⟨e', hx, ⟨bs ++ cs, ?_, ?_, ?_⟩, hat.fl⟩
  · have : ∀ {σ τ : Heap} {bs cs : List Nat}, HSat e' w σ bs → HSat e' w τ cs → HSat e' w (σ ++ τ) (bs ++ cs) := by
      intro σ
      induction σ with
      | nil => intro τ bs cs h h'; cases (show bs = [] from h); simpa using h'
      | cons x σ ih =>
        intro τ bs cs h h'
        obtain ⟨b₁, b₂, g1, g2, g3⟩ := h
        subst g1
        exact ⟨b₁, b₂ ++ cs, by simp, g2, ih g3 h'⟩
    exact this hτ (d1.mono hx.up)
  · exact List.nodup_append.2 ⟨hnd, d2, fun x hx' y hy hxy => d3 y hy (.inr (hxy ▸ hx'))⟩
  · intro b hb
    rcases List.mem_append.1 hb with hb | hb
    · exact hbf b hb
    · exact fun hF => d3 b hb (.inl hF)

/-- A thing closed. -/
theorem At.close {e : Env} {w : World} {σ rest : Heap} {Fr : Nat → Prop} {n : Nat} {τ : Heap} {imps ns : List Nat} {ps : List Prop} (hat : At e w σ Fr) (hm : matchPre (renH (renP n imps ns) τ) σ = some (rest, ps)) (hp : ∀ p ∈ ps, p) :
    At e w ((n, .abs (Packed ns.length τ) imps) :: rest) Fr := by
  obtain ⟨bs, h1, h2, h3, h4⟩ := matchPre_ok hm hp hat
  have hE : (Entry.abs (Packed ns.length τ) imps).ok e w n bs := by
    refine ⟨ns.map e, by simp, (renH_sat.1 h1).mono fun i k hi => ?_⟩
    unfold packEnv
    unfold renP at hi
    by_cases hc : i < ((n :: imps) ++ ns).length
    · rw [List.getD_eq_getElem?_getD, List.getElem?_eq_getElem hc] at hi
      rw [← List.map_append, List.getD_eq_getElem?_getD, List.getElem?_map, List.getElem?_eq_getElem hc]
      exact hi
    · rw [List.getD_eq_getElem?_getD, List.getElem?_eq_none (by omega)] at hi
      rw [← List.map_append, List.getD_eq_getElem?_getD, List.getElem?_map, List.getElem?_eq_none (by omega)]
      exact hi
  exact (h4.put (Kept.refl _ _) hE h2 (fun b hb => .inl hb) h3).1

/-! Pointers that are nil or not. -/

/-- Nothing: the name is nil's. -/
def NilA : Asn where
  P is bs _ := bs = [] ∧ ∃ k : Blk, is[0]? = some (some k) ∧ k.ν = true
  up := fun _ _ _ _ hu ⟨h1, k, h2, h3⟩ => ⟨h1, k, hu.2 0 k h2, h3⟩
  loc := fun _ _ _ _ h _ => h
  lt := fun _ bs _ ⟨h, _⟩ b hb => by rw [h] at hb; simp at hb

theorem RL_setW {e : Env} {s s' : SV} : ∀ {cs : List SV} {u : List Value} {i : Nat}, cs[i]? = some s → SV.RL e cs u → (∀ v, s.R e v → s'.R e v) → SV.RL e (cs.set i s') u
  | [], _, _, h, _, _ => by simp at h
  | c :: cs, [], _, _, h, _ => by simp [SV.RL] at h
  | c :: cs, v :: u, 0, h, hr, hs => by
    simp at h
    subst h
    exact ⟨hs v hr.1, hr.2⟩
  | c :: cs, v :: u, i + 1, h, hr, hs => by
    simp at h
    exact ⟨hr.1, RL_setW h hr.2 hs⟩

/-- One cell of a block told otherwise. -/
theorem At.recell {e : Env} {w : World} {σ : Heap} {Fr : Nat → Prop} {b : Nat} {cs : List SV} {ty : TypeId} {i : Nat} {s s' : SV} (hat : At e w σ Fr) (hl : look σ b = some (.blk cs ty)) (hc : cs[i]? = some s)
    (hs : ∀ v, s.R e v → s'.R e v) : At e w ((b, .blk (cs.set i s') ty) :: del σ b) Fr := by
  obtain ⟨bs, hE, hnd, hbf, hat'⟩ := hat.take hl
  obtain ⟨k, h1, h2, u, h3, h4, h5⟩ := hE
  exact (hat'.put (bs' := bs) (E := .blk (cs.set i s') ty) (Kept.refl _ _) ⟨k, h1, h2, u, h3, RL_setW hc h4 hs, h5⟩ hnd (fun b hb => .inl hb) hbf).1

/-- The own block of what is known to have one. -/
def hasBlk (τ : Heap) : Bool :=
  match look τ 0 with
  | some (.blk _ _) => true
  | _ => false

theorem look_sat {e : Env} {w : World} {n : Nat} {E : Entry} : ∀ {σ : Heap} {bs : List Nat}, HSat e w σ bs → look σ n = some E → ∃ b₁, E.ok e w n b₁ := fun h hl => by
  obtain ⟨b₁, _, _, h1, _⟩ := h.del hl
  exact ⟨b₁, h1⟩

theorem Packed.notNil {e : Env} {w : World} {n h : Nat} {τ : Heap} {imps bs : List Nat} (hb : hasBlk τ = true) (hE : (Entry.abs (Packed h τ) imps).ok e w n bs) : ∃ k, e n = some k ∧ k.ν = false := by
  obtain ⟨hs, h1, h2⟩ := hE
  unfold hasBlk at hb
  split at hb
  · rename_i cs ty hl
    obtain ⟨b₁, k, g1, _, _, _, _, g5⟩ := look_sat h2 hl
    refine ⟨k, ?_, g5⟩
    simpa [packEnv] using g1
  · cases hb

/-- No cells at all. -/
def emptyE (sz : Nat) : Entry → Bool
  | .ints _ [] _ => sz == 1
  | .arr [] sz' _ => sz == sz'
  | _ => false

def nilBlk : Blk := ⟨0, 0, true⟩

theorem emptyE_ok {sz : Nat} {E : Entry} (h : emptyE sz E = true) {e : Env} {w : World} {n : Nat} (hn : e n = some nilBlk) : E.ok e w n [] := by
  unfold emptyE at h
  split at h
  · exact ⟨_, hn, .inl ⟨rfl, rfl, rfl⟩⟩
  · exact ⟨_, hn, .inl ⟨rfl, rfl, rfl⟩⟩
  · cases h

/-- A new name for what is nil. -/
theorem At.nil {e : Env} {w : World} {σ : Heap} {Fr : Nat → Prop} {n sz : Nat} {E : Entry} (hat : At e w σ Fr) (hf : Free n (n + 1) e) (hE : emptyE sz E = true) :
    ∃ e', Ext n (n + 1) e e' ∧ e' n = some nilBlk ∧ At e' w ((n, E) :: σ) Fr := by
  have hx : Ext n (n + 1) e (fun m => if m = n then some nilBlk else e m) := by
    refine ⟨fun m k hm => ?_, fun m hm => ?_⟩
    · by_cases hmn : m = n
      · subst hmn; rw [hf _ (Nat.le_refl _) (by omega)] at hm; cases hm
      · simpa [hmn] using hm
    · have : m ≠ n := by omega
      simp [this]
  refine ⟨_, hx, by simp, ?_⟩
  obtain ⟨bs, h1, h2, h3⟩ := (hat.mono hx).ex
  exact ⟨⟨[] ++ bs, ⟨[], bs, rfl, emptyE_ok hE (by simp), h1⟩, by simpa using h2, by simpa using h3⟩, hat.fl⟩

/-- Less of a row told. -/
theorem At.cut {e : Env} {w : World} {σ : Heap} {Fr : Nat → Prop} {n m : Nat} {k : IntKind} {l : List Int} {ty : TypeId} (hat : At e w σ Fr) (hl : look σ n = some (.ints k l ty)) : At e w ((n, .ints k (l.take m) ty) :: del σ n) Fr := by
  obtain ⟨bs, hE, hnd, hbf, hat'⟩ := hat.take hl
  refine (hat'.put (bs' := bs) (E := .ints k (l.take m) ty) (Kept.refl _ _) ?_ hnd (fun b hb => .inl hb) hbf).1
  obtain ⟨b, h1, h2 | ⟨h2, h3, h4, h4m, c, h5, h6, h7⟩⟩ := hE
  · exact ⟨b, h1, .inl ⟨h2.1, h2.2.1, by have h0 : l.length = 0 := h2.2.2; rw [List.length_take]; omega⟩⟩
  · refine ⟨b, h1, .inr ⟨h2, h3, by simp; omega, h4m, c, h5, h6, fun i j hi hj => ?_⟩⟩
    have hi' : i < m ∧ i < l.length := by simp at hi; omega
    obtain ⟨v, h8, h9⟩ := h7 i j hi'.2 hj
    refine ⟨v, h8, ?_⟩
    have : (l.take m).getD i 0 = l.getD i 0 := by
      rw [List.getD_eq_getElem?_getD, List.getElem?_take, if_pos hi'.1, ← List.getD_eq_getElem?_getD]
    unfold intsF at h9 ⊢
    rw [this]
    exact h9

/-- The names of pointers that are nil or not: what is known of the thing. -/
def optGhost (st : St) : Option St :=
  match st.orc with
  | .toPtr b i :: orc => match look st.hp b with
    | some (.blk cs ty) => match cs[i]? with
      | some (.opt n) => match look st.hp n with
        | some (.blk _ _) => some { st with hp := (b, .blk (cs.set i (.ptr n (.l 0) 0 0)) ty) :: del st.hp b, orc := orc }
        | _ => none
      | _ => none
    | _ => none
  | .toNil b i :: orc => match look st.hp b with
    | some (.blk cs ty) => match cs[i]? with
      | some (.opt n) => match look st.hp n with
        | some (.abs A []) => some { st with hp := (b, .blk (cs.set i (.con (.pointer none))) ty) :: del (del st.hp n) b, orc := orc, cs := (A = NilA) :: st.cs }
        | _ => none
      | _ => none
    | _ => none
  | .ofPtr b i :: orc => match look st.hp b with
    | some (.blk cs ty) => match cs[i]? with
      | some (.ptr n (.l 0) 0 0) => match look st.hp n with
        | some (.blk _ _) => some { st with hp := (b, .blk (cs.set i (.opt n)) ty) :: del st.hp b, orc := orc }
        | _ => none
      | _ => none
    | _ => none
  | .ofNil b i :: orc => match look st.hp b with
    | some (.blk cs ty) => match cs[i]? with
      | some (.con (.pointer none)) => some { hp := (b, .blk (cs.set i (.opt st.nx)) ty) :: (st.nx, .abs NilA []) :: del st.hp b, nx := st.nx + 1, orc := orc, cs := st.cs }
      | _ => none
    | _ => none
  | .nilS b i sz E :: orc => match look st.hp b with
    | some (.blk cs ty) => match cs[i]? with
      | some (.con (.slice none 0 0)) => if emptyE sz E = true then some { hp := (b, .blk (cs.set i (.sl st.nx sz (.l 0) (.l 0))) ty) :: (st.nx, E) :: del st.hp b, nx := st.nx + 1, orc := orc, cs := st.cs } else none
      | _ => none
    | _ => none
  | .cut n m :: orc => match look st.hp n with
    | some (.ints k l ty) => some { st with hp := (n, .ints k (l.take m) ty) :: del st.hp n, orc := orc }
    | _ => none
  | _ => none

def ghost1 (st : St) : Option St :=
  match st.orc with
  | .drop n :: orc => some { st with hp := del st.hp n, orc := orc }
  | .conv n E :: orc => match look st.hp n with
    | some F => match simE F E with
      | some ps => some { hp := (n, E) :: del st.hp n, nx := st.nx, orc := orc, cs := ps ++ st.cs }
      | none => none
    | none => none
  | .open n h τ :: orc => match look st.hp n with
    | some (.abs A imps) => some { hp := renH (renP n imps (List.range' st.nx h)) τ ++ del st.hp n, nx := st.nx + h, orc := orc, cs := (A = Packed h τ) :: st.cs }
    | _ => none
  | .close n A τ imps ns :: orc => match matchPre (renH (renP n imps ns) τ) st.hp with
    | some (rest, ps) => some { hp := (n, .abs A imps) :: rest, nx := st.nx, orc := orc, cs := (A = Packed ns.length τ) :: (ps ++ st.cs) }
    | none => none
  | _ => optGhost st

def ghosts : Nat → St → St
  | 0, st => st
  | k + 1, st => match ghost1 st with
    | some st' => ghosts k st'
    | none => st

theorem At.drop {e : Env} {w : World} {σ : Heap} {Fr : Nat → Prop} {n : Nat} (h : At e w σ Fr) : At e w (del σ n) Fr := by
  cases hl : look σ n with
  | none =>
    have : del σ n = σ := by
      clear h
      induction σ with
      | nil => rfl
      | cons x σ ih =>
        obtain ⟨m, E⟩ := x
        unfold look at hl
        unfold Eng.del
        split at hl
        · cases hl
        · rename_i hm; rw [if_neg hm, ih hl]
    rw [this]; exact h
  | some E =>
    obtain ⟨bs, _, _, _, h'⟩ := h.take hl
    obtain ⟨cs, h1, h2, h3⟩ := h'.ex
    exact ⟨⟨cs, h1, h2, fun b hb hf => h3 b hb (.inl hf)⟩, h.fl⟩

theorem At.conv {e : Env} {w : World} {σ : Heap} {Fr : Nat → Prop} {n : Nat} {F E : Entry} {ps : List Prop} (h : At e w σ Fr) (hl : look σ n = some F) (hs : simE F E = some ps) (hp : ∀ p ∈ ps, p) : At e w ((n, E) :: del σ n) Fr := by
  obtain ⟨bs, hE, hnd, hbf, h'⟩ := h.take hl
  exact (h'.put (Kept.refl _ _) (simE_ok hs hp hE) hnd (fun b hb => .inl hb) hbf).1

/-- From one heap to another one, under names from lo to hi less 1 that are new. -/
def Turns (σ τ : Heap) (lo hi : Nat) : Prop := ∀ (e : Env) (w : World) (Fr : Nat → Prop), At e w σ Fr → Free lo hi e → ∃ e', Ext lo hi e e' ∧ At e' w τ Fr

theorem Turns.refl (σ : Heap) (lo hi : Nat) : Turns σ σ lo hi := fun e _ _ h _ => ⟨e, Ext.refl _ _ _, h⟩

theorem Turns.trans {σ τ υ : Heap} {lo mid hi : Nat} (h₁ : Turns σ τ lo mid) (h₂ : Turns τ υ mid hi) (l₁ : lo ≤ mid) (l₂ : mid ≤ hi) : Turns σ υ lo hi := by
  intro e w Fr hat hf
  obtain ⟨e₁, x₁, a₁⟩ := h₁ e w Fr hat (hf.sub (Nat.le_refl _) l₂)
  obtain ⟨e₂, x₂, a₂⟩ := h₂ e₁ w Fr a₁ ((hf.sub l₁ (Nat.le_refl _)).of_ext x₁ (.inl (Nat.le_refl _)))
  exact ⟨e₂, x₁.trans x₂ (Nat.le_refl _) l₂ l₁ (Nat.le_refl _), a₂⟩

theorem blk_notNil {e : Env} {w : World} {σ : Heap} {Fr : Nat → Prop} {n : Nat} {cs : List SV} {ty : TypeId} (hat : At e w σ Fr) (hl : look σ n = some (.blk cs ty)) : ∃ k, e n = some k ∧ k.ν = false := by
  obtain ⟨bs, ⟨k, h1, _, _, _, _, h5⟩, _⟩ := hat.take hl
  exact ⟨k, h1, h5⟩

theorem optGhost_ok {st st' : St} (h : optGhost st = some st') : Mono st st' ∧ ((∀ p ∈ st'.cs, p) → Turns st.hp st'.hp st.nx st'.nx) := by
  unfold optGhost at h
  split at h
  · rename_i b i orc horc
    split at h
    · rename_i cs ty hb
      split at h
      · rename_i n hc
        split at h
        · rename_i hn
          cases h
          refine ⟨⟨⟨[], rfl⟩, Nat.le_refl _⟩, fun hp e w Fr hat _ => ⟨e, Ext.refl _ _ _, hat.recell hb hc fun v hv => ?_⟩⟩
          obtain ⟨k, hk, hν⟩ := blk_notNil hat hn
          simp only [SV.R] at hv ⊢
          obtain ⟨k', hk', hv⟩ := hv
          rw [hk] at hk'
          cases hk'
          rcases hv with ⟨h1, _⟩ | ⟨_, h2⟩
          · rw [hν] at h1; cases h1
          · exact ⟨k, hk, by simpa [LN.val] using h2⟩
        · cases h
      · cases h
    · cases h
  · rename_i b i orc horc
    split at h
    · rename_i cs ty hb
      split at h
      · rename_i n hc
        split at h
        · rename_i A hn
          cases h
          refine ⟨⟨⟨[_], rfl⟩, Nat.le_refl _⟩, fun hp e w Fr hat _ => ⟨e, Ext.refl _ _ _, ?_⟩⟩
          have hA := hp _ List.mem_cons_self
          subst hA
          obtain ⟨bs, ⟨_, k, hk, hν⟩, _⟩ := hat.take hn
          have hk0 : e n = some k := by simpa using hk
          have hb' : look (del st.hp n) b = some (.blk cs ty) := by
            have hne : b ≠ n := by
              intro hbn
              subst hbn
              rw [hb] at hn
              cases hn
            have : ∀ σ : Heap, look (del σ n) b = look σ b := by
              intro σ
              induction σ with
              | nil => rfl
              | cons x σ ih =>
                obtain ⟨m, E⟩ := x
                unfold Eng.del
                by_cases hm : (m == n) = true
                · rw [if_pos hm]
                  have : m = n := by simpa using hm
                  subst this
                  have hmb : (m == b) = false := by simpa using Ne.symm hne
                  conv => rhs; unfold look
                  rw [hmb]
                  rfl
                · rw [if_neg hm]
                  unfold look
                  rw [ih]
            rw [this]; exact hb
          refine hat.drop.recell hb' hc fun v hv => ?_
          simp only [SV.R] at hv ⊢
          obtain ⟨k', hk', hv⟩ := hv
          rw [hk0] at hk'
          cases hk'
          rcases hv with ⟨_, h2⟩ | ⟨h1, _⟩
          · exact h2
          · rw [hν] at h1; cases h1
        · cases h
      · cases h
    · cases h
  · rename_i b i orc horc
    split at h
    · rename_i cs ty hb
      split at h
      · rename_i n hc
        split at h
        · rename_i hn
          cases h
          refine ⟨⟨⟨[], rfl⟩, Nat.le_refl _⟩, fun hp e w Fr hat _ => ⟨e, Ext.refl _ _ _, hat.recell hb hc fun v hv => ?_⟩⟩
          obtain ⟨k, hk, hν⟩ := blk_notNil hat hn
          simp only [SV.R] at hv ⊢
          obtain ⟨k', hk', hv⟩ := hv
          rw [hk] at hk'
          cases hk'
          exact ⟨k, hk, .inr ⟨hν, by simpa [LN.val] using hv⟩⟩
        · cases h
      · cases h
    · cases h
  · rename_i b i orc horc
    split at h
    · rename_i cs ty hb
      split at h
      · rename_i hc
        cases h
        refine ⟨⟨⟨[], rfl⟩, by simp⟩, fun hp e w Fr hat hfree => ?_⟩
        simp only at hfree
        have hx : Ext st.nx (st.nx + 1) e (fun m => if m = st.nx then some ⟨0, 0, true⟩ else e m) := by
          refine ⟨fun m k hm => ?_, fun m hm => ?_⟩
          · by_cases hmn : m = st.nx
            · subst hmn; rw [hfree _ (Nat.le_refl _) (by omega)] at hm; cases hm
            · simpa [hmn] using hm
          · have : m ≠ st.nx := by omega
            simp [this]
        refine ⟨_, hx, ?_⟩
        have hat1 := (hat.mono hx).recell (s' := .opt st.nx) hb hc fun v hv => by
          simp only [SV.R] at hv ⊢
          exact ⟨⟨0, 0, true⟩, by simp, .inl ⟨rfl, hv⟩⟩
        obtain ⟨bs, ⟨b₁, b₂, rfl, h1, h2⟩, h3, h4⟩ := hat1.ex
        refine ⟨⟨b₁ ++ ([] ++ b₂), ⟨b₁, [] ++ b₂, rfl, h1, [], b₂, rfl, ⟨rfl, ⟨0, 0, true⟩, by simp, rfl⟩, h2⟩, by simpa using h3, by simpa using h4⟩, hat1.fl⟩
      · cases h
    · cases h
  · rename_i b i sz E orc horc
    split at h
    · rename_i cs ty hb
      split at h
      · rename_i hc
        split at h
        · rename_i hE
          cases h
          refine ⟨⟨⟨[], rfl⟩, by simp⟩, fun hp e w Fr hat hfree => ?_⟩
          obtain ⟨e', hx, hn, _⟩ := At.nil hat hfree hE
          refine ⟨e', hx, ?_⟩
          have hat1 := (hat.mono hx).recell (s' := .sl st.nx sz (.l 0) (.l 0)) hb hc fun v hv => by
            simp only [SV.R] at hv ⊢
            exact ⟨_, hn, .inl ⟨rfl, rfl, rfl, hv⟩⟩
          obtain ⟨bs, ⟨b₁, b₂, rfl, h1, h2⟩, h3, h4⟩ := hat1.ex
          exact ⟨⟨b₁ ++ ([] ++ b₂), ⟨b₁, [] ++ b₂, rfl, h1, [], b₂, rfl, emptyE_ok hE hn, h2⟩, by simpa using h3, by simpa using h4⟩, hat1.fl⟩
        · cases h
      · cases h
    · cases h
  · split at h
    · rename_i hl
      cases h
      exact ⟨⟨⟨[], rfl⟩, Nat.le_refl _⟩, fun _ e _ _ hat _ => ⟨e, Ext.refl _ _ _, hat.cut hl⟩⟩
    · cases h
  · cases h

theorem ghost1_ok {st st' : St} (h : ghost1 st = some st') : Mono st st' ∧ ((∀ p ∈ st'.cs, p) → Turns st.hp st'.hp st.nx st'.nx) := by
  unfold ghost1 at h
  split at h
  · cases h
    exact ⟨⟨⟨[], rfl⟩, Nat.le_refl _⟩, fun _ e _ _ hat _ => ⟨e, Ext.refl _ _ _, hat.drop⟩⟩
  · split at h
    · rename_i F hl
      split at h
      · rename_i ps hs
        cases h
        exact ⟨⟨⟨ps, rfl⟩, Nat.le_refl _⟩, fun hp e _ _ hat _ => ⟨e, Ext.refl _ _ _, hat.conv hl hs fun p hpp => hp p (by simp [hpp])⟩⟩
      · cases h
    · cases h
  · split at h
    · rename_i A imps hl
      cases h
      refine ⟨⟨⟨[_], rfl⟩, by simp⟩, fun hp e w Fr hat hf => ?_⟩
      have := hp _ List.mem_cons_self
      subst this
      exact hat.open hl hf
    · cases h
  · split at h
    · rename_i rest ps hm
      cases h
      refine ⟨⟨⟨_ :: ps, rfl⟩, Nat.le_refl _⟩, fun hp e w Fr hat _ => ⟨e, Ext.refl _ _ _, ?_⟩⟩
      have := hp _ List.mem_cons_self
      subst this
      exact hat.close hm fun p hpp => hp p (by simp [hpp])
    · cases h
  · exact optGhost_ok h

theorem ghosts_ok : ∀ {k : Nat} {st : St}, Mono st (ghosts k st) ∧ ((∀ p ∈ (ghosts k st).cs, p) → Turns st.hp (ghosts k st).hp st.nx (ghosts k st).nx)
  | 0, st => ⟨Mono.refl _, fun _ => Turns.refl _ _ _⟩
  | k + 1, st => by
    unfold ghosts
    split
    · rename_i st' h
      obtain ⟨h1, h2⟩ := ghost1_ok h
      obtain ⟨g1, g2⟩ := ghosts_ok (k := k) (st := st')
      exact ⟨h1.trans g1, fun hp => (h2 (g1.all hp)).trans (g2 hp) h1.nx g1.nx⟩
    · exact ⟨Mono.refl _, fun _ => Turns.refl _ _ _⟩

/-- The same, of the temporaries too. -/
def TurnsF (fr : List SV) (σ : Heap) (fr' : List SV) (τ : Heap) (lo hi : Nat) : Prop :=
  ∀ (e : Env) (w : World) (Fr : Nat → Prop) (a : Act), FrOk e fr a → At e w σ Fr → Free lo hi e → ∃ e', Ext lo hi e e' ∧ FrOk e' fr' a ∧ At e' w τ Fr

theorem Turns.toF {σ τ : Heap} {lo hi : Nat} (h : Turns σ τ lo hi) (fr : List SV) : TurnsF fr σ fr τ lo hi := fun e w Fr _ hf hat hfree =>
  let ⟨e', hx, hat'⟩ := h e w Fr hat hfree
  ⟨e', hx, hf.mono hx, hat'⟩

theorem TurnsF.refl (fr : List SV) (σ : Heap) (lo hi : Nat) : TurnsF fr σ fr σ lo hi := (Turns.refl σ lo hi).toF fr

theorem TurnsF.trans {fr fr₁ fr₂ : List SV} {σ τ υ : Heap} {lo mid hi : Nat} (h₁ : TurnsF fr σ fr₁ τ lo mid) (h₂ : TurnsF fr₁ τ fr₂ υ mid hi) (l₁ : lo ≤ mid) (l₂ : mid ≤ hi) : TurnsF fr σ fr₂ υ lo hi := by
  intro e w Fr a hfr hat hf
  obtain ⟨e₁, x₁, f₁, a₁⟩ := h₁ e w Fr a hfr hat (hf.sub (Nat.le_refl _) l₂)
  obtain ⟨e₂, x₂, f₂, a₂⟩ := h₂ e₁ w Fr a f₁ a₁ ((hf.sub l₁ (Nat.le_refl _)).of_ext x₁ (.inl (Nat.le_refl _)))
  exact ⟨e₂, x₁.trans x₂ (Nat.le_refl _) l₂ l₁ (Nat.le_refl _), f₂, a₂⟩

def prep1 (fr : List SV) (st : St) : Option (List SV × St) :=
  match st.orc with
  | .nilT t sz E :: orc => match fr[t]? with
    | some (.con (.slice none 0 0)) => if emptyE sz E = true then some (fr.set t (.sl st.nx sz (.l 0) (.l 0)), { hp := (st.nx, E) :: st.hp, nx := st.nx + 1, orc := orc, cs := st.cs }) else none
    | _ => none
  | _ => match ghost1 st with
    | some st' => some (fr, st')
    | none => none

def prep : Nat → List SV → St → List SV × St
  | 0, fr, st => (fr, st)
  | k + 1, fr, st => match prep1 fr st with
    | some (fr', st') => prep k fr' st'
    | none => (fr, st)

theorem prep1_ok {fr fr' : List SV} {st st' : St} (h : prep1 fr st = some (fr', st')) : Mono st st' ∧ ((∀ p ∈ st'.cs, p) → TurnsF fr st.hp fr' st'.hp st.nx st'.nx) := by
  unfold prep1 at h
  split at h
  · rename_i t sz E orc horc
    split at h
    · rename_i hc
      split at h
      · rename_i hE
        cases h
        refine ⟨⟨⟨[], rfl⟩, by simp⟩, fun _ e w Fr a hfr hat hfree => ?_⟩
        obtain ⟨e', hx, hn, hat'⟩ := At.nil hat hfree hE
        refine ⟨e', hx, ⟨hfr.df, by simpa using hfr.sz, fun t' => ?_⟩, hat'⟩
        have ht : t < fr.length := (List.getElem?_eq_some_iff.1 hc).1
        have hold := (hfr.mono hx).rel t'
        unfold fget at hold ⊢
        by_cases htt : t' = t
        · subst htt
          rw [List.getD_eq_getElem?_getD, hc] at hold
          rw [List.getD_eq_getElem?_getD, List.getElem?_set_self ht]
          simp only [Option.getD_some, SV.R] at hold ⊢
          exact ⟨_, hn, .inl ⟨rfl, rfl, rfl, hold⟩⟩
        · rw [List.getD_eq_getElem?_getD, List.getElem?_set_ne (Ne.symm htt), ← List.getD_eq_getElem?_getD]
          exact hold
      · cases h
    · cases h
  · split at h
    · rename_i st1 h1
      cases h
      obtain ⟨g1, g2⟩ := ghost1_ok h1
      exact ⟨g1, fun hp => (g2 hp).toF _⟩
    · cases h

theorem prep_ok : ∀ {k : Nat} {fr : List SV} {st : St}, Mono st (prep k fr st).2 ∧ ((∀ p ∈ (prep k fr st).2.cs, p) → TurnsF fr st.hp (prep k fr st).1 (prep k fr st).2.hp st.nx (prep k fr st).2.nx)
  | 0, fr, st => ⟨Mono.refl _, fun _ => TurnsF.refl _ _ _ _⟩
  | k + 1, fr, st => by
    unfold prep
    split
    · rename_i fr' st' h
      obtain ⟨h1, h2⟩ := prep1_ok h
      obtain ⟨g1, g2⟩ := prep_ok (k := k) (fr := fr') (st := st')
      exact ⟨h1.trans g1, fun hp => (h2 (g1.all hp)).trans (g2 hp) h1.nx g1.nx⟩
    · exact ⟨Mono.refl _, fun _ => TurnsF.refl _ _ _ _⟩

/-- Ahead of a region (of a loop: 1000): a mark holds the ghosts back up to its own one. -/
def prepAt (f r : Nat) (fr : List SV) (st : St) : List SV × St :=
  match st.orc with
  | .rg f' r' :: orc => if f' = f ∧ r' = r then prep 20 fr { st with orc := orc } else (fr, st)
  | _ => prep 20 fr st

theorem prepAt_ok {f r : Nat} {fr : List SV} {st : St} : Mono st (prepAt f r fr st).2 ∧ ((∀ p ∈ (prepAt f r fr st).2.cs, p) → TurnsF fr st.hp (prepAt f r fr st).1 (prepAt f r fr st).2.hp st.nx (prepAt f r fr st).2.nx) := by
  unfold prepAt
  split
  · split
    · rename_i orc _ _
      obtain ⟨h1, h2⟩ := prep_ok (k := 20) (fr := fr) (st := { st with orc := orc })
      exact ⟨⟨h1.cs, h1.nx⟩, h2⟩
    · exact ⟨Mono.refl _, fun _ => TurnsF.refl _ _ _ _⟩
  · exact prep_ok

/-- Behind all: the mark for the end. -/
def finish (st : St) : St :=
  match st.orc with
  | .fin :: orc => ghosts 100 { st with orc := orc }
  | _ => ghosts 100 st

theorem finish_ok {st : St} : Mono st (finish st) ∧ ((∀ p ∈ (finish st).cs, p) → Turns st.hp (finish st).hp st.nx (finish st).nx) := by
  unfold finish
  split
  · rename_i orc _
    obtain ⟨h1, h2⟩ := ghosts_ok (k := 100) (st := { st with orc := orc })
    exact ⟨⟨h1.cs, h1.nx⟩, h2⟩
  · exact ghosts_ok

theorem CodeOk.turnF {c : Code} {fr fr₁ fr' : List SV} {σ τ σ' : Heap} {x : Exit} {lo mid hi : Nat} (hg : TurnsF fr σ fr₁ τ lo mid) (h : CodeOk P c fr₁ τ x fr' σ' mid hi) (l₁ : lo ≤ mid) (l₂ : mid ≤ hi) : CodeOk P c fr σ x fr' σ' lo hi := by
  intro Fr e w a Q hf hat hfree k
  obtain ⟨e₁, x₁, f₁, a₁⟩ := hg e w Fr a hf hat (hfree.sub (Nat.le_refl _) l₂)
  exact h Fr e₁ w a Q f₁ a₁ ((hfree.sub l₁ (Nat.le_refl _)).of_ext x₁ (.inl (Nat.le_refl _))) fun e' w' a' hx hf' hat' hk =>
    k e' w' a' (x₁.trans hx (Nat.le_refl _) l₂ l₁ (Nat.le_refl _)) hf' hat' hk

def mids (i : Nat) (st : St) : St :=
  match st.orc with
  | .mid j :: orc => if j = i then ghosts 20 { st with orc := orc } else st
  | _ => st

theorem mids_ok (i : Nat) (st : St) : Mono st (mids i st) ∧ ((∀ p ∈ (mids i st).cs, p) → Turns st.hp (mids i st).hp st.nx (mids i st).nx) := by
  unfold mids
  split
  · split
    · rename_i orc ho hj
      obtain ⟨h1, h2⟩ := ghosts_ok (k := 20) (st := { st with orc := orc })
      exact ⟨⟨h1.cs, h1.nx⟩, h2⟩
    · exact ⟨Mono.refl _, fun _ => Turns.refl _ _ _⟩
  · exact ⟨Mono.refl _, fun _ => Turns.refl _ _ _⟩

theorem CodeOk.turn {c : Code} {fr fr' : List SV} {σ τ σ' : Heap} {x : Exit} {lo mid hi : Nat} (hg : Turns σ τ lo mid) (h : CodeOk P c fr τ x fr' σ' mid hi) (l₁ : lo ≤ mid) (l₂ : mid ≤ hi) : CodeOk P c fr σ x fr' σ' lo hi := by
  intro Fr e w a Q hf hat hfree k
  obtain ⟨e₁, x₁, a₁⟩ := hg e w Fr hat (hfree.sub (Nat.le_refl _) l₂)
  exact h Fr e₁ w a Q (hf.mono x₁) a₁ ((hfree.sub l₁ (Nat.le_refl _)).of_ext x₁ (.inl (Nat.le_refl _))) fun e' w' a' hx hf' hat' hk =>
    k e' w' a' (x₁.trans hx (Nat.le_refl _) l₂ l₁ (Nat.le_refl _)) hf' hat' hk

theorem StepOk.turn {ops : Array Oper} {i : Nat} {fr : Nat → SV} {σ τ σ' : Heap} {s : SV} {lo mid hi : Nat} (hg : Turns σ τ lo mid) (h : StepOk P ops i fr τ s σ' mid hi) (l₁ : lo ≤ mid) (l₂ : mid ≤ hi) : StepOk P ops i fr σ s σ' lo hi := by
  intro Fr e w a Q K hr hat hfree k
  obtain ⟨e₁, x₁, a₁⟩ := hg e w Fr hat (hfree.sub (Nat.le_refl _) l₂)
  exact h Fr e₁ w a Q K (fun o ho t ht => SV.R_mono x₁.up _ _ (hr o ho t ht)) a₁ ((hfree.sub l₁ (Nat.le_refl _)).of_ext x₁ (.inl (Nat.le_refl _))) fun e' w' v hx hv hat' hk =>
    k e' w' v (x₁.trans hx (Nat.le_refl _) l₂ l₁ (Nat.le_refl _)) hv hat' hk

theorem FnOk.turn {f : FuncId} {args : List SV} {σ τ σ' : Heap} {s : SV} {lo mid hi : Nat} (hg : Turns σ τ lo mid) (h : FnOk P f args τ s σ' mid hi) (l₁ : lo ≤ mid) (l₂ : mid ≤ hi) : FnOk P f args σ s σ' lo hi := by
  intro Fr e w vs hvs hat hfree
  obtain ⟨e₁, x₁, a₁⟩ := hg e w Fr hat (hfree.sub (Nat.le_refl _) l₂)
  refine (h Fr e₁ w vs (SV.RL_mono x₁.up _ _ hvs) a₁ ((hfree.sub l₁ (Nat.le_refl _)).of_ext x₁ (.inl (Nat.le_refl _)))).mono ?_
  rintro _ _ ⟨e', v, h1, h2, h3, h4, h5⟩
  exact ⟨e', v, h1, x₁.trans h2 (Nat.le_refl _) l₂ l₁ (Nat.le_refl _), h3, h4, h5⟩

theorem FnOk.turned {f : FuncId} {args : List SV} {σ τ σ' : Heap} {s : SV} {lo mid hi : Nat} (h : FnOk P f args σ s τ lo mid) (hg : Turns τ σ' mid hi) (l₁ : lo ≤ mid) (l₂ : mid ≤ hi) : FnOk P f args σ s σ' lo hi := by
  intro Fr e w vs hvs hat hfree
  refine (h Fr e w vs hvs hat (hfree.sub (Nat.le_refl _) l₂)).mono ?_
  rintro _ w' ⟨e', v, h1, h2, h3, h4, h5⟩
  obtain ⟨e₂, x₂, a₂⟩ := hg e' w' Fr h4 ((hfree.sub l₁ (Nat.le_refl _)).of_ext h2 (.inl (Nat.le_refl _)))
  exact ⟨e₂, v, h1, h2.trans x₂ (Nat.le_refl _) l₂ l₁ (Nat.le_refl _), SV.R_mono x₂.up _ _ h3, a₂, h5⟩

end Go.Eng
