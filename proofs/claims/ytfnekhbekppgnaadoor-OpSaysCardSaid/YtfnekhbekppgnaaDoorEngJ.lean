import Derived.Test.YtfnekhbekppgnaaDoorEngI
namespace Go.Eng
variable {P : Program}

inductive Cont where
  | ints (k : IntKind) (l : List Int)
  | arr (cs : List (List SV))
  | row (len : Nat) (f : Nat → Nat → SV)

def Cont.len : Cont → Nat
  | .ints _ l => l.length
  | .arr cs => cs.length
  | .row n _ => n

def Cont.f : Cont → Nat → Nat → SV
  | .ints k l => intsF k l
  | .arr cs => arrF cs
  | .row _ f => f

def Cont.entry (c : Cont) (sz : Nat) (ty : TypeId) : Entry :=
  match c with
  | .ints k l => .ints k l ty
  | .arr cs => .arr cs sz ty
  | .row n f => .row sz n f ty

def Cont.fits (c : Cont) (sz : Nat) : Bool :=
  match c with
  | .ints _ _ => sz == 1
  | _ => true

theorem Cont.entry_ok {c : Cont} {sz : Nat} (h : c.fits sz = true) {e : Env} {w : World} {n : Nat} {ty : TypeId} {bs : List Nat} (hr : rowOk e w n sz c.len c.f ty bs) :
    (c.entry sz ty).ok e w n bs := by
  cases c with
  | ints k l => have : sz = 1 := by simpa [Cont.fits] using h
                subst this; exact hr
  | arr cs => exact hr
  | row n f => exact hr

theorem rowOk.congr {e : Env} {w : World} {n sz len len' : Nat} {f f' : Nat → Nat → SV} {ty : TypeId} {bs : List Nat} (h : rowOk e w n sz len f ty bs) (hl : len' = len)
    (hf : ∀ i j, i < len → j < sz → ∀ v, (f i j).R e v → (f' i j).R e v) : rowOk e w n sz len' f' ty bs := by
  subst hl
  obtain ⟨k, h1, h2 | ⟨h2, h3, h4, h4m, c, h5, h6, h7⟩⟩ := h
  · exact ⟨k, h1, .inl h2⟩
  · refine ⟨k, h1, .inr ⟨h2, h3, h4, h4m, c, h5, h6, fun i j hi hj => ?_⟩⟩
    obtain ⟨v, h8, h9⟩ := h7 i j hi hj
    exact ⟨v, h8, hf i j hi hj v h9⟩

/-- An entry's row. -/
def rowView : Entry → Option (Nat × Cont × TypeId)
  | .ints k l ty => some (1, .ints k l, ty)
  | .arr cs sz ty => some (sz, .arr cs, ty)
  | .row sz n f ty => some (sz, .row n f, ty)
  | .strs l ty => some (1, .row l.length (strsF l), ty)
  | _ => none

theorem rowView_ok {E : Entry} {sz : Nat} {c : Cont} {ty : TypeId} (h : rowView E = some (sz, c, ty)) {e : Env} {w : World} {n : Nat} {bs : List Nat} (hE : E.ok e w n bs) :
    rowOk e w n sz c.len c.f ty bs ∧ c.fits sz = true := by
  cases E <;> simp [rowView] at h
  · obtain ⟨rfl, rfl, rfl⟩ := h; exact ⟨hE, rfl⟩
  · obtain ⟨rfl, rfl, rfl⟩ := h; exact ⟨hE, rfl⟩
  · obtain ⟨rfl, rfl, rfl⟩ := h; exact ⟨hE, rfl⟩
  · obtain ⟨rfl, rfl, rfl⟩ := h; exact ⟨hE, rfl⟩

/-- From a place on, so many. -/
def Cont.part (c : Cont) (off len : LN) : Option (Cont × List Prop) :=
  match c with
  | .ints k l => match off with
    | .l 0 => some (.ints k (l.take len.val), [len.val ≤ l.length])
    | _ => some (.ints k ((l.drop off.val).take len.val), [off.val + len.val ≤ l.length])
  | .arr cs => match off.lit, len.lit with
    | some a, some m => if a + m ≤ cs.length then some (.arr ((cs.drop a).take m), []) else none
    | _, _ => none
  | .row n f => some (.row len.val (fun i j => f (off.val + i) j), [off.val + len.val ≤ n])

theorem Cont.part_ok {c c' : Cont} {off len : LN} {ps : List Prop} (h : c.part off len = some (c', ps)) (hp : ∀ p ∈ ps, p) :
    off.val + len.val ≤ c.len ∧ c'.len = len.val ∧ (∀ i j, i < len.val → c'.f i j = c.f (off.val + i) j) ∧ ∀ sz, c.fits sz = true → c'.fits sz = true := by
  unfold Cont.part at h
  cases c with
  | ints k l =>
    simp only at h
    split at h
    · cases h
      have hl : len.val ≤ l.length := hp _ (List.mem_singleton.2 rfl)
      refine ⟨by simpa [Cont.len, LN.val_l] using hl, by simp [Cont.len]; omega, fun i j hi => ?_, fun _ h => h⟩
      simp [Cont.f, intsF, List.getD_eq_getElem?_getD, hi, LN.val_l]
    · cases h
      have hl : off.val + len.val ≤ l.length := hp _ (List.mem_singleton.2 rfl)
      refine ⟨hl, by simp [Cont.len]; omega, fun i j hi => ?_, fun _ h => h⟩
      simp [Cont.f, intsF, List.getD_eq_getElem?_getD, hi]
  | arr cs =>
    simp only at h
    split at h
    · rename_i a m ha hm
      split at h
      · rename_i hl
        cases h
        rw [LN.lit_val ha, LN.lit_val hm]
        refine ⟨hl, by simp [Cont.len]; omega, fun i j hi => ?_, fun _ h => h⟩
        simp [Cont.f, arrF, List.getD_eq_getElem?_getD, hi]
      · cases h
    · cases h
  | row n f =>
    cases h
    exact ⟨hp _ (List.mem_singleton.2 rfl), rfl, fun _ _ _ => rfl, fun _ _ => rfl⟩

/-- Rows of numbers out of what is written out. -/
def asInts (k : IntKind) : List (List SV) → Option (List Int)
  | [] => some []
  | [s] :: rest => match intOf1 s, asInts k rest with
    | some (k', n), some l => if k = k' then some (n :: l) else none
    | _, _ => none
  | _ :: _ => none

theorem asInts_ok {e : Env} {k : IntKind} : ∀ {cs : List (List SV)} {l : List Int}, asInts k cs = some l → l.length = cs.length ∧ ∀ i v, i < cs.length → (arrF cs i 0).R e v → (intsF k l i 0).R e v
  | [], l, h => by
    simp only [asInts, Option.some.injEq] at h
    subst h
    exact ⟨rfl, fun i v hi => by simp at hi⟩
  | [s] :: rest, l, h => by
    unfold asInts at h
    split at h
    · rename_i k' n l' h1 h2
      split at h
      · rename_i hk
        subst hk
        cases h
        obtain ⟨h3, h4⟩ := asInts_ok (e := e) h2
        refine ⟨by simp [h3], fun i v hi hv => ?_⟩
        cases i with
        | zero =>
          simp only [arrF, List.getD_cons_zero] at hv
          simp only [intsF, List.getD_cons_zero, SV.R]
          exact intOf1_ok hv h1
        | succ i =>
          simp only [arrF, List.getD_cons_succ] at hv
          simp only [intsF, List.getD_cons_succ]
          exact h4 i v (by simpa using hi) hv
      · cases h
    · cases h
  | [] :: _, _, h => by simp [asInts] at h
  | (_ :: _ :: _) :: _, _, h => by simp [asInts] at h

def Cont.cat (c d : Cont) : Cont :=
  match c, d with
  | .ints k l, .ints k' l' => if k = k' then .ints k (l ++ l') else .row (l.length + l'.length) (catF (intsF k l) (intsF k' l') l.length)
  | .arr cs, .arr ds => .arr (cs ++ ds)
  | .ints k l, .arr ds => match asInts k ds with
    | some l' => .ints k (l ++ l')
    | none => .row (l.length + ds.length) (catF (intsF k l) (arrF ds) l.length)
  | .arr cs, .ints k l' => match asInts k cs with
    | some l => .ints k (l ++ l')
    | none => .row (cs.length + l'.length) (catF (arrF cs) (intsF k l') cs.length)
  | c, d => .row (c.len + d.len) (catF c.f d.f c.len)

theorem ints_cat {k : IntKind} {l l' : List Int} {i : Nat} (j : Nat) : intsF k (l ++ l') i j = catF (intsF k l) (intsF k l') l.length i j := by
  unfold intsF catF
  split
  · rename_i h; simp [List.getD_eq_getElem?_getD, List.getElem?_append_left h]
  · rename_i h; simp [List.getD_eq_getElem?_getD, List.getElem?_append_right (by omega : l.length ≤ i)]

theorem Cont.cat_ok {c d : Cont} {sz : Nat} (hc : c.fits sz = true) (hd : d.fits sz = true) (e : Env) :
    (c.cat d).len = c.len + d.len ∧ (c.cat d).fits sz = true ∧ ∀ i j, i < c.len + d.len → j < sz → ∀ v, (catF c.f d.f c.len i j).R e v → ((c.cat d).f i j).R e v := by
  cases c with
  | ints k l =>
    have hs : sz = 1 := by simpa [Cont.fits] using hc
    subst hs
    cases d with
    | ints k' l' =>
      unfold Cont.cat
      by_cases hk : k = k'
      · subst hk
        simp only [if_true]
        refine ⟨by simp [Cont.len], rfl, fun i j hi hj v hv => ?_⟩
        simp only [Cont.f, ints_cat]
        exact hv
      · simp only [hk, if_false]
        exact ⟨rfl, rfl, fun i j _ _ v hv => hv⟩
    | arr ds =>
      cases ha : asInts k ds with
      | none => simp only [Cont.cat, ha]; exact ⟨rfl, rfl, fun i j _ _ v hv => hv⟩
      | some l' =>
        obtain ⟨h1, h2⟩ := asInts_ok (e := e) ha
        simp only [Cont.cat, ha]
        refine ⟨by simp [Cont.len, h1], rfl, fun i j hi hj v hv => ?_⟩
        have hj0 : j = 0 := by omega
        subst hj0
        simp only [Cont.f, Cont.len, ints_cat] at hv hi ⊢
        unfold catF at hv ⊢
        split at hv
        · rename_i h; rw [if_pos h]; exact hv
        · rename_i h; rw [if_neg h]; exact h2 _ v (by omega) hv
    | row n f => exact ⟨rfl, rfl, fun i j _ _ v hv => hv⟩
  | arr cs =>
    cases d with
    | ints k l' =>
      have hs : sz = 1 := by simpa [Cont.fits] using hd
      subst hs
      cases ha : asInts k cs with
      | none => simp only [Cont.cat, ha]; exact ⟨rfl, rfl, fun i j _ _ v hv => hv⟩
      | some l =>
        obtain ⟨h1, h2⟩ := asInts_ok (e := e) ha
        simp only [Cont.cat, ha]
        refine ⟨by simp [Cont.len, h1], rfl, fun i j hi hj v hv => ?_⟩
        have hj0 : j = 0 := by omega
        subst hj0
        simp only [Cont.f, Cont.len, ints_cat, h1] at hv hi ⊢
        unfold catF at hv ⊢
        split at hv
        · rename_i h; rw [if_pos h]; exact h2 _ v h hv
        · rename_i h; rw [if_neg h]; exact hv
    | arr ds =>
      refine ⟨by simp [Cont.cat, Cont.len], rfl, fun i j hi hj v hv => ?_⟩
      simp only [Cont.cat, Cont.f, Cont.len] at hv hi ⊢
      unfold catF arrF at hv
      unfold arrF
      split at hv
      · rename_i h; simpa [List.getD_eq_getElem?_getD, List.getElem?_append_left h] using hv
      · rename_i h; simpa [List.getD_eq_getElem?_getD, List.getElem?_append_right (by omega : cs.length ≤ i)] using hv
    | row n f => exact ⟨rfl, rfl, fun i j _ _ v hv => hv⟩
  | row n f => cases d <;> exact ⟨rfl, rfl, fun i j _ _ v hv => hv⟩

/-! append. -/

def elemT (P : Program) (t : TypeId) : Option (TypeId × Nat × Nat) :=
  match P.underlying t with
  | some (.slice elem) => match P.info? elem with
    | some i => match i.zero with
      | some z => if z.cells.size = i.size ∧ 0 < i.size then some (elem, i.size, i.bytes) else none
      | none => none
    | none => none
  | _ => none

theorem elemT_ok {t elem : TypeId} {sz bytes : Nat} (h : elemT P t = some (elem, sz, bytes)) : ElemOk P t elem sz bytes := by
  unfold elemT at h
  split at h
  · rename_i el hu
    split at h
    · rename_i i hi
      split at h
      · rename_i z hz
        split at h
        · rename_i hc
          cases h
          exact ⟨hu, ⟨i, z, hi, hz, rfl, rfl, hc.1⟩, hc.2⟩
        · cases h
      · cases h
    · cases h
  · cases h

def addLen (a b : LN) : LN :=
  match a, b with
  | .l x, .l y => .l (x + y)
  | .l 0, b => .o b.val
  | a, .l 0 => .o a.val
  | a, b => .o (a.val + b.val)

theorem addLen_val (a b : LN) : (addLen a b).val = a.val + b.val := by
  unfold addLen
  split <;> simp [LN.val_l, LN.val_o]

/-- The cells of a source that is appended. -/
def srcOf (sz : Nat) (hp : Heap) : SV → Option (Nat × Cont × LN × List Prop)
  | .sl m sz' off len => match look hp m with
    | some E => match rowView E with
      | some (sz'', c, _) => if sz' = sz ∧ sz'' = sz then match c.part off len with
          | some (c', ps) => some (m, c', len, ps)
          | none => none
        else none
      | none => none
    | none => none
  | _ => none

def Cont.cellLike (c : Cont) (sz : Nat) : Bool :=
  match c with
  | .ints _ _ => true
  | .arr cs => cs.all fun l => l.length == sz && l.all Eng.cellLike
  | .row _ _ => false

def stepAppend (P : Program) (t : TypeId) (dst src : SV) (st : St) : Option (SV × St) :=
  match elemT P t with
  | some (elem, sz, bytes) => match srcOf sz st.hp src with
    | some (m, c, slen, ps) =>
      if c.cellLike sz = true then
        match dst with
        | .sl n sz' (.l 0) dlen => if sz' = sz ∧ n ≠ m then
            match look st.hp n with
            | some E => match rowView E with
              | some (sz'', d, ty) => if sz'' = sz ∧ ty = elem then
                  match d.part (.l 0) dlen with
                  | some (d', qs) => some (.sl st.nx sz (.l 0) (addLen dlen slen),
                      { hp := (st.nx, (d'.cat c).entry sz elem) :: del st.hp n, nx := st.nx + 1, orc := st.orc,
                        cs := ((dlen.val + slen.val) * bytes ≤ 140737488355328) :: (dlen.val + slen.val ≤ maxLen) :: (ps ++ qs ++ st.cs) })
                  | none => none
                else none
              | none => none
            | none => none
          else none
        | .con (.slice none 0 0) => some (.sl st.nx sz (.l 0) (addLen (.l 0) slen),
            { hp := (st.nx, c.entry sz elem) :: st.hp, nx := st.nx + 1, orc := st.orc,
              cs := (slen.val * bytes ≤ 140737488355328) :: (slen.val ≤ maxLen) :: (ps ++ st.cs) })
        | _ => none
      else none
    | none => none
  | none => none

theorem cellLike_ok' {c : Cont} {sz : Nat} (hf : c.fits sz = true) (h : c.cellLike sz = true) {e : Env} {i j : Nat} {v : Value} (hi : i < c.len) (hj : j < sz) (hv : (c.f i j).R e v) : v.oneCell' = true := by
  cases c with
  | ints k l => simp only [Cont.f, intsF, SV.R] at hv; subst hv; rfl
  | arr cs =>
    simp only [Cont.cellLike, List.all_eq_true, Bool.and_eq_true, beq_iff_eq] at h
    simp only [Cont.len] at hi
    have h1 := h cs[i] (List.getElem_mem hi)
    simp only [Cont.f, arrF, List.getD_eq_getElem?_getD, List.getElem?_eq_getElem hi, Option.getD_some, List.getElem?_eq_getElem (show j < cs[i].length by omega)] at hv
    exact cellLike_ok hv (h1.2 _ (List.getElem_mem _))
  | row n f => cases h

/-- What a source is in memory. -/
theorem src_cells {sz : Nat} {hp : Heap} {src : SV} {m : Nat} {c : Cont} {slen : LN} {ps : List Prop} (hs : srcOf sz hp src = some (m, c, slen, ps)) (hps : ∀ p ∈ ps, p) (hc : c.cellLike sz = true) (hpos : 0 < sz)
    {e : Env} {w : World} {Fr : Nat → Prop} (hat : At e w hp Fr) {v : Value} (hv : src.R e v) :
    c.len = slen.val ∧ c.fits sz = true ∧ ((slen.val = 0 ∧ v = .slice none 0 0) ∨ ∃ (a : Addr) (cap : Nat) (news : List Value), v = .slice (some a) slen.val cap ∧ news.length = slen.val * sz ∧ (∀ (j : Nat) (u : Value), news[j]? = some u → w.cell? (a.add j) = some u) ∧ (∀ u ∈ news, u.oneCell' = true) ∧
      (∀ i j, i < slen.val → j < sz → ∃ v, news[i * sz + j]? = some v ∧ (c.f i j).R e v)) := by
  unfold srcOf at hs
  split at hs
  · rename_i m' sz' off len
    split at hs
    · rename_i E hl
      split at hs
      · rename_i sz'' c0 ty hr
        split at hs
        · rename_i hsz
          obtain ⟨rfl, rfl⟩ := hsz
          split at hs
          · rename_i c' ps' hpart
            cases hs
            obtain ⟨bs, hE, _⟩ := hat.take hl
            obtain ⟨hrow, hfit⟩ := rowView_ok hr hE
            obtain ⟨h1, h2, h3, h4⟩ := Cont.part_ok hpart hps
            refine ⟨h2, h4 _ hfit, ?_⟩
            simp only [SV.R] at hv
            obtain ⟨k, hk, ⟨hν, hl0, _, rfl⟩ | ⟨hν, hle, o, ho, rfl⟩⟩ := hv
            · exact .inl ⟨hl0, rfl⟩
            · by_cases hz : slen.val = 0
              · exact .inr ⟨_, _, [], rfl, by simp [hz], fun j u h => by simp at h, by simp, fun i j hi => by omega⟩
              · have ho' : o = off.val := by omega
                subst ho'
                obtain ⟨u, hu1, hu2, hu3⟩ := hrow.part hk h1
                refine .inr ⟨_, _, u, rfl, hu1, hu3, ?_, fun i j hi hj => ?_⟩
                · intro x hx
                  obtain ⟨q, hq, rfl⟩ := List.mem_iff_getElem.1 hx
                  have hdm := Nat.div_add_mod q sz''
                  have hmod := Nat.mod_lt q hpos
                  have hdiv : q / sz'' < slen.val := by
                    rw [hu1] at hq
                    exact Nat.div_lt_of_lt_mul (by rw [Nat.mul_comm]; exact hq)
                  obtain ⟨v, hv1, hv2⟩ := hu2 (q / sz'') (q % sz'') hdiv hmod
                  rw [Nat.mul_comm, hdm, List.getElem?_eq_getElem hq] at hv1
                  cases hv1
                  rw [← h3 _ _ hdiv] at hv2
                  exact cellLike_ok' (h4 _ hfit) hc (by omega) hmod hv2
                · obtain ⟨v, hv1, hv2⟩ := hu2 i j hi hj
                  exact ⟨v, hv1, by rw [h3 i j hi]; exact hv2⟩
          · cases hs
        · cases hs
      · cases hs
    · cases hs
  · cases hs

theorem stepAppend_ok {t : TypeId} {dst src s : SV} {st st' : St} (h : stepAppend P t dst src st = some (s, st')) :
    Mono st st' ∧ ((∀ p ∈ st'.cs, p) → ∀ {e : Env} {w : World} {Fr : Nat → Prop} {vd vs : Value} (ty : TypeId), dst.R e vd → src.R e vs → At e w st.hp Fr → Free st.nx st'.nx e →
      ∃ e' w' v, (Builtin.append_ #[t, t] ty #[vd, vs]).run P w = .ok v w' ∧ Ext st.nx st'.nx e e' ∧ s.R e' v ∧ At e' w' st'.hp Fr ∧ Kept Fr w w') := by
  unfold stepAppend at h
  split at h
  · rename_i elem sz bytes hel
    have ho := elemT_ok hel
    split at h
    · rename_i m c slen ps hs
      split at h
      · rename_i hcl
        split at h
        · rename_i n sz' dlen
          split at h
          · rename_i hsz
            obtain ⟨rfl, hnm⟩ := hsz
            split at h
            · rename_i E hl
              split at h
              · rename_i sz'' d ty hr
                split at h
                · rename_i hty
                  obtain ⟨rfl, rfl⟩ := hty
                  split at h
                  · rename_i d' qs hpart
                    cases h
                    refine ⟨⟨⟨_ :: _ :: (ps ++ qs), rfl⟩, by simp⟩, fun hp e w Fr vd vs ty' hd hsv hat hfree => ?_⟩
                    have hbytes := hp _ (List.mem_cons_self)
                    have hmax := hp _ (List.mem_cons_of_mem _ (List.mem_cons_self))
                    have hps : ∀ p ∈ ps, p := fun p hpp => hp p (by simp [hpp])
                    have hqs : ∀ p ∈ qs, p := fun p hpp => hp p (by simp [hpp])
                    obtain ⟨hcl1, hcf, hsrc⟩ := src_cells hs hps hcl ho.pos hat hsv
                    obtain ⟨bs, hE, hnd, hbf, hat'⟩ := hat.take hl
                    obtain ⟨hrow, hfit⟩ := rowView_ok hr hE
                    obtain ⟨p1, p2, p3, p4⟩ := Cont.part_ok hpart hqs
                    simp only [LN.val_l, Nat.zero_add] at p1 p3
                    have hcat := Cont.cat_ok (p4 _ hfit) hcf
                    have hf' : ∀ i j, i < dlen.val + slen.val → j < sz'' → catF d'.f c.f d'.len i j = catF d.f c.f dlen.val i j := by
                      intro i j hi hj
                      unfold catF
                      rw [p2]
                      split
                      · rename_i hlt; rw [p3 i j hlt]
                      · rfl
                    -- the entry out of the row
                    have fin : ∀ (k' : Blk) (w' : World) (bs' : List Nat), rowOk (upd e st.nx k') w' st.nx sz'' (dlen.val + slen.val) (catF d.f c.f dlen.val) ty bs' →
                        ((d'.cat c).entry sz'' ty).ok (upd e st.nx k') w' st.nx bs' := by
                      intro k' w' bs' hrow'
                      obtain ⟨q1, q2, q3⟩ := hcat (upd e st.nx k')
                      refine Cont.entry_ok q2 (hrow'.congr (by rw [q1, p2, hcl1]) fun i j hi hj v hv => q3 i j (by rw [p2, hcl1]; exact hi) hj v ?_)
                      rw [hf' i j hi hj]
                      exact hv
                    have close : ∀ (k' : Blk) (w' : World) (v : Value) (bs' : List Nat), rowOk (upd e st.nx k') w' st.nx sz'' (dlen.val + slen.val) (catF d.f c.f dlen.val) ty bs' →
                        (SV.sl st.nx sz'' (.l 0) (addLen dlen slen)).R (upd e st.nx k') v → bs'.Nodup → (∀ b ∈ bs', b ∈ bs ∨ w.heap.size ≤ b) → Kept (fun b => ¬ (b ∈ bs) ∧ b < w.heap.size) w w' →
                        Ext st.nx (st.nx + 1) e (upd e st.nx k') ∧ (SV.sl st.nx sz'' (.l 0) (addLen dlen slen)).R (upd e st.nx k') v ∧
                          At (upd e st.nx k') w' ((st.nx, (d'.cat c).entry sz'' ty) :: del st.hp n) Fr ∧ Kept Fr w w' := by
                      intro k' w' v bs' hrow' hv' hnd' hb' hk'
                      have hx : Ext st.nx (st.nx + 1) e (upd e st.nx k') := Ext.upd hfree (Nat.le_refl _) (by simp)
                      exact ⟨hx, hv', (hat'.mono hx).put hk' (fin k' w' bs' hrow') hnd' hb' hbf⟩
                    have hdv := hd
                    simp only [SV.R] at hdv
                    obtain ⟨k, hk, hkk⟩ := hdv
                    rcases hsrc with ⟨hz, rfl⟩ | ⟨a, cap, news, rfl, hn1, hn2, hn3, hn4⟩
                    · -- nothing comes behind
                      have hvd : ∃ base cap, vd = .slice base dlen.val cap ∧ dlen.val ≤ cap := by
                        rcases hkk with ⟨_, h1, _, rfl⟩ | ⟨_, h1, o, _, rfl⟩
                        · exact ⟨none, 0, by rw [h1], by omega⟩
                        · exact ⟨_, _, rfl, by simp only [LN.val_l] at h1 ⊢; omega⟩
                      obtain ⟨base, cap, rfl, hcap⟩ := hvd
                      have hrow' : rowOk (upd e st.nx k) w st.nx sz'' (dlen.val + slen.val) (catF d.f c.f dlen.val) ty bs := by
                        have hx : Ext st.nx (st.nx + 1) e (upd e st.nx k) := Ext.upd hfree (Nat.le_refl _) (by simp)
                        obtain ⟨k0, h1, h2⟩ := hrow.mono hx.up
                        rw [hx.up _ _ hk] at h1
                        cases h1
                        refine ⟨k, upd_same _ _ _, ?_⟩
                        rcases h2 with ⟨g1, g2, g3⟩ | ⟨g1, g2, g3, g3m, cc, g4, g5, g6⟩
                        · exact .inl ⟨g1, g2, by omega⟩
                        · refine .inr ⟨g1, g2, by omega, g3m, cc, g4, g5, fun i j hi hj => ?_⟩
                          obtain ⟨v, g7, g8⟩ := g6 i j (by omega) hj
                          refine ⟨v, g7, ?_⟩
                          unfold catF
                          rw [if_pos (by omega)]
                          exact g8
                      have hv' : (SV.sl st.nx sz'' (.l 0) (addLen dlen slen)).R (upd e st.nx k) (.slice base dlen.val cap) := by
                        simp only [SV.R]
                        refine ⟨k, upd_same _ _ _, ?_⟩
                        rw [addLen_val, hz, Nat.add_zero]
                        exact hkk
                      exact ⟨_, w, _, append_none ho w hcap, close k w _ bs hrow' hv' hnd (fun b hb => .inl hb) (Kept.refl _ _)⟩
                    · have hkk' : (dlen.val = 0 ∧ vd = .slice none 0 0) ∨ (∃ k, e n = some k ∧ k.ν = false ∧ dlen.val ≤ k.κ ∧ vd = .slice (some ⟨k.b, 0, none⟩) dlen.val k.κ ∧ rowOk e w n sz'' d.len d.f ty bs ∧ dlen.val ≤ d.len) := by
                        rcases hkk with ⟨_, h1, _, rfl⟩ | ⟨h0, h1, o, h2, rfl⟩
                        · exact .inl ⟨h1, rfl⟩
                        · simp only [LN.val_l] at h1 h2
                          have : o = 0 := by omega
                          subst this
                          exact .inr ⟨k, hk, h0, by omega, by simp [LN.val_l], hrow, p1⟩
                      obtain ⟨v', w', k', bs', r1, r2, r3, r4, r5, r6⟩ := append_some (ty := ty') ho hkk' hfree (a := a) (c := cap) hn1 hn2 hn3 hn4 hbytes hmax (addLen dlen slen) (addLen_val _ _)
                      exact ⟨_, w', v', r1, close k' w' v' bs' r2 r3 r4 r5 r6⟩
                  · cases h
                · cases h
              · cases h
            · cases h
          · cases h
        · -- onto nil
          cases h
          refine ⟨⟨⟨_ :: _ :: ps, rfl⟩, by simp⟩, fun hp e w Fr vd vs ty' hd hsv hat hfree => ?_⟩
          have hbytes := hp _ (List.mem_cons_self)
          have hmax := hp _ (List.mem_cons_of_mem _ (List.mem_cons_self))
          have hps : ∀ p ∈ ps, p := fun p hpp => hp p (by simp [hpp])
          obtain ⟨hcl1, hcf, hsrc⟩ := src_cells hs hps hcl ho.pos hat hsv
          simp only [SV.R] at hd
          subst hd
          have a'' : At e w st.hp (fun b => Fr b ∨ b ∈ ([] : List Nat)) := by
            obtain ⟨bs, h1, h2, h3⟩ := hat.ex
            exact ⟨⟨bs, h1, h2, fun b hb => by simpa using h3 b hb⟩, fun b hb => hat.fl b (by simpa using hb)⟩
          have close : ∀ (k' : Blk) (w' : World) (v : Value) (bs' : List Nat), rowOk (upd e st.nx k') w' st.nx sz slen.val c.f elem bs' →
              (SV.sl st.nx sz (.l 0) (addLen (.l 0) slen)).R (upd e st.nx k') v → bs'.Nodup → (∀ b ∈ bs', b ∈ ([] : List Nat) ∨ w.heap.size ≤ b) → Kept (fun b => ¬ (b ∈ ([] : List Nat)) ∧ b < w.heap.size) w w' →
              Ext st.nx (st.nx + 1) e (upd e st.nx k') ∧ (SV.sl st.nx sz (.l 0) (addLen (.l 0) slen)).R (upd e st.nx k') v ∧
                At (upd e st.nx k') w' ((st.nx, c.entry sz elem) :: st.hp) Fr ∧ Kept Fr w w' := by
            intro k' w' v bs' hrow' hv' hnd' hb' hk'
            have hx : Ext st.nx (st.nx + 1) e (upd e st.nx k') := Ext.upd hfree (Nat.le_refl _) (by simp)
            exact ⟨hx, hv', (a''.mono hx).put hk' (Cont.entry_ok hcf (hrow'.congr hcl1 fun _ _ _ _ _ h => h)) hnd' hb' (by simp)⟩
          rcases hsrc with ⟨hz, rfl⟩ | ⟨a, cap, news, rfl, hn1, hn2, hn3, hn4⟩
          · refine ⟨_, w, _, append_none ho w (Nat.le_refl 0), close ⟨0, 0, true⟩ w _ [] ⟨_, upd_same _ _ _, .inl ⟨rfl, rfl, hz⟩⟩ ?_ (by simp) (by simp) (Kept.refl _ _)⟩
            simp only [SV.R]
            refine ⟨_, upd_same _ _ _, .inl ⟨rfl, by rw [addLen_val, hz]; rfl, ?_⟩⟩
            simp [LN.val_l]
          · obtain ⟨v', w', k', bs', r1, r2, r3, r4, r5, r6⟩ := append_some (ty := ty') (n := 0) (len := 0) (f := fun _ _ => .any) (bs := []) (dlen := .l 0) ho (.inl ⟨rfl, rfl⟩) hfree (a := a) (c := cap) hn1 hn2 hn3 hn4
              (by simpa [LN.val_l] using hbytes) (by simpa [LN.val_l] using hmax) (addLen (.l 0) slen) (addLen_val _ _)
            refine ⟨_, w', v', r1, close k' w' v' bs' (r2.congr (by simp [LN.val_l]) fun i j hi hj v hv => ?_) r3 r4 r5 r6⟩
            simpa [catF, LN.val_l] using hv
        · cases h
      · cases h
    · cases h
  · cases h

end Go.Eng
