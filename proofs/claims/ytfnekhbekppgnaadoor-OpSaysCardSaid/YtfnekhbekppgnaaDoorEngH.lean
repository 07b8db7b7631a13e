import Derived.Test.YtfnekhbekppgnaaDoorEngG
namespace Go.Eng
variable {P : Program}

/-! Addresses, parts, conversions. -/

def fieldOf (P : Program) (t : TypeId) (f : Nat) : Option Field :=
  match P.underlying t with
  | some (.struct fs) => fs[f]?
  | _ => none

def stepFieldAddr (P : Program) (t : TypeId) (a : SV) (f : Nat) : Option SV :=
  match a, fieldOf P t f with
  | .ptr n i sz j, some fd => match sizeT P fd.type with
    | some (_ + 1) => some (.ptr n i sz (j + fd.offset))
    | _ => none
  | _, _ => none

theorem stepFieldAddr_ok {t : TypeId} {a s : SV} {f : Nat} (h : stepFieldAddr P t a f = some s) {e : Env} (w : World) {v : Value} (hv : a.R e v) :
    ∃ u, (Instr.fieldAt t v f).run P w = .ok u w ∧ s.R e u := by
  unfold stepFieldAddr at h
  split at h
  · rename_i n i sz j fd hf
    split at h
    · rename_i c hc
      cases h
      unfold fieldOf at hf
      split at hf
      · rename_i fs hu
        simp only [SV.R] at hv
        obtain ⟨k, hk, rfl⟩ := hv
        refine ⟨.pointer (some ⟨k.b, i.val * sz + (j + fd.offset), none⟩), ?_, by simp only [SV.R]; exact ⟨k, hk, rfl⟩⟩
        simp [Instr.fieldAt, run_underlying hu, hf, Instr.sureAddr, fieldPlace, run_sizeT hc, add_none, Nat.add_assoc]
      · cases hf
    · cases h
  · cases h

def stepField (P : Program) (t : TypeId) (a : SV) (f : Nat) : Option SV :=
  match a, fieldOf P t f with
  | .agg l, some fd => partS P fd.type l fd.offset
  | .con (.agg u), some fd => partS P fd.type (u.toList.map .con) fd.offset
  | _, _ => none

theorem stepField_ok {t : TypeId} {a s : SV} {f : Nat} (h : stepField P t a f = some s) {e : Env} (w : World) {v : Value} (hv : a.R e v) :
    ∃ u, (Instr.field t v f).run P w = .ok u w ∧ s.R e u := by
  have key : ∀ {l : List SV} {u : List Value} {fd : Field}, fieldOf P t f = some fd → partS P fd.type l fd.offset = some s → SV.RL e l u →
      ∃ r, (Instr.field t (.agg u.toArray) f).run P w = .ok r w ∧ s.R e r := by
    intro l u fd hf hp hu
    obtain ⟨r, h1, h2⟩ := partS_ok hp w hu
    refine ⟨r, ?_, h2⟩
    unfold fieldOf at hf
    split at hf
    · rename_i fs hu'
      simp [Instr.field, run_underlying hu', hf, asAgg, h1]
    · cases hf
  unfold stepField at h
  split at h
  · rename_i l fd hf
    simp only [SV.R] at hv
    obtain ⟨u, rfl, hu⟩ := hv
    exact key hf h hu
  · rename_i u fd hf
    simp only [SV.R] at hv
    subst hv
    have := key hf h (RL_con u.toList)
    simpa using this
  · cases h

/-- The place of an element: its slice's offset more. -/
def addLN (off : LN) (i : Nat) (lit : Bool) : LN :=
  match off, lit with
  | .l o, true => .l (o + i)
  | .l 0, false => .o i
  | off, _ => .o (off.val + i)

theorem addLN_val (off : LN) (i : Nat) (lit : Bool) : (addLN off i lit).val = off.val + i := by
  unfold addLN
  split <;> simp [LN.val]

def stepIndexAddr (P : Program) (t : TypeId) (x ix : SV) (st : St) : Option (SV × St) :=
  match P.underlying t, x, numOf ix with
  | some (.slice elem), .sl n sz off len, some (_, i, lit) =>
    if sizeT P elem = some sz then
      match lit, len.lit with
      | true, some m => if 0 ≤ i ∧ i < (m : Int) then some (.ptr n (addLN off i.toNat true) sz 0, st) else none
      | _, _ => some (.ptr n (addLN off i.toNat lit) sz 0, st.add [0 ≤ i ∧ i < (len.val : Int)])
    else none
  | some (.array m elem), .ptr n i' sz j, some (_, i, lit) =>
    match sizeT P elem with
    | some c => match lit, st.orc with
      | true, _ => if 0 ≤ i ∧ i < (m : Int) then some (.ptr n i' sz (j + i.toNat * c), st) else none
      | false, .idx q :: orc => if q < m then some (.ptr n i' sz (j + q * c), { (st.add [i = (q : Int)]) with orc := orc }) else none
      | false, _ => none
    | none => none
  | _, _, _ => none

theorem stepIndexAddr_ok {t : TypeId} {x ix s : SV} {st st' : St} (h : stepIndexAddr P t x ix st = some (s, st')) :
    Mono st st' ∧ st'.hp = st.hp ∧ st'.nx = st.nx ∧ ((∀ p ∈ st'.cs, p) → ∀ {e : Env} (w : World) {v i : Value}, x.R e v → ix.R e i → ∃ u, (Instr.indexAt t v i).run P w = .ok u w ∧ s.R e u) := by
  have sl : ∀ {elem : TypeId} {n sz : Nat} {off len : LN} {k : IntKind} {i : Int} {lit lit' : Bool}, P.underlying t = some (.slice elem) → x = .sl n sz off len → numOf ix = some (k, i, lit) →
      sizeT P elem = some sz → (0 ≤ i ∧ i < (len.val : Int)) → ∀ {e : Env} (w : World) {v iv : Value}, x.R e v → ix.R e iv →
      ∃ u, (Instr.indexAt t v iv).run P w = .ok u w ∧ (SV.ptr n (addLN off i.toNat lit') sz 0).R e u := by
    intro elem n sz off len k i lit lit' hu hx hn hs hb e w v iv hv hi
    subst hx
    rw [numOf_ok hi hn]
    simp only [SV.R] at hv
    obtain ⟨kb, hk, ⟨_, h2, _⟩ | ⟨h1, h2, o, h3, rfl⟩⟩ := hv
    · omega
    · have ho : o = off.val := by
        rcases h3 with h3 | h3
        · exact h3
        · omega
      subst ho
      refine ⟨.pointer (some ⟨kb.b, off.val * sz + i.toNat * sz, none⟩), ?_, ?_⟩
      · simp only [Instr.indexAt, asIntOf, Sem.run_bind, Sem.run_pure, Result.andThen_ok, run_underlying hu]
        simp [hb, run_sizeT hs, add_none]
      · simp only [SV.R, addLN_val]
        exact ⟨kb, hk, by rw [Nat.add_mul]; simp⟩
  have ar : ∀ {m : Nat} {elem : TypeId} {n sz j : Nat} {i' : LN} {k : IntKind} {i : Int} {lit : Bool} {c q : Nat}, P.underlying t = some (.array m elem) → x = .ptr n i' sz j → numOf ix = some (k, i, lit) →
      sizeT P elem = some c → i = (q : Int) → q < m → ∀ {e : Env} (w : World) {v iv : Value}, x.R e v → ix.R e iv →
      ∃ u, (Instr.indexAt t v iv).run P w = .ok u w ∧ (SV.ptr n i' sz (j + q * c)).R e u := by
    intro m elem n sz j i' k i lit c q hu hx hn hs hq hqm e w v iv hv hi
    subst hx; subst hq
    rw [numOf_ok hi hn]
    simp only [SV.R] at hv
    obtain ⟨kb, hk, rfl⟩ := hv
    refine ⟨.pointer (some ⟨kb.b, i'.val * sz + (j + q * c), none⟩), ?_, by simp only [SV.R]; exact ⟨kb, hk, rfl⟩⟩
    have hb : (0 : Int) ≤ (q : Int) ∧ (q : Int) < (m : Int) := by omega
    simp only [Instr.indexAt, asIntOf, Sem.run_bind, Sem.run_pure, Result.andThen_ok, run_underlying hu, Instr.sureAddr]
    simp [hqm, run_sizeT hs, add_none, Nat.add_assoc]
  unfold stepIndexAddr at h
  split at h
  · rename_i elem n sz off len k i lit hu hn
    split at h
    · rename_i hs
      split at h
      · rename_i m hm
        split at h
        · rename_i hb
          cases h
          refine ⟨Mono.refl _, rfl, rfl, fun _ e w v iv hv hi => sl hu rfl hn hs ?_ w hv hi⟩
          rw [LN.lit_val hm]
          exact hb
        · cases h
      · cases h
        exact ⟨Mono.add _ _, rfl, rfl, fun hp e w v iv hv hi => sl hu rfl hn hs (all_add hp _ (List.mem_singleton.2 rfl)) w hv hi⟩
    · cases h
  · rename_i m elem n i' sz j k i lit hu hn
    split at h
    · rename_i c hs
      split at h
      · split at h
        · rename_i hb
          cases h
          exact ⟨Mono.refl _, rfl, rfl, fun _ e w v iv hv hi => ar hu rfl hn hs (by omega) (by omega) w hv hi⟩
        · cases h
      · rename_i q orc ho
        split at h
        · rename_i hq
          cases h
          exact ⟨⟨⟨_, rfl⟩, Nat.le_refl _⟩, rfl, rfl, fun hp e w v iv hv hi => ar hu rfl hn hs (hp _ (by simp [St.add])) hq w hv hi⟩
        · cases h
      · cases h
    · cases h
  · cases h

def stepIndex (P : Program) (t : TypeId) (x ix : SV) : Option SV :=
  match P.underlying t, x, numOf ix with
  | some (.array m elem), .agg l, some (_, i, true) => match sizeT P elem with
    | some c => if 0 ≤ i ∧ i < (m : Int) then partS P elem l (i.toNat * c) else none
    | none => none
  | _, _, _ => none

theorem stepIndex_ok {t : TypeId} {x ix s : SV} (h : stepIndex P t x ix = some s) {e : Env} (w : World) {v i : Value} (hv : x.R e v) (hi : ix.R e i) :
    ∃ u, (Instr.index t v i).run P w = .ok u w ∧ s.R e u := by
  unfold stepIndex at h
  split at h
  · rename_i m elem l k i' hu hn
    split at h
    · rename_i c hs
      split at h
      · rename_i hb
        rw [numOf_ok hi hn]
        simp only [SV.R] at hv
        obtain ⟨u, rfl, hul⟩ := hv
        obtain ⟨r, h1, h2⟩ := partS_ok h w hul
        refine ⟨r, ?_, h2⟩
        simp only [Instr.index, asIntOf, Sem.run_bind, Sem.run_pure, Result.andThen_ok, run_underlying hu]
        simp [hb, run_sizeT hs, h1]
      · cases h
    · cases h
  · cases h

def stepExtract (t : SV) (i : Nat) : Option SV :=
  match t with
  | .tup l => l[i]?
  | _ => none

theorem stepExtract_ok {t s : SV} {i : Nat} (h : stepExtract t i = some s) {e : Env} (w : World) {v : Value} (hv : t.R e v) :
    ∃ u, (Instr.extract v i).run P w = .ok u w ∧ s.R e u := by
  unfold stepExtract at h
  split at h
  · simp only [SV.R] at hv
    obtain ⟨u, rfl, hu⟩ := hv
    obtain ⟨r, h1, h2⟩ := RL_get hu h
    exact ⟨r, by simp [Instr.extract, h1], h2⟩
  · cases h

def stepUn (op : UnOp) (x : SV) : Option (SV × List Prop) :=
  match op with
  | .not => match boolOf x with
    | some (b, l) => some (mkBool l (!b), [])
    | none => none
  | .neg => match numOf x with
    | some (k, n, l) => some (mkRes l false k (0 - n))
    | none => none
  | _ => none

theorem stepUn_ok {op : UnOp} {x s : SV} {ps : List Prop} (h : stepUn op x = some (s, ps)) (hp : ∀ p ∈ ps, p) {e : Env} (w : World) {v : Value} (hv : x.R e v) :
    ∃ u, (Op.unary op v).run P w = .ok u w ∧ s.R e u := by
  unfold stepUn at h
  cases op <;> simp only at h
  case not =>
    split at h
    · rename_i b l hb
      cases h
      rw [boolOf_ok hv hb]
      exact ⟨_, by simp [Op.unary], R_mkBool e _ _⟩
    · cases h
  case neg =>
    split at h
    · rename_i k n l hb
      rw [numOf_ok hv hb]
      exact ⟨_, by simp [Op.unary, Op.intArith], mkRes_ok' (Option.some.inj h) hp⟩
    · cases h
  all_goals cases h

def stepConv (P : Program) (src dst : TypeId) (x : SV) (wr : Bool) : Option (SV × List Prop) :=
  match P.underlying src, P.underlying dst, numOf x with
  | some _, some (.int k), some (_, n, l) => some (mkRes l wr k n)
  | _, _, _ => none

theorem stepConv_ok {src dst : TypeId} {x s : SV} {wr : Bool} {ps : List Prop} (h : stepConv P src dst x wr = some (s, ps)) (hp : ∀ p ∈ ps, p) {e : Env} (w : World) {v : Value} (hv : x.R e v) :
    ∃ u, (convert src dst v).run P w = .ok u w ∧ s.R e u := by
  unfold stepConv at h
  split at h
  · rename_i d k k' n l h1 h2 hn
    rw [numOf_ok hv hn]
    refine ⟨_, ?_, mkRes_ok' (Option.some.inj h) hp⟩
    simp [convert, run_underlying h1, run_underlying h2, Conv.intToInt]
  · cases h

def stepNil (x : SV) : Option SV :=
  match x with
  | .ptr _ _ _ _ => some x
  | .func (.func _) _ _ => some x
  | _ => none

theorem stepNil_ok {x s : SV} (h : stepNil x = some s) {e : Env} (w : World) {v : Value} (hv : x.R e v) (o : Oper) (X : Operand) (ho : o.op = .nilCheck X) (ρ : Operand → Value) (hρ : ρ X = v) :
    (execOp ρ o).run P w = .ok (.value v) w ∧ s.R e v := by
  unfold stepNil at h
  split at h
  · cases h
    refine ⟨?_, hv⟩
    simp only [SV.R] at hv
    obtain ⟨k, _, rfl⟩ := hv
    simp [execOp, ho, hρ]
  · cases h
    refine ⟨?_, hv⟩
    simp only [SV.R] at hv
    obtain ⟨u, v, rfl, _, _⟩ := hv
    simp [execOp, ho, hρ]
  · cases h

/-! Literals. -/

def fillS (place : Nat → Option (Nat × Nat)) (cells : List SV) : List (Nat × SV) → Option (List SV)
  | [] => some cells
  | (i, s) :: rest => match place i, cellsOf s with
    | some (off, size), some cs => if cs.length = size ∧ off + size ≤ cells.length then fillS place (splice cells off cs) rest else none
    | _, _ => none

theorem foldl_set_splice (off : Nat) : ∀ (l : List Value) (k : Nat) (cs : Array Value), off + k + l.length ≤ cs.size →
    ((l.zipIdx k).foldl (fun (cs : Array Value) (x : Value × Nat) => cs.setIfInBounds (off + x.2) x.1) cs).toList = splice cs.toList (off + k) l
  | [], k, cs, _ => by simp [splice]
  | v :: l, k, cs, h => by
    have ih := foldl_set_splice off l (k + 1) (cs.setIfInBounds (off + k) v) (by simp at h ⊢; omega)
    simp only [List.zipIdx_cons, List.foldl_cons, ih]
    apply List.ext_getElem?
    intro x
    simp only [List.length_cons] at h
    rw [splice_get (by simp; omega), splice_get (by simp; omega)]
    simp only [List.length_cons, Array.toList_setIfInBounds]
    by_cases h1 : x = off + k
    · subst h1
      rw [if_neg (by omega), if_pos (by omega), List.getElem?_set_self (by simp; omega)]
      simp
    · by_cases h2 : off + (k + 1) ≤ x ∧ x < off + (k + 1) + l.length
      · rw [if_pos h2, if_pos (by omega)]
        rw [show x - (off + k) = (x - (off + (k + 1))) + 1 by omega]
        simp
      · rw [if_neg h2, if_neg (by omega), List.getElem?_set_ne (by omega)]

theorem fillS_ok {e : Env} {place : Nat → Option (Nat × Nat)} : ∀ {parts : List (Nat × SV)} {pv : List (Nat × Value)} {cells out : List SV} {u : List Value},
    fillS place cells parts = some out → SV.RL e cells u → parts.map Prod.fst = pv.map Prod.fst → SV.RL e (parts.map Prod.snd) (pv.map Prod.snd) →
    ∃ r, Instr.fill place u.toArray pv = some r ∧ SV.RL e out r.toList
  | [], [], cells, out, u, h, hu, _, _ => by
    simp only [fillS, Option.some.injEq] at h
    subst h
    exact ⟨u.toArray, rfl, by simpa using hu⟩
  | (i, s) :: rest, (i', v) :: pv, cells, out, u, h, hu, hm, hr => by
    simp only [List.map_cons, List.cons.injEq] at hm
    obtain ⟨hi, hm⟩ := hm
    subst hi
    simp only [List.map_cons, SV.RL] at hr
    unfold fillS at h
    split at h
    · rename_i off size cs hp hc
      split at h
      · rename_i hl
        have hcs := cellsOf_ok hr.1 hc
        have hlen := RL_length hcs
        have hlu := RL_length hu
        have hfold := foldl_set_splice off v.cells.toList 0 u.toArray (by simp at hlen ⊢; omega)
        have hsp : SV.RL e (splice cells off cs) (splice u off v.cells.toList) := RL_splice hu hcs
        obtain ⟨r, h1, h2⟩ := fillS_ok h hsp hm hr.2
        refine ⟨r, ?_, h2⟩
        unfold Instr.fill
        rw [hp]
        simp only
        have hsize : v.cells.size = size := by simp at hlen; omega
        rw [if_neg (by simp; omega)]
        rw [← h1]
        congr 1
        apply Array.ext'
        rw [← Array.foldl_toList, Array.toList_zipIdx]
        have := hfold
        simp only [Nat.add_zero] at this
        rw [this]
      · cases h
    · cases h
  | [], _ :: _, _, _, _, _, _, hm, _ => by simp at hm
  | _ :: _, [], _, _, _, _, _, hm, _ => by simp at hm

def placesOf (P : Program) : List Field → Option (List (Nat × Nat))
  | [] => some []
  | f :: fs => match sizeT P f.type, placesOf P fs with
    | some c, some l => some ((f.offset, c) :: l)
    | _, _ => none

theorem placesOf_ok {fs : List Field} {l : List (Nat × Nat)} (h : placesOf P fs = some l) (w : World) :
    (fs.mapM fun f => (Prod.mk f.offset <$> sizeOf f.type : Sem (Nat × Nat))).run P w = .ok l w := by
  induction fs generalizing l with
  | nil => simp only [placesOf, Option.some.injEq] at h; subst h; simp
  | cons f fs ih =>
    unfold placesOf at h
    split at h
    · rename_i c l' hc hl
      cases h
      simp [List.mapM_cons, run_sizeT hc, ih hl]
    · cases h

def stepBuild (P : Program) (t : TypeId) (parts : List (Nat × SV)) : Option SV :=
  match zeroT P t, P.underlying t with
  | some z, some (.struct fs) => match placesOf P fs.toList with
    | some l => match fillS (fun i => l.toArray[i]?) (z.cells.toList.map .con) parts with
      | some out => some (.agg out)
      | none => none
    | none => none
  | some z, some (.array _ elem) => match sizeT P elem with
    | some c => match fillS (fun i => some (i * c, c)) (z.cells.toList.map .con) parts with
      | some out => some (.agg out)
      | none => none
    | none => none
  | _, _ => none

theorem stepBuild_ok {t : TypeId} {parts : List (Nat × SV)} {s : SV} (h : stepBuild P t parts = some s) {e : Env} (w : World) {pv : Array (Nat × Value)}
    (hm : parts.map Prod.fst = pv.toList.map Prod.fst) (hr : SV.RL e (parts.map Prod.snd) (pv.toList.map Prod.snd)) :
    ∃ u, (Instr.build t pv).run P w = .ok u w ∧ s.R e u := by
  unfold stepBuild at h
  split at h
  · rename_i z fs hz hu
    split at h
    · rename_i l hl
      split at h
      · rename_i out hf
        cases h
        obtain ⟨r, h1, h2⟩ := fillS_ok hf (RL_con (e := e) z.cells.toList) hm hr
        refine ⟨.agg r, ?_, by simp only [SV.R]; exact ⟨r.toList, by simp, h2⟩⟩
        have hpl : (fs.mapM fun f => (Prod.mk f.offset <$> sizeOf f.type : Sem (Nat × Nat))).run P w = .ok l.toArray w := by
          rw [Array.mapM_eq_mapM_toList, Sem.run_map, placesOf_ok hl w]
          rfl
        simp only [Array.toArray_toList] at h1
        simp [Instr.build, run_zeroT hz, run_underlying hu]
        rw [hpl]
        simp at h1
        simp [h1]
      · cases h
    · cases h
  · rename_i z m elem hz hu
    split at h
    · rename_i c hc
      split at h
      · rename_i out hf
        cases h
        obtain ⟨r, h1, h2⟩ := fillS_ok hf (RL_con (e := e) z.cells.toList) hm hr
        refine ⟨.agg r, ?_, by simp only [SV.R]; exact ⟨r.toList, by simp, h2⟩⟩
        simp only [Array.toArray_toList] at h1
        simp [Instr.build, run_zeroT hz, run_underlying hu, run_sizeT hc, h1]
      · cases h
    · cases h
  · cases h

end Go.Eng
