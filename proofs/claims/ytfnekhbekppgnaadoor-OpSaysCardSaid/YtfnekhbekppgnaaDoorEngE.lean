import Derived.Test.YtfnekhbekppgnaaDoorEngD
namespace Go.Eng
variable {P : Program}

/-! Memory: load, store, new blocks. -/

theorem At.load {e : Env} {w : World} {σ : Heap} {Fr : Nat → Prop} (a : At e w σ Fr) {n : Nat} {E : Entry} (hl : look σ n = some E) {k : Blk} (hk : e n = some k)
    {i : LN} {sz j cnt : Nat} {ss : List SV} {ps : List Prop} (h : readCells E i sz j cnt = some (ss, ps)) (hp : ∀ p ∈ ps, p) :
    ∃ u : List Value, SV.RL e ss u ∧ u.length = cnt ∧ ∀ x, x < cnt → w.cell? ⟨k.b, i.val * sz + j + x, none⟩ = u[x]? := by
  obtain ⟨bs, h1, _⟩ := a.take hl
  exact readCells_ok h hp h1 hk

theorem At.store {e : Env} {w : World} {σ : Heap} {Fr : Nat → Prop} (a : At e w σ Fr) {n : Nat} {E E' : Entry} (hl : look σ n = some E) {k : Blk} (hk : e n = some k)
    {i : LN} {sz j : Nat} {ss : List SV} {ps : List Prop} {nu : List Value} (h : writeCells E i sz j ss = some (E', ps)) (hp : ∀ p ∈ ps, p)
    (hn : SV.RL e ss nu) (h1 : ∀ v ∈ nu, v.oneCell' = true) :
    ∃ w', (storeCells ⟨k.b, i.val * sz + j, none⟩ nu).run P w = .ok () w' ∧ At e w' ((n, E') :: del σ n) Fr ∧ Kept Fr w w' := by
  obtain ⟨bs, hE, hnd, hf, hat⟩ := a.take hl
  obtain ⟨w', r1, r2, r3, r4, r5⟩ := writeCells_ok (P := P) h hp hE hk hn h1
  refine ⟨w', r1, hat.put ⟨fun b hb => r4 b fun he => hb.1 (by rw [r3, he]; simp), by omega, r5.2.1, r5.2.2⟩ r2 hnd (fun b hb => .inl hb) hf⟩

def upd (e : Env) (n : Nat) (k : Blk) : Env := fun m => if m = n then some k else e m

theorem upd_same (e : Env) (n : Nat) (k : Blk) : upd e n k n = some k := by simp [upd]

theorem Ext.upd {e : Env} {n lo hi : Nat} {k : Blk} (h : Free lo hi e) (h1 : lo ≤ n) (h2 : n < hi) : Ext lo hi e (upd e n k) :=
  ⟨fun m k' hm => by
    unfold Eng.upd
    by_cases hmn : m = n
    · subst hmn; rw [h m h1 h2] at hm; cases hm
    · rw [if_neg hmn]; exact hm, fun m hm => by
    unfold Eng.upd
    rw [if_neg (by omega)]⟩

/-- A new block. -/
theorem At.new {e : Env} {w : World} {σ : Heap} {Fr : Nat → Prop} (a : At e w σ Fr) {n : Nat} {k : Blk} {E : Entry} {c : Array Value} {ty : TypeId}
    (hfree : Free n (n + 1) e) (hE : E.ok (Eng.upd e n k) (w.alloc (.cells c ty (0, 0))) n [w.heap.size]) :
    At (Eng.upd e n k) (w.alloc (.cells c ty (0, 0))) ((n, E) :: σ) Fr ∧ Kept Fr w (w.alloc (.cells c ty (0, 0))) := by
  have hx : Ext n (n + 1) e (Eng.upd e n k) := Ext.upd hfree (Nat.le_refl _) (by omega)
  have a' := a.mono hx
  have a'' : At (Eng.upd e n k) w σ (fun b => Fr b ∨ b ∈ ([] : List Nat)) := by
    obtain ⟨bs, h1, h2, h3⟩ := a'.ex
    exact ⟨⟨bs, h1, h2, fun b hb => by simpa using h3 b hb⟩, fun b hb => a'.fl b (by simpa using hb)⟩
  refine a''.put ⟨fun b hb => heap_alloc_old w _ hb.2, by simp, rfl, rfl⟩ hE (by simp) (fun b hb => .inr (by simp at hb; omega)) (by simp)

theorem At.newBlk {e : Env} {w : World} {σ : Heap} {Fr : Nat → Prop} (a : At e w σ Fr) {n : Nat} {cs : List SV} {u : List Value} {ty : TypeId}
    (hfree : Free n (n + 1) e) (hu : SV.RL e cs u) :
    At (Eng.upd e n ⟨w.heap.size, 0, false⟩) (w.alloc (.cells u.toArray ty (0, 0))) ((n, .blk cs ty) :: σ) Fr ∧ Kept Fr w (w.alloc (.cells u.toArray ty (0, 0))) :=
  a.new hfree ⟨_, upd_same _ _ _, rfl, u, heap_alloc_new w _, SV.RL_mono (Ext.upd hfree (Nat.le_refl _) (by omega)).up _ _ hu, rfl⟩

/-- A new row: its cells told one by one. -/
theorem At.newRow {e : Env} {w : World} {σ : Heap} {Fr : Nat → Prop} (a : At e w σ Fr) {n : Nat} {E : Entry} {sz len : Nat} {f : Nat → Nat → SV} {ty : TypeId} {u : List Value}
    (hE : ∀ e w bs, rowOk e w n sz len f ty bs → E.ok e w n bs)
    (hfree : Free n (n + 1) e) (hlen : u.length = len * sz) (hm : len ≤ maxLen) (hu : ∀ i j, i < len → j < sz → ∃ v, u[i * sz + j]? = some v ∧ (f i j).R e v) :
    At (Eng.upd e n ⟨w.heap.size, len, false⟩) (w.alloc (.cells u.toArray ty (0, 0))) ((n, E) :: σ) Fr ∧ Kept Fr w (w.alloc (.cells u.toArray ty (0, 0))) :=
  a.new hfree (hE _ _ _ ⟨_, upd_same _ _ _, .inr ⟨rfl, rfl, Nat.le_refl _, hm, u.toArray, heap_alloc_new w _, by simpa using hlen, fun i j hi hj => by
    obtain ⟨v, h1, h2⟩ := hu i j hi hj
    exact ⟨v, by simpa using h1, SV.R_mono (Ext.upd hfree (Nat.le_refl _) (by omega)).up _ _ h2⟩⟩⟩)

/-! Types. -/

def isAggT (P : Program) (t : TypeId) : Option Bool :=
  match P.underlying t with
  | some (.struct _) => some true
  | some (.array _ _) => some true
  | some _ => some false
  | none => none

def sizeT (P : Program) (t : TypeId) : Option Nat := (P.info? t).map (·.size)
def zeroT (P : Program) (t : TypeId) : Option Value := (P.info? t).bind (·.zero)

theorem run_isAggT {t : TypeId} {b : Bool} (h : isAggT P t = some b) (w : World) : (isAgg t).run P w = .ok b w := by
  unfold isAggT at h
  cases hu : P.underlying t with
  | none => rw [hu] at h; cases h
  | some d =>
    rw [hu] at h
    cases d <;> simp at h <;> subst h <;> simp [isAgg, run_underlying hu]

theorem run_sizeT {t : TypeId} {n : Nat} (h : sizeT P t = some n) (w : World) : (sizeOf t).run P w = .ok n w := by
  unfold sizeT at h
  cases hi : P.info? t with
  | none => rw [hi] at h; cases h
  | some i => rw [hi] at h; simp at h; subst h; simp [sizeOf, typeInfo, hi]

theorem run_zeroT {t : TypeId} {v : Value} (h : zeroT P t = some v) (w : World) : (zeroValue t).run P w = .ok v w := by
  unfold zeroT at h
  cases hi : P.info? t with
  | none => rw [hi] at h; cases h
  | some i => rw [hi] at h; simp at h; simp [zeroValue, typeInfo, hi, h]

theorem add_none (b o n : Nat) : (⟨b, o, none⟩ : Addr).add n = ⟨b, o + n, none⟩ := by unfold Addr.add; split <;> simp_all

/-! Loads and stores. -/

def stepLoad (P : Program) (t : TypeId) (a : SV) (st : St) : Option (SV × St) :=
  match a with
  | .ptr n i sz j => match look st.hp n with
    | some E => match isAggT P t with
      | some false => match readCells E i sz j 1 with
        | some ([s], ps) => some (s, st.add ps)
        | _ => none
      | some true => match sizeT P t with
        | some c => match readCells E i sz j c with
          | some (ss, ps) => some (.agg ss, st.add ps)
          | none => none
        | none => none
      | none => none
    | none => none
  | _ => none

theorem stepLoad_ok {t : TypeId} {a : SV} {st st' : St} {s : SV} (h : stepLoad P t a st = some (s, st')) :
    Mono st st' ∧ st'.hp = st.hp ∧ st'.nx = st.nx ∧ ((∀ p ∈ st'.cs, p) → ∀ {e w Fr v}, a.R e v → At e w st.hp Fr → ∃ u, (Instr.loadAt t v).run P w = .ok u w ∧ s.R e u) := by
  unfold stepLoad at h
  cases a <;> try cases h
  rename_i n i sz j
  simp only at h
  cases hl : look st.hp n with
  | none => rw [hl] at h; cases h
  | some E =>
  rw [hl] at h
  simp only at h
  cases hg : isAggT P t with
  | none => rw [hg] at h; cases h
  | some b =>
  rw [hg] at h
  cases b with
  | false =>
    simp only at h
    split at h
    · rename_i s' ps hr
      cases h
      refine ⟨Mono.add _ _, rfl, rfl, fun hp e w Fr v hv hat => ?_⟩
      simp only [SV.R] at hv
      obtain ⟨k, hk, rfl⟩ := hv
      obtain ⟨u, h1, h2, h3⟩ := hat.load hl hk hr (all_add hp)
      obtain ⟨x, rfl⟩ : ∃ x, u = [x] := by
        match u, h2 with
        | [x], _ => exact ⟨x, rfl⟩
      have := h3 0 (by omega)
      simp only [SV.RL] at h1
      refine ⟨x, ?_, h1.1⟩
      simp at this
      simp [Instr.loadAt, Instr.sureAddr, loadVar, run_isAggT hg, this]
    · cases h
  | true =>
    simp only at h
    cases hc : sizeT P t with
    | none => rw [hc] at h; cases h
    | some c =>
    rw [hc] at h
    simp only at h
    cases hr : readCells E i sz j c with
    | none => rw [hr] at h; cases h
    | some x =>
    obtain ⟨ss, ps⟩ := x
    rw [hr] at h
    cases h
    refine ⟨Mono.add _ _, rfl, rfl, fun hp e w Fr v hv hat => ?_⟩
    simp only [SV.R] at hv
    obtain ⟨k, hk, rfl⟩ := hv
    obtain ⟨u, h1, h2, h3⟩ := hat.load hl hk hr (all_add hp)
    refine ⟨.agg u.toArray, ?_, by simp only [SV.R]; exact ⟨u, rfl, h1⟩⟩
    have hrun := run_loadCells_list (P := P) w ⟨k.b, i.val * sz + j, none⟩ u (fun x v hx => by
      rw [add_none, h3 x (by rw [← h2]; exact (List.getElem?_eq_some_iff.1 hx).1), hx])
    rw [h2] at hrun
    simp [Instr.loadAt, Instr.sureAddr, loadVar, run_isAggT hg, run_sizeT hc, hrun]

def stepStore (P : Program) (t : TypeId) (a x : SV) (st : St) : Option (SV × St) :=
  match a with
  | .ptr n i sz j => match look st.hp n, cellsOf x, sizeT P t with
    | some E, some ss, some c => if ss.length = c ∧ ss.all cellLike = true then
        match writeCells E i sz j ss with
        | some (E', ps) => some (.con undef, { (st.add ps) with hp := (n, E') :: del st.hp n })
        | none => none
      else none
    | _, _, _ => none
  | _ => none

theorem RL_oneCell {e : Env} : ∀ {l : List SV} {u : List Value}, SV.RL e l u → l.all cellLike = true → ∀ v ∈ u, v.oneCell' = true
  | [], [], _, _ => by simp
  | s :: l, v :: u, h, hc => by
    simp only [SV.RL] at h
    simp only [List.all_cons, Bool.and_eq_true] at hc
    intro x hx
    rcases List.mem_cons.1 hx with rfl | hx
    · exact cellLike_ok h.1 hc.1
    · exact RL_oneCell h.2 hc.2 x hx
  | [], _ :: _, h, _ => by simp [SV.RL] at h
  | _ :: _, [], h, _ => by simp [SV.RL] at h

theorem stepStore_ok {t : TypeId} {a x : SV} {st st' : St} {s : SV} (h : stepStore P t a x st = some (s, st')) :
    Mono st st' ∧ st'.nx = st.nx ∧ s = .con undef ∧ ((∀ p ∈ st'.cs, p) → ∀ {e w Fr v y}, a.R e v → x.R e y → At e w st.hp Fr →
      ∃ w', (Instr.storeAt t v y).run P w = .ok () w' ∧ At e w' st'.hp Fr ∧ Kept Fr w w') := by
  unfold stepStore at h
  cases a <;> try cases h
  rename_i n i sz j
  simp only at h
  split at h
  · rename_i E ss c hl hx hc
    split at h
    · rename_i hcond
      obtain ⟨hlen, hall⟩ := hcond
      split at h
      · rename_i E' ps hw
        cases h
        refine ⟨⟨⟨ps, rfl⟩, Nat.le_refl _⟩, rfl, rfl, fun hp e w Fr v y hv hy hat => ?_⟩
        simp only [SV.R] at hv
        obtain ⟨k, hk, rfl⟩ := hv
        have hcs := cellsOf_ok hy hx
        obtain ⟨w', r1, r2⟩ := hat.store (P := P) hl hk hw (fun p hpp => hp p (by simp [St.add, hpp])) hcs (RL_oneCell hcs hall)
        refine ⟨w', ?_, r2⟩
        have hsz : y.cells.size = c := by have := RL_length hcs; simp at this; omega
        simp [Instr.storeAt, Instr.sureAddr, storeVar, run_sizeT hc, hsz, r1]
      · cases h
    · cases h
  · cases h

/-! New variables. -/

def stepNew (ty : TypeId) (cs : List SV) (st : St) : SV × St :=
  (.ptr st.nx (.l 0) 0 0, { st with hp := (st.nx, .blk cs ty) :: st.hp, nx := st.nx + 1 })

theorem stepNew_ok (ty : TypeId) (cs : List SV) (st : St) {e : Env} {w : World} {Fr : Nat → Prop} {v : Value} (hv : SV.RL e cs v.cells.toList) (hat : At e w st.hp Fr) (hfree : Free st.nx (st.nx + 1) e) :
    ∃ e' w' u, (newVar ty v).run P w = .ok u w' ∧ Ext st.nx (st.nx + 1) e e' ∧ (stepNew ty cs st).1.R e' (.pointer (some u)) ∧ At e' w' (stepNew ty cs st).2.hp Fr ∧ Kept Fr w w' := by
  obtain ⟨h1, h2⟩ := hat.newBlk (ty := ty) hfree hv
  refine ⟨_, _, ⟨w.heap.size, 0, none⟩, ?_, Ext.upd hfree (Nat.le_refl _) (by omega), ?_, h1, h2⟩
  · simp [newVar, Go.newRow]
  · simp only [stepNew, SV.R]
    exact ⟨_, upd_same _ _ _, by simp [LN.val]⟩

end Go.Eng
