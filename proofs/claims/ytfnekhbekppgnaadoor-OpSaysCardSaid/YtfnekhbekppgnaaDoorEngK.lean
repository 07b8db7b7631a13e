import Derived.Test.YtfnekhbekppgnaaDoorEngJ
namespace Go.Eng
variable {P : Program}

def numLN (lit : Bool) (i : Int) : LN := match lit with | true => .l i.toNat | false => .o i.toNat
theorem numLN_val (lit : Bool) (i : Int) : (numLN lit i).val = i.toNat := by cases lit <;> rfl

def subLN (h l : LN) : LN :=
  match h, l with
  | .l a, .l b => .l (a - b)
  | h, .l 0 => h
  | h, l => .o (h.val - l.val)

theorem subLN_val (h l : LN) : (subLN h l).val = h.val - l.val := by
  unfold subLN
  split <;> simp [LN.val_l, LN.val_o]

def addLN2 (off i : LN) : LN :=
  match off, i with
  | .l a, .l b => .l (a + b)
  | off, .l 0 => off
  | off, i => .o (off.val + i.val)

theorem addLN2_val (off i : LN) : (addLN2 off i).val = off.val + i.val := by
  unfold addLN2
  split <;> simp [LN.val_l, LN.val_o]

/-- A bound that was given, or not. -/
def boundOf : Option SV → LN → Option (LN × List Prop)
  | none, d => some (d, [])
  | some s, _ => match numOf s with
    | some (_, i, lit) => match lit with
      | true => if 0 ≤ i then some (.l i.toNat, []) else none
      | false => some (.o i.toNat, [0 ≤ i])
    | none => none

theorem boundOf_ok {e : Env} {s : SV} {v : Value} {d b : LN} {ps : List Prop} (h : boundOf (some s) d = some (b, ps)) (hp : ∀ p ∈ ps, p) (hv : s.R e v) : ∃ k, v = .int k (b.val : Int) := by
  unfold boundOf at h
  split at h
  · rename_i hs; cases hs
  · rename_i hs
    cases hs
    split at h
    · rename_i k i lit hn
      refine ⟨k, ?_⟩
      rw [numOf_ok hv hn]
      split at h
      · split at h
        · rename_i hi
          cases h
          simp [LN.val_l, Int.toNat_of_nonneg hi]
        · cases h
      · cases h
        have hi : 0 ≤ i := hp _ (List.mem_singleton.2 rfl)
        simp [LN.val_o, Int.toNat_of_nonneg hi]
    · cases h

def leLN (a b : LN) : Option (List Prop) :=
  match a, b with
  | .l x, .l y => if x ≤ y then some [] else none
  | .l 0, _ => some []
  | a, b => some [a.val ≤ b.val]

theorem leLN_ok {a b : LN} {ps : List Prop} (h : leLN a b = some ps) (hp : ∀ p ∈ ps, p) : a.val ≤ b.val := by
  unfold leLN at h
  split at h
  · split at h
    · rename_i hle; exact hle
    · cases h
  · simp [LN.val_l]
  · cases h
    exact hp _ (List.mem_singleton.2 rfl)

def stepSlice (P : Program) (t : TypeId) (x : SV) (lo hi : Option SV) : Option (SV × List Prop) :=
  match P.underlying t, x with
  | some (.slice elem), .sl n sz off len => if sizeT P elem = some sz then
      match boundOf lo (.l 0), boundOf hi len with
      | some (l, ps), some (h, qs) => match leLN l h, leLN h len with
        | some rs, some ts => some (.sl n sz (addLN2 off l) (subLN h l), ps ++ qs ++ (rs ++ ts))
        | _, _ => none
      | _, _ => none
    else none
  | _, _ => none

theorem run_slice_row {t elem : TypeId} {sz : Nat} (hu : P.underlying t = some (.slice elem)) (hs : sizeT P elem = some sz) (w : World) {base : Option Addr} {len cap l h : Nat} (h1 : l ≤ h) (h2 : h ≤ len) (h3 : len ≤ cap)
    {lo hi : Option Value} (hlo : (lo = none ∧ l = 0) ∨ ∃ k, lo = some (.int k (l : Int))) (hhi : (hi = none ∧ h = len) ∨ ∃ k, hi = some (.int k (h : Int))) :
    (Instr.sliceAt t (.slice base len cap) lo hi none).run P w = .ok (.slice (if cap = l then base else base.map (·.add (l * sz))) (h - l) (cap - l)) w := by
  have e1 : ((l : Nat) : Int) ≤ (h : Int) := by omega
  have e2 : ((h : Nat) : Int) ≤ (cap : Int) := by omega
  rcases hlo with ⟨rfl, rfl⟩ | ⟨k, rfl⟩ <;> rcases hhi with ⟨rfl, rfl⟩ | ⟨k', rfl⟩ <;>
    simp [Instr.sliceAt, Instr.slice, run_underlying hu, Instr.sliceBounds, Instr.sliceBound, asIntOf, run_sizeT hs] <;> (try (intro hh; exfalso; omega))
  rw [if_pos (by omega), if_pos h1]

theorem stepSlice_ok {t : TypeId} {x s : SV} {lo hi : Option SV} {ps : List Prop} (h : stepSlice P t x lo hi = some (s, ps)) (hp : ∀ p ∈ ps, p) {e : Env} (w : World) {v : Value} {lv hv : Option Value}
    (hx : x.R e v) (hlo : ∀ s', lo = some s' → ∃ v', lv = some v' ∧ s'.R e v') (hlo' : lo = none → lv = none) (hhi : ∀ s', hi = some s' → ∃ v', hv = some v' ∧ s'.R e v') (hhi' : hi = none → hv = none) :
    ∃ u, (Instr.sliceAt t v lv hv none).run P w = .ok u w ∧ s.R e u := by
  unfold stepSlice at h
  split at h
  · rename_i elem n sz off len hu
    split at h
    · rename_i hs
      split at h
      · rename_i l ps' b qs hb1 hb2
        split at h
        · rename_i rs ts hl1 hl2
          cases h
          have p1 : ∀ p ∈ ps', p := fun p hpp => hp p (by simp [hpp])
          have p2 : ∀ p ∈ qs, p := fun p hpp => hp p (by simp [hpp])
          have g1 := leLN_ok hl1 fun p hpp => hp p (by simp [hpp])
          have g2 := leLN_ok hl2 fun p hpp => hp p (by simp [hpp])
          have f1 : (lv = none ∧ l.val = 0) ∨ ∃ k, lv = some (.int k (l.val : Int)) := by
            cases lo with
            | none => simp only [boundOf, Option.some.injEq, Prod.mk.injEq] at hb1; exact .inl ⟨hlo' rfl, by rw [← hb1.1]; rfl⟩
            | some s' =>
              obtain ⟨v', rfl, hv'⟩ := hlo s' rfl
              obtain ⟨k, rfl⟩ := boundOf_ok hb1 p1 hv'
              exact .inr ⟨k, rfl⟩
          have f2 : (hv = none ∧ b.val = len.val) ∨ ∃ k, hv = some (.int k (b.val : Int)) := by
            cases hi with
            | none => simp only [boundOf, Option.some.injEq, Prod.mk.injEq] at hb2; exact .inl ⟨hhi' rfl, by rw [← hb2.1]⟩
            | some s' =>
              obtain ⟨v', rfl, hv'⟩ := hhi s' rfl
              obtain ⟨k, rfl⟩ := boundOf_ok hb2 p2 hv'
              exact .inr ⟨k, rfl⟩
          simp only [SV.R] at hx
          obtain ⟨k, hk, ⟨q1, q2, q3, rfl⟩ | ⟨q1, q2, o, q3, rfl⟩⟩ := hx
          · rw [q2] at g2 f2
            refine ⟨_, run_slice_row hu hs w g1 g2 (Nat.le_refl 0) f1 f2, ?_⟩
            simp only [SV.R]
            refine ⟨k, hk, .inl ⟨q1, by rw [subLN_val]; omega, by rw [addLN2_val]; omega, ?_⟩⟩
            have : l.val = 0 := by omega
            simp [this] <;> omega
          · refine ⟨_, run_slice_row hu hs w g1 g2 (by omega) f1 f2, ?_⟩
            simp only [SV.R]
            refine ⟨k, hk, .inr ⟨q1, by rw [subLN_val, addLN2_val]; omega, ?_⟩⟩
            rw [subLN_val, addLN2_val]
            by_cases hc : k.κ - off.val = l.val
            · refine ⟨o, ?_, ?_⟩
              · rcases q3 with q3 | q3
                · by_cases hl0 : l.val = 0
                  · left; omega
                  · right; omega
                · right; omega
              · simp [hc] <;> omega
            · have ho : o = off.val := by omega
              refine ⟨off.val + l.val, .inl rfl, ?_⟩
              simp [hc, add_none, ho, Nat.add_mul] <;> omega
        · cases h
      · cases h
    · cases h
  · cases h

/-! len, min, max -/

def lenSV : LN → SV
  | .l n => .con (.int .i64 n)
  | .o n => .int .i64 n

theorem R_lenSV (e : Env) (l : LN) : (lenSV l).R e (.int .i64 l.val) := by cases l <;> simp [lenSV, SV.R, LN.val]

def stepLen (P : Program) (t : TypeId) (x : SV) : Option SV :=
  match P.underlying t, x with
  | some (.slice _), .sl _ _ _ len => some (lenSV len)
  | some (.slice _), .con (.slice _ n _) => some (.con (.int .i64 n))
  | some (.array n _), _ => some (.con (.int .i64 n))
  | some .string, .con (.string s) => some (.con (.int .i64 s.size))
  | some .string, .str l => some (.int .i64 l.length)
  | _, _ => none

theorem stepLen_ok {t : TypeId} {x s : SV} (h : stepLen P t x = some s) {e : Env} (w : World) {v : Value} (hv : x.R e v) (ts : Array TypeId) (ht : ts[0]? = some t) (ty : TypeId) :
    ∃ u, (Builtin.len_ ts ty #[v]).run P w = .ok u w ∧ s.R e u := by
  unfold stepLen at h
  split at h
  · rename_i elem n sz off len hu
    cases h
    simp only [SV.R] at hv
    obtain ⟨k, hk, ⟨q1, q2, q3, rfl⟩ | ⟨q1, q2, o, q3, rfl⟩⟩ := hv
    · exact ⟨_, by simp [Builtin.len_, ht, run_underlying hu, goInt] <;> rfl, by rw [show (0 : Int) = ((len.val : Nat) : Int) by omega]; exact R_lenSV e len⟩
    · exact ⟨_, by simp [Builtin.len_, ht, run_underlying hu, goInt] <;> rfl, R_lenSV e len⟩
  · rename_i a b n c hu
    cases h
    simp only [SV.R] at hv
    subst hv
    exact ⟨_, by simp [Builtin.len_, ht, run_underlying hu, goInt] <;> rfl, by simp [SV.R]⟩
  · rename_i n b hu
    cases h
    exact ⟨_, by simp [Builtin.len_, ht, run_underlying hu, goInt] <;> rfl, by simp [SV.R]⟩
  · rename_i n hu
    cases h
    simp only [SV.R] at hv
    subst hv
    exact ⟨_, by simp [Builtin.len_, ht, run_underlying hu, goInt] <;> rfl, by simp [SV.R]⟩
  · rename_i l hu
    cases h
    simp only [SV.R] at hv
    subst hv
    have hsz : (⟨l.toArray⟩ : ByteArray).size = l.length := by simp [ByteArray.size]
    exact ⟨.int .i64 ((⟨l.toArray⟩ : ByteArray).size : Int), by simp only [Builtin.len_, ht]; simp [run_underlying hu, goInt], by rw [hsz]; simp [SV.R]⟩
  · cases h

def stepMinMax (mx : Bool) (x y : SV) : Option SV :=
  match numOf x, numOf y with
  | some (k, a, l), some (_, b, l') => some (mkNum (l && l') k (match mx with | true => if b > a then b else a | false => if b < a then b else a))
  | _, _ => none

theorem stepMin_ok {x y s : SV} (h : stepMinMax false x y = some s) {e : Env} (w : World) {v u : Value} (hv : x.R e v) (hu : y.R e u) (ts : Array TypeId) (ty : TypeId) :
    ∃ r, (Builtin.min_ ts ty #[v, u]).run P w = .ok r w ∧ s.R e r := by
  unfold stepMinMax at h
  split at h
  · rename_i k a l k' b l' h1 h2
    cases h
    rw [numOf_ok hv h1, numOf_ok hu h2]
    exact ⟨_, by simp [Builtin.min_, Builtin.min2] <;> rfl, R_mkNum e _ _ _⟩
  · cases h

theorem stepMax_ok {x y s : SV} (h : stepMinMax true x y = some s) {e : Env} (w : World) {v u : Value} (hv : x.R e v) (hu : y.R e u) (ts : Array TypeId) (ty : TypeId) :
    ∃ r, (Builtin.max_ ts ty #[v, u]).run P w = .ok r w ∧ s.R e r := by
  unfold stepMinMax at h
  split at h
  · rename_i k a l k' b l' h1 h2
    cases h
    rw [numOf_ok hv h1, numOf_ok hu h2]
    exact ⟨_, by simp [Builtin.max_, Builtin.max2] <;> rfl, R_mkNum e _ _ _⟩
  · cases h

/-! New rows. -/

def newRowSt (E : Entry) (sz : Nat) (len : LN) (st : St) : SV × St :=
  (.sl st.nx sz (.l 0) len, { st with hp := (st.nx, E) :: st.hp, nx := st.nx + 1 })

theorem newRowSt_ok {c : Cont} {sz : Nat} {len : LN} {st : St} {e : Env} {w : World} {Fr : Nat → Prop} (hc : c.fits sz = true) (hl : c.len = len.val) (hm : len.val ≤ maxLen) {ty : TypeId} {u : List Value}
    (hul : u.length = len.val * sz) (hu : ∀ i j, i < len.val → j < sz → ∃ v, u[i * sz + j]? = some v ∧ (c.f i j).R e v) (hat : At e w st.hp Fr) (hfree : Free st.nx (st.nx + 1) e) :
    Ext st.nx (st.nx + 1) e (upd e st.nx ⟨w.heap.size, len.val, false⟩) ∧ (newRowSt (c.entry sz ty) sz len st).1.R (upd e st.nx ⟨w.heap.size, len.val, false⟩) (.slice (some ⟨w.heap.size, 0, none⟩) len.val len.val) ∧
      At (upd e st.nx ⟨w.heap.size, len.val, false⟩) (w.alloc (.cells u.toArray ty (0, 0))) (newRowSt (c.entry sz ty) sz len st).2.hp Fr ∧ Kept Fr w (w.alloc (.cells u.toArray ty (0, 0))) := by
  obtain ⟨h1, h2⟩ := hat.newRow (n := st.nx) (E := c.entry sz ty) (sz := sz) (len := len.val) (f := c.f) (ty := ty) (u := u) (fun e w bs hr => Cont.entry_ok hc (hr.congr hl fun _ _ _ _ _ h => h)) hfree hul hm hu
  refine ⟨Ext.upd hfree (Nat.le_refl _) (by omega), ?_, h1, h2⟩
  simp only [newRowSt, SV.R]
  exact ⟨_, upd_same _ _ _, .inr ⟨rfl, by simp [LN.val_l], 0, .inl rfl, by simp [LN.val_l]⟩⟩

/-- Zero cells, so many elements. -/
def zeroCont (z : Value) (n : LN) : Cont :=
  match n with
  | .l m => .arr (List.replicate m (z.cells.toList.map .con))
  | .o m => match z with
    | .int k 0 => .ints k (List.replicate m 0)
    | z => .row m (fun _ j => .con (z.cells.toList.getD j undef))

theorem zeroCont_ok {z : Value} {n : LN} {sz : Nat} (hz : z.cells.size = sz) (e : Env) : (zeroCont z n).len = n.val ∧ (zeroCont z n).fits sz = true ∧ ∀ i j, i < n.val → j < sz → ((zeroCont z n).f i j).R e (z.cells.toList.getD j undef) := by
  unfold zeroCont
  split
  · rename_i m
    refine ⟨by simp [Cont.len, LN.val_l], rfl, fun i j hi hj => ?_⟩
    simp only [LN.val_l] at hi
    have hj' : j < z.cells.size := by simpa [hz] using hj
    simp [Cont.f, arrF, List.getD_eq_getElem?_getD, hi, hj', SV.R]
  · rename_i m
    split
    · rename_i k
      have : sz = 1 := by rw [← hz]; rfl
      subst this
      refine ⟨by simp [Cont.len, LN.val_o], rfl, fun i j hi hj => ?_⟩
      simp only [LN.val_o] at hi
      have hj0 : j = 0 := by omega
      subst hj0
      simp [Cont.f, intsF, List.getD_eq_getElem?_getD, hi, SV.R, Value.cells]
    · exact ⟨rfl, rfl, fun i j hi hj => by simp [Cont.f, SV.R]⟩

def stepMake (P : Program) (t : TypeId) (l c : SV) (st : St) : Option (SV × St) :=
  match elemT P t with
  | some (elem, sz, bytes) => match zeroT P elem, numOf l, numOf c with
    | some z, some (_, n, lit), some (_, m, lit') => match lit && lit' with
      | true => if n = m ∧ 0 ≤ n ∧ (bytes : Int) * n ≤ 2 ^ 48 ∧ n ≤ 9223372036854775807 then some (newRowSt ((zeroCont z (.l n.toNat)).entry sz elem) sz (.l n.toNat) st) else none
      | false => some (newRowSt ((zeroCont z (.o n.toNat)).entry sz elem) sz (.o n.toNat) (st.add [n = m ∧ 0 ≤ n ∧ (bytes : Int) * n ≤ 2 ^ 48 ∧ n ≤ 9223372036854775807]))
    | _, _, _ => none
  | none => none

theorem make_run {t elem : TypeId} {sz bytes : Nat} (ho : ElemOk P t elem sz bytes) {z : Value} (hz : zeroT P elem = some z) (w : World) {k k' : IntKind} {n : Int} (h0 : 0 ≤ n) (hb : (bytes : Int) * n ≤ 2 ^ 48) (hm : n ≤ 9223372036854775807) :
    (Instr.makeSlice t (.int k n) (.int k' n)).run P w = .ok (.slice (some ⟨w.heap.size, 0, none⟩) n.toNat n.toNat) (w.alloc (.cells ((Array.range (n.toNat * sz)).map (z.cells[· % z.cells.size]!)) elem (0, 0))) := by
  obtain ⟨i, z', hi, hz', hsize, hby, hzs⟩ := ho.ex
  have hwrap : IntKind.i64.wrap n = n := wrap_In64 ⟨by omega, hm⟩
  have hzz : z' = z := by
    unfold zeroT at hz; rw [hi] at hz; simp at hz; rw [hz] at hz'; cases hz'; rfl
  subst hzz
  have hb' : ¬ ((281474976710656 : Int) < (bytes : Int) * n) := by
    have : (2 : Int) ^ 48 = 281474976710656 := by decide
    omega
  have hpos := ho.pos
  by_cases hn : n.toNat * sz = 0
  · have hn0 : n.toNat = 0 := by
      rcases Nat.mul_eq_zero.1 hn with h | h
      · exact h
      · omega
    simp [Instr.makeSlice, run_underlying ho.ut, asInt, asIntOf, typeInfo, hi, hby, hwrap, show ¬ n < 0 by omega, hb', sizeOf, hn0, Go.newRow, show Array.range 0 = #[] from rfl]
  · simp [Instr.makeSlice, run_underlying ho.ut, asInt, asIntOf, typeInfo, hi, hby, hwrap, show ¬ n < 0 by omega, hb', sizeOf, hsize, hn, Go.newRow, zeroValue, hz']

theorem zeros_get {z : Value} {n sz : Nat} (hz : z.cells.size = sz) {i j : Nat} (hi : i < n) (hj : j < sz) :
    ((Array.range (n * sz)).map (z.cells[· % z.cells.size]!)).toList[i * sz + j]? = some (z.cells.toList.getD j undef) := by
  have hlt : i * sz + j < n * sz := by
    have : (i + 1) * sz ≤ n * sz := Nat.mul_le_mul_right sz hi
    rw [Nat.add_mul] at this; omega
  simp only [Array.toList_map, Array.toList_range, List.getElem?_map, List.getElem?_range hlt, Option.map_some, hz]
  rw [show (i * sz + j) % sz = j by rw [Nat.mul_comm, Nat.mul_add_mod, Nat.mod_eq_of_lt hj]]
  congr 1
  simp [List.getD_eq_getElem?_getD, hz, hj, getElem!_pos]

theorem stepMake_ok {t : TypeId} {l c s : SV} {st st' : St} (h : stepMake P t l c st = some (s, st')) :
    Mono st st' ∧ ((∀ p ∈ st'.cs, p) → ∀ {e : Env} {w : World} {Fr : Nat → Prop} {vl vc : Value}, l.R e vl → c.R e vc → At e w st.hp Fr → Free st.nx st'.nx e →
      ∃ e' w' v, (Instr.makeSlice t vl vc).run P w = .ok v w' ∧ Ext st.nx st'.nx e e' ∧ s.R e' v ∧ At e' w' st'.hp Fr ∧ Kept Fr w w') := by
  have key : ∀ {elem : TypeId} {sz bytes : Nat} {z : Value} {k k' : IntKind} {n : Int} {ln : LN} {lit lit' : Bool} (st1 : St), elemT P t = some (elem, sz, bytes) → zeroT P elem = some z → numOf l = some (k, n, lit) → numOf c = some (k', n, lit') →
      0 ≤ n ∧ (bytes : Int) * n ≤ 2 ^ 48 ∧ n ≤ 9223372036854775807 → ln.val = n.toNat → st1.hp = st.hp → st1.nx = st.nx → ∀ {e : Env} {w : World} {Fr : Nat → Prop} {vl vc : Value}, l.R e vl → c.R e vc → At e w st.hp Fr → Free st.nx (st.nx + 1) e →
      ∃ e' w' v, (Instr.makeSlice t vl vc).run P w = .ok v w' ∧ Ext st.nx (st.nx + 1) e e' ∧ (newRowSt ((zeroCont z ln).entry sz elem) sz ln st1).1.R e' v ∧ At e' w' (newRowSt ((zeroCont z ln).entry sz elem) sz ln st1).2.hp Fr ∧ Kept Fr w w' := by
    intro elem sz bytes z k k' n ln lit lit' st1 hel hz h1 h2 hb hln hhp hnx e w Fr vl vc hl hc hat hfree
    have ho := elemT_ok hel
    obtain ⟨i, z', hi, hz', hsize, hby, hzs⟩ := ho.ex
    have hzz : z' = z := by
      unfold zeroT at hz; rw [hi] at hz; simp at hz; rw [hz] at hz'; cases hz'; rfl
    subst hzz
    rw [numOf_ok hl h1, numOf_ok hc h2]
    obtain ⟨c1, c2, c3⟩ := zeroCont_ok (n := ln) hzs e
    have hmx : ln.val ≤ maxLen := by rw [hln]; simp only [maxLen]; omega
    obtain ⟨r1, r2, r3, r4⟩ := newRowSt_ok (st := st1) (ty := elem) c2 c1 hmx (u := ((Array.range (n.toNat * sz)).map (z'.cells[· % z'.cells.size]!)).toList) (by simp [hln]) (fun i j hi hj => ⟨_, zeros_get hzs (by omega) hj, c3 i j hi hj⟩)
      (by rw [hhp]; exact hat) (by rw [hnx]; exact hfree)
    rw [hnx] at r1 r2 r3
    rw [hln] at r1 r2 r3
    exact ⟨_, _, _, make_run ho hz w hb.1 hb.2.1 hb.2.2, r1, r2, by rw [Array.toArray_toList] at r3; exact r3, by rw [Array.toArray_toList] at r4; exact r4⟩
  unfold stepMake at h
  split at h
  · rename_i elem sz bytes hel
    split at h
    · rename_i z k n lit k' m lit' hz h1 h2
      split at h
      · split at h
        · rename_i hc
          obtain ⟨rfl, hc⟩ := hc
          cases h
          exact ⟨⟨⟨[], rfl⟩, by simp⟩, fun _ e w Fr vl vc hl hcv hat hfree => key st hel hz h1 h2 hc rfl rfl rfl hl hcv hat hfree⟩
        · cases h
      · cases h
        refine ⟨⟨⟨_, rfl⟩, by simp [St.add]⟩, fun hp e w Fr vl vc hl hcv hat hfree => ?_⟩
        have hc := hp _ (List.mem_cons_self)
        obtain ⟨rfl, hc⟩ := hc
        exact key (st.add _) hel hz h1 h2 hc rfl rfl rfl hl hcv hat hfree
    · cases h
  · cases h

def stepBuildSlice (P : Program) (t : TypeId) (len : Nat) (parts : List (Nat × SV)) (st : St) : Option (SV × St) :=
  match elemT P t with
  | some (elem, sz, _) => match zeroT P elem with
    | some z => if len * sz ≤ 2 ^ 24 then
        match fillS (fun i => some (i * sz, sz)) ((List.range (len * sz)).map fun i => .con (z.cells[i % z.cells.size]!)) parts with
        | some out => some (newRowSt (.arr ((List.range len).map fun i => (out.drop (i * sz)).take sz) sz elem) sz (.l len) st)
        | none => none
      else none
    | none => none
  | none => none

theorem fillS_length {place : Nat → Option (Nat × Nat)} : ∀ {parts : List (Nat × SV)} {cells out : List SV}, fillS place cells parts = some out → out.length = cells.length
  | [], cells, out, h => by simp only [fillS, Option.some.injEq] at h; rw [h]
  | (i, s) :: rest, cells, out, h => by
    unfold fillS at h
    split at h
    · split at h
      · rename_i hl
        rw [fillS_length h, splice_length (by omega)]
      · cases h
    · cases h

theorem stepBuildSlice_ok {t : TypeId} {len : Nat} {parts : List (Nat × SV)} {s : SV} {st st' : St} (h : stepBuildSlice P t len parts st = some (s, st')) :
    Mono st st' ∧ (∀ {e : Env} {w : World} {Fr : Nat → Prop} {pv : Array (Nat × Value)}, parts.map Prod.fst = pv.toList.map Prod.fst → SV.RL e (parts.map Prod.snd) (pv.toList.map Prod.snd) → At e w st.hp Fr → Free st.nx st'.nx e →
      ∃ e' w' v, (Instr.buildSlice t len pv).run P w = .ok v w' ∧ Ext st.nx st'.nx e e' ∧ s.R e' v ∧ At e' w' st'.hp Fr ∧ Kept Fr w w') := by
  unfold stepBuildSlice at h
  split at h
  · rename_i elem sz bytes hel
    have ho := elemT_ok hel
    obtain ⟨i, z', hi, hz', hsize, hby, hzs⟩ := ho.ex
    have hpos := ho.pos
    split at h
    · rename_i z hz
      have hzz : z' = z := by
        unfold zeroT at hz; rw [hi] at hz; simp at hz; rw [hz] at hz'; cases hz'; rfl
      subst hzz
      split at h
      · rename_i hle
        split at h
        · rename_i out hf
          cases h
          refine ⟨⟨⟨[], rfl⟩, by simp⟩, fun {e w Fr pv} hm hr hat hfree => ?_⟩
          have hlen := fillS_length hf
          simp at hlen
          obtain ⟨r, h1, h2⟩ := fillS_ok (e := e) hf (u := (List.range (len * sz)).map fun i => z'.cells[i % z'.cells.size]!) (by
            have := RL_con (e := e) ((List.range (len * sz)).map fun i => z'.cells[i % z'.cells.size]!)
            simpa [Function.comp_def] using this) hm hr
          have hrl := RL_length h2
          have hmx : len ≤ maxLen := by
            have : len ≤ len * sz := Nat.le_mul_of_pos_right len hpos
            simp only [maxLen]; omega
          obtain ⟨r1, r2, r3, r4⟩ := newRowSt_ok (c := .arr ((List.range len).map fun i => (out.drop (i * sz)).take sz)) (sz := sz) (len := .l len) (st := st) (ty := elem) rfl (by simp [Cont.len, LN.val_l]) hmx (u := r.toList) (by rw [← hrl, hlen]; rfl) (fun i j hi hj => by
            simp only [LN.val_l] at hi
            have hlt : i * sz + j < out.length := by
              have : (i + 1) * sz ≤ len * sz := Nat.mul_le_mul_right sz hi
              rw [Nat.add_mul] at this; omega
            obtain ⟨v, g1, g2⟩ := RL_get h2 (List.getElem?_eq_getElem hlt)
            refine ⟨v, g1, ?_⟩
            simp only [Cont.f, arrF, List.getD_eq_getElem?_getD, List.getElem?_map, List.getElem?_range hi, Option.map_some, Option.getD_some, List.getElem?_take, hj, if_true, List.getElem?_drop]
            rw [List.getElem?_eq_getElem hlt]
            exact g2) hat hfree
          refine ⟨_, _, _, ?_, r1, r2, r3, r4⟩
          simp only [Instr.buildSlice, Sem.run_bind, run_underlying ho.ut, Result.andThen_ok, run_sizeT (show sizeT P elem = some sz by simp [sizeT, hi, hsize])]
          rw [if_neg (by omega)]
          by_cases h0 : len * sz = 0
          · have harr : ((Array.range (len * sz)).map fun x => (#[] : Array Value)[x % (#[] : Array Value).size]!) = ((List.range (len * sz)).map fun i => z'.cells[i % z'.cells.size]!).toArray := by
              simp [h0]
            rw [if_pos h0]
            simp only [Sem.run_bind, Sem.run_pure, Result.andThen_ok]
            rw [harr, h1]
            simp [Go.newRow, LN.val_l]
          · have harr : ((Array.range (len * sz)).map fun x => z'.cells[x % z'.cells.size]!) = ((List.range (len * sz)).map fun i => z'.cells[i % z'.cells.size]!).toArray := by
              apply Array.ext'
              simp
            rw [if_neg h0]
            simp only [Sem.run_bind, Sem.run_pure, Result.andThen_ok, run_zeroT hz]
            rw [harr, h1]
            simp [Go.newRow, LN.val_l]
        · cases h
      · cases h
    · cases h
  · cases h

end Go.Eng
