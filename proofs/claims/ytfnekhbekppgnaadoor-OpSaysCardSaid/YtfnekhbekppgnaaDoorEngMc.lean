import Derived.Test.YtfnekhbekppgnaaDoorEngMb
import Derived.Laws.BytesString
import Derived.Laws.IdiomStrings
namespace Go.Eng
variable {P : Program}

/-! Strings: joined, cut, looked at, made of bytes. -/

def isStr (P : Program) (t : TypeId) : Bool :=
  match P.underlying t with
  | some .string => true
  | _ => false

theorem isStr_ok {t : TypeId} (h : isStr P t = true) : P.underlying t = some .string := by
  unfold isStr at h
  split at h
  · assumption
  · cases h

def mkStr (lit : Bool) (l : List UInt8) : SV := match lit with | true => .con (.string ⟨l.toArray⟩) | false => .str l
theorem R_mkStr (e : Env) (lit : Bool) (l : List UInt8) : (mkStr lit l).R e (.string ⟨l.toArray⟩) := by cases lit <;> simp [mkStr, SV.R]

def bytesOfInts (l : List Int) : List UInt8 := l.map fun n => UInt8.ofNat n.toNat

def isBytesT (P : Program) (src dst : TypeId) : Bool :=
  match P.underlying src, P.underlying dst with
  | some (.slice e), some .string => match P.underlying e with
    | some (.int .u8) => true
    | _ => false
  | _, _ => false

theorem isBytesT_ok {src dst : TypeId} (h : isBytesT P src dst = true) : ∃ e, P.underlying src = some (.slice e) ∧ P.underlying e = some (.int .u8) ∧ P.underlying dst = some .string := by
  unfold isBytesT at h
  split at h
  · rename_i e h1 h2
    split at h
    · rename_i h3; exact ⟨e, h1, h3, h2⟩
    · cases h
  · cases h

def contBytes : Cont → Option (List Int)
  | .ints .u8 l => some l
  | .arr cs => asInts .u8 cs
  | _ => none

theorem contBytes_ok {c : Cont} {l : List Int} (h : contBytes c = some l) (e : Env) : l.length = c.len ∧ ∀ i v, i < c.len → (c.f i 0).R e v → v = .int .u8 (l.getD i 0) := by
  unfold contBytes at h
  split at h
  · cases h
    exact ⟨rfl, fun i v _ hv => by simpa [Cont.f, intsF, SV.R] using hv⟩
  · obtain ⟨h1, h2⟩ := asInts_ok (e := e) h
    exact ⟨h1, fun i v hi hv => by simpa [intsF, SV.R] using h2 i v hi hv⟩
  · cases h

def boundS (d : Nat) : Option SV → Option (Int × Bool)
  | none => some (d, true)
  | some s => match numOf s with
    | some (_, i, lit) => some (i, lit)
    | none => none

def stepStr (P : Program) (op : Op) (fr : Nat → SV) (st : St) : Option (SV × St) :=
  match op with
  | .binOp .add _ x y _ => match strOf (ev fr x), strOf (ev fr y) with
    | some (a, la), some (b, lb) => some (mkStr (la && lb) (a ++ b), { st with cs := (a.length + b.length ≤ 9223372036854775807) :: st.cs })
    | _, _ => none
  | .index t x ix => match strOf (ev fr x), numOf (ev fr ix) with
    | some (a, _), some (_, i, _) => if isStr P t = true then some (.int .u8 ((a.getD i.toNat 0).toNat : Int), { st with cs := (0 ≤ i ∧ i < a.length) :: st.cs }) else none
    | _, _ => none
  | .slice t x lo hi none => match strOf (ev fr x) with
    | some (a, la) => match boundS 0 (lo.map (ev fr)), boundS a.length (hi.map (ev fr)) with
      | some (l, ll), some (h, lh) => if isStr P t = true then some (mkStr (la && ll && lh) ((a.take h.toNat).drop l.toNat), { st with cs := (0 ≤ l ∧ l ≤ h ∧ h ≤ a.length) :: st.cs }) else none
      | _, _ => none
    | none => none
  | .convert src dst x => if isBytesT P src dst = true then
      match srcOf 1 st.hp (ev fr x) with
      | some (_, c, _, ps) => match contBytes c with
        | some l => if c.cellLike 1 = true then some (.str (bytesOfInts l), { st with cs := ps ++ st.cs }) else none
        | none => none
      | none => none
    else none
  | _ => none

theorem byte_getElem {a : List UInt8} {i : Nat} (h : i < a.length) : (⟨a.toArray⟩ : ByteArray)[i]? = some (a.getD i 0) := by
  have : (⟨a.toArray⟩ : ByteArray).size = a.length := by simp [ByteArray.size]
  rw [getElem?_pos _ i (by rw [this]; exact h)]
  simp [List.getD_eq_getElem?_getD, List.getElem?_eq_getElem h]
  rfl

theorem byte_extract (a : List UInt8) (l h : Nat) : (⟨a.toArray⟩ : ByteArray).extract l h = ⟨((a.take h).drop l).toArray⟩ := by
  apply ByteArray.ext
  apply Array.ext'
  simp [ByteArray.data_extract, List.drop_take]

theorem boundS_ok {e : Env} {d : Nat} {s : Option SV} {i : Int} {l : Bool} (h : boundS d s = some (i, l)) {v : Option Value} (hs : ∀ s', s = some s' → ∃ v', v = some v' ∧ s'.R e v') (hn : s = none → v = none) :
    (v = none ∧ i = d) ∨ ∃ k, v = some (.int k i) := by
  unfold boundS at h
  split at h
  · cases h; exact .inl ⟨hn rfl, rfl⟩
  · rename_i s'
    split at h
    · rename_i k i' l' hk
      cases h
      obtain ⟨v', rfl, hv⟩ := hs s' rfl
      exact .inr ⟨k, by rw [numOf_ok hv hk]⟩
    · cases h

theorem stepStr_ok {o : Oper} {fr : Nat → SV} {st st' : St} {s : SV} (h : stepStr P o.op fr st = some (s, st')) :
    Mono st st' ∧ ((∀ p ∈ st'.cs, p) → ValOk P o fr st.hp s st'.hp st.nx st'.nx) := by
  unfold stepStr at h
  split at h
  · rename_i t x y yt hop
    split at h
    · rename_i a la b lb ha hb
      cases h
      refine ⟨⟨⟨[_], rfl⟩, Nat.le_refl _⟩, fun hp Fr e w ρ hρ hat hfree => ?_⟩
      have hc := hp _ List.mem_cons_self
      have hx := strOf_ok (hρ x (by rw [hop]; simp [Op.operands])) ha
      have hy := strOf_ok (hρ y (by rw [hop]; simp [Op.operands])) hb
      refine ⟨e, w, _, .string ⟨(a ++ b).toArray⟩, ?_, .inl rfl, Ext.refl _ _ _, R_mkStr _ _ _, hat, Kept.refl _ _⟩
      unfold execOp
      rw [hop]
      simp only [hx, hy]
      have hg : (eqGuard .add t x y (.string ⟨a.toArray⟩) (.string ⟨b.toArray⟩)).run P w = .ok () w := rfl
      have hadd : (binOp .add t (.string ⟨a.toArray⟩) (.string ⟨b.toArray⟩)).run P w = .ok (.string ⟨(a ++ b).toArray⟩) w := by
        have hl : ¬ ((((⟨a.toArray⟩ : ByteArray).size + (⟨b.toArray⟩ : ByteArray).size : Nat) : Int) > IntKind.i64.max) := by
          have h1 : (⟨a.toArray⟩ : ByteArray).size = a.length := by simp [ByteArray.size]
          have h2 : (⟨b.toArray⟩ : ByteArray).size = b.length := by simp [ByteArray.size]
          have h3 : IntKind.i64.max = 9223372036854775807 := by decide
          rw [h1, h2, h3]
          omega
        have he : (⟨a.toArray⟩ : ByteArray) ++ ⟨b.toArray⟩ = ⟨(a ++ b).toArray⟩ := by
          apply ByteArray.ext
          simp
        show (Op.stringOp .add ⟨a.toArray⟩ ⟨b.toArray⟩).run P w = _
        simp only [Op.stringOp, if_neg hl, he]
        rfl
      simp only [Sem.run_bind, hg, Result.andThen_ok, hadd, Sem.run_pure]
    · cases h
  · rename_i t x ix hop
    split at h
    · rename_i a la k i li ha hi
      split at h
      · rename_i ht
        cases h
        refine ⟨⟨⟨[_], rfl⟩, Nat.le_refl _⟩, fun hp Fr e w ρ hρ hat hfree => ?_⟩
        have hc := hp _ List.mem_cons_self
        have hx := strOf_ok (hρ x (by rw [hop]; simp [Op.operands])) ha
        have hy := numOf_ok (hρ ix (by rw [hop]; simp [Op.operands])) hi
        refine ⟨e, w, _, .int .u8 ((a.getD i.toNat 0).toNat : Int), ?_, .inl rfl, Ext.refl _ _ _, by simp [SV.R], hat, Kept.refl _ _⟩
        unfold execOp
        rw [hop]
        simp only [hx, hy]
        have hr : (Instr.index t (.string ⟨a.toArray⟩) (.int k i)).run P w = .ok (.int .u8 ((a.getD i.toNat 0).toNat : Int)) w := by
          have hin : i.toNat < a.length := by omega
          simp only [Instr.index, asIntOf, Sem.run_bind, Sem.run_pure, Result.andThen_ok, run_underlying (isStr_ok ht)]
          rw [if_pos hc.1, byte_getElem hin]
          rfl
        simp only [Sem.run_bind, hr, Result.andThen_ok, Sem.run_pure]
      · cases h
    · cases h
  · rename_i t x lo hi hop
    split at h
    · rename_i a la ha
      split at h
      · rename_i l ll hh lh h1 h2
        split at h
        · rename_i ht
          cases h
          refine ⟨⟨⟨[_], rfl⟩, Nat.le_refl _⟩, fun hp Fr e w ρ hρ hat hfree => ?_⟩
          have hc := hp _ List.mem_cons_self
          have hx := strOf_ok (hρ x (by rw [hop]; simp [Op.operands])) ha
          have b1 := boundS_ok (e := e) (v := lo.map ρ) h1 (fun s' hs' => by
            cases lo with
            | none => cases hs'
            | some q => cases hs'; exact ⟨_, rfl, hρ q (by rw [hop]; simp [Op.operands])⟩) (fun hs' => by cases lo <;> simp at hs' ⊢)
          have b2 := boundS_ok (e := e) (v := hi.map ρ) h2 (fun s' hs' => by
            cases hi with
            | none => cases hs'
            | some q => cases hs'; exact ⟨_, rfl, hρ q (by rw [hop]; simp [Op.operands])⟩) (fun hs' => by cases hi <;> simp at hs' ⊢)
          refine ⟨e, w, _, .string ⟨((a.take hh.toNat).drop l.toNat).toArray⟩, ?_, .inl rfl, Ext.refl _ _ _, R_mkStr _ _ _, hat, Kept.refl _ _⟩
          unfold execOp
          rw [hop]
          simp only [hx]
          have hsz : (⟨a.toArray⟩ : ByteArray).size = a.length := by simp [ByteArray.size]
          have hr : (Instr.sliceAt t (.string ⟨a.toArray⟩) (lo.map ρ) (hi.map ρ) none).run P w = .ok (.string ⟨((a.take hh.toNat).drop l.toNat).toArray⟩) w := by
            obtain ⟨c1, c2, c3⟩ := hc
            rw [← byte_extract]
            rcases b1 with ⟨e1, rfl⟩ | ⟨k, e1⟩ <;> rcases b2 with ⟨e2, rfl⟩ | ⟨k', e2⟩ <;> rw [e1, e2] <;>
              simp only [Instr.sliceAt, Instr.slice, Sem.run_bind, run_underlying (isStr_ok ht), Result.andThen_ok, Instr.sliceBounds, Instr.sliceBound, asIntOf, Sem.run_pure, hsz, Option.isSome_none, Bool.false_eq_true, if_false]
            · simp
            · rw [if_pos ⟨by omega, by omega⟩]; simp
            · rw [if_pos ⟨by omega, by omega⟩]; simp
            · rw [if_pos ⟨by omega, by omega⟩]
              simp only [Sem.run_pure, Result.andThen_ok]
              rw [if_pos ⟨by omega, by omega⟩]
              simp
          simp only [Sem.run_bind, Option.map_none, hr, Result.andThen_ok, Sem.run_pure]
        · cases h
      · cases h
    · cases h
  · rename_i src dst x hop
    split at h
    · rename_i hT
      split at h
      · rename_i m c slen ps hs
        split at h
        · rename_i l hl
          split at h
          · rename_i hcl
            cases h
            refine ⟨⟨⟨ps, rfl⟩, Nat.le_refl _⟩, fun hp Fr e w ρ hρ hat hfree => ?_⟩
            have hps : ∀ p ∈ ps, p := fun p hpp => hp p (by simp [hpp])
            have hx := hρ x (by rw [hop]; simp [Op.operands])
            obtain ⟨el, t1, t2, t3⟩ := isBytesT_ok hT
            obtain ⟨g1, g2, g3⟩ := src_cells hs hps hcl (by omega) hat hx
            obtain ⟨q1, q2⟩ := contBytes_ok hl e
            refine ⟨e, w, _, .string ⟨(bytesOfInts l).toArray⟩, ?_, .inl rfl, Ext.refl _ _ _, by simp [SV.R], hat, Kept.refl _ _⟩
            unfold execOp
            rw [hop]
            have hr : (convert src dst (ρ x)).run P w = .ok (.string ⟨(bytesOfInts l).toArray⟩) w := by
              rcases g3 with ⟨h0, hv⟩ | ⟨a, cap, news, hv, n1, n2, n3, n4⟩
              · rw [hv, run_convert_bytes_string w src dst el none 0 0 t1 t2 t3]
                have : l = [] := List.length_eq_zero_iff.1 (by omega)
                subst this
                rfl
              · rw [hv, run_convert_bytes_string w src dst el (some a) slen.val cap t1 t2 t3]
                have hnews : news = l.map (Value.int .u8) := by
                  apply List.ext_getElem?
                  intro i
                  by_cases hi : i < slen.val
                  · obtain ⟨v, v1, v2⟩ := n4 i 0 hi (by omega)
                    have := q2 i v (by omega) v2
                    rw [Nat.mul_one, Nat.add_zero] at v1
                    rw [v1, this, List.getElem?_map, List.getD_eq_getElem?_getD, List.getElem?_eq_getElem (by omega)]
                    simp
                  · rw [List.getElem?_eq_none (by omega), List.getElem?_eq_none (by simp; omega)]
                have hload := run_loadCells_list (P := P) w a news n2
                rw [hnews] at hload
                rw [show (l.map (Value.int IntKind.u8)).length = slen.val by simp; omega] at hload
                rw [run_bytesToString w a slen.val cap l hload]
                have hf : ∀ (l : List Int) (r : ByteArray), l.foldl (fun r n => r.push (UInt8.ofNat n.toNat)) r = ⟨r.data ++ (bytesOfInts l).toArray⟩ := by
                  intro l
                  induction l with
                  | nil => intro r; simp [bytesOfInts]
                  | cons n l ih =>
                    intro r
                    simp only [List.foldl_cons, ih]
                    simp [ByteArray.push, bytesOfInts]
                rw [hf]
                have he0 : ByteArray.empty.data = #[] := rfl
                rw [he0]
                simp
            simp only [Sem.run_bind, hr, Result.andThen_ok, Sem.run_pure]
          · cases h
        · cases h
      · cases h
    · cases h
  · cases h

end Go.Eng
