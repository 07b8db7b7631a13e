import Derived.Test.YtfnekhbekppgnaaDoorEngF
import Derived.Laws.StructEq
namespace Go.Eng
variable {P : Program}

/-! Structs and arrays as values. -/

def partS (P : Program) (t : TypeId) (xs : List SV) (off : Nat) : Option SV :=
  match isAggT P t with
  | some true => match sizeT P t with
    | some c => some (.agg ((xs.drop off).take c))
    | none => none
  | some false => xs[off]?
  | none => none

theorem partS_ok {t : TypeId} {xs : List SV} {off : Nat} {s : SV} (h : partS P t xs off = some s) {e : Env} (w : World) {u : List Value} (hu : SV.RL e xs u) :
    ∃ v, (part t u.toArray off).run P w = .ok v w ∧ s.R e v := by
  unfold partS at h
  cases hg : isAggT P t with
  | none => rw [hg] at h; cases h
  | some b =>
  rw [hg] at h
  cases b with
  | true =>
    simp only at h
    cases hc : sizeT P t with
    | none => rw [hc] at h; cases h
    | some c =>
    rw [hc] at h
    cases h
    refine ⟨.agg ((u.drop off).take c).toArray, ?_, by simp only [SV.R]; exact ⟨_, rfl, RL_take _ (RL_drop _ hu)⟩⟩
    simp [part, run_isAggT hg, run_sizeT hc]
  | false =>
    simp only at h
    obtain ⟨v, h1, h2⟩ := RL_get hu h
    refine ⟨v, ?_, h2⟩
    simp [part, run_isAggT hg, h1]

def boolOf : SV → Option (Bool × Bool)
  | .con (.bool b) => some (b, true)
  | .bool b => some (b, false)
  | _ => none

theorem boolOf_ok {e : Env} {s : SV} {v : Value} {b l : Bool} (h : s.R e v) (hb : boolOf s = some (b, l)) : v = .bool b := by
  unfold boolOf at hb
  split at hb <;> cases hb <;> simpa [SV.R] using h

def strOf : SV → Option (List UInt8 × Bool)
  | .con (.string x) => some (x.data.toList, true)
  | .str l => some (l, false)
  | _ => none

theorem strOf_ok {e : Env} {s : SV} {v : Value} {x : List UInt8} {l : Bool} (h : s.R e v) (hs : strOf s = some (x, l)) : v = .string ⟨x.toArray⟩ := by
  unfold strOf at hs
  split at hs <;> cases hs <;> simpa [SV.R] using h

def eqAnd (a b : Bool × Bool) : Bool × Bool :=
  match a.2 with
  | true => match a.1 with
    | false => (false, true)
    | true => b
  | false => (a.1 && b.1, false)

theorem eqAnd_fst (a b : Bool × Bool) : (eqAnd a b).1 = (a.1 && b.1) := by
  obtain ⟨r, l⟩ := a
  cases r <;> cases l <;> rfl

def eqFieldsS (P : Program) (rec : TypeId → SV → SV → Option (Bool × Bool)) (xs ys : List SV) : List Field → Option (Bool × Bool)
  | [] => some (true, true)
  | f :: fs => if f.name = "_" then none else
    match partS P f.type xs f.offset, partS P f.type ys f.offset with
    | some a, some b => match rec f.type a b, eqFieldsS P rec xs ys fs with
      | some r, some r' => some (eqAnd r r')
      | _, _ => none
    | _, _ => none

def eqS (P : Program) : Nat → TypeId → SV → SV → Option (Bool × Bool)
  | 0, _, _, _ => none
  | d + 1, t, a, b => match P.underlying t with
    | some (.int _) => match numOf a, numOf b with
      | some (k, x, lx), some (k', y, ly) => if k = k' then some (x == y, lx && ly) else none
      | _, _ => none
    | some .bool => match boolOf a, boolOf b with
      | some (x, lx), some (y, ly) => some (x == y, lx && ly)
      | _, _ => none
    | some .string => match strOf a, strOf b with
      | some (x, lx), some (y, ly) => some (x == y, lx && ly)
      | _, _ => none
    | some (.struct fs) => match P.stoodInHeld t, a, b with
      | false, .agg xs, .agg ys => eqFieldsS P (eqS P d) xs ys fs.toList
      | false, .con (.agg xs), .agg ys => eqFieldsS P (eqS P d) (xs.toList.map .con) ys fs.toList
      | false, .agg xs, .con (.agg ys) => eqFieldsS P (eqS P d) xs (ys.toList.map .con) fs.toList
      | _, _, _ => none
    | _ => match eqSV P t a b with
      | some r => some (r, true)
      | none => none

theorem eqFieldsS_ok {rec : TypeId → SV → SV → Option (Bool × Bool)} {e : Env} {d : Nat} (w : World)
    (hr : ∀ t a b r l x y, rec t a b = some (r, l) → SV.R e a x → SV.R e b y → (Op.equalIn d t x y).run P w = .ok r w)
    {xs ys : List SV} {u v : List Value} (hu : SV.RL e xs u) (hv : SV.RL e ys v) :
    ∀ {fs : List Field} {r l : Bool}, eqFieldsS P rec xs ys fs = some (r, l) → (Op.eqFields d u.toArray v.toArray fs).run P w = .ok r w
  | [], r, l, h => by
    simp only [eqFieldsS, Option.some.injEq, Prod.mk.injEq] at h
    obtain ⟨rfl, rfl⟩ := h
    simp [Op.eqFields]
  | f :: fs, r, l, h => by
    unfold eqFieldsS at h
    split at h
    · cases h
    rename_i hname
    split at h
    · rename_i a b ha hb
      split at h
      · rename_i r1 r2 h1 h2
        obtain ⟨b1, l1⟩ := r1
        obtain ⟨b2, l2⟩ := r2
        obtain ⟨x, hx1, hx2⟩ := partS_ok ha w hu
        obtain ⟨y, hy1, hy2⟩ := partS_ok hb w hv
        have i1 := hr _ _ _ _ _ _ _ h1 hx2 hy2
        have i2 := eqFieldsS_ok w hr hu hv h2
        have hres : r = (b1 && b2) := by
          unfold eqAnd at h
          cases b1 <;> cases l1 <;> simp at h <;> simp [h.1]
        simp only [Op.eqFields, ne_eq, hname, not_false_eq_true, if_true, Sem.run_bind, hx1, hy1, Result.andThen_ok, i1, Sem.run_ite]
        cases b1
        · simp [hres]
        · simp [hres, i2]
      · cases h
    · cases h

theorem eqS_ok {e : Env} (w : World) : ∀ {d : Nat} {t : TypeId} {a b : SV} {r l : Bool} {x y : Value}, eqS P d t a b = some (r, l) → a.R e x → b.R e y →
    ∀ {D}, d ≤ D → (Op.equalIn D t x y).run P w = .ok r w
  | 0, _, _, _, _, _, _, _, h, _, _, _, _ => by cases h
  | d + 1, t, a, b, r, l, x, y, h, hx, hy, D, hD => by
    obtain ⟨D, rfl⟩ : ∃ D', D = D' + 1 := ⟨D - 1, by omega⟩
    unfold eqS at h
    split at h
    · rename_i k hu
      split at h
      · rename_i k1 n1 l1 k2 n2 l2 h1 h2
        split at h
        · rename_i hk
          subst hk
          cases h
          rw [numOf_ok hx h1, numOf_ok hy h2]
          exact run_equalIn_int w D t _ _ _ _ hu
        · cases h
      · cases h
    · rename_i hu
      split at h
      · rename_i n1 l1 n2 l2 h1 h2
        cases h
        rw [boolOf_ok hx h1, boolOf_ok hy h2]
        exact run_equalIn_bool' w D t _ _ hu
      · cases h
    · rename_i hu
      split at h
      · rename_i n1 l1 n2 l2 h1 h2
        cases h
        rw [strOf_ok hx h1, strOf_ok hy h2]
        rw [run_equalIn_string w D t _ _ hu, ByteArray.toList_eq, ByteArray.toList_eq]
      · cases h
    · rename_i fs hu
      have hfs : P.fieldsOf t = fs := by simp [Program.fieldsOf, hu]
      have hu' : P.underlying t = some (.struct (P.fieldsOf t)) := by rw [hfs]; exact hu
      split at h
      · rename_i xs ys hs
        simp only [SV.R] at hx hy
        obtain ⟨u, rfl, hu1⟩ := hx
        obtain ⟨v, rfl, hv1⟩ := hy
        rw [run_equalIn_struct w D t _ _ hu' hs, hfs]
        exact eqFieldsS_ok w (fun t a b r l x y h hx hy => eqS_ok w h hx hy (by omega)) hu1 hv1 h
      · rename_i xs ys hs
        simp only [SV.R] at hx hy
        subst hx
        obtain ⟨v, rfl, hv1⟩ := hy
        rw [run_equalIn_struct w D t _ _ hu' hs, hfs]
        have := eqFieldsS_ok w (fun t a b r l x y h hx hy => eqS_ok w h hx hy (D := D) (by omega)) (RL_con (e := e) xs.toList) hv1 h
        simpa using this
      · rename_i xs ys hs
        simp only [SV.R] at hx hy
        subst hy
        obtain ⟨u, rfl, hu1⟩ := hx
        rw [run_equalIn_struct w D t _ _ hu' hs, hfs]
        have := eqFieldsS_ok w (fun t a b r l x y h hx hy => eqS_ok w h hx hy (D := D) (by omega)) hu1 (RL_con (e := e) ys.toList) h
        simpa using this
      · cases h
    · split at h
      · rename_i hr
        cases h
        exact (eqIn_ok hr w hx hy D).1
      · cases h

def egT (p : Program) : Nat → TypeId → Bool
  | 0, _ => true
  | d + 1, t => match p.underlying t with
    | some (.interface ms) => !ms.isEmpty
    | some (.struct fs) => fs.toList.any fun f => f.name != "_" && egT p d f.type
    | some (.array _ e) => egT p d e
    | _ => false

theorem egT_eq (p : Program) : ∀ (d : Nat) (t : TypeId), egT p d t = p.eqGuardType d t
  | 0, _ => rfl
  | d + 1, t => by
    unfold egT Program.eqGuardType
    split <;> simp_all [egT_eq p d]

def eqGuardS (P : Program) (t : TypeId) (a b : SV) : Bool :=
  match a, b with
  | .agg _, .agg _ => !egT P P.depth t
  | .agg _, .con (.agg _) => !egT P P.depth t
  | .con (.agg _), .agg _ => !egT P P.depth t
  | .con (.agg _), .con (.agg _) => false
  | .con .nilIface, .con .nilIface => false
  | .any, _ => false
  | _, .any => false
  | _, _ => true

theorem agg_of {e : Env} {a : SV} {u : Array Value} (h : a.R e (.agg u)) : (∃ l, a = .agg l) ∨ (∃ u, a = .con (.agg u)) ∨ a = .any := by
  cases a <;> simp [SV.R] at h ⊢
  · exact ⟨_, h.symm⟩

theorem nilIface_of {e : Env} {a : SV} (h : a.R e .nilIface) : a = .con .nilIface ∨ a = .any := by
  cases a <;> simp [SV.R] at h ⊢
  · exact h.symm

theorem eqGuardS_ok {t : TypeId} {a b : SV} (h : eqGuardS P t a b = true) {e : Env} (w : World) {x y : Value} (hx : a.R e x) (hy : b.R e y) (op : BinOp) (X Y : Operand) :
    (eqGuard op t X Y x y).run P w = .ok () w := by
  have hop : (op = .eql ∨ op = .neq) ∨ ((!(op matches .eql | .neq)) = true) := by cases op <;> simp
  rcases hop with hop | hop
  · have key : (eqGuard op t X Y x y) = (eqGuard .eql t X Y x y) := by rcases hop with rfl | rfl <;> rfl
    rw [key]
    unfold eqGuard
    simp only [Bool.not_true, Bool.false_eq_true, if_false]
    split
    · exfalso
      rcases nilIface_of hx with rfl | rfl
      · rcases nilIface_of hy with rfl | rfl
        · simp [eqGuardS] at h
        · simp [eqGuardS] at h
      · simp [eqGuardS] at h
    · rename_i u v
      have hg : P.eqGuardType P.depth t = false := by
        rcases agg_of hx with ⟨l, rfl⟩ | ⟨l, rfl⟩ | rfl
        · rcases agg_of hy with ⟨m, rfl⟩ | ⟨m, rfl⟩ | rfl
          · simpa [eqGuardS, egT_eq] using h
          · simpa [eqGuardS, egT_eq] using h
          · simp [eqGuardS] at h
        · rcases agg_of hy with ⟨m, rfl⟩ | ⟨m, rfl⟩ | rfl
          · simpa [eqGuardS, egT_eq] using h
          · simp [eqGuardS] at h
          · simp [eqGuardS] at h
        · simp [eqGuardS] at h
      simp [hg]
    · rfl
  · cases op <;> simp at hop <;> rfl

end Go.Eng
