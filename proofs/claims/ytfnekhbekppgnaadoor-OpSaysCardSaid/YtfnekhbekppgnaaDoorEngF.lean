import Derived.Test.YtfnekhbekppgnaaDoorEngE
namespace Go.Eng
variable {P : Program}

/-! Numbers. -/

def numOf : SV → Option (IntKind × Int × Bool)
  | .con (.int k n) => some (k, n, true)
  | .int k n => some (k, n, false)
  | _ => none

theorem numOf_ok {e : Env} {s : SV} {v : Value} {k : IntKind} {n : Int} {b : Bool} (h : s.R e v) (hi : numOf s = some (k, n, b)) : v = .int k n := by
  unfold numOf at hi
  split at hi
  · cases hi; simpa [SV.R] using h
  · cases hi; simpa [SV.R] using h
  · cases hi

def mkNum (lit : Bool) (k : IntKind) (n : Int) : SV := match lit with | true => .con (.int k n) | false => .int k n
theorem R_mkNum (e : Env) (lit : Bool) (k : IntKind) (n : Int) : (mkNum lit k n).R e (.int k n) := by cases lit <;> simp [mkNum, SV.R]

def mkBool (lit : Bool) (b : Bool) : SV := match lit with | true => .con (.bool b) | false => .bool b
theorem R_mkBool (e : Env) (lit : Bool) (b : Bool) : (mkBool lit b).R e (.bool b) := by cases lit <;> simp [mkBool, SV.R]

def In64 (n : Int) : Prop := -9223372036854775808 ≤ n ∧ n ≤ 9223372036854775807
def InU64 (n : Int) : Prop := 0 ≤ n ∧ n ≤ 18446744073709551615

theorem wrap_In64 {n : Int} (h : In64 n) : IntKind.i64.wrap n = n := by
  unfold In64 at h
  simp [IntKind.wrap, IntKind.bits, IntKind.signed]
  omega

theorem wrap_InU64 {n : Int} (h : InU64 n) : IntKind.u64.wrap n = n := by
  unfold InU64 at h
  simp [IntKind.wrap, IntKind.bits, IntKind.signed]
  omega

/-- A number that is reckoned: as it is where nothing wraps (then a condition), or wrapped. -/
def mkRes (lit wr : Bool) (k : IntKind) (n : Int) : SV × List Prop :=
  match lit with
  | true => (.con (.int k (k.wrap n)), [])
  | false => match wr, k with
    | false, .i64 => (.int .i64 n, [In64 n])
    | false, .u64 => (.int .u64 n, [InU64 n])
    | _, k => (.int k (k.wrap n), [])

theorem mkRes_ok (e : Env) (lit wr : Bool) (k : IntKind) (n : Int) (h : ∀ p ∈ (mkRes lit wr k n).2, p) : (mkRes lit wr k n).1.R e (.int k (k.wrap n)) := by
  unfold mkRes at h ⊢
  cases lit with
  | true => simp [SV.R]
  | false =>
    cases wr with
    | true => simp [SV.R]
    | false =>
      cases k <;> simp only [SV.R] <;> try rfl
      · rw [wrap_In64 (h _ (by simp))]
      · rw [wrap_InU64 (h _ (by simp))]

theorem mkRes_ok' {e : Env} {lit wr : Bool} {k : IntKind} {n : Int} {s : SV} {ps : List Prop} (h : mkRes lit wr k n = (s, ps)) (hp : ∀ p ∈ ps, p) : s.R e (.int k (k.wrap n)) := by
  have := mkRes_ok e lit wr k n (by rw [h]; exact hp)
  rw [h] at this
  exact this

def bitsOp (op : BinOp) (k : IntKind) (x y : Int) : Option Int :=
  match op with
  | .and => some (k.wrap (BitVec.ofInt k.bits x &&& BitVec.ofInt k.bits y).toNat)
  | .or => some (k.wrap (BitVec.ofInt k.bits x ||| BitVec.ofInt k.bits y).toNat)
  | .xor => some (k.wrap (BitVec.ofInt k.bits x ^^^ BitVec.ofInt k.bits y).toNat)
  | .andNot => some (k.wrap (BitVec.ofInt k.bits x &&& ~~~ BitVec.ofInt k.bits y).toNat)
  | _ => none

def intBin (op : BinOp) (k k2 : IntKind) (x y : Int) (lx ly wr : Bool) : Option (SV × List Prop) :=
  match op with
  | .shl => match ly with
    | true => if 0 ≤ y then let r := mkRes lx wr k (x * 2 ^ (min y.toNat k.bits)); some r else none
    | false => let r := mkRes false wr k (x * 2 ^ (min y.toNat k.bits)); some (r.1, (0 ≤ y) :: r.2)
  | .shr => match ly with
    | true => if 0 ≤ y then some (mkNum lx k (x.fdiv (2 ^ (min y.toNat k.bits))), []) else none
    | false => some (.int k (x.fdiv (2 ^ (min y.toNat k.bits))), [0 ≤ y])
  | _ => if k ≠ k2 then none else
    match op with
    | .add => some (mkRes (lx && ly) wr k (x + y))
    | .sub => some (mkRes (lx && ly) wr k (x - y))
    | .mul => some (mkRes (lx && ly) wr k (x * y))
    | .quo => match ly with
      | true => if y = 0 then none else some (mkRes lx wr k (x.tdiv y))
      | false => let r := mkRes false wr k (x.tdiv y); some (r.1, (y ≠ 0) :: r.2)
    | .rem => match ly with
      | true => if y = 0 then none else some (mkNum lx k (x.tmod y), [])
      | false => some (.int k (x.tmod y), [y ≠ 0])
    | .eql => some (mkBool (lx && ly) (x == y), [])
    | .neq => some (mkBool (lx && ly) (x != y), [])
    | .lss => some (mkBool (lx && ly) (decide (x < y)), [])
    | .leq => some (mkBool (lx && ly) (decide (x ≤ y)), [])
    | .gtr => some (mkBool (lx && ly) (decide (x > y)), [])
    | .geq => some (mkBool (lx && ly) (decide (x ≥ y)), [])
    | op => match bitsOp op k x y with
      | some n => some (mkNum (lx && ly) k n, [])
      | none => none

theorem intBin_ok {op : BinOp} {k k2 : IntKind} {x y : Int} {lx ly wr : Bool} {s : SV} {ps : List Prop} (h : intBin op k k2 x y lx ly wr = some (s, ps)) (hp : ∀ p ∈ ps, p)
    (e : Env) (w : World) (t : TypeId) : ∃ v, (binOp op t (.int k x) (.int k2 y)).run P w = .ok v w ∧ s.R e v := by
  unfold intBin at h
  cases op
  case shl =>
    cases ly with
    | true =>
      simp only at h
      split at h
      · rename_i hy
        simp only [Option.some.injEq] at h
        have h1 := congrArg Prod.fst h
        have h2 := congrArg Prod.snd h
        simp only at h1 h2
        subst h1; subst h2
        refine ⟨_, ?_, mkRes_ok e _ _ _ _ hp⟩
        simp [binOp, Op.shift, show ¬ y < 0 by omega]
      · cases h
    | false =>
      simp only [Option.some.injEq, Prod.mk.injEq] at h
      obtain ⟨rfl, rfl⟩ := h
      have hy := hp _ (List.mem_cons_self)
      refine ⟨_, ?_, mkRes_ok e _ _ _ _ fun p hpp => hp p (List.mem_cons_of_mem _ hpp)⟩
      simp [binOp, Op.shift, show ¬ y < 0 by omega]
  case shr =>
    cases ly with
    | true =>
      simp only at h
      split at h
      · rename_i hy
        cases h
        refine ⟨_, ?_, R_mkNum e _ _ _⟩
        simp [binOp, Op.shift, show ¬ y < 0 by omega]
      · cases h
    | false =>
      cases h
      have hy := hp _ (List.mem_cons_self)
      refine ⟨_, ?_, by simp [SV.R]; rfl⟩
      simp [binOp, Op.shift, show ¬ y < 0 by omega]
  all_goals
    simp only at h
    split at h
    · cases h
    rename_i hk
    have hk : k = k2 := by simpa using hk
    subst hk
  case add => exact ⟨_, by simp [binOp, Op.intArith], mkRes_ok' (Option.some.inj h) hp⟩
  case sub => exact ⟨_, by simp [binOp, Op.intArith], mkRes_ok' (Option.some.inj h) hp⟩
  case mul => exact ⟨_, by simp [binOp, Op.intArith], mkRes_ok' (Option.some.inj h) hp⟩
  case quo =>
    cases ly with
    | true =>
      simp only at h
      split at h
      · cases h
      · rename_i hy
        exact ⟨_, by simp [binOp, Op.intDiv, hy], mkRes_ok' (Option.some.inj h) hp⟩
    | false =>
      simp only [Option.some.injEq, Prod.mk.injEq] at h
      obtain ⟨rfl, rfl⟩ := h
      have hy : y ≠ 0 := hp _ (List.mem_cons_self)
      exact ⟨_, by simp [binOp, Op.intDiv, hy], mkRes_ok e _ _ _ _ fun p hpp => hp p (List.mem_cons_of_mem _ hpp)⟩
  case rem =>
    cases ly with
    | true =>
      simp only at h
      split at h
      · cases h
      · rename_i hy
        cases h
        exact ⟨_, by simp [binOp, Op.intDiv, hy], R_mkNum e _ _ _⟩
    | false =>
      cases h
      have hy : y ≠ 0 := hp _ (List.mem_cons_self)
      exact ⟨.int k (x.tmod y), by simp [binOp, Op.intDiv, hy], by simp [SV.R]⟩
  case eql => cases h; exact ⟨_, by simp [binOp, Op.intCmp], R_mkBool e _ _⟩
  case neq => cases h; exact ⟨_, by simp [binOp, Op.intCmp], R_mkBool e _ _⟩
  case lss => cases h; exact ⟨_, by simp [binOp, Op.intCmp], R_mkBool e _ _⟩
  case leq => cases h; exact ⟨_, by simp [binOp, Op.intCmp], R_mkBool e _ _⟩
  case gtr => cases h; exact ⟨_, by simp [binOp, Op.intCmp], R_mkBool e _ _⟩
  case geq => cases h; exact ⟨_, by simp [binOp, Op.intCmp], R_mkBool e _ _⟩
  case and => simp only [bitsOp] at h; cases h; exact ⟨_, by simp [binOp, Op.intBits], R_mkNum e _ _ _⟩
  case or => simp only [bitsOp] at h; cases h; exact ⟨_, by simp [binOp, Op.intBits], R_mkNum e _ _ _⟩
  case xor => simp only [bitsOp] at h; cases h; exact ⟨_, by simp [binOp, Op.intBits], R_mkNum e _ _ _⟩
  case andNot => simp only [bitsOp] at h; cases h; exact ⟨_, by simp [binOp, Op.intBits], R_mkNum e _ _ _⟩

/-! Other comparisons: pointers, functions, slices against nil; bools; strings. -/

def eqSV (P : Program) (t : TypeId) (a b : SV) : Option Bool :=
  match P.underlying t, a, b with
  | some (.pointer _), .con (.pointer none), .con (.pointer none) => some true
  | some (.pointer _), .ptr _ _ _ _, .con (.pointer none) => some false
  | some (.pointer _), .con (.pointer none), .ptr _ _ _ _ => some false
  | some (.func _ _ _), .con .nilFunc, .con .nilFunc => some true
  | some (.func _ _ _), .func _ _ _, .con .nilFunc => some false
  | some (.func _ _ _), .con .nilFunc, .func _ _ _ => some false
  | some .bool, .con (.bool x), .con (.bool y) => some (x == y)
  | some (.slice _), .con (.slice none 0 0), .con (.slice none 0 0) => some true
  | _, _, _ => none

theorem eqIn_ok {t : TypeId} {a b : SV} {r : Bool} (h : eqSV P t a b = some r) {e : Env} (w : World) {x y : Value} (hx : a.R e x) (hy : b.R e y) (d : Nat) :
    (Op.equalIn (d + 1) t x y).run P w = .ok r w ∧ ∀ op X Y, (eqGuard op t X Y x y).run P w = .ok () w := by
  unfold eqSV at h
  split at h
  all_goals try (cases h; done)
  all_goals
    rename_i hu
    cases h
    simp only [SV.R] at hx hy
  · subst hx; subst hy
    exact ⟨by simp only [Op.equalIn, Sem.run_bind, run_underlying hu]; rfl, fun op X Y => by cases op <;> rfl⟩
  · obtain ⟨k, _, rfl⟩ := hx; subst hy
    exact ⟨by simp only [Op.equalIn, Sem.run_bind, run_underlying hu]; rfl, fun op X Y => by cases op <;> rfl⟩
  · obtain ⟨k, _, rfl⟩ := hy; subst hx
    exact ⟨by simp only [Op.equalIn, Sem.run_bind, run_underlying hu]; rfl, fun op X Y => by cases op <;> rfl⟩
  · subst hx; subst hy
    exact ⟨by simp only [Op.equalIn, Sem.run_bind, run_underlying hu]; rfl, fun op X Y => by cases op <;> rfl⟩
  · obtain ⟨_, _, rfl, _, _⟩ := hx; subst hy
    exact ⟨by simp only [Op.equalIn, Sem.run_bind, run_underlying hu]; rfl, fun op X Y => by cases op <;> rfl⟩
  · obtain ⟨_, _, rfl, _, _⟩ := hy; subst hx
    exact ⟨by simp only [Op.equalIn, Sem.run_bind, run_underlying hu]; rfl, fun op X Y => by cases op <;> rfl⟩
  · subst hx; subst hy
    exact ⟨by simp only [Op.equalIn, Sem.run_bind, run_underlying hu]; rfl, fun op X Y => by cases op <;> rfl⟩
  · subst hx; subst hy
    exact ⟨by simp only [Op.equalIn, Sem.run_bind, run_underlying hu]; rfl, fun op X Y => by cases op <;> rfl⟩

theorem eqSV_ok {t : TypeId} {a b : SV} {r : Bool} (h : eqSV P t a b = some r) {e : Env} (w : World) {x y : Value} (hx : a.R e x) (hy : b.R e y) :
    (Op.equal t x y).run P w = .ok r w ∧ ∀ op X Y, (eqGuard op t X Y x y).run P w = .ok () w := eqIn_ok h w hx hy 9999

end Go.Eng
