import Derived.Orders
import Derived.Laws.AppendOwn
namespace Go.Eng

/-! Names for blocks, symbolic values, symbolic heaps: what they say of a world. -/

structure Blk where
  b : Nat
  κ : Nat
  ν : Bool

abbrev Env := Nat → Option Blk

inductive LN where
  | l (n : Nat)
  | o (n : Nat)

def LN.val : LN → Nat
  | .l n => n
  | .o n => n

inductive SV where
  | any
  | con (x : Value)
  | int (k : IntKind) (n : Int)
  | bool (b : Bool)
  | ptr (n : Nat) (i : LN) (sz j : Nat)
  | sl (n sz : Nat) (off len : LN)
  | func (f : Fn) (first cap : List SV)
  | agg (l : List SV)
  | tup (l : List SV)
  | opt (n : Nat)
  | str (l : List UInt8)

mutual
def SV.R (e : Env) : SV → Value → Prop
  | .any, _ => True
  | .con x, y => y = x
  | .int k n, y => y = .int k n
  | .bool b, y => y = .bool b
  | .ptr n i sz j, y => ∃ k, e n = some k ∧ y = .pointer (some ⟨k.b, i.val * sz + j, none⟩)
  | .sl n sz off len, y => ∃ k, e n = some k ∧
      ((k.ν = true ∧ len.val = 0 ∧ off.val = 0 ∧ y = .slice none 0 0) ∨
       (k.ν = false ∧ off.val + len.val ≤ k.κ ∧ ∃ o, (o = off.val ∨ (k.κ = off.val ∧ 0 < off.val)) ∧
          y = .slice (some ⟨k.b, o * sz, none⟩) len.val (k.κ - off.val)))
  | .func f a b, y => ∃ u v : List Value, y = .func f u.toArray v.toArray ∧ SV.RL e a u ∧ SV.RL e b v
  | .agg l, y => ∃ u : List Value, y = .agg u.toArray ∧ SV.RL e l u
  | .tup l, y => ∃ u : List Value, y = .tuple u.toArray ∧ SV.RL e l u
  | .str l, y => y = .string ⟨l.toArray⟩
  | .opt n, y => ∃ k, e n = some k ∧ ((k.ν = true ∧ y = .pointer none) ∨ (k.ν = false ∧ y = .pointer (some ⟨k.b, 0, none⟩)))
def SV.RL (e : Env) : List SV → List Value → Prop
  | [], [] => True
  | s :: l, v :: u => SV.R e s v ∧ SV.RL e l u
  | [], _ :: _ => False
  | _ :: _, [] => False
end

theorem SV.RL_nil (e : Env) : SV.RL e [] [] := by simp [SV.RL]

/-- The environment has grown: names that were there are as they were; only names from lo to hi less 1 are new. -/
structure Ext (lo hi : Nat) (e e' : Env) : Prop where
  up : ∀ n k, e n = some k → e' n = some k
  out : ∀ n, n < lo ∨ hi ≤ n → e' n = e n

def Free (lo hi : Nat) (e : Env) : Prop := ∀ n, lo ≤ n → n < hi → e n = none

theorem Ext.refl (lo hi : Nat) (e : Env) : Ext lo hi e e := ⟨fun _ _ h => h, fun _ _ => rfl⟩

theorem Ext.trans {lo hi lo₁ hi₁ lo₂ hi₂ : Nat} {e e₁ e₂ : Env} (h₁ : Ext lo₁ hi₁ e e₁) (h₂ : Ext lo₂ hi₂ e₁ e₂)
    (a₁ : lo ≤ lo₁) (b₁ : hi₁ ≤ hi) (a₂ : lo ≤ lo₂) (b₂ : hi₂ ≤ hi) : Ext lo hi e e₂ :=
  ⟨fun n k h => h₂.up n k (h₁.up n k h), fun n h => by
    rw [h₂.out n (by omega), h₁.out n (by omega)]⟩

theorem Ext.wide {lo hi lo₁ hi₁ : Nat} {e e₁ : Env} (h₁ : Ext lo₁ hi₁ e e₁) (a₁ : lo ≤ lo₁) (b₁ : hi₁ ≤ hi) : Ext lo hi e e₁ :=
  h₁.trans (Ext.refl lo hi e₁) a₁ b₁ (Nat.le_refl _) (Nat.le_refl _)

theorem Free.of_ext {lo hi lo₁ hi₁ : Nat} {e e₁ : Env} (h : Free lo hi e) (h₁ : Ext lo₁ hi₁ e e₁) (a : hi₁ ≤ lo ∨ hi ≤ lo₁) : Free lo hi e₁ :=
  fun n h1 h2 => by rw [h₁.out n (by omega)]; exact h n h1 h2

theorem Free.sub {lo hi lo₁ hi₁ : Nat} {e : Env} (h : Free lo hi e) (a : lo ≤ lo₁) (b : hi₁ ≤ hi) : Free lo₁ hi₁ e :=
  fun n h1 h2 => h n (by omega) (by omega)

mutual
theorem SV.R_mono {e e' : Env} (h : ∀ n k, e n = some k → e' n = some k) : (s : SV) → (v : Value) → SV.R e s v → SV.R e' s v
  | .any, _, _ => trivial
  | .con _, _, r => r
  | .int _ _, _, r => r
  | .bool _, _, r => r
  | .ptr _ _ _ _, _, r => by
    obtain ⟨k, h1, h2⟩ := r
    exact ⟨k, h _ _ h1, h2⟩
  | .sl _ _ _ _, _, r => by
    obtain ⟨k, h1, h2⟩ := r
    exact ⟨k, h _ _ h1, h2⟩
  | .func _ a b, _, r => by
    obtain ⟨u, v, h1, h2, h3⟩ := r
    exact ⟨u, v, h1, SV.RL_mono h a u h2, SV.RL_mono h b v h3⟩
  | .agg l, _, r => by
    obtain ⟨u, h1, h2⟩ := r
    exact ⟨u, h1, SV.RL_mono h l u h2⟩
  | .tup l, _, r => by
    obtain ⟨u, h1, h2⟩ := r
    exact ⟨u, h1, SV.RL_mono h l u h2⟩
  | .str _, _, r => r
  | .opt _, _, r => by
    obtain ⟨k, h1, h2⟩ := r
    exact ⟨k, h _ _ h1, h2⟩
theorem SV.RL_mono {e e' : Env} (h : ∀ n k, e n = some k → e' n = some k) : (l : List SV) → (u : List Value) → SV.RL e l u → SV.RL e' l u
  | [], [], _ => SV.RL_nil e'
  | s :: l, v :: u, r => ⟨SV.R_mono h s v r.1, SV.RL_mono h l u r.2⟩
  | [], _ :: _, r => r.elim
  | _ :: _, [], r => r.elim
end

/-! Entries of a heap. -/

/-- As many names, each that stood for a block stands for it still. -/
def upTo (a b : List (Option Blk)) : Prop := a.length = b.length ∧ ∀ (i : Nat) (k : Blk), a[i]? = some (some k) → b[i]? = some (some k)

/-- Some memory that belongs to a thing: told by the blocks that it may look at (its own first), the blocks that are its own, the world. -/
structure Asn where
  P : List (Option Blk) → List Nat → World → Prop
  up : ∀ is is' bs w, upTo is is' → P is bs w → P is' bs w
  loc : ∀ is bs w w', P is bs w → (∀ b ∈ bs, w'.heap[b]? = w.heap[b]?) → P is bs w'
  lt : ∀ is bs w, P is bs w → ∀ b ∈ bs, b < w.heap.size

inductive Entry where
  | blk (cs : List SV) (ty : TypeId)
  | arr (cs : List (List SV)) (sz : Nat) (ty : TypeId)
  | ints (k : IntKind) (l : List Int) (ty : TypeId)
  | row (sz len : Nat) (f : Nat → Nat → SV) (ty : TypeId)
  | strs (l : List (List UInt8)) (ty : TypeId)
  | abs (A : Asn) (imps : List Nat)

def rowOk (e : Env) (w : World) (n sz len : Nat) (f : Nat → Nat → SV) (ty : TypeId) (bs : List Nat) : Prop :=
  ∃ k, e n = some k ∧
    ((k.ν = true ∧ bs = [] ∧ len = 0) ∨
     (k.ν = false ∧ bs = [k.b] ∧ len ≤ k.κ ∧ k.κ ≤ maxLen ∧ ∃ c : Array Value, w.heap[k.b]? = some (.cells c ty (0, 0)) ∧ c.size = k.κ * sz ∧
        ∀ i j, i < len → j < sz → ∃ v, c[i * sz + j]? = some v ∧ (f i j).R e v))

def arrF (cs : List (List SV)) (i j : Nat) : SV := (cs.getD i []).getD j .any
def intsF (k : IntKind) (l : List Int) (i _j : Nat) : SV := .int k (l.getD i 0)

def strsF (l : List (List UInt8)) (i _j : Nat) : SV := .str (l.getD i [])

def Entry.ok (e : Env) (w : World) (n : Nat) : Entry → List Nat → Prop
  | .blk cs ty, bs => ∃ k, e n = some k ∧ bs = [k.b] ∧ ∃ u : List Value, w.heap[k.b]? = some (.cells u.toArray ty (0, 0)) ∧ SV.RL e cs u ∧ k.ν = false
  | .arr cs sz ty, bs => rowOk e w n sz cs.length (arrF cs) ty bs
  | .ints k l ty, bs => rowOk e w n 1 l.length (intsF k l) ty bs
  | .row sz len f ty, bs => rowOk e w n sz len f ty bs
  | .strs l ty, bs => rowOk e w n 1 l.length (strsF l) ty bs
  | .abs A imps, bs => A.P ((n :: imps).map e) bs w

abbrev Heap := List (Nat × Entry)

def HSat (e : Env) (w : World) : Heap → List Nat → Prop
  | [], bs => bs = []
  | (n, E) :: σ, bs => ∃ b₁ b₂, bs = b₁ ++ b₂ ∧ E.ok e w n b₁ ∧ HSat e w σ b₂

theorem upTo_map {e e' : Env} (h : ∀ n k, e n = some k → e' n = some k) (l : List Nat) : upTo (l.map e) (l.map e') := by
  refine ⟨by simp, fun (i : Nat) (k : Blk) (hi : (l.map e)[i]? = some (some k)) => ?_⟩
  show (l.map e')[i]? = some (some k)
  rw [List.getElem?_map] at hi ⊢
  cases hl : l[i]? with
  | none => rw [hl] at hi; cases hi
  | some m =>
    rw [hl] at hi
    simp only [Option.map_some, Option.some.injEq] at hi ⊢
    exact h _ _ hi

theorem rowOk.mono {e e' : Env} (h : ∀ n k, e n = some k → e' n = some k) {w n sz len f ty bs} (r : rowOk e w n sz len f ty bs) : rowOk e' w n sz len f ty bs := by
  obtain ⟨k, h1, h2 | ⟨h2, h3, h4, h4m, c, h5, h6, h7⟩⟩ := r
  · exact ⟨k, h _ _ h1, .inl h2⟩
  · refine ⟨k, h _ _ h1, .inr ⟨h2, h3, h4, h4m, c, h5, h6, fun i j hi hj => ?_⟩⟩
    obtain ⟨v, h8, h9⟩ := h7 i j hi hj
    exact ⟨v, h8, SV.R_mono h _ _ h9⟩

theorem rowOk.loc {e : Env} {w w' : World} {n sz len f ty bs} (r : rowOk e w n sz len f ty bs) (h : ∀ b ∈ bs, w'.heap[b]? = w.heap[b]?) : rowOk e w' n sz len f ty bs := by
  obtain ⟨k, h1, h2 | ⟨h2, h3, h4, h4m, c, h5, h6, h7⟩⟩ := r
  · exact ⟨k, h1, .inl h2⟩
  · exact ⟨k, h1, .inr ⟨h2, h3, h4, h4m, c, by rw [h k.b (by simp [h3])]; exact h5, h6, h7⟩⟩

theorem lt_of_get {w : World} {b : Nat} {o : Obj} (h : w.heap[b]? = some o) : b < w.heap.size := (Array.getElem?_eq_some_iff.1 h).1

theorem rowOk.lt {e : Env} {w : World} {n sz len f ty bs} (r : rowOk e w n sz len f ty bs) : ∀ b ∈ bs, b < w.heap.size := by
  obtain ⟨k, _, ⟨_, rfl, _⟩ | ⟨_, rfl, _, _, c, h5, _⟩⟩ := r
  · simp
  · intro b hb
    simp at hb
    subst hb
    exact lt_of_get h5

theorem Entry.ok_mono {e e' : Env} (h : ∀ n k, e n = some k → e' n = some k) {w n} : ∀ {E : Entry} {bs}, E.ok e w n bs → E.ok e' w n bs
  | .blk _ _, _, ⟨k, h1, h2, u, h3, h4⟩ => ⟨k, h _ _ h1, h2, u, h3, SV.RL_mono h _ _ h4.1, h4.2⟩
  | .arr _ _ _, _, r => rowOk.mono h r
  | .ints _ _ _, _, r => rowOk.mono h r
  | .row _ _ _ _, _, r => rowOk.mono h r
  | .strs _ _, _, r => rowOk.mono h r
  | .abs A _, _, r => A.up _ _ _ _ (upTo_map h _) r

theorem Entry.ok_loc {e : Env} {w w' n} : ∀ {E : Entry} {bs}, E.ok e w n bs → (∀ b ∈ bs, w'.heap[b]? = w.heap[b]?) → E.ok e w' n bs
  | .blk _ _, bs, ⟨k, h1, h2, u, h3, h4⟩, h => ⟨k, h1, h2, u, by rw [h k.b (by simp [h2])]; exact h3, h4⟩
  | .arr _ _ _, _, r, h => rowOk.loc r h
  | .ints _ _ _, _, r, h => rowOk.loc r h
  | .row _ _ _ _, _, r, h => rowOk.loc r h
  | .strs _ _, _, r, h => rowOk.loc r h
  | .abs A _, _, r, h => A.loc _ _ _ _ r h

theorem Entry.ok_lt {e : Env} {w n} : ∀ {E : Entry} {bs}, E.ok e w n bs → ∀ b ∈ bs, b < w.heap.size
  | .blk _ _, bs, ⟨k, h1, h2, u, h3, h4⟩ => by subst h2; intro b hb; simp at hb; subst hb; exact lt_of_get h3
  | .arr _ _ _, _, r => rowOk.lt r
  | .ints _ _ _, _, r => rowOk.lt r
  | .row _ _ _ _, _, r => rowOk.lt r
  | .strs _ _, _, r => rowOk.lt r
  | .abs A _, _, r => A.lt _ _ _ r

theorem HSat.mono {e e' : Env} (h : ∀ n k, e n = some k → e' n = some k) {w} : ∀ {σ : Heap} {bs}, HSat e w σ bs → HSat e' w σ bs
  | [], _, r => r
  | (_, _) :: _, _, ⟨b₁, b₂, h1, h2, h3⟩ => ⟨b₁, b₂, h1, Entry.ok_mono h h2, HSat.mono h h3⟩

theorem HSat.loc {e : Env} {w w'} : ∀ {σ : Heap} {bs}, HSat e w σ bs → (∀ b ∈ bs, w'.heap[b]? = w.heap[b]?) → HSat e w' σ bs
  | [], _, r, _ => r
  | (_, _) :: _, _, ⟨b₁, b₂, h1, h2, h3⟩, h =>
    ⟨b₁, b₂, h1, Entry.ok_loc h2 fun b hb => h b (by simp [h1, hb]), HSat.loc h3 fun b hb => h b (by simp [h1, hb])⟩

theorem HSat.lt {e : Env} {w} : ∀ {σ : Heap} {bs}, HSat e w σ bs → ∀ b ∈ bs, b < w.heap.size
  | [], _, r => by
    have : _ = [] := r
    subst this
    simp
  | (_, _) :: _, _, ⟨b₁, b₂, h1, h2, h3⟩ => by
    subst h1
    intro b hb
    rcases List.mem_append.1 hb with hb | hb
    · exact Entry.ok_lt h2 b hb
    · exact HSat.lt h3 b hb

def look : Heap → Nat → Option Entry
  | [], _ => none
  | (m, E) :: σ, n => if m == n then some E else look σ n

def del : Heap → Nat → Heap
  | [], _ => []
  | (m, E) :: σ, n => if m == n then σ else (m, E) :: del σ n

theorem HSat.del {e : Env} {w} {n : Nat} {E : Entry} : ∀ {σ : Heap} {bs}, HSat e w σ bs → look σ n = some E →
    ∃ b₁ b₂, bs.Perm (b₁ ++ b₂) ∧ E.ok e w n b₁ ∧ HSat e w (del σ n) b₂
  | [], _, _, h => by simp [look] at h
  | (m, F) :: σ, bs, ⟨b₁, b₂, h1, h2, h3⟩, h => by
    unfold look at h
    unfold Eng.del
    by_cases hm : (m == n) = true
    · rw [if_pos hm] at h ⊢
      have : m = n := by simpa using hm
      subst this
      cases h
      exact ⟨b₁, b₂, by rw [h1], h2, h3⟩
    · rw [if_neg hm] at h ⊢
      obtain ⟨c₁, c₂, h4, h5, h6⟩ := HSat.del h3 h
      refine ⟨c₁, b₁ ++ c₂, ?_, h5, b₁, c₂, rfl, h2, h6⟩
      rw [h1]
      refine (List.Perm.append_left b₁ h4).trans ?_
      rw [← List.append_assoc, ← List.append_assoc]
      exact List.Perm.append_right c₂ List.perm_append_comm

/-- The heap's entries hold, each block of them once, and none of the frame's. -/
structure At (e : Env) (w : World) (σ : Heap) (Fr : Nat → Prop) : Prop where
  ex : ∃ bs, HSat e w σ bs ∧ bs.Nodup ∧ ∀ b ∈ bs, ¬ Fr b
  fl : ∀ b, Fr b → b < w.heap.size

def Kept (Fr : Nat → Prop) (w w' : World) : Prop := (∀ b, Fr b → w'.heap[b]? = w.heap[b]?) ∧ w.heap.size ≤ w'.heap.size ∧ w'.os = w.os ∧ w'.output = w.output

theorem Kept.refl (Fr : Nat → Prop) (w : World) : Kept Fr w w := ⟨fun _ _ => rfl, Nat.le_refl _, rfl, rfl⟩

theorem Kept.trans {Fr : Nat → Prop} {w w₁ w₂ : World} (h₁ : Kept Fr w w₁) (h₂ : Kept Fr w₁ w₂) : Kept Fr w w₂ :=
  ⟨fun b hb => (h₂.1 b hb).trans (h₁.1 b hb), Nat.le_trans h₁.2.1 h₂.2.1, h₂.2.2.1.trans h₁.2.2.1, h₂.2.2.2.trans h₁.2.2.2⟩

theorem Kept.of_heap {Fr : Nat → Prop} {w w' : World} (h : w'.heap = w.heap) (ho : w'.os = w.os) (hp : w'.output = w.output) : Kept Fr w w' := ⟨fun b _ => by rw [h], by rw [h]; exact Nat.le_refl _, ho, hp⟩

theorem At.of_heap {e : Env} {w w' : World} {σ : Heap} {Fr : Nat → Prop} (h : w'.heap = w.heap) (a : At e w σ Fr) : At e w' σ Fr := by
  obtain ⟨bs, h1, h2, h3⟩ := a.ex
  exact ⟨⟨bs, h1.loc fun b _ => by rw [h], h2, h3⟩, fun b hb => by rw [h]; exact a.fl b hb⟩

theorem At.mono {lo hi} {e e' : Env} {w : World} {σ : Heap} {Fr : Nat → Prop} (a : At e w σ Fr) (h : Ext lo hi e e') : At e' w σ Fr := by
  obtain ⟨bs, h1, h2, h3⟩ := a.ex
  exact ⟨⟨bs, h1.mono h.up, h2, h3⟩, a.fl⟩

/-- One entry taken out: its blocks are its own. -/
theorem At.take {e : Env} {w : World} {σ : Heap} {Fr : Nat → Prop} {n : Nat} {E : Entry} (a : At e w σ Fr) (h : look σ n = some E) :
    ∃ bs, E.ok e w n bs ∧ bs.Nodup ∧ (∀ b ∈ bs, ¬ Fr b) ∧ At e w (del σ n) (fun b => Fr b ∨ b ∈ bs) := by
  obtain ⟨bs, h1, h2, h3⟩ := a.ex
  obtain ⟨b₁, b₂, hp, hE, hS⟩ := h1.del h
  have hn : (b₁ ++ b₂).Nodup := hp.nodup_iff.1 h2
  obtain ⟨hn₁, hn₂, hd⟩ := List.nodup_append.1 hn
  refine ⟨b₁, hE, hn₁, fun b hb => h3 b (hp.mem_iff.2 (by simp [hb])), ⟨b₂, hS, hn₂, ?_⟩, ?_⟩
  · intro b hb hc
    rcases hc with hc | hc
    · exact h3 b (hp.mem_iff.2 (by simp [hb])) hc
    · exact hd b hc b hb rfl
  · intro b hb
    rcases hb with hb | hb
    · exact a.fl b hb
    · exact Entry.ok_lt hE b hb

/-- One entry laid. -/
theorem At.put {e : Env} {w w' : World} {σ : Heap} {Fr : Nat → Prop} {n : Nat} {E : Entry} {bs bs' : List Nat}
    (a : At e w σ (fun b => Fr b ∨ b ∈ bs)) (hk : Kept (fun b => ¬ (b ∈ bs) ∧ b < w.heap.size) w w')
    (hE : E.ok e w' n bs') (hn : bs'.Nodup) (hb : ∀ b ∈ bs', b ∈ bs ∨ w.heap.size ≤ b) (hf : ∀ b ∈ bs, ¬ Fr b) :
    At e w' ((n, E) :: σ) Fr ∧ Kept Fr w w' := by
  obtain ⟨cs, h1, h2, h3⟩ := a.ex
  have hlt := h1.lt
  have hkeep : Kept Fr w w' := ⟨fun b h => hk.1 b ⟨fun hm => hf b hm h, a.fl b (.inl h)⟩, hk.2⟩
  refine ⟨⟨⟨bs' ++ cs, ⟨bs', cs, rfl, hE, h1.loc fun b h => hk.1 b ⟨fun hm => h3 b h (.inr hm), hlt b h⟩⟩, ?_, ?_⟩, ?_⟩, hkeep⟩
  · refine List.nodup_append.2 ⟨hn, h2, ?_⟩
    intro x hx y hy hxy
    subst hxy
    rcases hb x hx with h | h
    · exact h3 x hy (.inr h)
    · have := hlt x hy; omega
  · intro b h hc
    rcases List.mem_append.1 h with h | h
    · rcases hb b h with h | h
      · exact hf b h hc
      · have := a.fl b (.inl hc); omega
    · exact h3 b h (.inl hc)
  · intro b h
    exact Nat.lt_of_lt_of_le (a.fl b (.inl h)) hk.2.1

theorem At.weaken {e : Env} {w : World} {σ : Heap} {Fr : Nat → Prop} {n : Nat} {E : Entry} (a : At e w ((n, E) :: σ) Fr) : At e w σ Fr := by
  obtain ⟨bs, ⟨b₁, b₂, rfl, h1, h2⟩, h3, h4⟩ := a.ex
  exact ⟨⟨b₂, h2, (List.nodup_append.1 h3).2.1, fun b hb => h4 b (by simp [hb])⟩, a.fl⟩

/-! Frames of temporaries. -/

def ev (fr : Nat → SV) : Operand → SV
  | .tmp t => fr t
  | .const x => .con x
  | .global _ => .any
  | .func f => .func (.func f) [] []

def fget (fr : List SV) (t : Nat) : SV := fr.getD t .any

structure FrOk (e : Env) (fr : List SV) (a : Act) : Prop where
  df : a.defers = []
  sz : a.tmps.size = fr.length
  rel : ∀ t, (fget fr t).R e (a.tmps.getD t undef)

theorem ev_ok {e : Env} {fr : Nat → SV} {a : Act} {x : Operand} (h : ∀ t, x = .tmp t → (fr t).R e (a.tmps.getD t undef)) : (ev fr x).R e (a.eval x) := by
  cases x with
  | tmp t => exact h t rfl
  | const x => exact rfl
  | global g => exact trivial
  | func f => exact ⟨[], [], rfl, SV.RL_nil e, SV.RL_nil e⟩

def fput (fr : List SV) (dst : Option Tmp) (s : SV) : List SV :=
  match dst with
  | some d => fr.set d s
  | none => fr

theorem FrOk.mono {lo hi} {e e' : Env} {fr : List SV} {a : Act} (h : FrOk e fr a) (x : Ext lo hi e e') : FrOk e' fr a :=
  ⟨h.df, h.sz, fun t => SV.R_mono x.up _ _ (h.rel t)⟩

theorem put_getD (a : Act) (dst : Option Tmp) (v : Value) (t : Nat) :
    (a.put dst v).tmps.getD t undef = if dst = some t ∧ t < a.tmps.size then v else a.tmps.getD t undef := by
  cases dst with
  | none => simp [Act.put]
  | some d =>
    by_cases hd : d = t
    · subst hd
      by_cases hl : d < a.tmps.size
      · simp [Act.put, hl]
      · simp [Act.put, hl]
    · simp [Act.put, hd]

theorem fget_fput (fr : List SV) (dst : Option Tmp) (s : SV) (t : Nat) :
    fget (fput fr dst s) t = if dst = some t ∧ t < fr.length then s else fget fr t := by
  cases dst with
  | none => simp [fput]
  | some d =>
    by_cases hd : d = t
    · subst hd
      by_cases hl : d < fr.length
      · simp [fput, fget, hl]
      · simp [fput, fget, hl]
    · simp [fput, fget, hd]

theorem put_defers (a : Act) (dst : Option Tmp) (v : Value) : (a.put dst v).defers = a.defers := by cases dst <;> rfl
theorem put_size (a : Act) (dst : Option Tmp) (v : Value) : (a.put dst v).tmps.size = a.tmps.size := by cases dst <;> simp [Act.put]
theorem fput_length (fr : List SV) (dst : Option Tmp) (s : SV) : (fput fr dst s).length = fr.length := by cases dst <;> simp [fput]

theorem FrOk.put {e : Env} {fr : List SV} {a : Act} (h : FrOk e fr a) {dst : Option Tmp} {s : SV} {v : Value} (hv : s.R e v) :
    FrOk e (fput fr dst s) (a.put dst v) := by
  refine ⟨by rw [put_defers]; exact h.df, by rw [put_size, fput_length]; exact h.sz, fun t => ?_⟩
  rw [put_getD, fget_fput, h.sz]
  split
  · exact hv
  · exact h.rel t

/-! What is shown of operations, of code, of functions. -/

section
variable (P : Program)

/-- Operation number i, its operands as ev says, over σ, leaves s in its temporary and σ'. -/
def StepOk (ops : Array Oper) (i : Nat) (fr : Nat → SV) (σ : Heap) (s : SV) (σ' : Heap) (lo hi : Nat) : Prop :=
  ∀ (Fr : Nat → Prop) (e : Env) (w : World) (a : Act) (Q : Exit → Act → World → Prop) (K : Act → World → Prop),
    (∀ o, ops[i]? = some o → ∀ t ∈ o.looksAt ops, (fr t).R e (a.tmps.getD t undef)) → At e w σ Fr → Free lo hi e →
    (∀ e' w' v, Ext lo hi e e' → s.R e' v → At e' w' σ' Fr → Kept Fr w w' → K (a.put ((ops[i]?).bind (·.dst)) v) w') →
    wpOp P ops Q i K a w

def CodeOk (c : Code) (fr : List SV) (σ : Heap) (x : Exit) (fr' : List SV) (σ' : Heap) (lo hi : Nat) : Prop :=
  ∀ (Fr : Nat → Prop) (e : Env) (w : World) (a : Act) (Q : Exit → Act → World → Prop),
    FrOk e fr a → At e w σ Fr → Free lo hi e →
    (∀ e' w' a', Ext lo hi e e' → FrOk e' fr' a' → At e' w' σ' Fr → Kept Fr w w' → Q x a' w') →
    c.wp P Q a w

def FnOk (f : FuncId) (args : List SV) (σ : Heap) (ret : SV) (σ' : Heap) (lo hi : Nat) : Prop :=
  ∀ (Fr : Nat → Prop) (e : Env) (w : World) (vs : List Value),
    SV.RL e args vs → At e w σ Fr → Free lo hi e →
    Calls P f vs.toArray w fun en w' => ∃ e' v, en = .returned v ∧ Ext lo hi e e' ∧ ret.R e' v ∧ At e' w' σ' Fr ∧ Kept Fr w w'
end

end Go.Eng
