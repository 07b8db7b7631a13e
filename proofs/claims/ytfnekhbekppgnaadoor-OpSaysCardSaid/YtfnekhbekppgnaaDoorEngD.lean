import Derived.Test.YtfnekhbekppgnaaDoorEngC
import Derived.Laws.CopyRow
import Derived.Laws.Rows
namespace Go.Eng
variable {P : Program}

/-! Looking at an entry, changing it. -/

structure Spec where
  f : Nat
  k : Nat
  m : Nat
  args : List SV
  pre : Heap
  ret : SV
  post : Heap

inductive Orc where
  | br (b : Bool)
  | idx (n : Nat)
  | wr
  | call (S : Spec) (ns : List Nat)
  | loop (x : Exit) (fr fr' : List SV) (pre post : Heap) (k m : Nat) (ns : List Nat)
  | conv (n : Nat) (E : Entry)
  | open (n h : Nat) (τ : Heap)
  | close (n : Nat) (A : Asn) (τ : Heap) (imps ns : List Nat)
  | drop (n : Nat)
  | mid (i : Nat)
  | nn (m : Nat)
  | toPtr (b i : Nat)
  | toNil (b i : Nat)
  | ofPtr (b i : Nat)
  | ofNil (b i : Nat)
  | nilS (b i sz : Nat) (E : Entry)
  | nilT (t sz : Nat) (E : Entry)
  | cut (n m : Nat)
  | rg (f r : Nat)
  | fin

structure St where
  hp : Heap
  nx : Nat
  orc : List Orc
  cs : List Prop

structure Mono (a b : St) : Prop where
  cs : ∃ l, b.cs = l ++ a.cs
  nx : a.nx ≤ b.nx

theorem Mono.refl (a : St) : Mono a a := ⟨⟨[], rfl⟩, Nat.le_refl _⟩
theorem Mono.trans {a b c : St} (h : Mono a b) (h' : Mono b c) : Mono a c := by
  obtain ⟨l, hl⟩ := h.cs
  obtain ⟨l', hl'⟩ := h'.cs
  exact ⟨⟨l' ++ l, by rw [hl', hl, List.append_assoc]⟩, Nat.le_trans h.nx h'.nx⟩
theorem Mono.all {a b : St} (h : Mono a b) (hb : ∀ p ∈ b.cs, p) : ∀ p ∈ a.cs, p := by
  obtain ⟨l, hl⟩ := h.cs
  intro p hp
  exact hb p (by rw [hl]; simp [hp])

def St.add (s : St) (ps : List Prop) : St := { s with cs := ps ++ s.cs }
theorem Mono.add (s : St) (ps : List Prop) : Mono s (s.add ps) := ⟨⟨ps, rfl⟩, Nat.le_refl _⟩
theorem all_add {s : St} {ps : List Prop} (h : ∀ p ∈ (s.add ps).cs, p) : ∀ p ∈ ps, p := fun p hp => h p (by simp [St.add, hp])

/-- Cells from a place on: what they are. -/
def LN.lit : LN → Option Nat
  | .l n => some n
  | .o _ => none

theorem LN.lit_val {i : LN} {a : Nat} (h : i.lit = some a) : i.val = a := by
  cases i with
  | l n => simpa [LN.lit, LN.val] using h
  | o n => cases h

def readCells (E : Entry) (i : LN) (sz j cnt : Nat) : Option (List SV × List Prop) :=
  match E with
  | .blk cs _ => if i.lit = some 0 ∧ sz = 0 ∧ j + cnt ≤ cs.length then some ((cs.drop j).take cnt, []) else none
  | .arr cs sz' _ => match i.lit with
    | some a => match cs[a]? with
      | some c => if sz' = sz ∧ j + cnt ≤ sz ∧ j + cnt ≤ c.length then some ((c.drop j).take cnt, []) else none
      | none => none
    | none => none
  | .ints k l _ => if sz = 1 ∧ j = 0 ∧ cnt = 1 then some ([.int k (l.getD i.val 0)], [i.val < l.length]) else none
  | .row sz' len f _ => if sz' = sz ∧ j + cnt ≤ sz then some ((List.range cnt).map fun x => f i.val (j + x), [i.val < len]) else none
  | .strs l _ => if sz = 1 ∧ j = 0 ∧ cnt = 1 then some ([.str (l.getD i.val [])], [i.val < l.length]) else none
  | .abs _ _ => none

theorem cell_of_list {w : World} {g j : Nat} {u : List Value} {t : TypeId} {fr : Nat × Nat} (hg : w.heap[g]? = some (.cells u.toArray t fr)) : w.cell? ⟨g, j, none⟩ = u[j]? := by
  rw [cell_of_row w g j u.toArray t fr hg]
  simp

theorem rowOk.cells {e : Env} {w : World} {n sz len : Nat} {f : Nat → Nat → SV} {ty : TypeId} {bs : List Nat} {k : Blk} (h : rowOk e w n sz len f ty bs) (hk : e n = some k)
    {i j cnt : Nat} (hi : i < len) (hj : j + cnt ≤ sz) :
    ∃ u : List Value, SV.RL e ((List.range cnt).map fun x => f i (j + x)) u ∧ u.length = cnt ∧ ∀ x, x < cnt → w.cell? ⟨k.b, i * sz + j + x, none⟩ = u[x]? := by
  obtain ⟨k', h1, h2 | ⟨h2, h3, h4, h4m, c, h5, h6, h7⟩⟩ := h
  · omega
  · rw [hk] at h1
    cases h1
    have hex : ∀ x, x < cnt → ∃ v, c[i * sz + (j + x)]? = some v ∧ (f i (j + x)).R e v := fun x hx => h7 i (j + x) hi (by omega)
    refine ⟨(List.range cnt).map fun x => (c[i * sz + (j + x)]?).getD undef, ?_, by simp, fun x hx => ?_⟩
    · refine RL_map _ fun x hx => ?_
      obtain ⟨v, h8, h9⟩ := hex x (List.mem_range.1 hx)
      simpa [h8] using h9
    · obtain ⟨v, h8, h9⟩ := hex x hx
      rw [cell_of_row w _ _ c _ _ h5]
      simp [hx, Nat.add_assoc, h8]

theorem readCells_ok {e : Env} {w : World} {n : Nat} {E : Entry} {bs : List Nat} {k : Blk} {i : LN} {sz j cnt : Nat} {ss : List SV} {ps : List Prop}
    (h : readCells E i sz j cnt = some (ss, ps)) (hp : ∀ p ∈ ps, p) (hE : E.ok e w n bs) (hk : e n = some k) :
    ∃ u : List Value, SV.RL e ss u ∧ u.length = cnt ∧ ∀ x, x < cnt → w.cell? ⟨k.b, i.val * sz + j + x, none⟩ = u[x]? := by
  unfold readCells at h
  cases E with
  | blk cs ty =>
    simp only at h
    split at h
    · rename_i hl
      obtain ⟨hi, rfl, hl⟩ := hl
      cases h
      obtain ⟨k', h1, h2, u, h3, h4, hν⟩ := hE
      rw [hk] at h1
      cases h1
      have hlen := RL_length h4
      refine ⟨(u.drop j).take cnt, RL_take _ (RL_drop _ h4), by simp; omega, fun x hx => ?_⟩
      rw [cell_of_list h3]
      simp [hx]
    · cases h
  | arr cs sz' ty =>
    simp only at h
    cases hli : i.lit with
    | none => rw [hli] at h; cases h
    | some a =>
    rw [hli] at h
    simp only at h
    cases hc : cs[a]? with
    | none => rw [hc] at h; cases h
    | some c =>
      rw [hc] at h
      simp only at h
      split at h
      · rename_i hl
        obtain ⟨rfl, hl1, hl2⟩ := hl
        cases h
        have ha : a < cs.length := (List.getElem?_eq_some_iff.1 hc).1
        obtain ⟨u, h1, h2, h3⟩ := rowOk.cells hE hk (i := a) (j := j) (cnt := cnt) ha hl1
        refine ⟨u, ?_, h2, by rw [LN.lit_val hli]; exact h3⟩
        have : ((List.range cnt).map fun x => arrF cs a (j + x)) = (c.drop j).take cnt := by
          apply List.ext_getElem?
          intro x
          by_cases hx : x < cnt
          · simp [hx, arrF, hc, List.getD]
            rw [List.getElem?_eq_getElem (by omega)]
            simp
          · simp [hx, List.getElem?_take]
        rw [this] at h1
        exact h1
      · cases h
  | strs l ty =>
    simp only at h
    split at h
    · rename_i hl
      obtain ⟨rfl, rfl, rfl⟩ := hl
      cases h
      have hi : i.val < l.length := hp _ (List.mem_singleton.2 rfl)
      obtain ⟨u, h1, h2, h3⟩ := rowOk.cells hE hk (i := i.val) (j := 0) (cnt := 1) hi (by omega)
      exact ⟨u, by simpa [strsF] using h1, h2, h3⟩
    · cases h
  | ints k' l ty =>
    simp only at h
    split at h
    · rename_i hl
      obtain ⟨rfl, rfl, rfl⟩ := hl
      cases h
      have hi : i.val < l.length := hp _ (List.mem_singleton.2 rfl)
      obtain ⟨u, h1, h2, h3⟩ := rowOk.cells hE hk (i := i.val) (j := 0) (cnt := 1) hi (by omega)
      exact ⟨u, by simpa [intsF] using h1, h2, h3⟩
    · cases h
  | row sz' len f ty =>
    simp only at h
    split at h
    · rename_i hl
      obtain ⟨rfl, hl1⟩ := hl
      cases h
      exact rowOk.cells hE hk (hp _ (List.mem_singleton.2 rfl)) hl1
    · cases h
  | abs A imps => cases h

/-- A piece of a list replaced. -/
def splice {α : Type} (l : List α) (j : Nat) (new : List α) : List α := l.take j ++ new ++ l.drop (j + new.length)

theorem splice_length {α : Type} {l : List α} {j : Nat} {new : List α} (h : j + new.length ≤ l.length) : (splice l j new).length = l.length := by
  simp [splice]; omega

theorem splice_get {α : Type} {l : List α} {j : Nat} {new : List α} (h : j + new.length ≤ l.length) (x : Nat) :
    (splice l j new)[x]? = if j ≤ x ∧ x < j + new.length then new[x - j]? else l[x]? := by
  unfold splice
  rw [List.append_assoc]
  by_cases h1 : x < j
  · rw [List.getElem?_append_left (by simp; omega)]
    simp [h1, show ¬ (j ≤ x ∧ x < j + new.length) by omega]
  · rw [List.getElem?_append_right (by simp; omega)]
    by_cases h2 : x < j + new.length
    · rw [List.getElem?_append_left (by simp; omega), if_pos ⟨by omega, h2⟩]
      simp [show min j l.length = j by omega]
    · rw [List.getElem?_append_right (by simp; omega), if_neg (by omega), List.getElem?_drop]
      congr 1
      simp
      omega

theorem RL_splice {e : Env} {l new : List SV} {u nu : List Value} {j : Nat} (h : SV.RL e l u) (hn : SV.RL e new nu) : SV.RL e (splice l j new) (splice u j nu) := by
  unfold splice
  rw [← RL_length hn]
  exact RL_append (RL_append (RL_take _ h) hn) (RL_drop _ h)

def intOf1 : SV → Option (IntKind × Int)
  | .con (.int k n) => some (k, n)
  | .int k n => some (k, n)
  | _ => none

theorem intOf1_ok {e : Env} {s : SV} {v : Value} {k : IntKind} {n : Int} (h : s.R e v) (hi : intOf1 s = some (k, n)) : v = .int k n := by
  unfold intOf1 at hi
  split at hi
  · cases hi; simpa [SV.R] using h
  · cases hi; simpa [SV.R] using h
  · cases hi

def rowPut (f : Nat → Nat → SV) (i j : Nat) (ss : List SV) (a b : Nat) : SV :=
  if a = i ∧ j ≤ b ∧ b < j + ss.length then ss.getD (b - j) .any else f a b

def writeCells (E : Entry) (i : LN) (sz j : Nat) (ss : List SV) : Option (Entry × List Prop) :=
  match E with
  | .blk cs ty => if i.lit = some 0 ∧ sz = 0 ∧ j + ss.length ≤ cs.length then some (.blk (splice cs j ss) ty, []) else none
  | .arr cs sz' ty => match i.lit with
    | some a => match cs[a]? with
      | some c => if sz' = sz ∧ j + ss.length ≤ sz ∧ c.length = sz then some (.arr (cs.set a (splice c j ss)) sz' ty, []) else none
      | none => none
    | none => none
  | .ints k l ty => match ss with
    | [s] => match intOf1 s with
      | some (k', n) => if k = k' ∧ sz = 1 ∧ j = 0 then some (.ints k (l.set i.val n) ty, [i.val < l.length]) else none
      | none => none
    | _ => none
  | .row sz' len f ty => if sz' = sz ∧ j + ss.length ≤ sz then some (.row sz' len (rowPut f i.val j ss) ty, [i.val < len]) else none
  | .strs _ _ => none
  | .abs _ _ => none

theorem setRow_get (w : World) (g b : Nat) (cs : Array Value) (h : b ≠ g) : (w.setRow g cs).heap[b]? = w.heap[b]? := setRow_other w g b cs h

/-- A row of cells in which some were replaced. -/
theorem rowOk.store {e : Env} {w : World} {n sz len : Nat} {f : Nat → Nat → SV} {ty : TypeId} {bs : List Nat} {k : Blk} (h : rowOk e w n sz len f ty bs) (hk : e n = some k)
    {i j : Nat} (hi : i < len) {ss : List SV} {nu : List Value} (hj : j + ss.length ≤ sz) (hn : SV.RL e ss nu) (h1 : ∀ v ∈ nu, v.oneCell' = true) (f' : Nat → Nat → SV)
    (hf : ∀ a b, a < len → b < sz → f' a b = rowPut f i j ss a b) :
    ∃ w', (storeCells ⟨k.b, i * sz + j, none⟩ nu).run P w = .ok () w' ∧ rowOk e w' n sz len f' ty bs ∧ bs = [k.b] ∧ (∀ b, b ≠ k.b → w'.heap[b]? = w.heap[b]?) ∧ (w'.heap.size = w.heap.size ∧ w'.os = w.os ∧ w'.output = w.output) := by
  obtain ⟨k', hk', h2 | ⟨h2, h3, h4, h4m, c, h5, h6, h7⟩⟩ := h
  · omega
  · rw [hk] at hk'
    cases hk'
    have hlen := RL_length hn
    have hle : (i + 1) * sz ≤ k.κ * sz := Nat.mul_le_mul_right sz (by omega)
    have hfit : i * sz + j + nu.length ≤ c.size := by rw [h6]; rw [Nat.add_mul] at hle; omega
    have hrun := run_storeCells_at (P := P) k.b (i * sz + j) ty nu 0 c w h5 (by omega) h1
    refine ⟨_, hrun, ⟨k, hk, .inr ⟨h2, h3, h4, h4m, _, setRow_heap w k.b c _ ty _ h5, ?_, ?_⟩⟩, h3, fun b hb => setRow_get w k.b b _ hb, by simp, rfl, rfl⟩
    · simp; omega
    · intro a b ha hb
      rw [hf a b ha hb]
      have hs := splice_get (l := c.toList) (j := i * sz + j) (new := nu) (by simpa using hfit) (a * sz + b)
      have hget : ((c.toList.take (i * sz + j + 0) ++ nu ++ c.toList.drop (i * sz + j + 0 + nu.length)).toArray)[a * sz + b]? = (splice c.toList (i * sz + j) nu)[a * sz + b]? := by
        simp [splice]
      rw [hget, hs]
      unfold rowPut
      have hiff : (i * sz + j ≤ a * sz + b ∧ a * sz + b < i * sz + j + nu.length) ↔ (a = i ∧ j ≤ b ∧ b < j + ss.length) := by
        rw [hlen]
        constructor
        · intro ⟨x, y⟩
          have hai : a = i := by
            rcases Nat.lt_trichotomy a i with h | h | h
            · have : (a + 1) * sz ≤ i * sz := Nat.mul_le_mul_right sz h
              rw [Nat.add_mul] at this; omega
            · exact h
            · have : (i + 1) * sz ≤ a * sz := Nat.mul_le_mul_right sz h
              rw [Nat.add_mul] at this; omega
          subst hai
          omega
        · rintro ⟨rfl, x, y⟩
          omega
      by_cases hc : a = i ∧ j ≤ b ∧ b < j + ss.length
      · rw [if_pos hc, if_pos (hiff.2 hc)]
        obtain ⟨rfl, hc1, hc2⟩ := hc
        have hs' : ss[b - j]? = some (ss.getD (b - j) .any) := by
          rw [List.getD_eq_getElem?_getD, List.getElem?_eq_getElem (by omega)]; rfl
        obtain ⟨v, hv1, hv2⟩ := RL_get hn hs'
        refine ⟨v, ?_, hv2⟩
        rw [← hv1]
        congr 1
        omega
      · rw [if_neg hc, if_neg (fun x => hc (hiff.1 x))]
        obtain ⟨v, hv1, hv2⟩ := h7 a b ha hb
        exact ⟨v, by simpa using hv1, hv2⟩

theorem writeCells_ok {e : Env} {w : World} {n : Nat} {E E' : Entry} {bs : List Nat} {k : Blk} {i : LN} {sz j : Nat} {ss : List SV} {ps : List Prop} {nu : List Value}
    (h : writeCells E i sz j ss = some (E', ps)) (hp : ∀ p ∈ ps, p) (hE : E.ok e w n bs) (hk : e n = some k) (hn : SV.RL e ss nu) (h1 : ∀ v ∈ nu, v.oneCell' = true) :
    ∃ w', (storeCells ⟨k.b, i.val * sz + j, none⟩ nu).run P w = .ok () w' ∧ E'.ok e w' n bs ∧ bs = [k.b] ∧ (∀ b, b ≠ k.b → w'.heap[b]? = w.heap[b]?) ∧ (w'.heap.size = w.heap.size ∧ w'.os = w.os ∧ w'.output = w.output) := by
  unfold writeCells at h
  cases E with
  | blk cs ty =>
    simp only at h
    split at h
    · rename_i hl
      obtain ⟨hi, rfl, hl⟩ := hl
      cases h
      obtain ⟨k', hk', hb, u, h3, h4, hν⟩ := hE
      rw [hk] at hk'
      cases hk'
      have hlen := RL_length hn
      have hlen' := RL_length h4
      have hrun := run_storeCells_at (P := P) k.b j ty nu 0 u.toArray w h3 (by simp; omega) h1
      refine ⟨_, by simpa using hrun, ⟨k, hk, hb, splice u j nu, ?_, RL_splice h4 hn, hν⟩, hb, fun b hb => setRow_get w k.b b _ hb, by simp, rfl, rfl⟩
      have := setRow_heap w k.b u.toArray (u.take j ++ nu ++ u.drop (j + nu.length)).toArray ty _ h3
      simpa [splice] using this
    · cases h
  | arr cs sz' ty =>
    simp only at h
    cases hli : i.lit with
    | none => rw [hli] at h; cases h
    | some a =>
    rw [hli] at h
    simp only at h
    cases hc : cs[a]? with
    | none => rw [hc] at h; cases h
    | some c =>
      rw [hc] at h
      simp only at h
      split at h
      · rename_i hl
        obtain ⟨rfl, hl1, hl2⟩ := hl
        cases h
        have ha : a < cs.length := (List.getElem?_eq_some_iff.1 hc).1
        obtain ⟨w', r1, r2, r3⟩ := rowOk.store (P := P) hE hk (i := a) (j := j) ha hl1 hn h1 (arrF (cs.set a (splice c j ss))) (by
          intro x y hx hy
          unfold arrF rowPut
          by_cases hxa : x = a
          · subst hxa
            simp only [List.getD_eq_getElem?_getD, List.getElem?_set_self ha, Option.getD_some, splice_get (show j + ss.length ≤ c.length by omega), true_and]
            split
            · rfl
            · simp [hc]
          · simp [hxa, List.getD_eq_getElem?_getD, List.getElem?_set_ne (Ne.symm hxa)])
        rw [LN.lit_val hli]
        refine ⟨w', r1, ?_, r3⟩
        simpa [Entry.ok] using r2
      · cases h
  | strs l ty => cases h
  | ints k' l ty =>
    simp only at h
    cases ss with
    | nil => cases h
    | cons s tl =>
    cases tl with
    | cons _ _ => cases h
    | nil =>
    simp only at h
    cases hm : intOf1 s with
    | none => rw [hm] at h; cases h
    | some km =>
      obtain ⟨k'', m⟩ := km
      rw [hm] at h
      simp only at h
      split at h
      · rename_i hkk
        obtain ⟨rfl, rfl, rfl⟩ := hkk
        cases h
        have hi : i.val < l.length := hp _ (List.mem_singleton.2 rfl)
        have hm' : ∀ v, s.R e v → v = .int k' m := fun v hv => intOf1_ok hv hm
        obtain ⟨v, rfl⟩ : ∃ v, nu = [v] := by
          have := RL_length hn
          match nu, this with
          | [v], _ => exact ⟨v, rfl⟩
        have hv : v = .int k' m := hm' v (by simp only [SV.RL] at hn; exact hn.1)
        subst hv
        obtain ⟨w', r1, r2, r3⟩ := rowOk.store (P := P) (f := intsF k' l) hE hk (i := i.val) (j := 0) (ss := [.int k' m]) (nu := [.int k' m]) hi (by simp) (by simp [SV.RL, SV.R]) h1 (intsF k' (l.set i.val m)) (by
          intro x y hx hy
          have hy0 : y = 0 := by omega
          subst hy0
          unfold intsF rowPut
          by_cases hxa : x = i.val
          · subst hxa; simp [hi, List.getD_eq_getElem?_getD]
          · simp [hxa, List.getD_eq_getElem?_getD, List.getElem?_set_ne (Ne.symm hxa)])
        refine ⟨w', r1, ?_, r3⟩
        simpa [Entry.ok] using r2
      · cases h
  | row sz' len f ty =>
    simp only at h
    split at h
    · rename_i hl
      obtain ⟨rfl, hl1⟩ := hl
      cases h
      exact rowOk.store (P := P) hE hk (hp _ (List.mem_singleton.2 rfl)) hl1 hn h1 _ (fun _ _ _ _ => rfl)
    · cases h
  | abs A imps => cases h

end Go.Eng
