import Derived.Test.YtfnekhbekppgnaaDoorEngH
namespace Go.Eng
variable {P : Program}

/-! Slices: made, cut, appended to. -/

theorem LN.val_l (n : Nat) : (LN.l n).val = n := rfl
theorem LN.val_o (n : Nat) : (LN.o n).val = n := rfl

/-- The cells of a part of a row. -/
theorem rowOk.part {e : Env} {w : World} {n sz len : Nat} {f : Nat → Nat → SV} {ty : TypeId} {bs : List Nat} {k : Blk} (h : rowOk e w n sz len f ty bs) (hk : e n = some k)
    {a m : Nat} (ha : a + m ≤ len) : ∃ u : List Value, u.length = m * sz ∧ (∀ i j, i < m → j < sz → ∃ v, u[i * sz + j]? = some v ∧ (f (a + i) j).R e v) ∧
      (∀ j v, u[j]? = some v → w.cell? ((⟨k.b, a * sz, none⟩ : Addr).add j) = some v) := by
  obtain ⟨k', h1, ⟨_, _, h2⟩ | ⟨h2, h3, h4, h4m, c, h5, h6, h7⟩⟩ := h
  · have : m = 0 := by omega
    subst this
    exact ⟨[], by simp, fun i j hi => by omega, fun j v h => by simp at h⟩
  · rw [hk] at h1
    cases h1
    have hle : (a + m) * sz ≤ k.κ * sz := Nat.mul_le_mul_right sz (by omega)
    rw [Nat.add_mul] at hle
    refine ⟨(c.toList.drop (a * sz)).take (m * sz), by simp; omega, ?_, ?_⟩
    · intro i j hi hj
      obtain ⟨v, h8, h9⟩ := h7 (a + i) j (by omega) hj
      refine ⟨v, ?_, h9⟩
      have hlt : i * sz + j < m * sz := by
        have : (i + 1) * sz ≤ m * sz := Nat.mul_le_mul_right sz hi
        rw [Nat.add_mul] at this; omega
      rw [List.getElem?_take, if_pos hlt, List.getElem?_drop]
      rw [← h8]
      simp [Nat.add_mul, Nat.add_assoc]
    · intro j v hv
      rw [List.getElem?_take] at hv
      split at hv
      · rw [List.getElem?_drop] at hv
        rw [add_none, cell_of_row w _ _ c _ _ h5]
        simpa using hv
      · cases hv

def catF (f g : Nat → Nat → SV) (n i j : Nat) : SV := if i < n then f i j else g (i - n) j

theorem rowOk.cat {e : Env} {w' : World} {n' sz n m b κ : Nat} {f g : Nat → Nat → SV} {ty : TypeId} {c : Array Value} {xs news : List Value}
    (hfree : Free n' (n' + 1) e) (hg : w'.heap[b]? = some (.cells c ty (0, 0))) (hs : c.size = κ * sz) (hk : n + m ≤ κ) (hm : κ ≤ maxLen)
    (ht : c.toList.take ((n + m) * sz) = xs ++ news) (hx : xs.length = n * sz)
    (h1 : ∀ i j, i < n → j < sz → ∃ v, xs[i * sz + j]? = some v ∧ (f i j).R e v) (h2 : ∀ i j, i < m → j < sz → ∃ v, news[i * sz + j]? = some v ∧ (g i j).R e v) :
    rowOk (upd e n' ⟨b, κ, false⟩) w' n' sz (n + m) (catF f g n) ty [b] := by
  have hx' : Ext n' (n' + 1) e (upd e n' ⟨b, κ, false⟩) := Ext.upd hfree (Nat.le_refl _) (by omega)
  refine ⟨_, upd_same _ _ _, .inr ⟨rfl, rfl, hk, hm, c, hg, hs, fun i j hi hj => ?_⟩⟩
  have hlt : i * sz + j < (n + m) * sz := by
    have : (i + 1) * sz ≤ (n + m) * sz := Nat.mul_le_mul_right sz hi
    rw [Nat.add_mul] at this; omega
  have hc : c[i * sz + j]? = (xs ++ news)[i * sz + j]? := by
    rw [← ht, List.getElem?_take, if_pos hlt]; simp
  rw [hc]
  unfold catF
  by_cases hin : i < n
  · rw [if_pos hin]
    obtain ⟨v, h3, h4⟩ := h1 i j hin hj
    refine ⟨v, ?_, SV.R_mono hx'.up _ _ h4⟩
    rw [List.getElem?_append_left (by exact (List.getElem?_eq_some_iff.1 h3).1)]
    exact h3
  · rw [if_neg hin]
    obtain ⟨v, h3, h4⟩ := h2 (i - n) j (by omega) hj
    refine ⟨v, ?_, SV.R_mono hx'.up _ _ h4⟩
    have hle : n * sz ≤ i * sz := Nat.mul_le_mul_right sz (by omega)
    rw [List.getElem?_append_right (by omega), hx]
    rw [← h3]
    congr 1
    rw [Nat.sub_mul]
    omega

structure ElemOk (P : Program) (t elem : TypeId) (sz bytes : Nat) : Prop where
  ut : P.underlying t = some (.slice elem)
  ex : ∃ i z, P.info? elem = some i ∧ i.zero = some z ∧ i.size = sz ∧ i.bytes = bytes ∧ z.cells.size = sz
  pos : 0 < sz

/-- What an append leaves: a value, a world, a new name's block; the old row's blocks and new ones alone are its own. -/
theorem append_some {t elem ty : TypeId} {sz bytes : Nat} (ho : ElemOk P t elem sz bytes) {e : Env} {w : World} {n n' len : Nat} {dlen : LN} {f g : Nat → Nat → SV} {bs : List Nat} {v : Value}
    (hv : (dlen.val = 0 ∧ v = .slice none 0 0) ∨ (∃ k, e n = some k ∧ k.ν = false ∧ dlen.val ≤ k.κ ∧ v = .slice (some ⟨k.b, 0, none⟩) dlen.val k.κ ∧ rowOk e w n sz len f elem bs ∧ dlen.val ≤ len)) (hfree : Free n' (n' + 1) e)
    {a : Addr} {m c : Nat} {news : List Value} (hl : news.length = m * sz) (hnews : ∀ j u, news[j]? = some u → w.cell? (a.add j) = some u) (h1 : ∀ u ∈ news, u.oneCell' = true)
    (h2 : ∀ i j, i < m → j < sz → ∃ v, news[i * sz + j]? = some v ∧ (g i j).R e v) (hb : (dlen.val + m) * bytes ≤ 140737488355328) (h63 : dlen.val + m ≤ maxLen)
    (rl : LN) (hrl : rl.val = dlen.val + m) :
    ∃ v' w' k' bs', (Builtin.append_ #[t, t] ty #[v, .slice (some a) m c]).run P w = .ok v' w' ∧ rowOk (upd e n' k') w' n' sz (dlen.val + m) (catF f g dlen.val) elem bs' ∧
      (SV.sl n' sz (.l 0) rl).R (upd e n' k') v' ∧ bs'.Nodup ∧ (∀ b ∈ bs', b ∈ bs ∨ w.heap.size ≤ b) ∧ Kept (fun b => ¬ (b ∈ bs) ∧ b < w.heap.size) w w' := by
  obtain ⟨i, z, hi, hz, hsize, hby, hzs⟩ := ho.ex
  have hpos := ho.pos
  subst hsize
  subst hby
  have hsmall : dlen.val + m ≤ 9223372036854775807 := by simp only [maxLen] at h63; omega
  have hx' : ∀ k', Ext n' (n' + 1) e (upd e n' k') := fun k' => Ext.upd hfree (Nat.le_refl _) (by omega)
  -- a new block for all
  have grown : ∀ (old : Nat) (xs : List Value), old < dlen.val + m → xs.length = dlen.val * i.size → (∀ a b, a < dlen.val → b < i.size → ∃ v, xs[a * i.size + b]? = some v ∧ (f a b).R e v) →
      ∀ v' w', v' = .slice (some ⟨w.heap.size, 0, none⟩) (dlen.val + m) (grownCap w (dlen.val + m) old elem) →
      w' = w.drew.alloc (.cells (xs.toArray ++ news.toArray ++ Builtin.zeroCells z.cells (grownCap w (dlen.val + m) old elem - (dlen.val + m))) elem) →
      ∃ k' bs', rowOk (upd e n' k') w' n' i.size (dlen.val + m) (catF f g dlen.val) elem bs' ∧
        (SV.sl n' i.size (.l 0) rl).R (upd e n' k') v' ∧ bs'.Nodup ∧ (∀ b ∈ bs', b ∈ bs ∨ w.heap.size ≤ b) ∧ Kept (fun b => ¬ (b ∈ bs) ∧ b < w.heap.size) w w' := by
    intro old xs hold hxl hxs v' w' hv' hw'
    subst hv'; subst hw'
    have hge := grownCap_ge w (dlen.val + m) old elem
    have hcm : grownCap w (dlen.val + m) old elem ≤ maxLen := grownCap_le_maxLen w (dlen.val + m) old elem h63
    refine ⟨⟨w.heap.size, grownCap w (dlen.val + m) old elem, false⟩, [w.heap.size], ?_, ?_, by simp, fun b hb => .inr (by simp at hb; omega), ⟨fun b hb => heap_alloc_old w.drew _ hb.2, by simp, rfl, rfl⟩⟩
    · refine rowOk.cat hfree (heap_alloc_new w.drew _) ?_ hge hcm (xs := xs) (news := news) ?_ hxl hxs h2
      · simp only [Array.size_append, List.size_toArray, size_zeroCells, hzs, hxl, hl, ← Nat.add_mul]
        congr 1
        omega
      · simp only [Array.toList_append, List.append_assoc]
        rw [← List.append_assoc, show (dlen.val + m) * i.size = (xs ++ news).length by rw [List.length_append, hxl, hl, Nat.add_mul]]
        exact List.take_left
    · simp only [SV.R]
      exact ⟨_, upd_same _ _ _, .inr ⟨rfl, by simp only [LN.val_l, hrl]; omega, 0, .inl rfl, by simp [hrl, LN.val_l]⟩⟩
  rcases hv with ⟨hd0, rfl⟩ | ⟨k, hk, hν, hle, rfl, hE, hd⟩
  · -- nil
    by_cases hm : m = 0
    · subst hm
      have hnn : news = [] := List.eq_nil_of_length_eq_zero (by simpa using hl)
      refine ⟨.slice none 0 0, w, ⟨0, 0, true⟩, [], ?_, ⟨_, upd_same _ _ _, .inl ⟨rfl, rfl, by omega⟩⟩, ?_, by simp, by simp, Kept.refl _ _⟩
      · simp [Builtin.append_, run_underlying ho.ut, sizeOf, typeInfo, hi, Builtin.lenOf, Builtin.firstCells, loadCells, loadCellsFrom]
      · simp only [SV.R]
        refine ⟨_, upd_same _ _ _, .inl ⟨rfl, by omega, ?_⟩⟩
        simp [LN.val_l]
    · have hr := run_append_nil (P := P) w t ty elem i z ho.ut hi hz a m c news hl hnews (by omega) (by omega) (by rw [hd0] at hb; simp only [Nat.zero_add] at hb; omega)
      obtain ⟨k', bs', h3⟩ := grown 0 [] (by omega) (by simp [hd0]) (fun a b ha => by omega) (.slice (some ⟨w.heap.size, 0, none⟩) m (grownCap w m 0 elem)) _ (by rw [hd0, Nat.zero_add]) rfl
      refine ⟨_, _, k', bs', hr, ?_⟩
      rw [hd0] at h3 ⊢
      simpa using h3
  · obtain ⟨xs, hxl, hxs, hxc⟩ := hE.part hk (a := 0) (m := dlen.val) (by omega)
    simp only [Nat.zero_add, Nat.zero_mul] at hxs hxc
    obtain ⟨k', hk', ⟨h2', _, _⟩ | ⟨_, hbs, _, hcm, cur, hg, hcs, h7⟩⟩ := hE
    · rw [hk] at hk'; cases hk'; rw [hν] at h2'; cases h2'
    rw [hk] at hk'
    cases hk'
    by_cases hroom : dlen.val + m ≤ k.κ
    · have hmul : (dlen.val + m) * i.size ≤ k.κ * i.size := Nat.mul_le_mul_right _ hroom
      rw [Nat.add_mul] at hmul
      have hfit : dlen.val * i.size + news.length ≤ cur.size := by rw [hl, hcs]; exact hmul
      have hr := run_append_room (P := P) w t ty elem i ho.ut hi k.b dlen.val k.κ cur hg a m c news hl hnews h1 hroom hfit
      refine ⟨_, _, ⟨k.b, k.κ, false⟩, [k.b], hr, ?_, ?_, by simp, fun b hb => .inl (by rw [hbs]; exact hb), ⟨fun b hb => setRow_other w k.b b _ (fun he => hb.1 (by rw [hbs, he]; simp)), by simp, rfl, rfl⟩⟩
      · have htake : cur.toList.take (dlen.val * i.size) = xs := by
          apply List.ext_getElem?
          intro x
          by_cases hx : x < dlen.val * i.size
          · have := hxc x xs[x] (List.getElem?_eq_getElem (by omega))
            rw [add_none, cell_of_row w _ _ cur _ _ hg] at this
            rw [List.getElem?_take, if_pos hx, List.getElem?_eq_getElem (l := xs) (by omega)]
            simpa using this
          · rw [List.getElem?_eq_none (by simp; omega), List.getElem?_eq_none (by omega)]
        refine rowOk.cat hfree (setRow_heap w k.b cur _ elem _ hg) ?_ hroom hcm (xs := xs) (news := news) ?_ hxl hxs h2
        · simp; omega
        · rw [htake]
          simp only [List.append_assoc]
          rw [← List.append_assoc, show (dlen.val + m) * i.size = (xs ++ news).length by rw [List.length_append, hxl, hl, Nat.add_mul]]
          exact List.take_left
      · simp only [SV.R]
        exact ⟨_, upd_same _ _ _, .inr ⟨rfl, by simp only [LN.val_l, hrl]; omega, 0, .inl rfl, by simp [hrl, LN.val_l]⟩⟩
    · have hr := run_append_grow (P := P) w t ty elem i z ho.ut hi hz ⟨k.b, 0, none⟩ dlen.val k.κ xs hxl hxc a m c news hl hnews (by omega) (by omega) (growslice_fits (by omega) hb)
      obtain ⟨k', bs', h3⟩ := grown k.κ xs (by omega) hxl hxs _ _ rfl rfl
      exact ⟨_, _, k', bs', hr, h3⟩

/-- Nothing is appended. -/
theorem append_none {t elem ty : TypeId} {sz bytes : Nat} (ho : ElemOk P t elem sz bytes) (w : World) {base : Option Addr} {n cap : Nat} (h : n ≤ cap) :
    (Builtin.append_ #[t, t] ty #[.slice base n cap, .slice none 0 0]).run P w = .ok (.slice base n cap) w := by
  obtain ⟨i, z, hi, hz, hsize, hby, hzs⟩ := ho.ex
  cases base with
  | none => simp [Builtin.append_, run_underlying ho.ut, sizeOf, typeInfo, hi, Builtin.lenOf, Builtin.firstCells, h]
  | some a => simp [Builtin.append_, run_underlying ho.ut, sizeOf, typeInfo, hi, Builtin.lenOf, Builtin.firstCells, h, storeCells]

end Go.Eng
