import Derived.Test.YtfnekhbekppgnaaDoorOH
namespace Go.OpP
open Go.Eng

/-! Plain: a text's words are the words that it was made of. -/

theorem index_sep (c : UInt8) (b : List UInt8) : ∀ (a : List UInt8), c ∉ a → Lib.index (a ++ c :: b) [c] = (a.length : Int) := by
  intro a ha
  refine Lib.index_first (by simp) ?_ ?_
  · simp [Lib.occAt]
  · intro j hj
    have h1 : (a ++ c :: b).drop j = a[j] :: ((a ++ c :: b).drop (j + 1)) := by
      rw [List.drop_eq_getElem_cons (by simp; omega)]
      simp [List.getElem_append_left hj]
    unfold Lib.occAt
    rw [h1]
    have hne : c ≠ a[j] := fun h => ha (h ▸ List.getElem_mem hj)
    simp [List.isPrefixOf, hne]

theorem index_no (c : UInt8) (a : List UInt8) (ha : c ∉ a) : Lib.index a [c] = -1 := by
  refine Lib.index_none fun j hj => ?_
  unfold Lib.occAt
  by_cases hl : j < a.length
  · rw [List.drop_eq_getElem_cons hl]
    have hne : c ≠ a[j] := fun h => ha (h ▸ List.getElem_mem hl)
    simp [List.isPrefixOf, hne]
  · rw [List.drop_eq_nil_of_le (by omega)]
    simp [List.isPrefixOf]

theorem join_two (c : UInt8) (w x : List UInt8) (ws : List (List UInt8)) : Lib.join (w :: x :: ws) [c] = w ++ c :: Lib.join (x :: ws) [c] := by
  rw [Lib.join_cons, Lib.join_cons]
  simp [Lib.joinTail]

theorem splitK_join [GG] (c : UInt8) : ∀ (ws : List (List UInt8)) (w : List UInt8), (∀ x ∈ w :: ws, c ∉ x) → Lib.splitK [c] 0 ws.length (Lib.join (w :: ws) [c]) = w :: ws := by
  intro ws
  induction ws with
  | nil => intro w _; simp [Lib.splitK, Lib.join_one]
  | cons x ws ih =>
    intro w h
    have hw : c ∉ w := h w (by simp)
    rw [join_two]
    have hk : (x :: ws).length = ws.length + 1 := rfl
    rw [hk]
    simp only [Lib.splitK]
    rw [index_sep c _ w hw]
    have hne : ((w.length : Int) == -1) = false := by simp
    rw [hne]
    simp only [Bool.false_eq_true, if_false, Int.toNat_natCast, Nat.add_zero]
    have h1 : (w ++ c :: Lib.join (x :: ws) [c]).take w.length = w := by simp
    have h2 : (w ++ c :: Lib.join (x :: ws) [c]).drop (w.length + [c].length) = Lib.join (x :: ws) [c] := by
      simp [List.drop_append]
    rw [h1, h2, ih x fun y hy => h y (by simp at hy ⊢; exact .inr hy)]

theorem count_join [GG] (c : UInt8) : ∀ (ws : List (List UInt8)) (w : List UInt8), (∀ x ∈ w :: ws, c ∉ x) → (Lib.join (w :: ws) [c]).count c = ws.length := by
  intro ws
  induction ws with
  | nil => intro w h; rw [Lib.join_one]; simpa [List.count_eq_zero] using h w (by simp)
  | cons x ws ih =>
    intro w h
    rw [join_two, List.count_append, List.count_cons, ih x fun y hy => h y (by simp at hy ⊢; exact .inr hy)]
    have : w.count c = 0 := by simpa [List.count_eq_zero] using h w (by simp)
    simp [this]

theorem split_join [GG] (c : UInt8) (ws : List (List UInt8)) (w : List UInt8) (h : ∀ x ∈ w :: ws, c ∉ x) : Lib.split (Lib.join (w :: ws) [c]) [c] = w :: ws := by
  unfold Lib.split
  rw [Lib.count_one, count_join c ws w h]
  exact splitK_join c ws w h

theorem cut_sep [GG] (c : UInt8) (a b : List UInt8) (h : c ∉ a) : Lib.cut (a ++ [c] ++ b) [c] = (a, b, true) := by
  have e : a ++ [c] ++ b = a ++ c :: b := by simp
  rw [e]
  unfold Lib.cut
  rw [index_sep c b a h, if_pos (by omega)]
  simp [List.drop_append]

/-! Digits. -/

theorem ofNat_toNat {n : Nat} (h : n < 256) : (UInt8.ofNat n).toNat = n := by
  simp [UInt8.toNat_ofNat']
  omega

theorem digits_mem [GG] : ∀ (u : Nat), ∀ x ∈ Lib.decDigits u, 48 ≤ x.toNat ∧ x.toNat ≤ 57 := by
  intro u
  induction u using Nat.strongRecOn with
  | _ u ih =>
    intro x hx
    rw [Lib.decDigits] at hx
    split at hx
    · simp only [List.mem_cons, List.not_mem_nil, or_false] at hx
      subst hx
      rw [ofNat_toNat (by omega)]
      omega
    · rcases List.mem_append.1 hx with hx | hx
      · exact ih (u / 10) (by omega) x hx
      · simp only [List.mem_cons, List.not_mem_nil, or_false] at hx
        subst hx
        rw [ofNat_toNat (by omega)]
        omega

theorem digits_ne (u : Nat) : Lib.decDigits u ≠ [] := by
  rw [Lib.decDigits]
  split <;> simp

theorem digits_not [GG] (c : UInt8) (hc : c.toNat < 48 ∨ 57 < c.toNat) (u : Nat) : c ∉ Lib.decDigits u := fun h => by
  have := digits_mem u c h
  omega

theorem parse_app (b : List UInt8) : ∀ (a : List UInt8) (acc u : Nat), Lib.parseUint10 acc a = .ok u → Lib.parseUint10 acc (a ++ b) = Lib.parseUint10 u b
  | [], acc, u, h => by
    simp only [Lib.parseUint10, Lib.NumEnd.ok.injEq] at h
    subst h
    rfl
  | c :: r, acc, u, h => by
    simp only [List.cons_append, Lib.parseUint10] at h ⊢
    split at h
    · rename_i h1
      rw [if_pos h1]
      split at h
      · cases h
      · rename_i h2
        rw [if_neg h2]
        split at h
        · cases h
        · rename_i h3
          rw [if_neg h3]
          exact parse_app b r _ u h
    · cases h

theorem parse_digits [GG] : ∀ (u : Nat), u < 18446744073709551616 → Lib.parseUint10 0 (Lib.decDigits u) = .ok u := by
  intro u
  induction u using Nat.strongRecOn with
  | _ u ih =>
    intro hu
    rw [Lib.decDigits]
    split
    · rename_i h
      simp only [Lib.parseUint10]
      rw [ofNat_toNat (by omega), if_pos (by omega), if_neg (by omega), if_neg (by omega)]
      congr 1
      omega
    · rename_i h
      rw [parse_app _ _ _ _ (ih (u / 10) (by omega) (by omega))]
      simp only [Lib.parseUint10]
      rw [ofNat_toNat (by omega), if_pos (by omega), if_neg (by omega), if_neg (by omega)]
      congr 1
      omega

theorem puV_digits [GG] (u : Nat) (h : u < 18446744073709551616) : puV (Lib.decDigits u) = u := by
  unfold puV
  rw [Lib.parseUintB_64]
  unfold Lib.parseMag
  rw [if_neg (digits_ne u), parse_digits u h]

theorem atoiV_digits [GG] (u : Nat) (h : u < 9223372036854775808) : atoiV (Lib.decDigits u) = u := by
  have hp := parse_digits u (by omega)
  have hm := digits_mem u
  have hne := digits_ne u
  generalize Lib.decDigits u = l at *
  cases l with
  | nil => exact absurd rfl hne
  | cons c r =>
    have hc := hm c (by simp)
    have e : Lib.atoiAll (c :: r) = .ok (u : Int) := by
      rw [Lib.atoiAll_plain c r (by omega) (by omega)]
      unfold Lib.parseMag
      rw [if_neg hne, hp]
      simp only [Lib.signless]
      rw [if_neg (by omega)]
    unfold atoiV
    rw [e]

theorem itoa_nat (n : Int) (h : 0 ≤ n) : Lib.itoa n = Lib.decDigits n.toNat := by
  unfold Lib.itoa
  rw [if_neg (by omega)]

theorem atoiV_itoa [GG] (n : Int) (h0 : 0 ≤ n) (h1 : n ≤ 9223372036854775807) : atoiV (Lib.itoa n) = n := by
  rw [itoa_nat n h0, atoiV_digits _ (by omega)]
  omega

theorem kf_name (k : Int) (h1 : 1 ≤ k) (h2 : k ≤ 12) : kf (nameOf k) 12 0 = k := by
  have hk : k = 1 ∨ k = 2 ∨ k = 3 ∨ k = 4 ∨ k = 5 ∨ k = 6 ∨ k = 7 ∨ k = 8 ∨ k = 9 ∨ k = 10 ∨ k = 11 ∨ k = 12 := by omega
  rcases hk with rfl | rfl | rfl | rfl | rfl | rfl | rfl | rfl | rfl | rfl | rfl | rfl <;> decide

theorem name_not [GG] (k : Int) : (32 : UInt8) ∉ nameOf k := by
  by_cases h : k < 1 ∨ 13 ≤ k
  · rw [(form_none h).1]; simp
  · have hk : k = 1 ∨ k = 2 ∨ k = 3 ∨ k = 4 ∨ k = 5 ∨ k = 6 ∨ k = 7 ∨ k = 8 ∨ k = 9 ∨ k = 10 ∨ k = 11 ∨ k = 12 := by omega
    rcases hk with rfl | rfl | rfl | rfl | rfl | rfl | rfl | rfl | rfl | rfl | rfl | rfl <;> decide

theorem atoiV_nil : atoiV [] = 0 := rfl
theorem puV_nil : puV [] = 0 := rfl
theorem cut_nil : Lib.cut [] [46] = ([], [], false) := rfl

def rest4 (b0 n v w : Bool) (x1 x2 x3 x4 : List UInt8) : List (List UInt8) :=
  (if b0 = true then [x1] else []) ++ ((if n = true then [x2] else []) ++ ((if v = true then [x3] else []) ++ (if w = true then [x4] else [])))

theorem next4 (b0 n v w : Bool) (x0 x1 x2 x3 x4 : List UInt8) :
    nxT b0 (x0 :: rest4 b0 n v w x1 x2 x3 x4) 1 = (if b0 = true then x1 else []) ∧
    nxT n (x0 :: rest4 b0 n v w x1 x2 x3 x4) (nxO b0 (x0 :: rest4 b0 n v w x1 x2 x3 x4) 1) = (if n = true then x2 else []) ∧
    nxT v (x0 :: rest4 b0 n v w x1 x2 x3 x4) (nxO n (x0 :: rest4 b0 n v w x1 x2 x3 x4) (nxO b0 (x0 :: rest4 b0 n v w x1 x2 x3 x4) 1)) = (if v = true then x3 else []) ∧
    nxT w (x0 :: rest4 b0 n v w x1 x2 x3 x4) (nxO v (x0 :: rest4 b0 n v w x1 x2 x3 x4) (nxO n (x0 :: rest4 b0 n v w x1 x2 x3 x4) (nxO b0 (x0 :: rest4 b0 n v w x1 x2 x3 x4) 1))) = (if w = true then x4 else []) := by
  cases b0 <;> cases n <;> cases v <;> cases w <;> simp [nxT, nxO, rest4]

theorem putWs_eq (k f a n v w : Int) : putWs k f a n v w = nameOf k :: rest4 (ofOf k != 0) (hasN k) (hasV k) (hasW k) (Lib.itoa f ++ [46] ++ Lib.itoa a) (Lib.itoa n) (Lib.decDigits v.toNat) (Lib.decDigits w.toNat) := by
  unfold putWs rest4
  by_cases h : ofOf k = 0
  · simp [h]
  · simp [h]

structure Op6.In (o : Op6) : Prop where
  v0 : 0 ≤ o.v
  v1 : o.v ≤ 18446744073709551615
  w0 : 0 ≤ o.w
  w1 : o.w ≤ 18446744073709551615

theorem limW_le (k : Int) : limW k ≤ 63 := by unfold limW; split <;> omega
theorem limA_le (k : Int) : limA k ≤ 999 := by unfold limA; split <;> omega
theorem limN_le (k : Int) : limN k ≤ 65535 := by unfold limN; split; omega; split <;> omega

theorem putWs_clean [GG] (o : Op6) (h : o.may = true) : ∀ x ∈ putWs o.k o.f o.a o.n o.v o.w, (32 : UInt8) ∉ x := by
  obtain ⟨h1, h2, h3, h4, h5, h6, h7, h8, h9, h10⟩ := may_true h
  intro x hx
  rw [putWs_eq] at hx
  have d : ∀ u, (32 : UInt8) ∉ Lib.decDigits u := digits_not 32 (by decide)
  rcases List.mem_cons.1 hx with rfl | hx
  · exact name_not _
  · unfold rest4 at hx
    simp only [List.mem_append] at hx
    rcases hx with hx | hx | hx | hx
    · split at hx
      · simp only [List.mem_cons, List.not_mem_nil, or_false] at hx
        subst hx
        rw [itoa_nat _ h3, itoa_nat _ h5]
        simp [d]
      · cases hx
    · split at hx
      · simp only [List.mem_cons, List.not_mem_nil, or_false] at hx
        subst hx
        rw [itoa_nat _ h7]
        exact d _
      · cases hx
    · split at hx
      · simp only [List.mem_cons, List.not_mem_nil, or_false] at hx
        subst hx
        exact d _
      · cases hx
    · split at hx
      · simp only [List.mem_cons, List.not_mem_nil, or_false] at hx
        subst hx
        exact d _
      · cases hx

theorem split_text [GG] (o : Op6) (h : o.may = true) : Lib.split o.text [32] = putWs o.k o.f o.a o.n o.v o.w := by
  have hc := putWs_clean o h
  unfold Op6.text putT
  rw [putWs_eq] at hc ⊢
  exact split_join 32 _ _ hc

/-- An operation that may be is its text again. -/
theorem parse_text [GG] (o : Op6) (h : o.may = true) (hi : o.In) : parse o.text = o := by
  obtain ⟨h1, h2, h3, h4, h5, h6, h7, h8, h9, h10⟩ := may_true h
  have hs := split_text o h
  rw [putWs_eq] at hs
  obtain ⟨k, f, a, n, v, w⟩ := o
  simp only at *
  have hk : gK (Op6.text ⟨k, f, a, n, v, w⟩) = k := by
    unfold gK
    rw [hs]
    exact kf_name k h1 h2
  obtain ⟨e1, e2, e3, e4⟩ := next4 (ofOf k != 0) (hasN k) (hasV k) (hasW k) (nameOf k) (Lib.itoa f ++ [46] ++ Lib.itoa a) (Lib.itoa n) (Lib.decDigits v.toNat) (Lib.decDigits w.toNat)
  have x1 : gX1 (Op6.text ⟨k, f, a, n, v, w⟩) = if (ofOf k != 0) = true then Lib.itoa f ++ [46] ++ Lib.itoa a else [] := by
    unfold gX1; rw [hk, hs]; exact e1
  have x2 : gX2 (Op6.text ⟨k, f, a, n, v, w⟩) = if hasN k = true then Lib.itoa n else [] := by
    unfold gX2 gO1; rw [hk, hs]; exact e2
  have x3 : gX3 (Op6.text ⟨k, f, a, n, v, w⟩) = if hasV k = true then Lib.decDigits v.toNat else [] := by
    unfold gX3 gO2 gO1; rw [hk, hs]; exact e3
  have x4 : gX4 (Op6.text ⟨k, f, a, n, v, w⟩) = if hasW k = true then Lib.decDigits w.toNat else [] := by
    unfold gX4 gO3 gO2 gO1; rw [hk, hs]; exact e4
  have l1 := limW_le k
  have l2 := limA_le k
  have l3 := limN_le k
  obtain ⟨v0, v1, w0, w1⟩ := hi
  simp only at v0 v1 w0 w1
  unfold parse
  rw [hk, x1, x2, x3, x4]
  have p1 : atoiV (Lib.cut (if (ofOf k != 0) = true then Lib.itoa f ++ [46] ++ Lib.itoa a else []) [46]).1 = f ∧ atoiV (Lib.cut (if (ofOf k != 0) = true then Lib.itoa f ++ [46] ++ Lib.itoa a else []) [46]).2.1 = a := by
    by_cases ho : ofOf k = 0
    · have e : (ofOf k != 0) = false := by simp [ho]
      rw [e]
      simp only [Bool.false_eq_true, if_false, cut_nil, atoiV_nil]
      unfold limW at h4
      unfold limA at h6
      rw [if_pos ho] at h4 h6
      omega
    · have e : (ofOf k != 0) = true := by simp [ho]
      rw [e]
      simp only [if_true]
      rw [cut_sep 46 _ _ (by rw [itoa_nat f h3]; exact digits_not 46 (by decide) _)]
      exact ⟨atoiV_itoa f h3 (by omega), atoiV_itoa a h5 (by omega)⟩
  have p2 : atoiV (if hasN k = true then Lib.itoa n else []) = n := by
    by_cases hn : hasN k = true
    · rw [if_pos hn]; exact atoiV_itoa n h7 (by omega)
    · rw [if_neg hn, atoiV_nil]
      unfold limN at h8
      have hk1 : k ≠ 1 := fun h => hn (by rw [h]; rfl)
      rw [if_neg hk1, if_neg hn] at h8
      omega
  have p3 : puV (if hasV k = true then Lib.decDigits v.toNat else []) = v := by
    by_cases hv : hasV k = true
    · rw [if_pos hv, puV_digits _ (by omega)]; omega
    · rw [if_neg hv, puV_nil]; rcases h9 with h | h; exact absurd h hv; exact h.symm
  have p4 : puV (if hasW k = true then Lib.decDigits w.toNat else []) = w := by
    by_cases hv : hasW k = true
    · rw [if_pos hv, puV_digits _ (by omega)]; omega
    · rw [if_neg hv, puV_nil]; rcases h10 with h | h; exact absurd h hv; exact h.symm
  rw [p1.1, p1.2, p2, p3, p4]

end Go.OpP
