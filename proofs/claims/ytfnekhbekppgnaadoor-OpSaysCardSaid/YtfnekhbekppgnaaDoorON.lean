import Derived.Test.YtfnekhbekppgnaaDoorOM
namespace Go.OpP
open Go.Eng

/-! What the texts are not. -/

theorem name_ne (k : Int) (h1 : 1 ≤ k) (h2 : k ≤ 12) : 3 ≤ (nameOf k).length := by
  have hk : k = 1 ∨ k = 2 ∨ k = 3 ∨ k = 4 ∨ k = 5 ∨ k = 6 ∨ k = 7 ∨ k = 8 ∨ k = 9 ∨ k = 10 ∨ k = 11 ∨ k = 12 := by omega
  rcases hk with rfl | rfl | rfl | rfl | rfl | rfl | rfl | rfl | rfl | rfl | rfl | rfl <;> decide

theorem join_head (w : List UInt8) (ws : List (List UInt8)) (c : UInt8) (hw : w ≠ []) : (Lib.join (w :: ws) [c]).head? = w.head? := by
  rw [Lib.join_cons]
  cases w with
  | nil => exact absurd rfl hw
  | cons x w => simp

theorem join_last [GG] (c : UInt8) : ∀ (ws : List (List UInt8)) (w : List UInt8), (∀ x ∈ w :: ws, c ∉ x ∧ x ≠ []) → ∃ z, (Lib.join (w :: ws) [c]).getLast? = some z ∧ z ≠ c := by
  intro ws
  induction ws with
  | nil =>
    intro w h
    obtain ⟨h1, h2⟩ := h w (by simp)
    rw [Lib.join_one]
    refine ⟨w.getLast h2, List.getLast?_eq_some_getLast h2, fun he => h1 (he ▸ List.getLast_mem h2)⟩
  | cons x ws ih =>
    intro w h
    rw [join_two]
    obtain ⟨z, hz1, hz2⟩ := ih x fun y hy => h y (by simp at hy ⊢; exact .inr hy)
    refine ⟨z, ?_, hz2⟩
    have hne : Lib.join (x :: ws) [c] ≠ [] := fun he => by rw [he] at hz1; simp at hz1
    rw [List.getLast?_append, List.getLast?_cons, hz1]
    simp

theorem itoa_ne [GG] (n : Int) (h : 0 ≤ n) : Lib.itoa n ≠ [] := by rw [itoa_nat n h]; exact digits_ne _

theorem putWs_full [GG] (o : Op6) (h : o.may = true) : ∀ x ∈ putWs o.k o.f o.a o.n o.v o.w, (32 : UInt8) ∉ x ∧ x ≠ [] := by
  intro x hx
  refine ⟨putWs_clean o h x hx, ?_⟩
  obtain ⟨h1, h2, h3, h4, h5, h6, h7, h8, h9, h10⟩ := may_true h
  rw [putWs_eq] at hx
  rcases List.mem_cons.1 hx with rfl | hx
  · intro he
    have := name_ne o.k h1 h2
    rw [he] at this
    simp at this
  · unfold rest4 at hx
    simp only [List.mem_append] at hx
    rcases hx with hx | hx | hx | hx
    · split at hx
      · simp only [List.mem_cons, List.not_mem_nil, or_false] at hx
        subst hx
        simp
      · cases hx
    · split at hx
      · simp only [List.mem_cons, List.not_mem_nil, or_false] at hx
        subst hx
        exact itoa_ne _ h7
      · cases hx
    · split at hx
      · simp only [List.mem_cons, List.not_mem_nil, or_false] at hx
        subst hx
        exact digits_ne _
      · cases hx
    · split at hx
      · simp only [List.mem_cons, List.not_mem_nil, or_false] at hx
        subst hx
        exact digits_ne _
      · cases hx

theorem text_last [GG] (o : Op6) (h : o.may = true) (t : List UInt8) : o.text ≠ t ++ [32] := by
  intro he
  have hf := putWs_full o h
  unfold Op6.text putT at he
  rw [putWs_eq] at hf he
  obtain ⟨z, h1, h2⟩ := join_last 32 _ _ hf
  rw [he] at h1
  simp at h1
  exact h2 h1.symm

theorem text_head [GG] (o : Op6) (h : o.may = true) (t : List UInt8) : o.text ≠ [32] ++ t := by
  intro he
  have hf := putWs_full o h
  unfold Op6.text putT at he
  rw [putWs_eq] at hf he
  obtain ⟨h1, h2⟩ := hf (nameOf o.k) (by simp)
  have hh := join_head (nameOf o.k) (rest4 (ofOf o.k != 0) (hasN o.k) (hasV o.k) (hasW o.k) (Lib.itoa o.f ++ [46] ++ Lib.itoa o.a) (Lib.itoa o.n) (Lib.decDigits o.v.toNat) (Lib.decDigits o.w.toNat)) 32 h2
  rw [he] at hh
  simp at hh
  exact h1 (List.mem_of_head? hh.symm)

theorem text_len [GG] (o : Op6) (h : o.may = true) (hi : o.In) : 3 ≤ o.text.length ∧ o.text.length ≤ 1000 := by
  obtain ⟨h1, h2, h3, h4, h5, h6, h7, h8, h9, h10⟩ := may_true h
  have hf := may_fits h hi
  have l0 := nameOf_le o.k
  have l00 := name_ne o.k h1 h2
  have l1 := Lib.itoa_length_le o.f hf.f0 hf.f1
  have l2 := Lib.itoa_length_le o.a hf.a0 hf.a1
  have l3 := Lib.itoa_length_le o.n hf.n0 hf.n1
  have l4 := dec_le hf.v0 hf.v1
  have l5 := dec_le hf.w0 hf.w1
  unfold Op6.text putT
  rw [putWs_eq, Lib.join_cons]
  unfold rest4 Lib.joinTail
  cases (ofOf o.k != 0) <;> cases hasN o.k <;> cases hasV o.k <;> cases hasW o.k <;> simp <;> omega

theorem get_zero [GG] (s : List UInt8) (hs : s.length < 4294967281) (h : ∀ o : Op6, o.may = true → o.text ≠ s) : (sGet s 0 0 0 0 0 0 10).Holds P0 :=
  getH_ s hs ⟨0, 0, 0, 0, 0, 0⟩ 10 (.inr ⟨fun ⟨h1, h2⟩ => h _ h1 h2, rfl, rfl⟩)

/-- Another text is another operation, or none. -/
theorem get_other [GG] (s : List UInt8) (hs : s.length < 4294967281) (p : Op6) (h : s ≠ p.text) : ∃ (x : Op6) (c : Int), (sGet s x.k x.f x.a x.n x.v x.w c).Holds P0 ∧ (c ≠ 0 ∨ (c = 0 ∧ x ≠ p)) := by
  by_cases hh : (parse s).may = true ∧ (parse s).text = s
  · refine ⟨parse s, 0, getH_ s hs _ _ (.inl ⟨hh.1, hh.2, rfl, rfl⟩), .inr ⟨rfl, fun he => h ?_⟩⟩
    rw [← he]
    exact hh.2.symm
  · exact ⟨⟨0, 0, 0, 0, 0, 0⟩, 10, getH_ s hs _ _ (.inr ⟨hh, rfl, rfl⟩), .inl (by decide)⟩

def bentByte (b : UInt8) : UInt8 := UInt8.ofNat (Int.toNat (IntKind.u8.wrap ((BitVec.ofInt 8 (b.toNat : Int) ^^^ BitVec.ofInt 8 1).toNat : Int)))

theorem bent_all : ∀ n : Fin 256, bentByte (UInt8.ofNat n.val) ≠ UInt8.ofNat n.val := by decide +kernel

theorem bent_ne [GG] (b : UInt8) : bentByte b ≠ b := by
  have := bent_all ⟨b.toNat, b.toNat_lt⟩
  simpa using this

theorem op6_ne {x p : Op6} (h : x ≠ p) : (!(x.k == p.k && (x.f == p.f && (x.a == p.a && (x.n == p.n && (x.v == p.v && (x.w == p.w && true))))))) = true := by
  cases hb : (x.k == p.k && (x.f == p.f && (x.a == p.a && (x.n == p.n && (x.v == p.v && (x.w == p.w && true)))))) with
  | false => rfl
  | true =>
    exfalso
    simp only [Bool.and_eq_true, beq_iff_eq, and_true] at hb
    apply h
    obtain ⟨k, f, a, n, v, w⟩ := x
    obtain ⟨k', f', a', n', v', w'⟩ := p
    simp only at hb
    obtain ⟨rfl, rfl, rfl, rfl, rfl, rfl⟩ := hb
    rfl

theorem put_cut [GG] (o : Op6) (hi : o.In) : (sPut (cutF o).k (cutF o).f (cutF o).a (cutF o).n (cutF o).v (cutF o).w (cutF o).text 0).Holds P0 := by
  have hm := cut_may o
  have hput := putH (cutF o).k (cutF o).f (cutF o).a (cutF o).n (cutF o).v (cutF o).w (may_fits hm (cut_in o hi))
  have e1 : putR (cutF o).k (cutF o).f (cutF o).a (cutF o).n (cutF o).v (cutF o).w = (cutF o).text := by exact if_pos hm
  have e2 : putC (cutF o).k (cutF o).f (cutF o).a (cutF o).n (cutF o).v (cutF o).w = 0 := by exact if_pos hm
  rw [e1, e2] at hput
  exact hput

theorem get_cut [GG] (o : Op6) (hi : o.In) : (sGet (cutF o).text (cutF o).k (cutF o).f (cutF o).a (cutF o).n (cutF o).v (cutF o).w 0).Holds P0 := by
  have hm := cut_may o
  have hp := parse_text _ hm (cut_in o hi)
  have hl := text_len _ hm (cut_in o hi)
  exact getH_ _ (by omega) (cutF o) 0 (.inl ⟨by rw [hp]; exact hm, by rw [hp], hp.symm, rfl⟩)

theorem backH [GG] (a b : Op6) (ha : a.In) (hb : b.In) : (sBack a.k a.f a.a a.n a.v a.w b.k b.f b.a b.n b.v b.w).Holds P0 := by
  have m1 := mayH (cutF a).k (cutF a).f (cutF a).a (cutF a).n (cutF a).v (cutF a).w
  rw [show mayB _ _ _ _ _ _ = true from cut_may a] at m1
  have m2 := mayH (cutF b).k (cutF b).f (cutF b).a (cutF b).n (cutF b).v (cutF b).w
  rw [show mayB _ _ _ _ _ _ = true from cut_may b] at m2
  have c1 := cutH_ a
  have c2 := cutH_ b
  have p1 := put_cut a ha
  have p2 := put_cut b hb
  have g1 := get_cut a ha
  have g2 := get_cut b hb
  have hf := firstH
  have key : ((cutF a).text == (cutF b).text) = ((cutF a).k == (cutF b).k && ((cutF a).f == (cutF b).f && ((cutF a).a == (cutF b).a && ((cutF a).n == (cutF b).n && ((cutF a).v == (cutF b).v && ((cutF a).w == (cutF b).w && true)))))) := by
    by_cases he : cutF a = cutF b
    · rw [he]; simp
    · have h1 := op6_ne he
      have h2 : ((cutF a).text == (cutF b).text) = false := by
        rw [beq_eq_false_iff_ne]
        intro ht
        apply he
        have e1 := parse_text _ (cut_may a) (cut_in a ha)
        have e2 := parse_text _ (cut_may b) (cut_in b hb)
        rw [← e1, ← e2, ht]
      rw [h2]
      exact (Bool.not_eq_true' _ |>.mp h1).symm
  refine holds_of_check pok (back_c a.k a.f a.a a.n a.v a.w b.k b.f b.a b.n b.v b.w (cutF a).k (cutF a).f (cutF a).a (cutF a).n (cutF a).v (cutF a).w (cutF b).k (cutF b).f (cutF b).a (cutF b).n (cutF b).v (cutF b).w (cutF a).text (cutF b).text) ?_
  simp only [allOf]
  and_intros <;> first | trivial | rfl | assumption | (simp; done) | (simp only [beq_iff_eq]; exact key)

end Go.OpP
