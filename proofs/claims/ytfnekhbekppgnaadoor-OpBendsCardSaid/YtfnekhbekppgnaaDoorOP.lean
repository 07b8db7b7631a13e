import Derived.Test.YtfnekhbekppgnaaDoorON
namespace Go.OpP
open Go.Eng

/-! Bent texts. -/

def ins (t : List UInt8) (r : Int) (c : Int) : List UInt8 := List.drop 0 (List.take r.toNat t) ++ [UInt8.ofNat c.toNat] ++ List.drop r.toNat (List.take (t.length : Int).toNat t)
def cutOut (t : List UInt8) (r : Int) : List UInt8 := List.drop 0 (List.take r.toNat t) ++ List.drop (r + 1).toNat (List.take (t.length : Int).toNat t)
def bend (t : List UInt8) (r : Int) : List UInt8 := List.drop 0 (List.take r.toNat t) ++ [bentByte (t.getD r.toNat 0)] ++ List.drop (r + 1).toNat (List.take (t.length : Int).toNat t)

theorem ins_len (t : List UInt8) (r c : Int) (h0 : 0 ≤ r) (h1 : r ≤ t.length) : (ins t r c).length = t.length + 1 := by
  unfold ins; simp; omega

theorem cutOut_len (t : List UInt8) (r : Int) (h0 : 0 ≤ r) (h1 : r < t.length) : (cutOut t r).length + 1 = t.length := by
  unfold cutOut; simp; omega

theorem bend_len (t : List UInt8) (r : Int) (h0 : 0 ≤ r) (h1 : r < t.length) : (bend t r).length = t.length := by
  unfold bend; simp; omega

theorem bend_ne [GG] (t : List UInt8) (r : Int) (h0 : 0 ≤ r) (h1 : r < t.length) : bend t r ≠ t := by
  intro he
  obtain ⟨m, rfl⟩ : ∃ m : Nat, r = m := ⟨r.toNat, by omega⟩
  have hm : m < t.length := by omega
  have h := congrArg (fun l : List UInt8 => l[m]?) he
  unfold bend at h
  simp only [Int.toNat_natCast, List.drop_zero] at h
  rw [List.append_assoc, List.getElem?_append_right (by simp; omega)] at h
  simp [List.getD_eq_getElem?_getD, List.getElem?_eq_getElem hm, Nat.min_eq_left (Nat.le_of_lt hm)] at h
  exact bent_ne _ h

set_option maxRecDepth 100000 in
theorem bendsH [GG] (o : Op6) (hi : o.In) (x c : Int) (hc0 : 0 ≤ c) (hc1 : c ≤ 255) : (sBends o.k o.f o.a o.n o.v o.w x c).Holds P0 := by
  have c1 := cutH_ o
  have hm := cut_may o
  have hci := cut_in o hi
  have p1 := put_cut o hi
  have hf := firstH
  obtain ⟨l3, l1000⟩ := text_len _ hm hci
  generalize hp : cutF o = p at *
  generalize ht : p.text = t at *
  have n1 := numB_range x (t.length + 1) (by omega)
  have n2 := numB_range x t.length (by omega)
  have nh1 := numberH x (t.length + 1) (by omega) (by omega)
  have nh2 := numberH x t.length (by omega) (by omega)
  generalize hr1 : numB x (t.length + 1) = r1 at *
  generalize hr2 : numB x t.length = r2 at *
  have e1 := ins_len t r1 c n1.1 (by omega)
  have e2 := cutOut_len t r2 n2.1 (by omega)
  have e3 := bend_len t r2 n2.1 (by omega)
  have e3' := bend_ne t r2 n2.1 (by omega)
  obtain ⟨y1, d1, g1, q1⟩ := get_other (ins t r1 c) (by omega) p (fun he => by rw [ht] at he; rw [he] at e1; omega)
  obtain ⟨y2, d2, g2, q2⟩ := get_other (cutOut t r2) (by omega) p (fun he => by rw [ht] at he; rw [he] at e2; omega)
  obtain ⟨y3, d3, g3, q3⟩ := get_other (bend t r2) (by omega) p (fun he => by rw [ht] at he; exact e3' he)
  have g4 := get_zero (t ++ [32]) (by simp; omega) (fun z hz he => text_last z hz t he)
  have g5 := get_zero ([32] ++ t) (by simp; omega) (fun z hz he => text_head z hz t he)
  have i1 : In64 (r2 + 1) := by unfold In64; omega
  have i2 : In64 ((t.length : Int) + 1) := by unfold In64; omega
  have lt3 : decide ((t.length : Int) < 3) = false := by simp; omega
  have q1' : (d1 != 0) = true ∨ d1 = 0 ∧ (!(y1.k == p.k && (y1.f == p.f && (y1.a == p.a && (y1.n == p.n && (y1.v == p.v && (y1.w == p.w && true))))))) = true := q1.imp (fun h => bne_iff_ne.2 h) fun h => ⟨h.1, op6_ne h.2⟩
  have q2' : (d2 != 0) = true ∨ d2 = 0 ∧ (!(y2.k == p.k && (y2.f == p.f && (y2.a == p.a && (y2.n == p.n && (y2.v == p.v && (y2.w == p.w && true))))))) = true := q2.imp (fun h => bne_iff_ne.2 h) fun h => ⟨h.1, op6_ne h.2⟩
  have q3' : (d3 != 0) = true ∨ d3 = 0 ∧ (!(y3.k == p.k && (y3.f == p.f && (y3.a == p.a && (y3.n == p.n && (y3.v == p.v && (y3.w == p.w && true))))))) = true := q3.imp (fun h => bne_iff_ne.2 h) fun h => ⟨h.1, op6_ne h.2⟩
  clear q1 q2 q3
  rcases q1' with q1 | ⟨rfl, q1⟩ <;> rcases q2' with q2 | ⟨rfl, q2⟩ <;> rcases q3' with q3 | ⟨rfl, q3⟩
  · refine holds_of_check pok (bendsTTT_c o.k o.f o.a o.n o.v o.w x c p.k p.f p.a p.n p.v p.w r1 r2 y1.k y1.f y1.a y1.n y1.v y1.w d1 y2.k y2.f y2.a y2.n y2.v y2.w d2 y3.k y3.f y3.a y3.n y3.v y3.w d3 t (ins t r1 c) (cutOut t r2) (bend t r2) (t ++ [32]) ([32] ++ t)) ?_
    simp only [allOf]
    and_intros <;> first | exact True.intro | omega | (simp only [List.length_append, List.length_drop, List.length_take, List.length_cons, List.length_nil]; omega) | assumption | (unfold bend bentByte; kernel_rfl) | (unfold ins; rfl) | (unfold cutOut; rfl) | rfl
  · refine holds_of_check pok (bendsTTF_c o.k o.f o.a o.n o.v o.w x c p.k p.f p.a p.n p.v p.w r1 r2 y1.k y1.f y1.a y1.n y1.v y1.w d1 y2.k y2.f y2.a y2.n y2.v y2.w d2 y3.k y3.f y3.a y3.n y3.v y3.w 0 t (ins t r1 c) (cutOut t r2) (bend t r2) (t ++ [32]) ([32] ++ t)) ?_
    simp only [allOf]
    and_intros <;> first | exact True.intro | omega | (simp only [List.length_append, List.length_drop, List.length_take, List.length_cons, List.length_nil]; omega) | assumption | (unfold bend bentByte; kernel_rfl) | (unfold ins; rfl) | (unfold cutOut; rfl) | rfl
  · refine holds_of_check pok (bendsTFT_c o.k o.f o.a o.n o.v o.w x c p.k p.f p.a p.n p.v p.w r1 r2 y1.k y1.f y1.a y1.n y1.v y1.w d1 y2.k y2.f y2.a y2.n y2.v y2.w 0 y3.k y3.f y3.a y3.n y3.v y3.w d3 t (ins t r1 c) (cutOut t r2) (bend t r2) (t ++ [32]) ([32] ++ t)) ?_
    simp only [allOf]
    and_intros <;> first | exact True.intro | omega | (simp only [List.length_append, List.length_drop, List.length_take, List.length_cons, List.length_nil]; omega) | assumption | (unfold bend bentByte; kernel_rfl) | (unfold ins; rfl) | (unfold cutOut; rfl) | rfl
  · refine holds_of_check pok (bendsTFF_c o.k o.f o.a o.n o.v o.w x c p.k p.f p.a p.n p.v p.w r1 r2 y1.k y1.f y1.a y1.n y1.v y1.w d1 y2.k y2.f y2.a y2.n y2.v y2.w 0 y3.k y3.f y3.a y3.n y3.v y3.w 0 t (ins t r1 c) (cutOut t r2) (bend t r2) (t ++ [32]) ([32] ++ t)) ?_
    simp only [allOf]
    and_intros <;> first | exact True.intro | omega | (simp only [List.length_append, List.length_drop, List.length_take, List.length_cons, List.length_nil]; omega) | assumption | (unfold bend bentByte; kernel_rfl) | (unfold ins; rfl) | (unfold cutOut; rfl) | rfl
  · refine holds_of_check pok (bendsFTT_c o.k o.f o.a o.n o.v o.w x c p.k p.f p.a p.n p.v p.w r1 r2 y1.k y1.f y1.a y1.n y1.v y1.w 0 y2.k y2.f y2.a y2.n y2.v y2.w d2 y3.k y3.f y3.a y3.n y3.v y3.w d3 t (ins t r1 c) (cutOut t r2) (bend t r2) (t ++ [32]) ([32] ++ t)) ?_
    simp only [allOf]
    and_intros <;> first | exact True.intro | omega | (simp only [List.length_append, List.length_drop, List.length_take, List.length_cons, List.length_nil]; omega) | assumption | (unfold bend bentByte; kernel_rfl) | (unfold ins; rfl) | (unfold cutOut; rfl) | rfl
  · refine holds_of_check pok (bendsFTF_c o.k o.f o.a o.n o.v o.w x c p.k p.f p.a p.n p.v p.w r1 r2 y1.k y1.f y1.a y1.n y1.v y1.w 0 y2.k y2.f y2.a y2.n y2.v y2.w d2 y3.k y3.f y3.a y3.n y3.v y3.w 0 t (ins t r1 c) (cutOut t r2) (bend t r2) (t ++ [32]) ([32] ++ t)) ?_
    simp only [allOf]
    and_intros <;> first | exact True.intro | omega | (simp only [List.length_append, List.length_drop, List.length_take, List.length_cons, List.length_nil]; omega) | assumption | (unfold bend bentByte; kernel_rfl) | (unfold ins; rfl) | (unfold cutOut; rfl) | rfl
  · refine holds_of_check pok (bendsFFT_c o.k o.f o.a o.n o.v o.w x c p.k p.f p.a p.n p.v p.w r1 r2 y1.k y1.f y1.a y1.n y1.v y1.w 0 y2.k y2.f y2.a y2.n y2.v y2.w 0 y3.k y3.f y3.a y3.n y3.v y3.w d3 t (ins t r1 c) (cutOut t r2) (bend t r2) (t ++ [32]) ([32] ++ t)) ?_
    simp only [allOf]
    and_intros <;> first | exact True.intro | omega | (simp only [List.length_append, List.length_drop, List.length_take, List.length_cons, List.length_nil]; omega) | assumption | (unfold bend bentByte; kernel_rfl) | (unfold ins; rfl) | (unfold cutOut; rfl) | rfl
  · refine holds_of_check pok (bendsFFF_c o.k o.f o.a o.n o.v o.w x c p.k p.f p.a p.n p.v p.w r1 r2 y1.k y1.f y1.a y1.n y1.v y1.w 0 y2.k y2.f y2.a y2.n y2.v y2.w 0 y3.k y3.f y3.a y3.n y3.v y3.w 0 t (ins t r1 c) (cutOut t r2) (bend t r2) (t ++ [32]) ([32] ++ t)) ?_
    simp only [allOf]
    and_intros <;> first | exact True.intro | omega | (simp only [List.length_append, List.length_drop, List.length_take, List.length_cons, List.length_nil]; omega) | assumption | (unfold bend bentByte; kernel_rfl) | (unfold ins; rfl) | (unfold cutOut; rfl) | rfl

end Go.OpP
