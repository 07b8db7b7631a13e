import Derived.Test.YtfnekhbekppgnaaDoorOV
namespace Go.OpP
open Go.Eng

/-! The reference's text, and what the law says. -/

theorem hasW9 (k : Int) : hasW k = (k == 9) := by unfold hasW; by_cases h : k = 9 <;> simp [h]

theorem putJTTTT (nm tf ta tn tv tw : List UInt8) : nm ++ [32] ++ tf ++ [46] ++ ta ++ [32] ++ tn ++ [32] ++ tv ++ [32] ++ tw = Lib.join (nm :: rest4 true true true true (tf ++ [46] ++ ta) tn tv tw) [32] := by
  rw [Lib.join_cons]
  simp [rest4, Lib.joinTail]

theorem putJTTTF (nm tf ta tn tv tw : List UInt8) : nm ++ [32] ++ tf ++ [46] ++ ta ++ [32] ++ tn ++ [32] ++ tv = Lib.join (nm :: rest4 true true true false (tf ++ [46] ++ ta) tn tv tw) [32] := by
  rw [Lib.join_cons]
  simp [rest4, Lib.joinTail]

theorem putJTTFF (nm tf ta tn tv tw : List UInt8) : nm ++ [32] ++ tf ++ [46] ++ ta ++ [32] ++ tn = Lib.join (nm :: rest4 true true false false (tf ++ [46] ++ ta) tn tv tw) [32] := by
  rw [Lib.join_cons]
  simp [rest4, Lib.joinTail]

theorem putJTFTT (nm tf ta tn tv tw : List UInt8) : nm ++ [32] ++ tf ++ [46] ++ ta ++ [32] ++ tv ++ [32] ++ tw = Lib.join (nm :: rest4 true false true true (tf ++ [46] ++ ta) tn tv tw) [32] := by
  rw [Lib.join_cons]
  simp [rest4, Lib.joinTail]

theorem putJTFTF (nm tf ta tn tv tw : List UInt8) : nm ++ [32] ++ tf ++ [46] ++ ta ++ [32] ++ tv = Lib.join (nm :: rest4 true false true false (tf ++ [46] ++ ta) tn tv tw) [32] := by
  rw [Lib.join_cons]
  simp [rest4, Lib.joinTail]

theorem putJTFFF (nm tf ta tn tv tw : List UInt8) : nm ++ [32] ++ tf ++ [46] ++ ta = Lib.join (nm :: rest4 true false false false (tf ++ [46] ++ ta) tn tv tw) [32] := by
  rw [Lib.join_cons]
  simp [rest4, Lib.joinTail]

theorem putJFTTT (nm tf ta tn tv tw : List UInt8) : nm ++ [32] ++ tn ++ [32] ++ tv ++ [32] ++ tw = Lib.join (nm :: rest4 false true true true (tf ++ [46] ++ ta) tn tv tw) [32] := by
  rw [Lib.join_cons]
  simp [rest4, Lib.joinTail]

theorem putJFTTF (nm tf ta tn tv tw : List UInt8) : nm ++ [32] ++ tn ++ [32] ++ tv = Lib.join (nm :: rest4 false true true false (tf ++ [46] ++ ta) tn tv tw) [32] := by
  rw [Lib.join_cons]
  simp [rest4, Lib.joinTail]

theorem putJFTFF (nm tf ta tn tv tw : List UInt8) : nm ++ [32] ++ tn = Lib.join (nm :: rest4 false true false false (tf ++ [46] ++ ta) tn tv tw) [32] := by
  rw [Lib.join_cons]
  simp [rest4, Lib.joinTail]

theorem putJFFTT (nm tf ta tn tv tw : List UInt8) : nm ++ [32] ++ tv ++ [32] ++ tw = Lib.join (nm :: rest4 false false true true (tf ++ [46] ++ ta) tn tv tw) [32] := by
  rw [Lib.join_cons]
  simp [rest4, Lib.joinTail]

theorem putJFFTF (nm tf ta tn tv tw : List UInt8) : nm ++ [32] ++ tv = Lib.join (nm :: rest4 false false true false (tf ++ [46] ++ ta) tn tv tw) [32] := by
  rw [Lib.join_cons]
  simp [rest4, Lib.joinTail]

theorem putJFFFF (nm tf ta tn tv tw : List UInt8) : nm = Lib.join (nm :: rest4 false false false false (tf ++ [46] ++ ta) tn tv tw) [32] := by
  rw [Lib.join_cons]
  simp [rest4, Lib.joinTail]

theorem putRfH [GG] (o : Op6) (h : o.may = true) (hi : o.In) : (sPutRf o.k o.f o.a o.n o.v o.w o.text).Holds P0 := by
  obtain ⟨h1, h2, h3, h4, h5, h6, h7, h8, h9, h10⟩ := may_true h
  have hf := may_fits h hi
  have qn := nameRH o.k
  have qo := refOfH o.k
  have qN := hasNH o.k
  have qV := hasVH o.k
  have qf := signedH o.f h3 hf.f1
  have qa := signedH o.a h5 hf.a1
  have qnn := signedH o.n h7 hf.n1
  have qv := decH o.v hf.v0 hf.v1
  have qw := decH o.w hf.w0 hf.w1
  have l0 := nameOf_le o.k
  have l1 := Lib.itoa_length_le o.f hf.f0 hf.f1
  have l2 := Lib.itoa_length_le o.a hf.a0 hf.a1
  have l3 := Lib.itoa_length_le o.n hf.n0 hf.n1
  have l4 := dec_le hf.v0 hf.v1
  have l5 := dec_le hf.w0 hf.w1
  have ht : o.text = Lib.join (nameOf o.k :: rest4 (ofOf o.k != 0) (hasN o.k) (hasV o.k) (o.k == 9) (Lib.itoa o.f ++ [46] ++ Lib.itoa o.a) (Lib.itoa o.n) (Lib.decDigits o.v.toNat) (Lib.decDigits o.w.toNat)) [32] := by
    unfold Op6.text putT
    rw [putWs_eq, hasW9]
  rw [ht]
  have hx : (o.k == 9) = true → hasV o.k = true := fun e => by
    have e' : o.k = 9 := by simpa using e
    rw [e']
    decide
  clear ht h9 h10
  generalize nameOf o.k = nm at *
  generalize Lib.itoa o.f = tf at *
  generalize Lib.itoa o.a = ta at *
  generalize Lib.itoa o.n = tn at *
  generalize Lib.decDigits o.v.toNat = tv at *
  generalize Lib.decDigits o.w.toNat = tw at *
  generalize hO : ofOf o.k = oo at *
  generalize hN : hasN o.k = hn at *
  generalize hV : hasV o.k = hv at *
  cases hb : (oo != 0) <;> cases hn <;> cases hv <;> cases hw : (o.k == 9)
  · rw [← putJFFFF]
    refine holds_of_check pok (putRfFFFF_c o.k o.f o.a o.n o.v o.w oo false false nm tf ta tn tv tw _) ?_
    simp only [allOf]
    and_intros <;> first | exact True.intro | omega | (simp only [List.length_append, List.length_cons, List.length_nil]; omega) | assumption | rfl
  · exact absurd (hx hw) (by decide)
  · rw [← putJFFTF]
    refine holds_of_check pok (putRfFFTF_c o.k o.f o.a o.n o.v o.w oo false true nm tf ta tn tv tw _) ?_
    simp only [allOf]
    and_intros <;> first | exact True.intro | omega | (simp only [List.length_append, List.length_cons, List.length_nil]; omega) | assumption | rfl
  · rw [← putJFFTT]
    refine holds_of_check pok (putRfFFTT_c o.k o.f o.a o.n o.v o.w oo false true nm tf ta tn tv tw _) ?_
    simp only [allOf]
    and_intros <;> first | exact True.intro | omega | (simp only [List.length_append, List.length_cons, List.length_nil]; omega) | assumption | rfl
  · rw [← putJFTFF]
    refine holds_of_check pok (putRfFTFF_c o.k o.f o.a o.n o.v o.w oo true false nm tf ta tn tv tw _) ?_
    simp only [allOf]
    and_intros <;> first | exact True.intro | omega | (simp only [List.length_append, List.length_cons, List.length_nil]; omega) | assumption | rfl
  · exact absurd (hx hw) (by decide)
  · rw [← putJFTTF]
    refine holds_of_check pok (putRfFTTF_c o.k o.f o.a o.n o.v o.w oo true true nm tf ta tn tv tw _) ?_
    simp only [allOf]
    and_intros <;> first | exact True.intro | omega | (simp only [List.length_append, List.length_cons, List.length_nil]; omega) | assumption | rfl
  · rw [← putJFTTT]
    refine holds_of_check pok (putRfFTTT_c o.k o.f o.a o.n o.v o.w oo true true nm tf ta tn tv tw _) ?_
    simp only [allOf]
    and_intros <;> first | exact True.intro | omega | (simp only [List.length_append, List.length_cons, List.length_nil]; omega) | assumption | rfl
  · rw [← putJTFFF]
    refine holds_of_check pok (putRfTFFF_c o.k o.f o.a o.n o.v o.w oo false false nm tf ta tn tv tw _) ?_
    simp only [allOf]
    and_intros <;> first | exact True.intro | omega | (simp only [List.length_append, List.length_cons, List.length_nil]; omega) | assumption | rfl
  · exact absurd (hx hw) (by decide)
  · rw [← putJTFTF]
    refine holds_of_check pok (putRfTFTF_c o.k o.f o.a o.n o.v o.w oo false true nm tf ta tn tv tw _) ?_
    simp only [allOf]
    and_intros <;> first | exact True.intro | omega | (simp only [List.length_append, List.length_cons, List.length_nil]; omega) | assumption | rfl
  · rw [← putJTFTT]
    refine holds_of_check pok (putRfTFTT_c o.k o.f o.a o.n o.v o.w oo false true nm tf ta tn tv tw _) ?_
    simp only [allOf]
    and_intros <;> first | exact True.intro | omega | (simp only [List.length_append, List.length_cons, List.length_nil]; omega) | assumption | rfl
  · rw [← putJTTFF]
    refine holds_of_check pok (putRfTTFF_c o.k o.f o.a o.n o.v o.w oo true false nm tf ta tn tv tw _) ?_
    simp only [allOf]
    and_intros <;> first | exact True.intro | omega | (simp only [List.length_append, List.length_cons, List.length_nil]; omega) | assumption | rfl
  · exact absurd (hx hw) (by decide)
  · rw [← putJTTTF]
    refine holds_of_check pok (putRfTTTF_c o.k o.f o.a o.n o.v o.w oo true true nm tf ta tn tv tw _) ?_
    simp only [allOf]
    and_intros <;> first | exact True.intro | omega | (simp only [List.length_append, List.length_cons, List.length_nil]; omega) | assumption | rfl
  · rw [← putJTTTT]
    refine holds_of_check pok (putRfTTTT_c o.k o.f o.a o.n o.v o.w oo true true nm tf ta tn tv tw _) ?_
    simp only [allOf]
    and_intros <;> first | exact True.intro | omega | (simp only [List.length_append, List.length_cons, List.length_nil]; omega) | assumption | rfl

theorem saysH [GG] (o : Op6) (hi : o.In) (hf : Fits o.f o.a o.n o.v o.w) : (sSays o.k o.f o.a o.n o.v o.w).Holds P0 := by
  have m1 := mayRH o.k o.f o.a o.n o.v o.w
  have m2 := mayH o.k o.f o.a o.n o.v o.w
  have p := putH o.k o.f o.a o.n o.v o.w hf
  have q1 := ofH o.k
  have q2 := refOfH o.k
  have q3 := nameH o.k
  have q4 := nameRH o.k
  have hF := firstH
  by_cases hm : o.may = true
  · have e : mayB o.k o.f o.a o.n o.v o.w = true := hm
    have e1 : putR o.k o.f o.a o.n o.v o.w = o.text := if_pos hm
    have e2 : putC o.k o.f o.a o.n o.v o.w = 0 := if_pos hm
    rw [e1, e2] at p
    rw [e] at m1 m2
    have r := putRfH o hm hi
    refine holds_of_check pok (saysT_c o.k o.f o.a o.n o.v o.w (ofOf o.k) (ofOf o.k) (nameOf o.k) (nameOf o.k) o.text o.text) ?_
    simp only [allOf]
    and_intros <;> first | exact True.intro | assumption | rfl | (simp; done)
  · have e : mayB o.k o.f o.a o.n o.v o.w = false := by
      cases h : mayB o.k o.f o.a o.n o.v o.w with
      | false => rfl
      | true => exact absurd h hm
    have e1 : putR o.k o.f o.a o.n o.v o.w = [] := if_neg hm
    have e2 : putC o.k o.f o.a o.n o.v o.w = 10 := if_neg hm
    rw [e1, e2] at p
    rw [e] at m1 m2
    refine holds_of_check pok (saysF_c o.k o.f o.a o.n o.v o.w (ofOf o.k) (ofOf o.k) (nameOf o.k) (nameOf o.k)) ?_
    simp only [allOf]
    and_intros <;> first | exact True.intro | assumption | rfl | (simp; done)

end Go.OpP
