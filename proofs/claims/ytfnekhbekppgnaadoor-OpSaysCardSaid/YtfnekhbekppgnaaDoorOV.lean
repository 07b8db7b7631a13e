import Derived.Test.YtfnekhbekppgnaaDoorOU
namespace Go.OpP
open Go.Eng

/-! What the reference's functions answer. -/

theorem namesH [GG] : sNames.Holds P0 := holds_of_check pok names_c (by simp only [allOf]; and_intros <;> first | exact True.intro | rfl)

theorem arrF_map (ws : List (List UInt8)) (i j : Nat) (hi : i < ws.length) (hj : j < 1) : arrF (ws.map fun x => [SV.con (.string ⟨x.toArray⟩)]) i j = .con (.string ⟨(ws.getD i []).toArray⟩) := by
  obtain rfl : j = 0 := by omega
  unfold arrF
  simp [List.getD_eq_getElem?_getD, hi]

theorem namesSH [GG] : (sNamesS nms).Holds P0 := by
  intro Fr e w vs hvs hat hfree
  refine (namesH Fr e w vs hvs hat hfree).mono ?_
  rintro _ w' ⟨e', v, rfl, hx, hv, hat', hk⟩
  refine ⟨e', v, rfl, hx, hv, ?_, hk⟩
  obtain ⟨⟨bs, h1, h2, h3⟩, h4⟩ := hat'
  refine ⟨⟨bs, ?_, h2, h3⟩, h4⟩
  obtain ⟨b1, b2, rfl, hE, hS⟩ := h1
  refine ⟨b1, b2, rfl, ?_, hS⟩
  obtain ⟨k, hk1, hE⟩ := hE
  refine ⟨k, hk1, hE.imp (fun h => ⟨h.1, h.2.1, h.2.2⟩) fun h => ?_⟩
  obtain ⟨g1, g2, g3, g4, c, g5, g6, g7⟩ := h
  refine ⟨g1, g2, g3, g4, c, g5, g6, fun i j hi hj => ?_⟩
  obtain ⟨v, hv1, hv2⟩ := g7 i j (by rw [List.length_map]; exact hi) hj
  refine ⟨v, hv1, ?_⟩
  rw [arrF_map nms i j hi hj] at hv2
  exact hv2

theorem nameRH [GG] (k : Int) : (sNameR k (nameOf k)).Holds P0 := by
  by_cases h0 : k < 1
  · have : nameOf k = [] := (form_none (.inl h0)).1
    rw [this]
    exact holds_of_check pok (nameRLo_c k _) (by simp [allOf, h0])
  by_cases h1 : k > 12
  · have : nameOf k = [] := (form_none (.inr (by omega))).1
    rw [this]
    exact holds_of_check pok (nameRHi_c k _) (by simp [allOf, h0, h1])
  · refine holds_of_check pok (nameRMid_c k _ nms) ?_
    have hl : nms.length = 13 := rfl
    have e : nms.getD k.toNat [] = nameOf k := by
      have hk : k = 1 ∨ k = 2 ∨ k = 3 ∨ k = 4 ∨ k = 5 ∨ k = 6 ∨ k = 7 ∨ k = 8 ∨ k = 9 ∨ k = 10 ∨ k = 11 ∨ k = 12 := by omega
      rcases hk with rfl | rfl | rfl | rfl | rfl | rfl | rfl | rfl | rfl | rfl | rfl | rfl <;> decide
    have hN := namesSH
    simp only [allOf, hl, e, LN.val, decide_eq_false_iff_not]
    and_intros <;> first | exact True.intro | assumption | omega

theorem digit_all : ∀ d : Fin 10, UInt8.ofNat (Int.toNat (IntKind.u8.wrap (48 + (d.val : Int)))) = UInt8.ofNat (48 + d.val) := by decide +kernel
theorem digit_eq [GG] (u : Nat) : UInt8.ofNat (Int.toNat (IntKind.u8.wrap (48 + Int.tmod (u : Int) 10))) = UInt8.ofNat (48 + u % 10) := by
  have h := digit_all ⟨u % 10, Nat.mod_lt _ (by omega)⟩
  exact h

theorem decLoop [GG] : ∀ (m x : Nat) (s : List UInt8), x ≤ m → x < 18446744073709551616 → (Lib.decDigits x).length + s.length ≤ 1000 →
    ∃ y : Int, LoopIs P0 31 [0, 0, 1, 1] (decFr (x : Int) (UInt8.ofNat (48 + x % 10) :: s)) [] (.exit 0) (decFr y (Lib.decDigits x ++ s)) [] 0 20 := by
  intro m
  induction m with
  | zero =>
    intro x s hx _ _
    obtain rfl : x = 0 := by omega
    refine ⟨0, ?_⟩
    rw [Lib.decDigits, dif_pos (by omega)]
    refine LoopIs.out (by kernel_rfl) (code_of_check pok (decEnd_c _ _) ?_) (by simp)
    simp [allOf]
  | succ m ih =>
    intro x s hx hb hl
    by_cases h : x < 10
    · refine ⟨x, ?_⟩
      rw [Lib.decDigits, dif_pos h, Nat.mod_eq_of_lt h]
      refine LoopIs.out (by kernel_rfl) (code_of_check pok (decEnd_c _ _) ?_) (by simp)
      simp [allOf]
      omega
    · have e : Lib.decDigits x = Lib.decDigits (x / 10) ++ [UInt8.ofNat (48 + x % 10)] := by rw [Lib.decDigits, dif_neg h]
      rw [e] at hl
      simp only [List.length_append, List.length_cons, List.length_nil] at hl
      obtain ⟨y, hy⟩ := ih (x / 10) (UInt8.ofNat (48 + x % 10) :: s) (by omega) (by omega) (by simp only [List.length_cons]; omega)
      refine ⟨y, ?_⟩
      have e2 : Lib.decDigits x ++ s = Lib.decDigits (x / 10) ++ (UInt8.ofNat (48 + x % 10) :: s) := by rw [e]; simp
      rw [e2]
      have t1 : Int.tdiv (x : Int) 10 = ((x / 10 : Nat) : Int) := rfl
      have t2 : Int.tmod ((x / 10 : Nat) : Int) 10 = ((x / 10 % 10 : Nat) : Int) := rfl
      refine LoopIs.step (code_of_check pok (decStep_c (x : Int) ((x / 10 : Nat) : Int) (UInt8.ofNat (48 + x / 10 % 10) :: UInt8.ofNat (48 + x % 10) :: s) (UInt8.ofNat (48 + x % 10) :: s)) ?_) rfl rfl hy
      simp only [allOf, t1]
      refine ⟨trivial, ?_, ?_, ?_, ?_, ?_⟩
      · rw [digit_eq]
      · simp only [List.length_cons]; omega
      · unfold InU64; rw [t2]; omega
      · unfold InU64; omega
      · simp; omega

theorem decH [GG] (u : Int) (h0 : 0 ≤ u) (h1 : u ≤ 18446744073709551615) : (sDec u (Lib.decDigits u.toNat)).Holds P0 := by
  obtain ⟨x, rfl⟩ : ∃ x : Nat, u = x := ⟨u.toNat, by omega⟩
  rw [Int.toNat_natCast]
  obtain ⟨y, hy⟩ := decLoop x x [] (Nat.le_refl _) (by omega) (by have := dec_le h0 h1; rw [Int.toNat_natCast] at this; simp; omega)
  rw [List.append_nil] at hy
  refine holds_of_check pok (dec_c (x : Int) y _ (Lib.decDigits x) [UInt8.ofNat (48 + x % 10)]) ?_
  have t2 : Int.tmod (x : Int) 10 = ((x % 10 : Nat) : Int) := rfl
  simp only [allOf]
  refine ⟨trivial, hy, trivial, ?_, ?_⟩
  · rw [digit_eq]
  · unfold InU64; rw [t2]; omega

theorem signedH [GG] (n : Int) (h0 : 0 ≤ n) (h1 : n ≤ 9223372036854775807) : (sSigned n (Lib.itoa n)).Holds P0 := by
  rw [itoa_nat n h0]
  have hd := decH n h0 (by omega)
  refine holds_of_check pok (signed_c n _ (Lib.decDigits n.toNat)) ?_
  simp only [allOf, InU64]
  and_intros <;> first | exact True.intro | rfl | assumption | omega | (simp; omega)

def inB (n a b : Int) : Bool := decide (a ≤ n ∧ n ≤ b)
theorem inRH [GG] (n a b : Int) : (sInR n a b (inB n a b)).Holds P0 := by
  unfold inB
  by_cases h : a ≤ n
  · refine holds_of_check pok (inT_c n a b _) ?_
    simp [allOf, h]
  · refine holds_of_check pok (inF_c n a b _) ?_
    simp [allOf, h]

theorem mayRclsA [GG] (k f a n v w : Int) (hk : k = 1) (h1 : (k == 1) = true) (hN : hasN k = true) (hV : hasV k = false) (h9 : (k != 9) = true) (ho : (ofOf k == 0) = true) : (sMayR k f a n v w (withinB n 3 && ((v == 0) && ((w == 0) && ((f == 0) && (a == 0)))))).Holds P0 := by
  have q1 : (sInR k 1 12 true).Holds P0 := by
    have h := inRH k 1 12
    rwa [show inB k 1 12 = true by unfold inB; simp; omega] at h
  have q2 : (sInR n 0 3 (withinB n 3)).Holds P0 := inRH n 0 3
  have q4 : (sInR f 0 63 (withinB f 63)).Holds P0 := inRH f 0 63
  have q5 : (sInR a 0 999 (withinB a 999)).Holds P0 := inRH a 0 999
  have qN := hasNH k
  have qV := hasVH k
  have qo := refOfH k
  rw [hN] at qN
  rw [hV] at qV
  generalize withinB n 3 = b2 at *
  generalize withinB f 63 = b4 at *
  generalize withinB a 999 = b5 at *
  cases b2
  · exact holds_of_check pok (mayRAm2_c k f a n v w (ofOf k) _ false true false false false false) (by simp only [allOf]; and_intros <;> first | exact True.intro | rfl | assumption | (simp [*]; done))
  by_cases hv : v = 0
  case neg => exact holds_of_check pok (mayRAm3_c k f a n v w (ofOf k) _ false true true false false false) (by simp only [allOf]; and_intros <;> first | exact True.intro | rfl | assumption | (simp [*]; done))
  by_cases hw : w = 0
  case neg => exact holds_of_check pok (mayRAm4_c k f a n v w (ofOf k) _ false true true false false false) (by simp only [allOf]; and_intros <;> first | exact True.intro | rfl | assumption | (simp [*]; done))
  by_cases hf : f = 0
  case neg => exact holds_of_check pok (mayRAm5t1_c k f a n v w (ofOf k) _ false true true false false false) (by simp only [allOf]; and_intros <;> first | exact True.intro | rfl | assumption | (simp [*]; done))
  exact holds_of_check pok (mayRAm5t2_c k f a n v w (ofOf k) _ false true true false false false) (by simp only [allOf]; and_intros <;> first | exact True.intro | rfl | assumption | (simp [*]; done))

theorem mayRclsN2 [GG] (k f a n v w : Int) (hk : 1 ≤ k ∧ k ≤ 12) (h1 : (k == 1) = false) (hN : hasN k = true) (hV : hasV k = false) (h9 : (k != 9) = true) (ho : (ofOf k == 0) = false) : (sMayR k f a n v w (withinB n 65535 && ((v == 0) && ((w == 0) && (withinB f 63 && withinB a 999))))).Holds P0 := by
  have q1 : (sInR k 1 12 true).Holds P0 := by
    have h := inRH k 1 12
    rwa [show inB k 1 12 = true by unfold inB; simp; omega] at h
  have q2 : (sInR n 0 65535 (withinB n 65535)).Holds P0 := inRH n 0 65535
  have q4 : (sInR f 0 63 (withinB f 63)).Holds P0 := inRH f 0 63
  have q5 : (sInR a 0 999 (withinB a 999)).Holds P0 := inRH a 0 999
  have qN := hasNH k
  have qV := hasVH k
  have qo := refOfH k
  rw [hN] at qN
  rw [hV] at qV
  generalize withinB n 65535 = b2 at *
  generalize withinB f 63 = b4 at *
  generalize withinB a 999 = b5 at *
  cases b2
  · exact holds_of_check pok (mayRNm2_c k f a n v w (ofOf k) _ true true false false false false) (by simp only [allOf]; and_intros <;> first | exact True.intro | rfl | assumption | (simp [*]; done))
  by_cases hv : v = 0
  case neg => exact holds_of_check pok (mayRNm3_c k f a n v w (ofOf k) _ true true true false false false) (by simp only [allOf]; and_intros <;> first | exact True.intro | rfl | assumption | (simp [*]; done))
  by_cases hw : w = 0
  case neg => exact holds_of_check pok (mayRNm4_c k f a n v w (ofOf k) _ true true true false false false) (by simp only [allOf]; and_intros <;> first | exact True.intro | rfl | assumption | (simp [*]; done))
  cases b4
  · exact holds_of_check pok (mayRNm5t3_c k f a n v w (ofOf k) _ true true true false false false) (by simp only [allOf]; and_intros <;> first | exact True.intro | rfl | assumption | (simp [*]; done))
  cases b5
  · exact holds_of_check pok (mayRNm5t4_c k f a n v w (ofOf k) _ true true true false true false) (by simp only [allOf]; and_intros <;> first | exact True.intro | rfl | assumption | (simp [*]; done))
  · exact holds_of_check pok (mayRNm5t4_c k f a n v w (ofOf k) _ true true true false true true) (by simp only [allOf]; and_intros <;> first | exact True.intro | rfl | assumption | (simp [*]; done))

theorem mayRclsN7 [GG] (k f a n v w : Int) (hk : 1 ≤ k ∧ k ≤ 12) (h1 : (k == 1) = false) (hN : hasN k = true) (hV : hasV k = true) (h9 : (k != 9) = true) (ho : (ofOf k == 0) = false) : (sMayR k f a n v w (withinB n 65535 && ((w == 0) && (withinB f 63 && withinB a 999)))).Holds P0 := by
  have q1 : (sInR k 1 12 true).Holds P0 := by
    have h := inRH k 1 12
    rwa [show inB k 1 12 = true by unfold inB; simp; omega] at h
  have q2 : (sInR n 0 65535 (withinB n 65535)).Holds P0 := inRH n 0 65535
  have q4 : (sInR f 0 63 (withinB f 63)).Holds P0 := inRH f 0 63
  have q5 : (sInR a 0 999 (withinB a 999)).Holds P0 := inRH a 0 999
  have qN := hasNH k
  have qV := hasVH k
  have qo := refOfH k
  rw [hN] at qN
  rw [hV] at qV
  generalize withinB n 65535 = b2 at *
  generalize withinB f 63 = b4 at *
  generalize withinB a 999 = b5 at *
  cases b2
  · exact holds_of_check pok (mayRNm2_c k f a n v w (ofOf k) _ true true false true false false) (by simp only [allOf]; and_intros <;> first | exact True.intro | rfl | assumption | (simp [*]; done))
  by_cases hw : w = 0
  case neg => exact holds_of_check pok (mayRNm7_c k f a n v w (ofOf k) _ true true true true false false) (by simp only [allOf]; and_intros <;> first | exact True.intro | rfl | assumption | (simp [*]; done))
  cases b4
  · exact holds_of_check pok (mayRNm8t3_c k f a n v w (ofOf k) _ true true true true false false) (by simp only [allOf]; and_intros <;> first | exact True.intro | rfl | assumption | (simp [*]; done))
  cases b5
  · exact holds_of_check pok (mayRNm8t4_c k f a n v w (ofOf k) _ true true true true true false) (by simp only [allOf]; and_intros <;> first | exact True.intro | rfl | assumption | (simp [*]; done))
  · exact holds_of_check pok (mayRNm8t4_c k f a n v w (ofOf k) _ true true true true true true) (by simp only [allOf]; and_intros <;> first | exact True.intro | rfl | assumption | (simp [*]; done))

theorem mayRclsN9 [GG] (k f a n v w : Int) (hk : 1 ≤ k ∧ k ≤ 12) (h1 : (k == 1) = false) (hN : hasN k = true) (hV : hasV k = true) (h9 : (k != 9) = false) (ho : (ofOf k == 0) = false) : (sMayR k f a n v w (withinB n 65535 && (withinB f 63 && withinB a 999))).Holds P0 := by
  have q1 : (sInR k 1 12 true).Holds P0 := by
    have h := inRH k 1 12
    rwa [show inB k 1 12 = true by unfold inB; simp; omega] at h
  have q2 : (sInR n 0 65535 (withinB n 65535)).Holds P0 := inRH n 0 65535
  have q4 : (sInR f 0 63 (withinB f 63)).Holds P0 := inRH f 0 63
  have q5 : (sInR a 0 999 (withinB a 999)).Holds P0 := inRH a 0 999
  have qN := hasNH k
  have qV := hasVH k
  have qo := refOfH k
  rw [hN] at qN
  rw [hV] at qV
  generalize withinB n 65535 = b2 at *
  generalize withinB f 63 = b4 at *
  generalize withinB a 999 = b5 at *
  cases b2
  · exact holds_of_check pok (mayRNm2_c k f a n v w (ofOf k) _ true true false true false false) (by simp only [allOf]; and_intros <;> first | exact True.intro | rfl | assumption | (simp [*]; done))
  cases b4
  · exact holds_of_check pok (mayRNm6t3_c k f a n v w (ofOf k) _ true true true true false false) (by simp only [allOf]; and_intros <;> first | exact True.intro | rfl | assumption | (simp [*]; done))
  cases b5
  · exact holds_of_check pok (mayRNm6t4_c k f a n v w (ofOf k) _ true true true true true false) (by simp only [allOf]; and_intros <;> first | exact True.intro | rfl | assumption | (simp [*]; done))
  · exact holds_of_check pok (mayRNm6t4_c k f a n v w (ofOf k) _ true true true true true true) (by simp only [allOf]; and_intros <;> first | exact True.intro | rfl | assumption | (simp [*]; done))

theorem mayRclsZ0 [GG] (k f a n v w : Int) (hk : 1 ≤ k ∧ k ≤ 12) (h1 : (k == 1) = false) (hN : hasN k = false) (hV : hasV k = false) (h9 : (k != 9) = true) (ho : (ofOf k == 0) = true) : (sMayR k f a n v w (withinB n 0 && ((v == 0) && ((w == 0) && ((f == 0) && (a == 0)))))).Holds P0 := by
  have q1 : (sInR k 1 12 true).Holds P0 := by
    have h := inRH k 1 12
    rwa [show inB k 1 12 = true by unfold inB; simp; omega] at h
  have q2 : (sInR n 0 0 (withinB n 0)).Holds P0 := inRH n 0 0
  have q4 : (sInR f 0 63 (withinB f 63)).Holds P0 := inRH f 0 63
  have q5 : (sInR a 0 999 (withinB a 999)).Holds P0 := inRH a 0 999
  have qN := hasNH k
  have qV := hasVH k
  have qo := refOfH k
  rw [hN] at qN
  rw [hV] at qV
  generalize withinB n 0 = b2 at *
  generalize withinB f 63 = b4 at *
  generalize withinB a 999 = b5 at *
  cases b2
  · exact holds_of_check pok (mayRZm2_c k f a n v w (ofOf k) _ false true false false false false) (by simp only [allOf]; and_intros <;> first | exact True.intro | rfl | assumption | (simp [*]; done))
  by_cases hv : v = 0
  case neg => exact holds_of_check pok (mayRZm3_c k f a n v w (ofOf k) _ false true true false false false) (by simp only [allOf]; and_intros <;> first | exact True.intro | rfl | assumption | (simp [*]; done))
  by_cases hw : w = 0
  case neg => exact holds_of_check pok (mayRZm4_c k f a n v w (ofOf k) _ false true true false false false) (by simp only [allOf]; and_intros <;> first | exact True.intro | rfl | assumption | (simp [*]; done))
  by_cases hf : f = 0
  case neg => exact holds_of_check pok (mayRZm5t1_c k f a n v w (ofOf k) _ false true true false false false) (by simp only [allOf]; and_intros <;> first | exact True.intro | rfl | assumption | (simp [*]; done))
  exact holds_of_check pok (mayRZm5t2_c k f a n v w (ofOf k) _ false true true false false false) (by simp only [allOf]; and_intros <;> first | exact True.intro | rfl | assumption | (simp [*]; done))

theorem mayRclsZ1 [GG] (k f a n v w : Int) (hk : 1 ≤ k ∧ k ≤ 12) (h1 : (k == 1) = false) (hN : hasN k = false) (hV : hasV k = false) (h9 : (k != 9) = true) (ho : (ofOf k == 0) = false) : (sMayR k f a n v w (withinB n 0 && ((v == 0) && ((w == 0) && (withinB f 63 && withinB a 999))))).Holds P0 := by
  have q1 : (sInR k 1 12 true).Holds P0 := by
    have h := inRH k 1 12
    rwa [show inB k 1 12 = true by unfold inB; simp; omega] at h
  have q2 : (sInR n 0 0 (withinB n 0)).Holds P0 := inRH n 0 0
  have q4 : (sInR f 0 63 (withinB f 63)).Holds P0 := inRH f 0 63
  have q5 : (sInR a 0 999 (withinB a 999)).Holds P0 := inRH a 0 999
  have qN := hasNH k
  have qV := hasVH k
  have qo := refOfH k
  rw [hN] at qN
  rw [hV] at qV
  generalize withinB n 0 = b2 at *
  generalize withinB f 63 = b4 at *
  generalize withinB a 999 = b5 at *
  cases b2
  · exact holds_of_check pok (mayRZm2_c k f a n v w (ofOf k) _ false true false false false false) (by simp only [allOf]; and_intros <;> first | exact True.intro | rfl | assumption | (simp [*]; done))
  by_cases hv : v = 0
  case neg => exact holds_of_check pok (mayRZm3_c k f a n v w (ofOf k) _ false true true false false false) (by simp only [allOf]; and_intros <;> first | exact True.intro | rfl | assumption | (simp [*]; done))
  by_cases hw : w = 0
  case neg => exact holds_of_check pok (mayRZm4_c k f a n v w (ofOf k) _ false true true false false false) (by simp only [allOf]; and_intros <;> first | exact True.intro | rfl | assumption | (simp [*]; done))
  cases b4
  · exact holds_of_check pok (mayRZm5t3_c k f a n v w (ofOf k) _ false true true false false false) (by simp only [allOf]; and_intros <;> first | exact True.intro | rfl | assumption | (simp [*]; done))
  cases b5
  · exact holds_of_check pok (mayRZm5t4_c k f a n v w (ofOf k) _ false true true false true false) (by simp only [allOf]; and_intros <;> first | exact True.intro | rfl | assumption | (simp [*]; done))
  · exact holds_of_check pok (mayRZm5t4_c k f a n v w (ofOf k) _ false true true false true true) (by simp only [allOf]; and_intros <;> first | exact True.intro | rfl | assumption | (simp [*]; done))

theorem within0 (x : Int) : withinB x 0 = (x == 0) := by
  unfold withinB
  by_cases h : x = 0
  · simp [h]
  · have : ¬ (0 ≤ x ∧ x ≤ 0) := by omega
    simp [h, this]

theorem mayR_eq {k f a n v w : Int} {b : Bool} (h : (sMayR k f a n v w b).Holds P0) (he : b = mayB k f a n v w) : (sMayR k f a n v w (mayB k f a n v w)).Holds P0 := he ▸ h

theorem mayRH [GG] (k f a n v w : Int) : (sMayR k f a n v w (mayB k f a n v w)).Holds P0 := by
  by_cases h : k < 1 ∨ 13 ≤ k
  · have q1 : (sInR k 1 12 false).Holds P0 := by
      have h' := inRH k 1 12
      rwa [show inB k 1 12 = false by unfold inB; simp; omega] at h'
    have qN := hasNH k
    rw [show hasN k = false by unfold hasN; simp; omega] at qN
    have hk : ¬ (1 ≤ k ∧ k ≤ 12) := by omega
    have h1 : (k == 1) = false := by simp; omega
    refine mayR_eq (b := false) ?_ (by unfold mayB; simp [hk])
    exact holds_of_check pok (mayRZm1_c k f a n v w 0 _ false false false false false false) (by simp only [allOf]; and_intros <;> first | exact True.intro | rfl | assumption)
  · have hk : k = 1 ∨ k = 2 ∨ k = 3 ∨ k = 4 ∨ k = 5 ∨ k = 6 ∨ k = 7 ∨ k = 8 ∨ k = 9 ∨ k = 10 ∨ k = 11 ∨ k = 12 := by omega
    rcases hk with rfl | rfl | rfl | rfl | rfl | rfl | rfl | rfl | rfl | rfl | rfl | rfl
    · refine mayR_eq (mayRclsA 1 f a n v w (by decide) (by decide) (by decide) (by decide) (by decide) (by decide)) ?_
      unfold mayB
      rw [show hasV 1 = false by decide, show hasW 1 = false by decide, show limW 1 = 0 by decide, show limA 1 = 0 by decide, show limN 1 = 3 by decide]
      simp only [within0]
      generalize withinB n 3 = b2
      generalize (v == 0) = b3
      generalize (w == 0) = b4
      generalize (f == 0) = b5
      generalize (a == 0) = b6
      cases b2 <;> cases b3 <;> cases b4 <;> cases b5 <;> cases b6 <;> decide
    · refine mayR_eq (mayRclsN2 2 f a n v w (by decide) (by decide) (by decide) (by decide) (by decide) (by decide)) ?_
      unfold mayB
      rw [show hasV 2 = false by decide, show hasW 2 = false by decide, show limW 2 = 63 by decide, show limA 2 = 999 by decide, show limN 2 = 65535 by decide]
      skip
      generalize withinB n 65535 = b2
      generalize (v == 0) = b3
      generalize (w == 0) = b4
      generalize withinB f 63 = b5
      generalize withinB a 999 = b6
      cases b2 <;> cases b3 <;> cases b4 <;> cases b5 <;> cases b6 <;> decide
    · refine mayR_eq (mayRclsZ0 3 f a n v w (by decide) (by decide) (by decide) (by decide) (by decide) (by decide)) ?_
      unfold mayB
      rw [show hasV 3 = false by decide, show hasW 3 = false by decide, show limW 3 = 0 by decide, show limA 3 = 0 by decide, show limN 3 = 0 by decide]
      simp only [within0]
      generalize (n == 0) = b2
      generalize (v == 0) = b3
      generalize (w == 0) = b4
      generalize (f == 0) = b5
      generalize (a == 0) = b6
      cases b2 <;> cases b3 <;> cases b4 <;> cases b5 <;> cases b6 <;> decide
    · refine mayR_eq (mayRclsZ0 4 f a n v w (by decide) (by decide) (by decide) (by decide) (by decide) (by decide)) ?_
      unfold mayB
      rw [show hasV 4 = false by decide, show hasW 4 = false by decide, show limW 4 = 0 by decide, show limA 4 = 0 by decide, show limN 4 = 0 by decide]
      simp only [within0]
      generalize (n == 0) = b2
      generalize (v == 0) = b3
      generalize (w == 0) = b4
      generalize (f == 0) = b5
      generalize (a == 0) = b6
      cases b2 <;> cases b3 <;> cases b4 <;> cases b5 <;> cases b6 <;> decide
    · refine mayR_eq (mayRclsZ1 5 f a n v w (by decide) (by decide) (by decide) (by decide) (by decide) (by decide)) ?_
      unfold mayB
      rw [show hasV 5 = false by decide, show hasW 5 = false by decide, show limW 5 = 63 by decide, show limA 5 = 999 by decide, show limN 5 = 0 by decide]
      simp only [within0]
      generalize (n == 0) = b2
      generalize (v == 0) = b3
      generalize (w == 0) = b4
      generalize withinB f 63 = b5
      generalize withinB a 999 = b6
      cases b2 <;> cases b3 <;> cases b4 <;> cases b5 <;> cases b6 <;> decide
    · refine mayR_eq (mayRclsN2 6 f a n v w (by decide) (by decide) (by decide) (by decide) (by decide) (by decide)) ?_
      unfold mayB
      rw [show hasV 6 = false by decide, show hasW 6 = false by decide, show limW 6 = 63 by decide, show limA 6 = 999 by decide, show limN 6 = 65535 by decide]
      skip
      generalize withinB n 65535 = b2
      generalize (v == 0) = b3
      generalize (w == 0) = b4
      generalize withinB f 63 = b5
      generalize withinB a 999 = b6
      cases b2 <;> cases b3 <;> cases b4 <;> cases b5 <;> cases b6 <;> decide
    · refine mayR_eq (mayRclsN7 7 f a n v w (by decide) (by decide) (by decide) (by decide) (by decide) (by decide)) ?_
      unfold mayB
      rw [show hasV 7 = true by decide, show hasW 7 = false by decide, show limW 7 = 63 by decide, show limA 7 = 999 by decide, show limN 7 = 65535 by decide]
      skip
      generalize withinB n 65535 = b2
      generalize (v == 0) = b3
      generalize (w == 0) = b4
      generalize withinB f 63 = b5
      generalize withinB a 999 = b6
      cases b2 <;> cases b3 <;> cases b4 <;> cases b5 <;> cases b6 <;> decide
    · refine mayR_eq (mayRclsN7 8 f a n v w (by decide) (by decide) (by decide) (by decide) (by decide) (by decide)) ?_
      unfold mayB
      rw [show hasV 8 = true by decide, show hasW 8 = false by decide, show limW 8 = 63 by decide, show limA 8 = 999 by decide, show limN 8 = 65535 by decide]
      skip
      generalize withinB n 65535 = b2
      generalize (v == 0) = b3
      generalize (w == 0) = b4
      generalize withinB f 63 = b5
      generalize withinB a 999 = b6
      cases b2 <;> cases b3 <;> cases b4 <;> cases b5 <;> cases b6 <;> decide
    · refine mayR_eq (mayRclsN9 9 f a n v w (by decide) (by decide) (by decide) (by decide) (by decide) (by decide)) ?_
      unfold mayB
      rw [show hasV 9 = true by decide, show hasW 9 = true by decide, show limW 9 = 63 by decide, show limA 9 = 999 by decide, show limN 9 = 65535 by decide]
      skip
      generalize withinB n 65535 = b2
      generalize (v == 0) = b3
      generalize (w == 0) = b4
      generalize withinB f 63 = b5
      generalize withinB a 999 = b6
      cases b2 <;> cases b3 <;> cases b4 <;> cases b5 <;> cases b6 <;> decide
    · refine mayR_eq (mayRclsZ1 10 f a n v w (by decide) (by decide) (by decide) (by decide) (by decide) (by decide)) ?_
      unfold mayB
      rw [show hasV 10 = false by decide, show hasW 10 = false by decide, show limW 10 = 63 by decide, show limA 10 = 999 by decide, show limN 10 = 0 by decide]
      simp only [within0]
      generalize (n == 0) = b2
      generalize (v == 0) = b3
      generalize (w == 0) = b4
      generalize withinB f 63 = b5
      generalize withinB a 999 = b6
      cases b2 <;> cases b3 <;> cases b4 <;> cases b5 <;> cases b6 <;> decide
    · refine mayR_eq (mayRclsZ0 11 f a n v w (by decide) (by decide) (by decide) (by decide) (by decide) (by decide)) ?_
      unfold mayB
      rw [show hasV 11 = false by decide, show hasW 11 = false by decide, show limW 11 = 0 by decide, show limA 11 = 0 by decide, show limN 11 = 0 by decide]
      simp only [within0]
      generalize (n == 0) = b2
      generalize (v == 0) = b3
      generalize (w == 0) = b4
      generalize (f == 0) = b5
      generalize (a == 0) = b6
      cases b2 <;> cases b3 <;> cases b4 <;> cases b5 <;> cases b6 <;> decide
    · refine mayR_eq (mayRclsZ1 12 f a n v w (by decide) (by decide) (by decide) (by decide) (by decide) (by decide)) ?_
      unfold mayB
      rw [show hasV 12 = false by decide, show hasW 12 = false by decide, show limW 12 = 63 by decide, show limA 12 = 999 by decide, show limN 12 = 0 by decide]
      simp only [within0]
      generalize (n == 0) = b2
      generalize (v == 0) = b3
      generalize (w == 0) = b4
      generalize withinB f 63 = b5
      generalize withinB a 999 = b6
      cases b2 <;> cases b3 <;> cases b4 <;> cases b5 <;> cases b6 <;> decide

end Go.OpP
