import Derived.Test.YtfnekhbekppgnaaDoorEngMa
namespace Go.Eng
variable {P : Program}

/-! A slice that is not nil, told so. -/

def NonNil : Asn where
  P is bs _ := bs = [] ∧ ∃ k : Blk, is[1]? = some (some k) ∧ k.ν = false
  up := fun _ _ _ _ hu ⟨h1, k, h2, h3⟩ => ⟨h1, k, hu.2 1 k h2, h3⟩
  loc := fun _ _ _ _ h _ => h
  lt := fun _ bs _ ⟨h, _⟩ b hb => by rw [h] at hb; simp at hb

def isSliceT (P : Program) (t : TypeId) : Bool :=
  match P.underlying t with
  | some (.slice _) => true
  | _ => false

def stepNN (P : Program) (op : Op) (fr : Nat → SV) (st : St) : Option (SV × St) :=
  match op, st.orc with
  | .binOp .eql t x y _, .nn m :: orc => match ev fr x, ev fr y, look st.hp m with
    | .sl n _ _ _, .con (.slice none 0 0), some (.abs A [n']) => if n' = n ∧ isSliceT P t = true then
        some (.con (.bool false), { st with orc := orc, cs := (A = NonNil) :: st.cs })
      else none
    | _, _, _ => none
  | _, _ => none

theorem stepNN_ok {o : Oper} {fr : Nat → SV} {st st' : St} {s : SV} (h : stepNN P o.op fr st = some (s, st')) :
    Mono st st' ∧ ((∀ p ∈ st'.cs, p) → ValOk P o fr st.hp s st'.hp st.nx st'.nx) := by
  unfold stepNN at h
  split at h
  · rename_i t x y yt m orc hop horc
    split at h
    · rename_i n sz off len A n' hx hy hl
      split at h
      · rename_i hc
        obtain ⟨rfl, ht⟩ := hc
        cases h
        refine ⟨⟨⟨[_], rfl⟩, Nat.le_refl _⟩, fun hp Fr e w ρ hρ hat hfree => ?_⟩
        have hA := hp _ List.mem_cons_self
        subst hA
        obtain ⟨bs, hE, _⟩ := hat.take hl
        obtain ⟨_, k, hk, hν⟩ := hE
        simp only [List.map_cons, List.map_nil] at hk
        have hk' : e n' = some k := by simpa using hk
        have hxv := hρ x (by rw [hop]; simp [Op.operands])
        have hyv := hρ y (by rw [hop]; simp [Op.operands])
        rw [hx] at hxv
        rw [hy] at hyv
        simp only [SV.R] at hxv hyv
        obtain ⟨k2, hk2, hv⟩ := hxv
        rw [hk'] at hk2
        cases hk2
        have hv' : ∃ a l c, ρ x = .slice (some a) l c := by
          rcases hv with ⟨h1, _⟩ | ⟨_, _, o, _, h2⟩
          · rw [hν] at h1; cases h1
          · exact ⟨_, _, _, h2⟩
        obtain ⟨a, l, c, hv'⟩ := hv'
        have hu : ∃ el, P.underlying t = some (.slice el) := by
          unfold isSliceT at ht
          split at ht
          · rename_i el hu; exact ⟨el, hu⟩
          · cases ht
        obtain ⟨el, hu⟩ := hu
        refine ⟨e, w, _, .bool false, ?_, .inl rfl, Ext.refl _ _ _, by simp [SV.R], hat, Kept.refl _ _⟩
        have he : (Op.equal t (.slice (some a) l c) (.slice none 0 0)).run P w = .ok false w := by
          have hd : ∀ d, (Op.equalIn (d + 1) t (.slice (some a) l c) (.slice none 0 0)).run P w = .ok false w := by
            intro d
            simp only [Op.equalIn, Sem.run_bind, run_underlying hu]
            rfl
          exact hd 9999
        unfold execOp
        rw [hop]
        simp only [hv', hyv, Sem.run_bind]
        have hg : (eqGuard .eql t x y (.slice (some a) l c) (.slice none 0 0)).run P w = .ok () w := rfl
        rw [hg]
        have hb : (binOp .eql t (.slice (some a) l c) (.slice none 0 0)) = (do pure (.bool (← Op.equal t (.slice (some a) l c) (.slice none 0 0)))) := rfl
        simp only [Result.andThen_ok, hb, Sem.run_bind, he, Sem.run_pure]
      · cases h
    · cases h
  · cases h

end Go.Eng
