import Derived.Test.YtfnekhbekppgnaaDoorOB
import Derived.Test.YtfnekhbekppgnaaDoorEngS
namespace Go.OpP
open Go.Eng

/-- The program. -/
noncomputable abbrev P0 : Program := Go.Proofs.Tryd.prog

theorem names0 : (P0.funcs.toList.all fun fn => !(fn.name == "runtime.NumGoroutine")) = true := by kernel_rfl

theorem pok : POk P0 where
  mixed := Checked.mixed Go.Proofs.Tryd.checked
  names f fn hf _ := by
    have h := names0
    rw [List.all_eq_true] at h
    have hm : fn ∈ P0.funcs.toList := by
      rw [Array.mem_toList_iff]
      exact Array.mem_of_getElem? hf
    simpa using h fn hm

/-! What the package-level variables hold. -/

structure GlobOk (w : World) : Prop where
  tab : ∃ t fr, w.heap[0]? = some (.cells (Lib.pow10Tab.map fun z => Value.int .u64 z).toArray t fr)
  most : ∃ m, w.cell? ⟨1, 0, none⟩ = some (.int .i64 m)
  syn : ∃ ev, w.cell? ⟨2, 0, none⟩ = some ev ∧ (ev = .nilIface ∨ ∃ te pe, ev = .iface te pe)
  rng : ∃ ev, w.cell? ⟨3, 0, none⟩ = some ev ∧ (ev = .nilIface ∨ ∃ te pe, ev = .iface te pe)

theorem cell_lt {w : World} {b j : Nat} {v : Value} (h : w.cell? ⟨b, j, none⟩ = some v) : b < w.heap.size := by
  unfold World.cell? at h
  by_cases hb : b < w.heap.size
  · exact hb
  · simp only [Array.getElem?_eq_none (Nat.le_of_not_lt hb)] at h
    cases h

theorem GlobOk.loc {w w' : World} (h : GlobOk w) (hk : ∀ b, b < 4 → w'.heap[b]? = w.heap[b]?) : GlobOk w' := by
  obtain ⟨⟨t, fr, h0⟩, ⟨m, h1⟩, ⟨e2, h2, h2'⟩, ⟨e3, h3, h3'⟩⟩ := h
  exact ⟨⟨t, fr, by rw [hk 0 (by omega)]; exact h0⟩, ⟨m, by rw [World.cell?_of_block (hk 1 (by omega))]; exact h1⟩,
    ⟨e2, by rw [World.cell?_of_block (hk 2 (by omega))]; exact h2, h2'⟩, ⟨e3, by rw [World.cell?_of_block (hk 3 (by omega))]; exact h3, h3'⟩⟩

/-- What the first four blocks are when the call begins. -/
class GG where
  obj : Nat → Option Obj

def Glob [GG] : Asn where
  P _ bs w := bs = [0, 1, 2, 3] ∧ GlobOk w ∧ ∀ b, b < 4 → w.heap[b]? = GG.obj b
  up _ _ _ _ _ h := h
  loc _ bs w w' h hk := by
    obtain ⟨rfl, hg, ho⟩ := h
    have hk' : ∀ b, b < 4 → w'.heap[b]? = w.heap[b]? := fun b hb => hk b (by
      have : b = 0 ∨ b = 1 ∨ b = 2 ∨ b = 3 := by omega
      rcases this with rfl | rfl | rfl | rfl <;> simp)
    exact ⟨rfl, hg.loc hk', fun b hb => (hk' b hb).trans (ho b hb)⟩
  lt _ bs w h b hb := by
    obtain ⟨rfl, ⟨⟨t, fr, h0⟩, ⟨m, h1⟩, ⟨e2, h2, _⟩, ⟨e3, h3, _⟩⟩, _⟩ := h
    simp only [List.mem_cons, List.not_mem_nil, or_false] at hb
    rcases hb with rfl | rfl | rfl | rfl
    · exact lt_of_get h0
    · exact cell_lt h1
    · exact cell_lt h2
    · exact cell_lt h3

def G [GG] : Heap := [(0, .abs Glob [])]

theorem globOf [GG] {e : Env} {w : World} {σ : Heap} {Fr : Nat → Prop} (h : At e w σ Fr) (hl : Eng.look σ 0 = some (.abs Glob [])) : GlobOk w := by
  obtain ⟨bs, hE, _⟩ := h.take hl
  exact hE.2.1

theorem GlobOk.tabIs {w : World} (h : GlobOk w) : Lib.TabIs P0 w "internal/strconv.uint64pow10" .u64 Lib.pow10Tab := by
  obtain ⟨⟨t, fr, h0⟩, _⟩ := h
  have hg : P0.globalNamed "internal/strconv.uint64pow10" = some 0 := by kernel_rfl
  unfold Lib.TabIs World.var?
  rw [hg]
  simp only [Option.bind_some, h0]

/-- What was there is as it was. -/
def Olds (w w' : World) : Prop := w.heap.size ≤ w'.heap.size ∧ (∀ b, b < w.heap.size → w'.heap[b]? = w.heap[b]?) ∧ w'.os = w.os ∧ w'.output = w.output

theorem Olds.of_below {w w' : World} (h : RowKit.Below w.heap.size w w') : Olds w w' := ⟨h.size, h.block, h.os, h.output⟩
theorem Olds.refl (w : World) : Olds w w := ⟨Nat.le_refl _, fun _ _ => rfl, rfl, rfl⟩
theorem Olds.of_heap {w w' : World} (h : w'.heap = w.heap) (ho : w'.os = w.os) (hp : w'.output = w.output) : Olds w w' := ⟨by rw [h]; exact Nat.le_refl _, fun _ _ => by rw [h], ho, hp⟩

theorem Olds.grow {w : World} (k : Nat) (os : Array Obj) : Olds w (Sort.grow (w.drewN k) os) := by
  refine ⟨by simp [Sort.grow, World.drewN], fun b hb => ?_, rfl, rfl⟩
  simp only [Sort.grow, World.drewN]
  exact Array.getElem?_append_left hb

theorem Olds.bytes [GG] {w : World} (e : TypeId) (t : ByteArray) : Olds w (Lib.bytesWorld w e t) := Olds.of_below (Lib.bytesWorld_below w e t)

theorem holds_lib {S : Eng.Spec} (hp : S.post = S.pre) (h : ∀ (Fr : Nat → Prop) (e : Env) (w : World) (vs : List Value), SV.RL e S.args vs → At e w S.pre Fr →
    Calls P0 S.f vs.toArray w fun en w' => ∃ v, en = .returned v ∧ S.ret.R e v ∧ Olds w w') : S.Holds P0 := by
  intro Fr e w vs hvs hat hfree
  refine (h Fr e w vs hvs hat).mono ?_
  rintro _ w' ⟨v, rfl, hv, hs, hk, ho, hq⟩
  refine ⟨e, v, rfl, Ext.refl _ _ _, hv, ?_, fun b hb => hk b (hat.fl b hb), hs, ho, hq⟩
  rw [hp]
  obtain ⟨bs, h1, h2, h3⟩ := hat.ex
  exact ⟨⟨bs, h1.loc fun b hb => hk b (h1.lt b hb), h2, h3⟩, fun b hb => Nat.lt_of_lt_of_le (hat.fl b hb) hs⟩

theorem RL_one {e : Env} {s : SV} {vs : List Value} (h : SV.RL e [s] vs) : ∃ v, vs = [v] ∧ s.R e v := by
  match vs, h with
  | [v], h => exact ⟨v, rfl, h.1⟩

theorem RL_two {e : Env} {s t : SV} {vs : List Value} (h : SV.RL e [s, t] vs) : ∃ v u, vs = [v, u] ∧ s.R e v ∧ t.R e u := by
  match vs, h with
  | [v, u], h => exact ⟨v, u, rfl, h.1, h.2.1⟩

theorem RL_three {e : Env} {s t r : SV} {vs : List Value} (h : SV.RL e [s, t, r] vs) : ∃ v u x, vs = [v, u, x] ∧ s.R e v ∧ t.R e u ∧ r.R e x := by
  match vs, h with
  | [v, u, x], h => exact ⟨v, u, x, rfl, h.1, h.2.1, h.2.2.1⟩

/-! The library's functions. -/

def sItoa [GG] (n : Int) (t : List UInt8) : Eng.Spec := { f := 27, k := 1, m := 0, args := [.int .i64 n], pre := G, ret := .str t, post := G }

theorem itoaH [GG] (n : Int) (h0 : -9223372036854775808 ≤ n) (h1 : n ≤ 9223372036854775807) : (sItoa n (Lib.itoa n)).Holds P0 := by
  refine holds_lib rfl fun Fr e w vs hvs hat => ?_
  obtain ⟨v, rfl, hv⟩ := RL_one hvs
  simp only [SV.R] at hv
  subst hv
  refine (Go.Proofs.Tryd.strconv_Itoa n h0 h1 w (globOf hat rfl).tabIs).mono ?_
  rintro _ w' ⟨rfl, k, os, rfl⟩
  exact ⟨_, rfl, rfl, Olds.grow k os⟩

def sFmtU [GG] (u : Int) (t : List UInt8) : Eng.Spec := { f := 28, k := 1, m := 0, args := [.int .u64 u, .con (.int .i64 10)], pre := G, ret := .str t, post := G }

theorem fmtUH [GG] (u : Int) (h0 : 0 ≤ u) (h1 : u ≤ 18446744073709551615) : (sFmtU u (Lib.decDigits u.toNat)).Holds P0 := by
  obtain ⟨n, rfl⟩ : ∃ n : Nat, u = n := ⟨u.toNat, by omega⟩
  rw [Int.toNat_natCast]
  refine holds_lib rfl fun Fr e w vs hvs hat => ?_
  obtain ⟨v, b, rfl, hv, hb⟩ := RL_two hvs
  simp only [SV.R] at hv hb
  subst hv; subst hb
  refine (Go.Proofs.Tryd.strconv_FormatUint_10 n (by omega) w (globOf hat rfl).tabIs).mono ?_
  rintro _ w' ⟨rfl, k, os, rfl⟩
  exact ⟨_, rfl, rfl, Olds.grow k os⟩

def sCut [GG] (s a b : List UInt8) (is : Bool) : Eng.Spec :=
  { f := 34, k := 1, m := 0, args := [.str s, .con (.string ⟨#[46]⟩)], pre := G, ret := .tup [.str a, .str b, .bool is], post := G }

theorem cutH [GG] (s : List UInt8) (h : s.length < 4294967281) : (sCut s (Lib.cut s [46]).1 (Lib.cut s [46]).2.1 (Lib.cut s [46]).2.2).Holds P0 := by
  refine holds_lib rfl fun Fr e w vs hvs hat => ?_
  obtain ⟨v, b, rfl, hv, hb⟩ := RL_two hvs
  simp only [SV.R] at hv hb
  subst hv; subst hb
  obtain ⟨m, hm⟩ := (globOf hat rfl).most
  refine (Go.Proofs.Tryd.strings_Cut ⟨s.toArray⟩ ⟨#[46]⟩ m w (by simpa [ByteArray.size] using h) hm).mono ?_
  rintro _ w' ⟨rfl, n, rfl⟩
  refine ⟨_, rfl, ?_, Olds.of_heap rfl rfl rfl⟩
  simp only [sCut, SV.R]
  exact ⟨[_, _, _], rfl, rfl, rfl, rfl, trivial⟩

def atoiV (l : List UInt8) : Int := match Lib.atoiAll l with
  | .ok v => v
  | .range => Lib.atoiSat l
  | _ => 0

def sAtoi [GG] (s : List UInt8) (v : Int) : Eng.Spec := { f := 35, k := 1, m := 0, args := [.str s], pre := G, ret := .tup [.int .i64 v, .any], post := G }

theorem atoiH [GG] (s : List UInt8) (h : s.length < 4294967281) : (sAtoi s (atoiV s)).Holds P0 := by
  refine holds_lib rfl fun Fr e w vs hvs hat => ?_
  obtain ⟨v, rfl, hv⟩ := RL_one hvs
  simp only [SV.R] at hv
  subst hv
  have hg := globOf hat rfl
  have hsz : (⟨s.toArray⟩ : ByteArray).size = s.length := by simp [ByteArray.size]
  rcases hr : Lib.atoiAll s with v | _ | _
  · skip
    refine (Go.Proofs.Tryd.strconv_Atoi_ok ⟨s.toArray⟩ (by omega) v hr w).mono ?_
    rintro _ w' ⟨rfl, hw⟩
    refine ⟨_, rfl, ?_, ?_⟩
    · simp only [sAtoi, SV.R, atoiV, hr]
      exact ⟨[_, _], rfl, rfl, trivial, trivial⟩
    · rcases hw with rfl | ⟨t, rfl⟩
      · exact Olds.refl _
      · exact Olds.bytes _ _
  · skip
    obtain ⟨ev, hv, hev⟩ := hg.syn
    refine (Go.Proofs.Any.strconv_Atoi_syntax Go.Proofs.Tryd.laysC172 ⟨s.toArray⟩ (by omega) hr ev w hv hev).mono ?_
    rintro _ w' ⟨N, rfl, _, _, hb⟩
    refine ⟨_, rfl, ?_, Olds.of_below hb⟩
    simp only [sAtoi, SV.R, atoiV, hr]
    exact ⟨[_, _], rfl, rfl, trivial, trivial⟩
  · skip
    obtain ⟨ev, hv, hev⟩ := hg.rng
    refine (Go.Proofs.Tryd.strconv_Atoi_range ⟨s.toArray⟩ (by omega) hr ev w hv hev).mono ?_
    rintro _ w' ⟨N, rfl, _, _, hb⟩
    refine ⟨_, rfl, ?_, Olds.of_below hb⟩
    simp only [sAtoi, SV.R, atoiV, hr]
    exact ⟨[_, _], rfl, rfl, trivial, trivial⟩

def puV (l : List UInt8) : Int := match Lib.parseUintB 64 l with
  | .ok u => (u : Int)
  | .range => 18446744073709551615
  | _ => 0

def sPu [GG] (s : List UInt8) (v : Int) : Eng.Spec :=
  { f := 36, k := 1, m := 0, args := [.str s, .con (.int .i64 10), .con (.int .i64 64)], pre := G, ret := .tup [.int .u64 v, .any], post := G }

theorem puH [GG] (s : List UInt8) (h : s.length < 4294967281) : (sPu s (puV s)).Holds P0 := by
  refine holds_lib rfl fun Fr e w vs hvs hat => ?_
  obtain ⟨v, b, c, rfl, hv, hb, hc⟩ := RL_three hvs
  simp only [SV.R] at hv hb hc
  subst hv; subst hb; subst hc
  have hg := globOf hat rfl
  have hsz : (⟨s.toArray⟩ : ByteArray).size = s.length := by simp [ByteArray.size]
  rcases hr : Lib.parseUintB 64 s with v | _ | _
  · skip
    refine (Go.Proofs.Tryd.strconv_ParseUint_10_at64_ok ⟨s.toArray⟩ (by omega) v hr w).mono ?_
    rintro _ w' ⟨rfl, hw⟩
    refine ⟨_, rfl, ?_, ?_⟩
    · simp only [sPu, SV.R, puV, hr]
      exact ⟨[_, _], rfl, rfl, trivial, trivial⟩
    · rcases hw with rfl | rfl
      · exact Olds.refl _
      · exact Olds.bytes _ _
  · skip
    obtain ⟨ev, hv, hev⟩ := hg.syn
    refine (Go.Proofs.Any.strconv_ParseUint_10_at64_syntax Go.Proofs.Tryd.laysPu14 ⟨s.toArray⟩ (by omega) hr ev w hv hev).mono ?_
    rintro _ w' ⟨N, rfl, _, _, hb⟩
    refine ⟨_, rfl, ?_, Olds.of_below hb⟩
    simp only [sPu, SV.R, puV, hr]
    exact ⟨[_, _], rfl, rfl, trivial, trivial⟩
  · skip
    obtain ⟨ev, hv, hev⟩ := hg.rng
    refine (Go.Proofs.Tryd.strconv_ParseUint_10_at64_range ⟨s.toArray⟩ (by omega) hr ev w hv hev).mono ?_
    rintro _ w' ⟨N, rfl, _, _, hb⟩
    refine ⟨_, rfl, ?_, Olds.of_below hb⟩
    simp only [sPu, SV.R, puV, hr]
    exact ⟨[_, _], rfl, rfl, trivial, trivial⟩

def sJoin [GG] (ws : List (List UInt8)) (n : Nat) (t : List UInt8) : Eng.Spec :=
  { f := 29, k := 2, m := 0, args := [.sl 1 1 (.l 0) (.l n), .con (.string ⟨#[32]⟩)], pre := (1, .arr (ws.map fun x => [.str x]) 1 9) :: G, ret := .str t, post := (1, .arr (ws.map fun x => [.str x]) 1 9) :: G }

theorem joinH [GG] (ws : List (List UInt8)) (n : Nat) (hn : n = ws.length) (h1 : 1 ≤ n) (h2 : n ≤ 1000) (h3 : (Lib.join ws [32]).length ≤ 140737488355328) : (sJoin ws n (Lib.join ws [32])).Holds P0 := by
  refine holds_lib rfl fun Fr e w vs hvs hat => ?_
  obtain ⟨v, b, rfl, hv, hb⟩ := RL_two hvs
  simp only [SV.R] at hv hb
  subst hb
  obtain ⟨bs, hE, _⟩ := hat.take (n := 1) rfl
  obtain ⟨k, hk, hrow⟩ := hE
  obtain ⟨k', hk', hv⟩ := hv
  rw [hk'] at hk
  cases hk
  have hlen : (ws.map fun x => [SV.str x]).length = ws.length := by simp
  rcases hv with ⟨_, h0, _⟩ | ⟨_, hle, o, ho, rfl⟩
  · simp only [LN.val] at h0; omega
  · simp only [LN.val] at hle ho ⊢
    have ho0 : o = 0 := by omega
    subst ho0
    rcases hrow with ⟨_, _, h0⟩ | ⟨_, hbs, hc1, hc2, c, hc3, hc4, hc5⟩
    · omega
    · have hcell : ∀ (j : Nat) (x : ByteArray), (ws.map fun l => (⟨l.toArray⟩ : ByteArray))[j]? = some x → w.cell? ⟨k.b, 0 * 1 + j, none⟩ = some (.string x) := by
        intro j x hj
        simp only [List.getElem?_map, Option.map_eq_some_iff] at hj
        obtain ⟨l, hl, rfl⟩ := hj
        have hjl : j < ws.length := (List.getElem?_eq_some_iff.1 hl).1
        obtain ⟨v, hv1, hv2⟩ := hc5 j 0 (by omega) (by omega)
        rw [cell_of_row w _ _ c _ _ hc3]
        simp only [arrF, List.getD_eq_getElem?_getD, List.getElem?_map, hl, Option.map_some, Option.getD_some, List.getElem?_cons_zero, SV.R] at hv2
        rw [show 0 * 1 + j = j * 1 + 0 by omega, hv1, hv2]
      have hxs : (ws.map fun l => (⟨l.toArray⟩ : ByteArray)).map (·.data.toList) = ws := by
        simp [Function.comp_def]
      have := Go.Proofs.Tryd.strings_Join k.b (0 * 1) (k.κ - 0) (ws.map fun l => (⟨l.toArray⟩ : ByteArray)) ⟨#[32]⟩ w hcell (lt_of_get hc3) (by simp; omega) (by simp; omega) (by rw [hxs]; exact h3)
      rw [hxs] at this
      rw [show (ws.map fun l => (⟨l.toArray⟩ : ByteArray)).length = n by simp; omega] at this
      refine this.mono ?_
      rintro _ w' ⟨rfl, hbelow⟩
      exact ⟨_, rfl, rfl, Olds.of_below hbelow⟩

def sSplit [GG] (s : List UInt8) (ws : List (List UInt8)) : Eng.Spec :=
  { f := 32, k := 1, m := 1, args := [.str s, .con (.string ⟨#[32]⟩)], pre := G, ret := .sl 1 1 (.l 0) (.o ws.length), post := (1, .strs ws 9) :: G }

theorem splitH [GG] (s : List UInt8) (h : s.length < 4294967281) : (sSplit s (Lib.split s [32])).Holds P0 := by
  intro Fr e w vs hvs hat hfree
  obtain ⟨v, b, rfl, hv, hb⟩ := RL_two hvs
  simp only [SV.R] at hv hb
  subst hv; subst hb
  obtain ⟨m, hm⟩ := (globOf hat rfl).most
  have hsz : (⟨s.toArray⟩ : ByteArray).size = s.length := by simp [ByteArray.size]
  have hone : (⟨#[32]⟩ : ByteArray).size = 1 := rfl
  have hcnt : Lib.countB ⟨s.toArray⟩ ⟨#[32]⟩ = Lib.count s [32] := by simp [Lib.countB]
  have hpieces : (Lib.splitB ⟨#[32]⟩ 0 (Lib.countB ⟨s.toArray⟩ ⟨#[32]⟩) ⟨s.toArray⟩).map (·.data.toList) = Lib.split s [32] := by
    rw [Lib.splitB_data, hcnt]
    rfl
  have hplen : (Lib.splitB ⟨#[32]⟩ 0 (Lib.countB ⟨s.toArray⟩ ⟨#[32]⟩) ⟨s.toArray⟩).length = Lib.countB ⟨s.toArray⟩ ⟨#[32]⟩ + 1 := Lib.splitB_all _ (by omega) 0 _ _ rfl
  have hle := Lib.countB_le ⟨#[32]⟩ (by omega) s.length ⟨s.toArray⟩ (by omega)
  refine (Go.Proofs.Tryd.strings_Split ⟨s.toArray⟩ ⟨#[32]⟩ m w (by omega) hm (by omega)).mono ?_
  rintro _ w' ⟨rfl, rfl⟩
  generalize hL : Lib.splitB ⟨#[32]⟩ 0 (Lib.countB ⟨s.toArray⟩ ⟨#[32]⟩) ⟨s.toArray⟩ = L at hpieces hplen
  have hwl : (Lib.split s [32]).length = L.length := by rw [← hpieces]; simp
  have hnew : (w.alloc (.cells (L.map Value.string).toArray 9)).heap[w.heap.size]? = some (.cells (L.map Value.string).toArray 9 (0, 0)) := by
    show (w.heap.push _)[w.heap.size]? = _
    simp
  have hext := Ext.upd (k := ⟨w.heap.size, L.length, false⟩) hfree (by simp [sSplit] : 1 ≤ 1) (by simp [sSplit])
  refine ⟨upd e 1 ⟨w.heap.size, L.length, false⟩, _, rfl, hext, ?_, ?_, ?_⟩
  · simp only [sSplit, SV.R, LN.val]
    refine ⟨_, upd_same _ _ _, .inr ⟨rfl, by simp only [LN.val]; omega, 0, .inl rfl, ?_⟩⟩
    simp only [Nat.zero_mul]
    rw [hwl, hplen]
    rfl
  · obtain ⟨bs, h1, h2, h3⟩ := hat.ex
    have hold : ∀ b, b < w.heap.size → (w.alloc (.cells (L.map Value.string).toArray 9)).heap[b]? = w.heap[b]? := fun b hb => Array.getElem?_push_lt hb |>.trans (Array.getElem?_eq_getElem hb).symm
    refine ⟨⟨[w.heap.size] ++ bs, ⟨[w.heap.size], bs, rfl, ?_, (h1.mono hext.up).loc fun b hb => hold b (h1.lt b hb)⟩, ?_, ?_⟩, fun b hb => ?_⟩
    · refine ⟨_, upd_same _ _ _, .inr ⟨rfl, rfl, by simp; omega, ?_, _, hnew, by simp, fun i j hi hj => ?_⟩⟩
      · simp only [maxLen]; omega
      · have hj0 : j = 0 := by omega
        subst hj0
        have hiL : i < L.length := by omega
        refine ⟨.string L[i], by simp [hiL], ?_⟩
        have : (Lib.split s [32])[i]? = some L[i].data.toList := by rw [← hpieces]; simp [hiL]
        simp only [strsF, List.getD_eq_getElem?_getD, this, Option.getD_some, SV.R]
    · refine List.nodup_append.2 ⟨by simp, h2, fun x hx y hy hxy => ?_⟩
      simp only [List.mem_cons, List.not_mem_nil, or_false] at hx
      have := h1.lt y hy
      omega
    · intro b hb
      rcases List.mem_append.1 hb with hb | hb
      · simp only [List.mem_cons, List.not_mem_nil, or_false] at hb
        intro hf
        have := hat.fl b hf
        omega
      · exact h3 b hb
    · have := hat.fl b hb
      show b < (w.heap.push _).size
      simp only [Array.size_push]
      omega
  · exact ⟨fun b hb => Array.getElem?_push_lt (hat.fl b hb) |>.trans (Array.getElem?_eq_getElem (hat.fl b hb)).symm, by show _ ≤ (w.heap.push _).size; simp, rfl, rfl⟩

end Go.OpP
