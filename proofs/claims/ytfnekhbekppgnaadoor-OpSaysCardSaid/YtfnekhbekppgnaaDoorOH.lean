import Derived.Test.YtfnekhbekppgnaaDoorOG
namespace Go.OpP
open Go.Eng

/-! A text's operation. -/

def sGet [GG] (s : List UInt8) (k f a n v w c : Int) : Eng.Spec := { f := 17, k := 1, m := 500, args := [.str s], pre := G, ret := .tup [opV k f a n v w, .int .i64 c], post := G }

theorem getA_c [GG] (s : List UInt8) (ws : List (List UInt8)) (kind : Int) (nm : List UInt8) (o : Int) (b0 fn fv fw : Bool) (l1 o1 m1 o2 m2 o3 m3 o4 m4 : Nat) (x1 x2 x3 x4 ca cb : List UInt8) (cis : Bool) (va vb vn vv vw : Int) (t : List UInt8) (pc : Int) (k f a n v w c : Int) : check P0 300 10 (sGet s k f a n v w c) [.call (sSplit s ws) [0], .loop (.exit 0) (getFr s 1) (getFr s 13) (getH ws 0 ws.length) (getH ws kind ws.length) 4 26 [4, 3, 2, 1], .call (sForm kind nm o fn fv fw) [], .call (sNext b0 ws 1 l1 x1 o1 m1) [3, 2], .call (sCut x1 ca cb cis) [0], .call (sAtoi ca va) [0], .call (sAtoi cb vb) [0], .call (sNext fn ws o1 m1 x2 o2 m2) [3, 2], .call (sAtoi x2 vn) [0], .call (sNext fv ws o2 m2 x3 o3 m3) [3, 2], .call (sPu x3 vv) [0], .call (sNext fw ws o3 m3 x4 o4 m4) [3, 2], .call (sPu x4 vw) [0], .call (sPut kind va vb vn vv vw t pc) [0], .br true] = some [(0 : Int) = k, (0 : Int) = f, (0 : Int) = a, (0 : Int) = n, (0 : Int) = v, (0 : Int) = w, (10 : Int) = c,
    Glob = Glob, (pc != (0 : Int)) = true, Spec.Holds P0 (sPut kind va vb vn vv vw t pc), kind = kind, va = va, vb = vb,
    vn = vn, vv = vv, vw = vw, Glob = Glob, Spec.Holds P0 (sPu x4 vw), x4 = x4, Glob = Glob,
    Spec.Holds P0 (sNext fw ws o3 m3 x4 o4 m4), fw = fw, o3 = o3, m3 = m3, ws = ws, Spec.Holds P0 (sPu x3 vv), x3 = x3,
    Glob = Glob, Spec.Holds P0 (sNext fv ws o2 m2 x3 o3 m3), fv = fv, o2 = o2, m2 = m2, ws = ws,
    Spec.Holds P0 (sAtoi x2 vn), x2 = x2, Glob = Glob, Spec.Holds P0 (sNext fn ws o1 m1 x2 o2 m2), fn = fn, o1 = o1,
    m1 = m1, ws = ws, Spec.Holds P0 (sAtoi cb vb), cb = cb, Glob = Glob, Spec.Holds P0 (sAtoi ca va), ca = ca,
    Glob = Glob, Spec.Holds P0 (sCut x1 ca cb cis), x1 = x1,
    Value.string
        {
          data :=
            {
              toList :=
                [{
                    toBitVec :=
                      { toFin := ⟨(46 : Nat), Nat.mod_lt (46 : Nat) (BitVec.ofNat._proof_1 (8 : Nat))⟩ } }] } } =
      Value.string
        {
          data :=
            {
              toList :=
                [{
                    toBitVec :=
                      { toFin := ⟨(46 : Nat), Nat.mod_lt (46 : Nat) (BitVec.ofNat._proof_1 (8 : Nat))⟩ } }] } },
    Glob = Glob, Spec.Holds P0 (sNext b0 ws (1 : Nat) l1 x1 o1 m1), (o != (0 : Int)) = b0, (1 : Nat) = (1 : Nat),
    List.length ws - (1 : Nat) = l1, ws = ws, (1 : Nat) ≤ List.length ws, List.length ws ≤ List.length ws,
    Spec.Holds P0 (sForm kind nm o fn fv fw), kind = kind,
    LoopIs P0 (17 : Nat) [(0 : Nat), (1 : Nat), (0 : Nat), (1 : Nat), (1 : Nat), (1 : Nat)] (getFr s (1 : Int))
      (getH ws (0 : Int) (List.length ws)) (Exit.exit (0 : Nat)) (getFr s (13 : Int)) (getH ws kind (List.length ws))
      (4 : Nat) (30 : Nat),
    s = s, (1 : Int) = (1 : Int), (0 : Int) = (0 : Int), List.length ws = List.length ws, ws = ws,
    Spec.Holds P0 (sSplit s ws), s = s,
    Value.string
        {
          data :=
            {
              toList :=
                [{
                    toBitVec :=
                      { toFin := ⟨(32 : Nat), Nat.mod_lt (32 : Nat) (BitVec.ofNat._proof_1 (8 : Nat))⟩ } }] } } =
      Value.string
        {
          data :=
            {
              toList :=
                [{
                    toBitVec :=
                      { toFin := ⟨(32 : Nat), Nat.mod_lt (32 : Nat) (BitVec.ofNat._proof_1 (8 : Nat))⟩ } }] } },
    Glob = Glob] := by kernel_rfl

theorem getB_c [GG] (s : List UInt8) (ws : List (List UInt8)) (kind : Int) (nm : List UInt8) (o : Int) (b0 fn fv fw : Bool) (l1 o1 m1 o2 m2 o3 m3 o4 m4 : Nat) (x1 x2 x3 x4 ca cb : List UInt8) (cis : Bool) (va vb vn vv vw : Int) (t : List UInt8) (pc : Int) (k f a n v w c : Int) : check P0 300 10 (sGet s k f a n v w c) [.call (sSplit s ws) [0], .loop (.exit 0) (getFr s 1) (getFr s 13) (getH ws 0 ws.length) (getH ws kind ws.length) 4 26 [4, 3, 2, 1], .call (sForm kind nm o fn fv fw) [], .call (sNext b0 ws 1 l1 x1 o1 m1) [3, 2], .call (sCut x1 ca cb cis) [0], .call (sAtoi ca va) [0], .call (sAtoi cb vb) [0], .call (sNext fn ws o1 m1 x2 o2 m2) [3, 2], .call (sAtoi x2 vn) [0], .call (sNext fv ws o2 m2 x3 o3 m3) [3, 2], .call (sPu x3 vv) [0], .call (sNext fw ws o3 m3 x4 o4 m4) [3, 2], .call (sPu x4 vw) [0], .call (sPut kind va vb vn vv vw t pc) [0], .br false, .br true] = some [(0 : Int) = k, (0 : Int) = f, (0 : Int) = a, (0 : Int) = n, (0 : Int) = v, (0 : Int) = w, (10 : Int) = c,
    Glob = Glob, (!t == s) = true, (pc != (0 : Int)) = false, Spec.Holds P0 (sPut kind va vb vn vv vw t pc),
    kind = kind, va = va, vb = vb, vn = vn, vv = vv, vw = vw, Glob = Glob, Spec.Holds P0 (sPu x4 vw), x4 = x4,
    Glob = Glob, Spec.Holds P0 (sNext fw ws o3 m3 x4 o4 m4), fw = fw, o3 = o3, m3 = m3, ws = ws,
    Spec.Holds P0 (sPu x3 vv), x3 = x3, Glob = Glob, Spec.Holds P0 (sNext fv ws o2 m2 x3 o3 m3), fv = fv, o2 = o2,
    m2 = m2, ws = ws, Spec.Holds P0 (sAtoi x2 vn), x2 = x2, Glob = Glob, Spec.Holds P0 (sNext fn ws o1 m1 x2 o2 m2),
    fn = fn, o1 = o1, m1 = m1, ws = ws, Spec.Holds P0 (sAtoi cb vb), cb = cb, Glob = Glob, Spec.Holds P0 (sAtoi ca va),
    ca = ca, Glob = Glob, Spec.Holds P0 (sCut x1 ca cb cis), x1 = x1,
    Value.string
        {
          data :=
            {
              toList :=
                [{
                    toBitVec :=
                      { toFin := ⟨(46 : Nat), Nat.mod_lt (46 : Nat) (BitVec.ofNat._proof_1 (8 : Nat))⟩ } }] } } =
      Value.string
        {
          data :=
            {
              toList :=
                [{
                    toBitVec :=
                      { toFin := ⟨(46 : Nat), Nat.mod_lt (46 : Nat) (BitVec.ofNat._proof_1 (8 : Nat))⟩ } }] } },
    Glob = Glob, Spec.Holds P0 (sNext b0 ws (1 : Nat) l1 x1 o1 m1), (o != (0 : Int)) = b0, (1 : Nat) = (1 : Nat),
    List.length ws - (1 : Nat) = l1, ws = ws, (1 : Nat) ≤ List.length ws, List.length ws ≤ List.length ws,
    Spec.Holds P0 (sForm kind nm o fn fv fw), kind = kind,
    LoopIs P0 (17 : Nat) [(0 : Nat), (1 : Nat), (0 : Nat), (1 : Nat), (1 : Nat), (1 : Nat)] (getFr s (1 : Int))
      (getH ws (0 : Int) (List.length ws)) (Exit.exit (0 : Nat)) (getFr s (13 : Int)) (getH ws kind (List.length ws))
      (4 : Nat) (30 : Nat),
    s = s, (1 : Int) = (1 : Int), (0 : Int) = (0 : Int), List.length ws = List.length ws, ws = ws,
    Spec.Holds P0 (sSplit s ws), s = s,
    Value.string
        {
          data :=
            {
              toList :=
                [{
                    toBitVec :=
                      { toFin := ⟨(32 : Nat), Nat.mod_lt (32 : Nat) (BitVec.ofNat._proof_1 (8 : Nat))⟩ } }] } } =
      Value.string
        {
          data :=
            {
              toList :=
                [{
                    toBitVec :=
                      { toFin := ⟨(32 : Nat), Nat.mod_lt (32 : Nat) (BitVec.ofNat._proof_1 (8 : Nat))⟩ } }] } },
    Glob = Glob] := by kernel_rfl

theorem getC_c [GG] (s : List UInt8) (ws : List (List UInt8)) (kind : Int) (nm : List UInt8) (o : Int) (b0 fn fv fw : Bool) (l1 o1 m1 o2 m2 o3 m3 o4 m4 : Nat) (x1 x2 x3 x4 ca cb : List UInt8) (cis : Bool) (va vb vn vv vw : Int) (t : List UInt8) (pc : Int) (k f a n v w c : Int) : check P0 300 10 (sGet s k f a n v w c) [.call (sSplit s ws) [0], .loop (.exit 0) (getFr s 1) (getFr s 13) (getH ws 0 ws.length) (getH ws kind ws.length) 4 26 [4, 3, 2, 1], .call (sForm kind nm o fn fv fw) [], .call (sNext b0 ws 1 l1 x1 o1 m1) [3, 2], .call (sCut x1 ca cb cis) [0], .call (sAtoi ca va) [0], .call (sAtoi cb vb) [0], .call (sNext fn ws o1 m1 x2 o2 m2) [3, 2], .call (sAtoi x2 vn) [0], .call (sNext fv ws o2 m2 x3 o3 m3) [3, 2], .call (sPu x3 vv) [0], .call (sNext fw ws o3 m3 x4 o4 m4) [3, 2], .call (sPu x4 vw) [0], .call (sPut kind va vb vn vv vw t pc) [0], .br false, .br false] = some [kind = k, va = f, vb = a, vn = n, vv = v, vw = w, (0 : Int) = c, Glob = Glob, (!t == s) = false,
    (pc != (0 : Int)) = false, Spec.Holds P0 (sPut kind va vb vn vv vw t pc), kind = kind, va = va, vb = vb, vn = vn,
    vv = vv, vw = vw, Glob = Glob, Spec.Holds P0 (sPu x4 vw), x4 = x4, Glob = Glob,
    Spec.Holds P0 (sNext fw ws o3 m3 x4 o4 m4), fw = fw, o3 = o3, m3 = m3, ws = ws, Spec.Holds P0 (sPu x3 vv), x3 = x3,
    Glob = Glob, Spec.Holds P0 (sNext fv ws o2 m2 x3 o3 m3), fv = fv, o2 = o2, m2 = m2, ws = ws,
    Spec.Holds P0 (sAtoi x2 vn), x2 = x2, Glob = Glob, Spec.Holds P0 (sNext fn ws o1 m1 x2 o2 m2), fn = fn, o1 = o1,
    m1 = m1, ws = ws, Spec.Holds P0 (sAtoi cb vb), cb = cb, Glob = Glob, Spec.Holds P0 (sAtoi ca va), ca = ca,
    Glob = Glob, Spec.Holds P0 (sCut x1 ca cb cis), x1 = x1,
    Value.string
        {
          data :=
            {
              toList :=
                [{
                    toBitVec :=
                      { toFin := ⟨(46 : Nat), Nat.mod_lt (46 : Nat) (BitVec.ofNat._proof_1 (8 : Nat))⟩ } }] } } =
      Value.string
        {
          data :=
            {
              toList :=
                [{
                    toBitVec :=
                      { toFin := ⟨(46 : Nat), Nat.mod_lt (46 : Nat) (BitVec.ofNat._proof_1 (8 : Nat))⟩ } }] } },
    Glob = Glob, Spec.Holds P0 (sNext b0 ws (1 : Nat) l1 x1 o1 m1), (o != (0 : Int)) = b0, (1 : Nat) = (1 : Nat),
    List.length ws - (1 : Nat) = l1, ws = ws, (1 : Nat) ≤ List.length ws, List.length ws ≤ List.length ws,
    Spec.Holds P0 (sForm kind nm o fn fv fw), kind = kind,
    LoopIs P0 (17 : Nat) [(0 : Nat), (1 : Nat), (0 : Nat), (1 : Nat), (1 : Nat), (1 : Nat)] (getFr s (1 : Int))
      (getH ws (0 : Int) (List.length ws)) (Exit.exit (0 : Nat)) (getFr s (13 : Int)) (getH ws kind (List.length ws))
      (4 : Nat) (30 : Nat),
    s = s, (1 : Int) = (1 : Int), (0 : Int) = (0 : Int), List.length ws = List.length ws, ws = ws,
    Spec.Holds P0 (sSplit s ws), s = s,
    Value.string
        {
          data :=
            {
              toList :=
                [{
                    toBitVec :=
                      { toFin := ⟨(32 : Nat), Nat.mod_lt (32 : Nat) (BitVec.ofNat._proof_1 (8 : Nat))⟩ } }] } } =
      Value.string
        {
          data :=
            {
              toList :=
                [{
                    toBitVec :=
                      { toFin := ⟨(32 : Nat), Nat.mod_lt (32 : Nat) (BitVec.ofNat._proof_1 (8 : Nat))⟩ } }] } },
    Glob = Glob] := by kernel_rfl

theorem splitK_ne (sep : List UInt8) (sv k : Nat) (s : List UInt8) : 1 ≤ (Lib.splitK sep sv k s).length := by
  cases k with
  | zero => simp [Lib.splitK]
  | succ k => unfold Lib.splitK; split <;> simp

theorem splitK_le (sep : List UInt8) : ∀ (k : Nat) (s x : List UInt8), x ∈ Lib.splitK sep 0 k s → x.length ≤ s.length := by
  intro k
  induction k with
  | zero => intro s x hx; simp [Lib.splitK] at hx; subst hx; exact Nat.le_refl _
  | succ k ih =>
    intro s x hx
    unfold Lib.splitK at hx
    split at hx
    · simp at hx; subst hx; exact Nat.le_refl _
    · rcases List.mem_cons.1 hx with rfl | hx
      · simp; omega
      · have := ih _ _ hx
        simp at this
        omega

theorem split_getD_le [GG] (s : List UInt8) (i : Nat) : ((Lib.split s [32]).getD i []).length ≤ s.length := by
  rw [List.getD_eq_getElem?_getD]
  cases h : (Lib.split s [32])[i]? with
  | none => simp
  | some x => exact splitK_le _ _ _ _ (List.mem_of_getElem? h)

theorem nxT_le [GG] (is : Bool) (s : List UInt8) (off : Nat) : (nxT is (Lib.split s [32]) off).length ≤ s.length := by
  unfold nxT
  split
  · exact split_getD_le s off
  · simp

theorem cut_le (s sep : List UInt8) : (Lib.cut s sep).1.length ≤ s.length ∧ (Lib.cut s sep).2.1.length ≤ s.length := by
  unfold Lib.cut
  split
  · simp; omega
  · simp

theorem atoiV_bounds (l : List UInt8) : -9223372036854775808 ≤ atoiV l ∧ atoiV l ≤ 9223372036854775807 := by
  unfold atoiV
  split
  · rename_i v h; exact Lib.atoiAll_bounds h
  · exact Lib.atoiSat_bounds l
  · omega

theorem puV_bounds (l : List UInt8) : 0 ≤ puV l ∧ puV l ≤ 18446744073709551615 := by
  unfold puV
  split
  · rename_i v h; have := Lib.parseUintB_le h; omega
  · omega
  · omega

structure Op6 where
  (k f a n v w : Int)
  deriving DecidableEq

def Op6.may (p : Op6) : Bool := mayB p.k p.f p.a p.n p.v p.w
def Op6.text (p : Op6) : List UInt8 := putT p.k p.f p.a p.n p.v p.w

theorem getCoreA [GG] (s : List UInt8) (ws : List (List UInt8)) (kind : Int) (nm : List UInt8) (o : Int) (fn fv fw : Bool) (o1 m1 o2 m2 o3 m3 o4 m4 : Nat) (x1 x2 x3 x4 ca cb : List UInt8) (cis : Bool) (va vb vn vv vw : Int) (t : List UInt8) (pc : Int)
    (hne : 1 ≤ ws.length) (h1 : (sSplit s ws).Holds P0) (h2 : LoopIs P0 17 [0, 1, 0, 1, 1, 1] (getFr s 1) (getH ws 0 ws.length) (.exit 0) (getFr s 13) (getH ws kind ws.length) 4 30)
    (h3 : (sForm kind nm o fn fv fw).Holds P0) (h4 : (sNext (o != 0) ws 1 (ws.length - 1) x1 o1 m1).Holds P0) (h5 : (sCut x1 ca cb cis).Holds P0) (h6 : (sAtoi ca va).Holds P0) (h7 : (sAtoi cb vb).Holds P0)
    (h8 : (sNext fn ws o1 m1 x2 o2 m2).Holds P0) (h9 : (sAtoi x2 vn).Holds P0) (h10 : (sNext fv ws o2 m2 x3 o3 m3).Holds P0) (h11 : (sPu x3 vv).Holds P0) (h12 : (sNext fw ws o3 m3 x4 o4 m4).Holds P0) (h13 : (sPu x4 vw).Holds P0)
    (h14 : (sPut kind va vb vn vv vw t pc).Holds P0) (e1 : pc ≠ 0) : (sGet s 0 0 0 0 0 0 10).Holds P0 := by
  refine holds_of_check pok (getA_c s ws kind nm o (o != 0) fn fv fw (ws.length - 1) o1 m1 o2 m2 o3 m3 o4 m4 x1 x2 x3 x4 ca cb cis va vb vn vv vw t pc _ _ _ _ _ _ _) ?_
  simp only [allOf]
  and_intros <;> first | trivial | rfl | assumption | omega | (simpa using e1) | (simpa using e2)

theorem getCoreB [GG] (s : List UInt8) (ws : List (List UInt8)) (kind : Int) (nm : List UInt8) (o : Int) (fn fv fw : Bool) (o1 m1 o2 m2 o3 m3 o4 m4 : Nat) (x1 x2 x3 x4 ca cb : List UInt8) (cis : Bool) (va vb vn vv vw : Int) (t : List UInt8) (pc : Int)
    (hne : 1 ≤ ws.length) (h1 : (sSplit s ws).Holds P0) (h2 : LoopIs P0 17 [0, 1, 0, 1, 1, 1] (getFr s 1) (getH ws 0 ws.length) (.exit 0) (getFr s 13) (getH ws kind ws.length) 4 30)
    (h3 : (sForm kind nm o fn fv fw).Holds P0) (h4 : (sNext (o != 0) ws 1 (ws.length - 1) x1 o1 m1).Holds P0) (h5 : (sCut x1 ca cb cis).Holds P0) (h6 : (sAtoi ca va).Holds P0) (h7 : (sAtoi cb vb).Holds P0)
    (h8 : (sNext fn ws o1 m1 x2 o2 m2).Holds P0) (h9 : (sAtoi x2 vn).Holds P0) (h10 : (sNext fv ws o2 m2 x3 o3 m3).Holds P0) (h11 : (sPu x3 vv).Holds P0) (h12 : (sNext fw ws o3 m3 x4 o4 m4).Holds P0) (h13 : (sPu x4 vw).Holds P0)
    (h14 : (sPut kind va vb vn vv vw t pc).Holds P0) (e1 : pc = 0) (e2 : t ≠ s) : (sGet s 0 0 0 0 0 0 10).Holds P0 := by
  refine holds_of_check pok (getB_c s ws kind nm o (o != 0) fn fv fw (ws.length - 1) o1 m1 o2 m2 o3 m3 o4 m4 x1 x2 x3 x4 ca cb cis va vb vn vv vw t pc _ _ _ _ _ _ _) ?_
  simp only [allOf]
  and_intros <;> first | trivial | rfl | assumption | omega | (simpa using e1) | (simpa using e2)

theorem getCoreC [GG] (s : List UInt8) (ws : List (List UInt8)) (kind : Int) (nm : List UInt8) (o : Int) (fn fv fw : Bool) (o1 m1 o2 m2 o3 m3 o4 m4 : Nat) (x1 x2 x3 x4 ca cb : List UInt8) (cis : Bool) (va vb vn vv vw : Int) (t : List UInt8) (pc : Int)
    (hne : 1 ≤ ws.length) (h1 : (sSplit s ws).Holds P0) (h2 : LoopIs P0 17 [0, 1, 0, 1, 1, 1] (getFr s 1) (getH ws 0 ws.length) (.exit 0) (getFr s 13) (getH ws kind ws.length) 4 30)
    (h3 : (sForm kind nm o fn fv fw).Holds P0) (h4 : (sNext (o != 0) ws 1 (ws.length - 1) x1 o1 m1).Holds P0) (h5 : (sCut x1 ca cb cis).Holds P0) (h6 : (sAtoi ca va).Holds P0) (h7 : (sAtoi cb vb).Holds P0)
    (h8 : (sNext fn ws o1 m1 x2 o2 m2).Holds P0) (h9 : (sAtoi x2 vn).Holds P0) (h10 : (sNext fv ws o2 m2 x3 o3 m3).Holds P0) (h11 : (sPu x3 vv).Holds P0) (h12 : (sNext fw ws o3 m3 x4 o4 m4).Holds P0) (h13 : (sPu x4 vw).Holds P0)
    (h14 : (sPut kind va vb vn vv vw t pc).Holds P0) (e1 : pc = 0) (e2 : t = s) : (sGet s kind va vb vn vv vw 0).Holds P0 := by
  refine holds_of_check pok (getC_c s ws kind nm o (o != 0) fn fv fw (ws.length - 1) o1 m1 o2 m2 o3 m3 o4 m4 x1 x2 x3 x4 ca cb cis va vb vn vv vw t pc _ _ _ _ _ _ _) ?_
  simp only [allOf]
  and_intros <;> first | trivial | rfl | assumption | omega | (simpa using e1) | (simpa using e2)


def gK (s : List UInt8) : Int := kf ((Lib.split s [32]).getD 0 []) 12 0
def gO1 (s : List UInt8) : Nat := nxO (ofOf (gK s) != 0) (Lib.split s [32]) 1
def gO2 (s : List UInt8) : Nat := nxO (hasN (gK s)) (Lib.split s [32]) (gO1 s)
def gO3 (s : List UInt8) : Nat := nxO (hasV (gK s)) (Lib.split s [32]) (gO2 s)
def gX1 (s : List UInt8) : List UInt8 := nxT (ofOf (gK s) != 0) (Lib.split s [32]) 1
def gX2 (s : List UInt8) : List UInt8 := nxT (hasN (gK s)) (Lib.split s [32]) (gO1 s)
def gX3 (s : List UInt8) : List UInt8 := nxT (hasV (gK s)) (Lib.split s [32]) (gO2 s)
def gX4 (s : List UInt8) : List UInt8 := nxT (hasW (gK s)) (Lib.split s [32]) (gO3 s)
/-- What a text's words could be. -/
def parse (s : List UInt8) : Op6 := ⟨gK s, atoiV (Lib.cut (gX1 s) [46]).1, atoiV (Lib.cut (gX1 s) [46]).2.1, atoiV (gX2 s), puV (gX3 s), puV (gX4 s)⟩

theorem parse_fits [GG] (s : List UInt8) : Fits (parse s).f (parse s).a (parse s).n (parse s).v (parse s).w :=
  ⟨(atoiV_bounds _).1, (atoiV_bounds _).2, (atoiV_bounds _).1, (atoiV_bounds _).2, (atoiV_bounds _).1, (atoiV_bounds _).2, (puV_bounds _).1, (puV_bounds _).2, (puV_bounds _).1, (puV_bounds _).2⟩

theorem getH_ [GG] (s : List UInt8) (hs : s.length < 4294967281) (r : Op6) (c : Int)
    (h : ((parse s).may = true ∧ (parse s).text = s ∧ r = parse s ∧ c = 0) ∨ (¬ ((parse s).may = true ∧ (parse s).text = s) ∧ r = ⟨0, 0, 0, 0, 0, 0⟩ ∧ c = 10)) :
    (sGet s r.k r.f r.a r.n r.v r.w c).Holds P0 := by
  have hsplit := splitH s hs
  have hne : 1 ≤ (Lib.split s [32]).length := splitK_ne _ _ _ _
  have hloop := getLoop s (Lib.split s [32]) (Lib.split s [32]).length (by omega) (by omega) 12 0 (by omega)
  have e13 : (13 : Int) - ((12 : Nat) : Int) = 1 := by omega
  rw [e13] at hloop
  have hput := putH (parse s).k (parse s).f (parse s).a (parse s).n (parse s).v (parse s).w (parse_fits s)
  have hform := formH (gK s)
  have r1 : gO1 s ≤ (Lib.split s [32]).length := nxO_le (by omega)
  have r2 : gO2 s ≤ (Lib.split s [32]).length := nxO_le r1
  have r3 : gO3 s ≤ (Lib.split s [32]).length := nxO_le r2
  have q1 := nextH (ofOf (gK s) != 0) (Lib.split s [32]) 1 ((Lib.split s [32]).length - 1) (by omega)
  have q2 := nextH (hasN (gK s)) (Lib.split s [32]) (gO1 s) ((Lib.split s [32]).length - gO1 s) (by omega)
  have q3 := nextH (hasV (gK s)) (Lib.split s [32]) (gO2 s) ((Lib.split s [32]).length - gO2 s) (by omega)
  have q4 := nextH (hasW (gK s)) (Lib.split s [32]) (gO3 s) ((Lib.split s [32]).length - gO3 s) (by omega)
  have z1 : (gX1 s).length ≤ s.length := nxT_le _ _ _
  have z2 : (gX2 s).length ≤ s.length := nxT_le _ _ _
  have z3 : (gX3 s).length ≤ s.length := nxT_le _ _ _
  have z4 : (gX4 s).length ≤ s.length := nxT_le _ _ _
  have z5 := cut_le (gX1 s) [46]
  have c1 := cutH (gX1 s) (by omega)
  have c2 := atoiH (Lib.cut (gX1 s) [46]).1 (by omega)
  have c3 := atoiH (Lib.cut (gX1 s) [46]).2.1 (by omega)
  have c4 := atoiH (gX2 s) (by omega)
  have c5 := puH (gX3 s) (by omega)
  have c6 := puH (gX4 s) (by omega)
  by_cases hm : mayB (parse s).k (parse s).f (parse s).a (parse s).n (parse s).v (parse s).w = true
  · have e2 : putC (parse s).k (parse s).f (parse s).a (parse s).n (parse s).v (parse s).w = 0 := by
      unfold putC; rw [if_pos hm]
    have e1 : putR (parse s).k (parse s).f (parse s).a (parse s).n (parse s).v (parse s).w = (parse s).text := by
      unfold putR; rw [if_pos hm]; rfl
    rw [e1, e2] at hput
    rcases h with ⟨_, ht, rfl, rfl⟩ | ⟨hno, rfl, rfl⟩
    · exact getCoreC s _ _ _ _ _ _ _ _ _ _ _ _ _ _ _ _ _ _ _ _ _ _ _ _ _ _ _ _ _ hne hsplit hloop hform q1 c1 c2 c3 q2 c4 q3 c5 q4 c6 hput rfl ht
    · exact getCoreB s _ _ _ _ _ _ _ _ _ _ _ _ _ _ _ _ _ _ _ _ _ _ _ _ _ _ _ _ _ hne hsplit hloop hform q1 c1 c2 c3 q2 c4 q3 c5 q4 c6 hput rfl (fun ht => hno ⟨hm, ht⟩)
  · have e2 : putC (parse s).k (parse s).f (parse s).a (parse s).n (parse s).v (parse s).w = 10 := by
      unfold putC; rw [if_neg hm]
    rw [e2] at hput
    rcases h with ⟨hm', _⟩ | ⟨hno, rfl, rfl⟩
    · exact absurd hm' hm
    · exact getCoreA s _ _ _ _ _ _ _ _ _ _ _ _ _ _ _ _ _ _ _ _ _ _ _ _ _ _ _ _ _ hne hsplit hloop hform q1 c1 c2 c3 q2 c4 q3 c5 q4 c6 hput (by decide)

end Go.OpP
