import Derived.Test.YtfnekhbekppgnaaDoorON
namespace Go.OpP
open Go.Eng

/-! The reference's functions. -/

def nms : List (List UInt8) := [[], [99, 114, 101, 97, 116, 101], [97, 108, 108, 111, 99], [112, 105, 110], [117, 110, 112, 105, 110], [104, 111, 108, 100], [108, 111, 97, 100], [115, 116, 111, 114, 101], [97, 100, 100], [99, 97, 115], [102, 114, 101, 101], [99, 111, 108, 108, 101, 99, 116], [115, 116, 97, 116, 115]]
def sNames : Eng.Spec := { f := 26, k := 0, m := 5, args := [], pre := [], ret := .sl 0 1 (.l 0) (.l 13), post := [(0, .arr (nms.map fun x => [.con (.string ⟨x.toArray⟩)]) 1 9)] }
def sNamesS (ws : List (List UInt8)) : Eng.Spec := { f := 26, k := 0, m := 5, args := [], pre := [], ret := .sl 0 1 (.l 0) (.l 13), post := [(0, .strs ws 9)] }
def sNameR (k : Int) (r : List UInt8) : Eng.Spec := { f := 14, k := 0, m := 20, args := [.int .i64 k], pre := [], ret := .str r, post := [] }
def sDec (u : Int) (r : List UInt8) : Eng.Spec := { f := 31, k := 0, m := 60, args := [.int .u64 u], pre := [], ret := .str r, post := [] }
def sSigned (n : Int) (r : List UInt8) : Eng.Spec := { f := 30, k := 0, m := 70, args := [.int .i64 n], pre := [], ret := .str r, post := [] }
def decFr (u : Int) (s : List UInt8) : List SV := [.int .u64 u, .any, .any, .str s] ++ List.replicate 19 .any
def sInR (n a b : Int) (r : Bool) : Eng.Spec := { f := 22, k := 0, m := 10, args := [.int .i64 n, .int .i64 a, .int .i64 b], pre := [], ret := .bool r, post := [] }
def sPutRf (k f a n v w : Int) (r : List UInt8) : Eng.Spec := { f := 16, k := 0, m := 900, args := [opV k f a n v w], pre := [], ret := .str r, post := [] }
def sMayR (k f a n v w : Int) (b : Bool) : Eng.Spec := { f := 9, k := 0, m := 200, args := [opV k f a n v w], pre := [], ret := .bool b, post := [] }
def sSays [GG] (k f a n v w : Int) : Eng.Spec := { f := 3, k := 1, m := 4000, args := [opV k f a n v w], pre := G, ret := tt, post := G }

theorem names_c  : check P0 300 10 sNames [] = some [Value.string { data := { toList := [] } } = Value.string { data := { toList := [] } },
    Value.string
        {
          data :=
            {
              toList :=
                [{ toBitVec := { toFin := ⟨(99 : Nat), Nat.mod_lt (99 : Nat) (BitVec.ofNat._proof_1 (8 : Nat))⟩ } },
                  { toBitVec := { toFin := ⟨(114 : Nat), Nat.mod_lt (114 : Nat) (BitVec.ofNat._proof_1 (8 : Nat))⟩ } },
                  { toBitVec := { toFin := ⟨(101 : Nat), Nat.mod_lt (101 : Nat) (BitVec.ofNat._proof_1 (8 : Nat))⟩ } },
                  { toBitVec := { toFin := ⟨(97 : Nat), Nat.mod_lt (97 : Nat) (BitVec.ofNat._proof_1 (8 : Nat))⟩ } },
                  { toBitVec := { toFin := ⟨(116 : Nat), Nat.mod_lt (116 : Nat) (BitVec.ofNat._proof_1 (8 : Nat))⟩ } },
                  {
                    toBitVec :=
                      { toFin := ⟨(101 : Nat), Nat.mod_lt (101 : Nat) (BitVec.ofNat._proof_1 (8 : Nat))⟩ } }] } } =
      Value.string
        {
          data :=
            {
              toList :=
                [{ toBitVec := { toFin := ⟨(99 : Nat), Nat.mod_lt (99 : Nat) (BitVec.ofNat._proof_1 (8 : Nat))⟩ } },
                  { toBitVec := { toFin := ⟨(114 : Nat), Nat.mod_lt (114 : Nat) (BitVec.ofNat._proof_1 (8 : Nat))⟩ } },
                  { toBitVec := { toFin := ⟨(101 : Nat), Nat.mod_lt (101 : Nat) (BitVec.ofNat._proof_1 (8 : Nat))⟩ } },
                  { toBitVec := { toFin := ⟨(97 : Nat), Nat.mod_lt (97 : Nat) (BitVec.ofNat._proof_1 (8 : Nat))⟩ } },
                  { toBitVec := { toFin := ⟨(116 : Nat), Nat.mod_lt (116 : Nat) (BitVec.ofNat._proof_1 (8 : Nat))⟩ } },
                  {
                    toBitVec :=
                      { toFin := ⟨(101 : Nat), Nat.mod_lt (101 : Nat) (BitVec.ofNat._proof_1 (8 : Nat))⟩ } }] } },
    Value.string
        {
          data :=
            {
              toList :=
                [{ toBitVec := { toFin := ⟨(97 : Nat), Nat.mod_lt (97 : Nat) (BitVec.ofNat._proof_1 (8 : Nat))⟩ } },
                  { toBitVec := { toFin := ⟨(108 : Nat), Nat.mod_lt (108 : Nat) (BitVec.ofNat._proof_1 (8 : Nat))⟩ } },
                  { toBitVec := { toFin := ⟨(108 : Nat), Nat.mod_lt (108 : Nat) (BitVec.ofNat._proof_1 (8 : Nat))⟩ } },
                  { toBitVec := { toFin := ⟨(111 : Nat), Nat.mod_lt (111 : Nat) (BitVec.ofNat._proof_1 (8 : Nat))⟩ } },
                  {
                    toBitVec :=
                      { toFin := ⟨(99 : Nat), Nat.mod_lt (99 : Nat) (BitVec.ofNat._proof_1 (8 : Nat))⟩ } }] } } =
      Value.string
        {
          data :=
            {
              toList :=
                [{ toBitVec := { toFin := ⟨(97 : Nat), Nat.mod_lt (97 : Nat) (BitVec.ofNat._proof_1 (8 : Nat))⟩ } },
                  { toBitVec := { toFin := ⟨(108 : Nat), Nat.mod_lt (108 : Nat) (BitVec.ofNat._proof_1 (8 : Nat))⟩ } },
                  { toBitVec := { toFin := ⟨(108 : Nat), Nat.mod_lt (108 : Nat) (BitVec.ofNat._proof_1 (8 : Nat))⟩ } },
                  { toBitVec := { toFin := ⟨(111 : Nat), Nat.mod_lt (111 : Nat) (BitVec.ofNat._proof_1 (8 : Nat))⟩ } },
                  {
                    toBitVec :=
                      { toFin := ⟨(99 : Nat), Nat.mod_lt (99 : Nat) (BitVec.ofNat._proof_1 (8 : Nat))⟩ } }] } },
    Value.string
        {
          data :=
            {
              toList :=
                [{ toBitVec := { toFin := ⟨(112 : Nat), Nat.mod_lt (112 : Nat) (BitVec.ofNat._proof_1 (8 : Nat))⟩ } },
                  { toBitVec := { toFin := ⟨(105 : Nat), Nat.mod_lt (105 : Nat) (BitVec.ofNat._proof_1 (8 : Nat))⟩ } },
                  {
                    toBitVec :=
                      { toFin := ⟨(110 : Nat), Nat.mod_lt (110 : Nat) (BitVec.ofNat._proof_1 (8 : Nat))⟩ } }] } } =
      Value.string
        {
          data :=
            {
              toList :=
                [{ toBitVec := { toFin := ⟨(112 : Nat), Nat.mod_lt (112 : Nat) (BitVec.ofNat._proof_1 (8 : Nat))⟩ } },
                  { toBitVec := { toFin := ⟨(105 : Nat), Nat.mod_lt (105 : Nat) (BitVec.ofNat._proof_1 (8 : Nat))⟩ } },
                  {
                    toBitVec :=
                      { toFin := ⟨(110 : Nat), Nat.mod_lt (110 : Nat) (BitVec.ofNat._proof_1 (8 : Nat))⟩ } }] } },
    Value.string
        {
          data :=
            {
              toList :=
                [{ toBitVec := { toFin := ⟨(117 : Nat), Nat.mod_lt (117 : Nat) (BitVec.ofNat._proof_1 (8 : Nat))⟩ } },
                  { toBitVec := { toFin := ⟨(110 : Nat), Nat.mod_lt (110 : Nat) (BitVec.ofNat._proof_1 (8 : Nat))⟩ } },
                  { toBitVec := { toFin := ⟨(112 : Nat), Nat.mod_lt (112 : Nat) (BitVec.ofNat._proof_1 (8 : Nat))⟩ } },
                  { toBitVec := { toFin := ⟨(105 : Nat), Nat.mod_lt (105 : Nat) (BitVec.ofNat._proof_1 (8 : Nat))⟩ } },
                  {
                    toBitVec :=
                      { toFin := ⟨(110 : Nat), Nat.mod_lt (110 : Nat) (BitVec.ofNat._proof_1 (8 : Nat))⟩ } }] } } =
      Value.string
        {
          data :=
            {
              toList :=
                [{ toBitVec := { toFin := ⟨(117 : Nat), Nat.mod_lt (117 : Nat) (BitVec.ofNat._proof_1 (8 : Nat))⟩ } },
                  { toBitVec := { toFin := ⟨(110 : Nat), Nat.mod_lt (110 : Nat) (BitVec.ofNat._proof_1 (8 : Nat))⟩ } },
                  { toBitVec := { toFin := ⟨(112 : Nat), Nat.mod_lt (112 : Nat) (BitVec.ofNat._proof_1 (8 : Nat))⟩ } },
                  { toBitVec := { toFin := ⟨(105 : Nat), Nat.mod_lt (105 : Nat) (BitVec.ofNat._proof_1 (8 : Nat))⟩ } },
                  {
                    toBitVec :=
                      { toFin := ⟨(110 : Nat), Nat.mod_lt (110 : Nat) (BitVec.ofNat._proof_1 (8 : Nat))⟩ } }] } },
    Value.string
        {
          data :=
            {
              toList :=
                [{ toBitVec := { toFin := ⟨(104 : Nat), Nat.mod_lt (104 : Nat) (BitVec.ofNat._proof_1 (8 : Nat))⟩ } },
                  { toBitVec := { toFin := ⟨(111 : Nat), Nat.mod_lt (111 : Nat) (BitVec.ofNat._proof_1 (8 : Nat))⟩ } },
                  { toBitVec := { toFin := ⟨(108 : Nat), Nat.mod_lt (108 : Nat) (BitVec.ofNat._proof_1 (8 : Nat))⟩ } },
                  {
                    toBitVec :=
                      { toFin := ⟨(100 : Nat), Nat.mod_lt (100 : Nat) (BitVec.ofNat._proof_1 (8 : Nat))⟩ } }] } } =
      Value.string
        {
          data :=
            {
              toList :=
                [{ toBitVec := { toFin := ⟨(104 : Nat), Nat.mod_lt (104 : Nat) (BitVec.ofNat._proof_1 (8 : Nat))⟩ } },
                  { toBitVec := { toFin := ⟨(111 : Nat), Nat.mod_lt (111 : Nat) (BitVec.ofNat._proof_1 (8 : Nat))⟩ } },
                  { toBitVec := { toFin := ⟨(108 : Nat), Nat.mod_lt (108 : Nat) (BitVec.ofNat._proof_1 (8 : Nat))⟩ } },
                  {
                    toBitVec :=
                      { toFin := ⟨(100 : Nat), Nat.mod_lt (100 : Nat) (BitVec.ofNat._proof_1 (8 : Nat))⟩ } }] } },
    Value.string
        {
          data :=
            {
              toList :=
                [{ toBitVec := { toFin := ⟨(108 : Nat), Nat.mod_lt (108 : Nat) (BitVec.ofNat._proof_1 (8 : Nat))⟩ } },
                  { toBitVec := { toFin := ⟨(111 : Nat), Nat.mod_lt (111 : Nat) (BitVec.ofNat._proof_1 (8 : Nat))⟩ } },
                  { toBitVec := { toFin := ⟨(97 : Nat), Nat.mod_lt (97 : Nat) (BitVec.ofNat._proof_1 (8 : Nat))⟩ } },
                  {
                    toBitVec :=
                      { toFin := ⟨(100 : Nat), Nat.mod_lt (100 : Nat) (BitVec.ofNat._proof_1 (8 : Nat))⟩ } }] } } =
      Value.string
        {
          data :=
            {
              toList :=
                [{ toBitVec := { toFin := ⟨(108 : Nat), Nat.mod_lt (108 : Nat) (BitVec.ofNat._proof_1 (8 : Nat))⟩ } },
                  { toBitVec := { toFin := ⟨(111 : Nat), Nat.mod_lt (111 : Nat) (BitVec.ofNat._proof_1 (8 : Nat))⟩ } },
                  { toBitVec := { toFin := ⟨(97 : Nat), Nat.mod_lt (97 : Nat) (BitVec.ofNat._proof_1 (8 : Nat))⟩ } },
                  {
                    toBitVec :=
                      { toFin := ⟨(100 : Nat), Nat.mod_lt (100 : Nat) (BitVec.ofNat._proof_1 (8 : Nat))⟩ } }] } },
    Value.string
        {
          data :=
            {
              toList :=
                [{ toBitVec := { toFin := ⟨(115 : Nat), Nat.mod_lt (115 : Nat) (BitVec.ofNat._proof_1 (8 : Nat))⟩ } },
                  { toBitVec := { toFin := ⟨(116 : Nat), Nat.mod_lt (116 : Nat) (BitVec.ofNat._proof_1 (8 : Nat))⟩ } },
                  { toBitVec := { toFin := ⟨(111 : Nat), Nat.mod_lt (111 : Nat) (BitVec.ofNat._proof_1 (8 : Nat))⟩ } },
                  { toBitVec := { toFin := ⟨(114 : Nat), Nat.mod_lt (114 : Nat) (BitVec.ofNat._proof_1 (8 : Nat))⟩ } },
                  {
                    toBitVec :=
                      { toFin := ⟨(101 : Nat), Nat.mod_lt (101 : Nat) (BitVec.ofNat._proof_1 (8 : Nat))⟩ } }] } } =
      Value.string
        {
          data :=
            {
              toList :=
                [{ toBitVec := { toFin := ⟨(115 : Nat), Nat.mod_lt (115 : Nat) (BitVec.ofNat._proof_1 (8 : Nat))⟩ } },
                  { toBitVec := { toFin := ⟨(116 : Nat), Nat.mod_lt (116 : Nat) (BitVec.ofNat._proof_1 (8 : Nat))⟩ } },
                  { toBitVec := { toFin := ⟨(111 : Nat), Nat.mod_lt (111 : Nat) (BitVec.ofNat._proof_1 (8 : Nat))⟩ } },
                  { toBitVec := { toFin := ⟨(114 : Nat), Nat.mod_lt (114 : Nat) (BitVec.ofNat._proof_1 (8 : Nat))⟩ } },
                  {
                    toBitVec :=
                      { toFin := ⟨(101 : Nat), Nat.mod_lt (101 : Nat) (BitVec.ofNat._proof_1 (8 : Nat))⟩ } }] } },
    Value.string
        {
          data :=
            {
              toList :=
                [{ toBitVec := { toFin := ⟨(97 : Nat), Nat.mod_lt (97 : Nat) (BitVec.ofNat._proof_1 (8 : Nat))⟩ } },
                  { toBitVec := { toFin := ⟨(100 : Nat), Nat.mod_lt (100 : Nat) (BitVec.ofNat._proof_1 (8 : Nat))⟩ } },
                  {
                    toBitVec :=
                      { toFin := ⟨(100 : Nat), Nat.mod_lt (100 : Nat) (BitVec.ofNat._proof_1 (8 : Nat))⟩ } }] } } =
      Value.string
        {
          data :=
            {
              toList :=
                [{ toBitVec := { toFin := ⟨(97 : Nat), Nat.mod_lt (97 : Nat) (BitVec.ofNat._proof_1 (8 : Nat))⟩ } },
                  { toBitVec := { toFin := ⟨(100 : Nat), Nat.mod_lt (100 : Nat) (BitVec.ofNat._proof_1 (8 : Nat))⟩ } },
                  {
                    toBitVec :=
                      { toFin := ⟨(100 : Nat), Nat.mod_lt (100 : Nat) (BitVec.ofNat._proof_1 (8 : Nat))⟩ } }] } },
    Value.string
        {
          data :=
            {
              toList :=
                [{ toBitVec := { toFin := ⟨(99 : Nat), Nat.mod_lt (99 : Nat) (BitVec.ofNat._proof_1 (8 : Nat))⟩ } },
                  { toBitVec := { toFin := ⟨(97 : Nat), Nat.mod_lt (97 : Nat) (BitVec.ofNat._proof_1 (8 : Nat))⟩ } },
                  {
                    toBitVec :=
                      { toFin := ⟨(115 : Nat), Nat.mod_lt (115 : Nat) (BitVec.ofNat._proof_1 (8 : Nat))⟩ } }] } } =
      Value.string
        {
          data :=
            {
              toList :=
                [{ toBitVec := { toFin := ⟨(99 : Nat), Nat.mod_lt (99 : Nat) (BitVec.ofNat._proof_1 (8 : Nat))⟩ } },
                  { toBitVec := { toFin := ⟨(97 : Nat), Nat.mod_lt (97 : Nat) (BitVec.ofNat._proof_1 (8 : Nat))⟩ } },
                  {
                    toBitVec :=
                      { toFin := ⟨(115 : Nat), Nat.mod_lt (115 : Nat) (BitVec.ofNat._proof_1 (8 : Nat))⟩ } }] } },
    Value.string
        {
          data :=
            {
              toList :=
                [{ toBitVec := { toFin := ⟨(102 : Nat), Nat.mod_lt (102 : Nat) (BitVec.ofNat._proof_1 (8 : Nat))⟩ } },
                  { toBitVec := { toFin := ⟨(114 : Nat), Nat.mod_lt (114 : Nat) (BitVec.ofNat._proof_1 (8 : Nat))⟩ } },
                  { toBitVec := { toFin := ⟨(101 : Nat), Nat.mod_lt (101 : Nat) (BitVec.ofNat._proof_1 (8 : Nat))⟩ } },
                  {
                    toBitVec :=
                      { toFin := ⟨(101 : Nat), Nat.mod_lt (101 : Nat) (BitVec.ofNat._proof_1 (8 : Nat))⟩ } }] } } =
      Value.string
        {
          data :=
            {
              toList :=
                [{ toBitVec := { toFin := ⟨(102 : Nat), Nat.mod_lt (102 : Nat) (BitVec.ofNat._proof_1 (8 : Nat))⟩ } },
                  { toBitVec := { toFin := ⟨(114 : Nat), Nat.mod_lt (114 : Nat) (BitVec.ofNat._proof_1 (8 : Nat))⟩ } },
                  { toBitVec := { toFin := ⟨(101 : Nat), Nat.mod_lt (101 : Nat) (BitVec.ofNat._proof_1 (8 : Nat))⟩ } },
                  {
                    toBitVec :=
                      { toFin := ⟨(101 : Nat), Nat.mod_lt (101 : Nat) (BitVec.ofNat._proof_1 (8 : Nat))⟩ } }] } },
    Value.string
        {
          data :=
            {
              toList :=
                [{ toBitVec := { toFin := ⟨(99 : Nat), Nat.mod_lt (99 : Nat) (BitVec.ofNat._proof_1 (8 : Nat))⟩ } },
                  { toBitVec := { toFin := ⟨(111 : Nat), Nat.mod_lt (111 : Nat) (BitVec.ofNat._proof_1 (8 : Nat))⟩ } },
                  { toBitVec := { toFin := ⟨(108 : Nat), Nat.mod_lt (108 : Nat) (BitVec.ofNat._proof_1 (8 : Nat))⟩ } },
                  { toBitVec := { toFin := ⟨(108 : Nat), Nat.mod_lt (108 : Nat) (BitVec.ofNat._proof_1 (8 : Nat))⟩ } },
                  { toBitVec := { toFin := ⟨(101 : Nat), Nat.mod_lt (101 : Nat) (BitVec.ofNat._proof_1 (8 : Nat))⟩ } },
                  { toBitVec := { toFin := ⟨(99 : Nat), Nat.mod_lt (99 : Nat) (BitVec.ofNat._proof_1 (8 : Nat))⟩ } },
                  {
                    toBitVec :=
                      { toFin := ⟨(116 : Nat), Nat.mod_lt (116 : Nat) (BitVec.ofNat._proof_1 (8 : Nat))⟩ } }] } } =
      Value.string
        {
          data :=
            {
              toList :=
                [{ toBitVec := { toFin := ⟨(99 : Nat), Nat.mod_lt (99 : Nat) (BitVec.ofNat._proof_1 (8 : Nat))⟩ } },
                  { toBitVec := { toFin := ⟨(111 : Nat), Nat.mod_lt (111 : Nat) (BitVec.ofNat._proof_1 (8 : Nat))⟩ } },
                  { toBitVec := { toFin := ⟨(108 : Nat), Nat.mod_lt (108 : Nat) (BitVec.ofNat._proof_1 (8 : Nat))⟩ } },
                  { toBitVec := { toFin := ⟨(108 : Nat), Nat.mod_lt (108 : Nat) (BitVec.ofNat._proof_1 (8 : Nat))⟩ } },
                  { toBitVec := { toFin := ⟨(101 : Nat), Nat.mod_lt (101 : Nat) (BitVec.ofNat._proof_1 (8 : Nat))⟩ } },
                  { toBitVec := { toFin := ⟨(99 : Nat), Nat.mod_lt (99 : Nat) (BitVec.ofNat._proof_1 (8 : Nat))⟩ } },
                  {
                    toBitVec :=
                      { toFin := ⟨(116 : Nat), Nat.mod_lt (116 : Nat) (BitVec.ofNat._proof_1 (8 : Nat))⟩ } }] } },
    Value.string
        {
          data :=
            {
              toList :=
                [{ toBitVec := { toFin := ⟨(115 : Nat), Nat.mod_lt (115 : Nat) (BitVec.ofNat._proof_1 (8 : Nat))⟩ } },
                  { toBitVec := { toFin := ⟨(116 : Nat), Nat.mod_lt (116 : Nat) (BitVec.ofNat._proof_1 (8 : Nat))⟩ } },
                  { toBitVec := { toFin := ⟨(97 : Nat), Nat.mod_lt (97 : Nat) (BitVec.ofNat._proof_1 (8 : Nat))⟩ } },
                  { toBitVec := { toFin := ⟨(116 : Nat), Nat.mod_lt (116 : Nat) (BitVec.ofNat._proof_1 (8 : Nat))⟩ } },
                  {
                    toBitVec :=
                      { toFin := ⟨(115 : Nat), Nat.mod_lt (115 : Nat) (BitVec.ofNat._proof_1 (8 : Nat))⟩ } }] } } =
      Value.string
        {
          data :=
            {
              toList :=
                [{ toBitVec := { toFin := ⟨(115 : Nat), Nat.mod_lt (115 : Nat) (BitVec.ofNat._proof_1 (8 : Nat))⟩ } },
                  { toBitVec := { toFin := ⟨(116 : Nat), Nat.mod_lt (116 : Nat) (BitVec.ofNat._proof_1 (8 : Nat))⟩ } },
                  { toBitVec := { toFin := ⟨(97 : Nat), Nat.mod_lt (97 : Nat) (BitVec.ofNat._proof_1 (8 : Nat))⟩ } },
                  { toBitVec := { toFin := ⟨(116 : Nat), Nat.mod_lt (116 : Nat) (BitVec.ofNat._proof_1 (8 : Nat))⟩ } },
                  {
                    toBitVec :=
                      { toFin := ⟨(115 : Nat), Nat.mod_lt (115 : Nat) (BitVec.ofNat._proof_1 (8 : Nat))⟩ } }] } }] := by kernel_rfl

theorem nameRMid_c (k : Int) (r : List UInt8) (ws : List (List UInt8)) : check P0 300 10 (sNameR k r) [.br false, .br false, .call (sNamesS ws) []] = some [List.getD ws (Int.toNat k) [] = r, Int.toNat k < List.length ws,
    (0 : Int) ≤ k ∧ k < (↑(LN.val (LN.l (13 : Nat))) : Int), Spec.Holds P0 (sNamesS ws),
    decide (k > (12 : Int)) = false, decide (k < (1 : Int)) = false] := by kernel_rfl

theorem nameRLo_c (k : Int) (r : List UInt8) : check P0 300 10 (sNameR k r) [.br true] = some [[] = r, decide (k < (1 : Int)) = true] := by kernel_rfl

theorem nameRHi_c (k : Int) (r : List UInt8) : check P0 300 10 (sNameR k r) [.br false, .br true] = some [[] = r, decide (k > (12 : Int)) = true, decide (k < (1 : Int)) = false] := by kernel_rfl

theorem dec_c (u y : Int) (r s d : List UInt8) : check P0 300 10 (sDec u r) [.loop (.exit 0) (decFr u d) (decFr y s) [] [] 0 20 []] = some [s = r,
    LoopIs P0 (31 : Nat) [(0 : Nat), (0 : Nat), (1 : Nat), (1 : Nat)] (decFr u d) [] (Exit.exit (0 : Nat)) (decFr y s)
      [] (0 : Nat) (20 : Nat),
    u = u, [UInt8.ofNat (Int.toNat (IntKind.wrap IntKind.u8 ((48 : Int) + Int.tmod u (10 : Int))))] = d,
    InU64 ((48 : Int) + Int.tmod u (10 : Int))] := by kernel_rfl

theorem decStep_c (u u2 : Int) (r s : List UInt8) : checkAt P0 300 10 31 [0, 0, 0, 1, 1] (decFr u s) [] [.br true] .normal (decFr u2 r) [] 0 20 = some [Int.tdiv u (10 : Int) = u2,
    UInt8.ofNat (Int.toNat (IntKind.wrap IntKind.u8 ((48 : Int) + Int.tmod (Int.tdiv u (10 : Int)) (10 : Int)))) :: s =
      r,
    (1 : Nat) + List.length s ≤ (9223372036854775807 : Nat),
    InU64 ((48 : Int) + Int.tmod (Int.tdiv u (10 : Int)) (10 : Int)), InU64 (Int.tdiv u (10 : Int)),
    decide (u ≥ (10 : Int)) = true] := by kernel_rfl

theorem decEnd_c (u : Int) (s : List UInt8) : checkAt P0 300 10 31 [0, 0, 0, 1, 1] (decFr u s) [] [.br false] (.exit 0) (decFr u s) [] 0 20 = some [u = u, s = s, decide (u ≥ (10 : Int)) = false] := by kernel_rfl

theorem signed_c (u : Int) (r s : List UInt8) : check P0 300 10 (sSigned u r) [.br false, .call (sDec u s) []] = some [s = r, Spec.Holds P0 (sDec u s), u = u, InU64 u, decide (u < (0 : Int)) = false] := by kernel_rfl

theorem inT_c (n a b : Int) (r : Bool) : check P0 300 10 (sInR n a b r) [.br true] = some [decide (n ≤ b) = r, decide (n ≥ a) = true] := by kernel_rfl

theorem inF_c (n a b : Int) (r : Bool) : check P0 300 10 (sInR n a b r) [.br false] = some [false = r, decide (n ≥ a) = false] := by kernel_rfl

theorem putRfTTTT_c (k f a n v w o : Int) (hn hv : Bool) (nm tf ta tn tv tw r : List UInt8) : check P0 300 10 (sPutRf k f a n v w r) [.call (sNameR k nm) [], .call (sRefOf k o) [], .br true, .call (sSigned f tf) [], .call (sSigned a ta) [], .call (sHasN k hn) [], .br true, .call (sSigned n tn) [], .call (sHasV k hv) [], .br true, .call (sDec v tv) [], .br true, .call (sDec w tw) []] = some [nm ++ [{ toBitVec := { toFin := ⟨(32 : Nat), Nat.mod_lt (32 : Nat) (BitVec.ofNat._proof_1 (8 : Nat))⟩ } }] ++ tf ++
                      [{
                          toBitVec :=
                            { toFin := ⟨(46 : Nat), Nat.mod_lt (46 : Nat) (BitVec.ofNat._proof_1 (8 : Nat))⟩ } }] ++
                    ta ++
                  [{
                      toBitVec :=
                        { toFin := ⟨(32 : Nat), Nat.mod_lt (32 : Nat) (BitVec.ofNat._proof_1 (8 : Nat))⟩ } }] ++
                tn ++
              [{ toBitVec := { toFin := ⟨(32 : Nat), Nat.mod_lt (32 : Nat) (BitVec.ofNat._proof_1 (8 : Nat))⟩ } }] ++
            tv ++
          [{ toBitVec := { toFin := ⟨(32 : Nat), Nat.mod_lt (32 : Nat) (BitVec.ofNat._proof_1 (8 : Nat))⟩ } }] ++
        tw =
      r,
    List.length
          (nm ++ [{ toBitVec := { toFin := ⟨(32 : Nat), Nat.mod_lt (32 : Nat) (BitVec.ofNat._proof_1 (8 : Nat))⟩ } }] ++
                          tf ++
                        [{
                            toBitVec :=
                              { toFin := ⟨(46 : Nat), Nat.mod_lt (46 : Nat) (BitVec.ofNat._proof_1 (8 : Nat))⟩ } }] ++
                      ta ++
                    [{
                        toBitVec :=
                          { toFin := ⟨(32 : Nat), Nat.mod_lt (32 : Nat) (BitVec.ofNat._proof_1 (8 : Nat))⟩ } }] ++
                  tn ++
                [{ toBitVec := { toFin := ⟨(32 : Nat), Nat.mod_lt (32 : Nat) (BitVec.ofNat._proof_1 (8 : Nat))⟩ } }] ++
              tv ++
            [{ toBitVec := { toFin := ⟨(32 : Nat), Nat.mod_lt (32 : Nat) (BitVec.ofNat._proof_1 (8 : Nat))⟩ } }]) +
        List.length tw ≤
      (9223372036854775807 : Nat),
    Spec.Holds P0 (sDec w tw), w = w,
    List.length
          (nm ++ [{ toBitVec := { toFin := ⟨(32 : Nat), Nat.mod_lt (32 : Nat) (BitVec.ofNat._proof_1 (8 : Nat))⟩ } }] ++
                        tf ++
                      [{
                          toBitVec :=
                            { toFin := ⟨(46 : Nat), Nat.mod_lt (46 : Nat) (BitVec.ofNat._proof_1 (8 : Nat))⟩ } }] ++
                    ta ++
                  [{
                      toBitVec :=
                        { toFin := ⟨(32 : Nat), Nat.mod_lt (32 : Nat) (BitVec.ofNat._proof_1 (8 : Nat))⟩ } }] ++
                tn ++
              [{ toBitVec := { toFin := ⟨(32 : Nat), Nat.mod_lt (32 : Nat) (BitVec.ofNat._proof_1 (8 : Nat))⟩ } }] ++
            tv) +
        (1 : Nat) ≤
      (9223372036854775807 : Nat),
    (k == (9 : Int)) = true,
    List.length
          (nm ++ [{ toBitVec := { toFin := ⟨(32 : Nat), Nat.mod_lt (32 : Nat) (BitVec.ofNat._proof_1 (8 : Nat))⟩ } }] ++
                      tf ++
                    [{
                        toBitVec :=
                          { toFin := ⟨(46 : Nat), Nat.mod_lt (46 : Nat) (BitVec.ofNat._proof_1 (8 : Nat))⟩ } }] ++
                  ta ++
                [{ toBitVec := { toFin := ⟨(32 : Nat), Nat.mod_lt (32 : Nat) (BitVec.ofNat._proof_1 (8 : Nat))⟩ } }] ++
              tn ++
            [{ toBitVec := { toFin := ⟨(32 : Nat), Nat.mod_lt (32 : Nat) (BitVec.ofNat._proof_1 (8 : Nat))⟩ } }]) +
        List.length tv ≤
      (9223372036854775807 : Nat),
    Spec.Holds P0 (sDec v tv), v = v,
    List.length
          (nm ++ [{ toBitVec := { toFin := ⟨(32 : Nat), Nat.mod_lt (32 : Nat) (BitVec.ofNat._proof_1 (8 : Nat))⟩ } }] ++
                    tf ++
                  [{
                      toBitVec :=
                        { toFin := ⟨(46 : Nat), Nat.mod_lt (46 : Nat) (BitVec.ofNat._proof_1 (8 : Nat))⟩ } }] ++
                ta ++
              [{ toBitVec := { toFin := ⟨(32 : Nat), Nat.mod_lt (32 : Nat) (BitVec.ofNat._proof_1 (8 : Nat))⟩ } }] ++
            tn) +
        (1 : Nat) ≤
      (9223372036854775807 : Nat),
    hv = true, Spec.Holds P0 (sHasV k hv), k = k,
    List.length
          (nm ++ [{ toBitVec := { toFin := ⟨(32 : Nat), Nat.mod_lt (32 : Nat) (BitVec.ofNat._proof_1 (8 : Nat))⟩ } }] ++
                  tf ++
                [{ toBitVec := { toFin := ⟨(46 : Nat), Nat.mod_lt (46 : Nat) (BitVec.ofNat._proof_1 (8 : Nat))⟩ } }] ++
              ta ++
            [{ toBitVec := { toFin := ⟨(32 : Nat), Nat.mod_lt (32 : Nat) (BitVec.ofNat._proof_1 (8 : Nat))⟩ } }]) +
        List.length tn ≤
      (9223372036854775807 : Nat),
    Spec.Holds P0 (sSigned n tn), n = n,
    List.length
          (nm ++ [{ toBitVec := { toFin := ⟨(32 : Nat), Nat.mod_lt (32 : Nat) (BitVec.ofNat._proof_1 (8 : Nat))⟩ } }] ++
                tf ++
              [{ toBitVec := { toFin := ⟨(46 : Nat), Nat.mod_lt (46 : Nat) (BitVec.ofNat._proof_1 (8 : Nat))⟩ } }] ++
            ta) +
        (1 : Nat) ≤
      (9223372036854775807 : Nat),
    hn = true, Spec.Holds P0 (sHasN k hn), k = k, SV.str nm = SV.str nm, SV.str nm = SV.str nm,
    SV.str
        (nm ++ [{ toBitVec := { toFin := ⟨(32 : Nat), Nat.mod_lt (32 : Nat) (BitVec.ofNat._proof_1 (8 : Nat))⟩ } }]) =
      SV.str
        (nm ++ [{ toBitVec := { toFin := ⟨(32 : Nat), Nat.mod_lt (32 : Nat) (BitVec.ofNat._proof_1 (8 : Nat))⟩ } }]),
    List.length nm + (1 : Nat) ≤ (9223372036854775807 : Nat),
    SV.str
        (nm ++ [{ toBitVec := { toFin := ⟨(32 : Nat), Nat.mod_lt (32 : Nat) (BitVec.ofNat._proof_1 (8 : Nat))⟩ } }]) =
      SV.str
        (nm ++ [{ toBitVec := { toFin := ⟨(32 : Nat), Nat.mod_lt (32 : Nat) (BitVec.ofNat._proof_1 (8 : Nat))⟩ } }]),
    List.length nm + (1 : Nat) ≤ (9223372036854775807 : Nat),
    SV.str
        (nm ++ [{ toBitVec := { toFin := ⟨(32 : Nat), Nat.mod_lt (32 : Nat) (BitVec.ofNat._proof_1 (8 : Nat))⟩ } }] ++
          tf) =
      SV.str
        (nm ++ [{ toBitVec := { toFin := ⟨(32 : Nat), Nat.mod_lt (32 : Nat) (BitVec.ofNat._proof_1 (8 : Nat))⟩ } }] ++
          tf),
    List.length
          (nm ++ [{ toBitVec := { toFin := ⟨(32 : Nat), Nat.mod_lt (32 : Nat) (BitVec.ofNat._proof_1 (8 : Nat))⟩ } }]) +
        List.length tf ≤
      (9223372036854775807 : Nat),
    SV.str
        (nm ++ [{ toBitVec := { toFin := ⟨(32 : Nat), Nat.mod_lt (32 : Nat) (BitVec.ofNat._proof_1 (8 : Nat))⟩ } }] ++
            tf ++
          [{ toBitVec := { toFin := ⟨(46 : Nat), Nat.mod_lt (46 : Nat) (BitVec.ofNat._proof_1 (8 : Nat))⟩ } }]) =
      SV.str
        (nm ++ [{ toBitVec := { toFin := ⟨(32 : Nat), Nat.mod_lt (32 : Nat) (BitVec.ofNat._proof_1 (8 : Nat))⟩ } }] ++
            tf ++
          [{ toBitVec := { toFin := ⟨(46 : Nat), Nat.mod_lt (46 : Nat) (BitVec.ofNat._proof_1 (8 : Nat))⟩ } }]),
    List.length
          (nm ++ [{ toBitVec := { toFin := ⟨(32 : Nat), Nat.mod_lt (32 : Nat) (BitVec.ofNat._proof_1 (8 : Nat))⟩ } }] ++
            tf) +
        (1 : Nat) ≤
      (9223372036854775807 : Nat),
    SV.ptr (0 : Nat) (LN.l (0 : Nat)) (0 : Nat) (2 : Nat) = SV.ptr (0 : Nat) (LN.l (0 : Nat)) (0 : Nat) (2 : Nat),
    SV.int IntKind.i64 a = SV.int IntKind.i64 a,
    List.length
          (nm ++ [{ toBitVec := { toFin := ⟨(32 : Nat), Nat.mod_lt (32 : Nat) (BitVec.ofNat._proof_1 (8 : Nat))⟩ } }] ++
              tf ++
            [{ toBitVec := { toFin := ⟨(46 : Nat), Nat.mod_lt (46 : Nat) (BitVec.ofNat._proof_1 (8 : Nat))⟩ } }]) +
        List.length ta ≤
      (9223372036854775807 : Nat),
    Spec.Holds P0 (sSigned a ta), a = a,
    List.length
          (nm ++ [{ toBitVec := { toFin := ⟨(32 : Nat), Nat.mod_lt (32 : Nat) (BitVec.ofNat._proof_1 (8 : Nat))⟩ } }] ++
            tf) +
        (1 : Nat) ≤
      (9223372036854775807 : Nat),
    List.length
          (nm ++ [{ toBitVec := { toFin := ⟨(32 : Nat), Nat.mod_lt (32 : Nat) (BitVec.ofNat._proof_1 (8 : Nat))⟩ } }]) +
        List.length tf ≤
      (9223372036854775807 : Nat),
    Spec.Holds P0 (sSigned f tf), f = f, List.length nm + (1 : Nat) ≤ (9223372036854775807 : Nat),
    (o != (0 : Int)) = true, Spec.Holds P0 (sRefOf k o), k = k, Spec.Holds P0 (sNameR k nm), k = k] := by kernel_rfl

theorem putRfTTTF_c (k f a n v w o : Int) (hn hv : Bool) (nm tf ta tn tv tw r : List UInt8) : check P0 300 10 (sPutRf k f a n v w r) [.call (sNameR k nm) [], .call (sRefOf k o) [], .br true, .call (sSigned f tf) [], .call (sSigned a ta) [], .call (sHasN k hn) [], .br true, .call (sSigned n tn) [], .call (sHasV k hv) [], .br true, .call (sDec v tv) [], .br false] = some [nm ++ [{ toBitVec := { toFin := ⟨(32 : Nat), Nat.mod_lt (32 : Nat) (BitVec.ofNat._proof_1 (8 : Nat))⟩ } }] ++ tf ++
                  [{
                      toBitVec :=
                        { toFin := ⟨(46 : Nat), Nat.mod_lt (46 : Nat) (BitVec.ofNat._proof_1 (8 : Nat))⟩ } }] ++
                ta ++
              [{ toBitVec := { toFin := ⟨(32 : Nat), Nat.mod_lt (32 : Nat) (BitVec.ofNat._proof_1 (8 : Nat))⟩ } }] ++
            tn ++
          [{ toBitVec := { toFin := ⟨(32 : Nat), Nat.mod_lt (32 : Nat) (BitVec.ofNat._proof_1 (8 : Nat))⟩ } }] ++
        tv =
      r,
    (k == (9 : Int)) = false,
    List.length
          (nm ++ [{ toBitVec := { toFin := ⟨(32 : Nat), Nat.mod_lt (32 : Nat) (BitVec.ofNat._proof_1 (8 : Nat))⟩ } }] ++
                      tf ++
                    [{
                        toBitVec :=
                          { toFin := ⟨(46 : Nat), Nat.mod_lt (46 : Nat) (BitVec.ofNat._proof_1 (8 : Nat))⟩ } }] ++
                  ta ++
                [{ toBitVec := { toFin := ⟨(32 : Nat), Nat.mod_lt (32 : Nat) (BitVec.ofNat._proof_1 (8 : Nat))⟩ } }] ++
              tn ++
            [{ toBitVec := { toFin := ⟨(32 : Nat), Nat.mod_lt (32 : Nat) (BitVec.ofNat._proof_1 (8 : Nat))⟩ } }]) +
        List.length tv ≤
      (9223372036854775807 : Nat),
    Spec.Holds P0 (sDec v tv), v = v,
    List.length
          (nm ++ [{ toBitVec := { toFin := ⟨(32 : Nat), Nat.mod_lt (32 : Nat) (BitVec.ofNat._proof_1 (8 : Nat))⟩ } }] ++
                    tf ++
                  [{
                      toBitVec :=
                        { toFin := ⟨(46 : Nat), Nat.mod_lt (46 : Nat) (BitVec.ofNat._proof_1 (8 : Nat))⟩ } }] ++
                ta ++
              [{ toBitVec := { toFin := ⟨(32 : Nat), Nat.mod_lt (32 : Nat) (BitVec.ofNat._proof_1 (8 : Nat))⟩ } }] ++
            tn) +
        (1 : Nat) ≤
      (9223372036854775807 : Nat),
    hv = true, Spec.Holds P0 (sHasV k hv), k = k,
    List.length
          (nm ++ [{ toBitVec := { toFin := ⟨(32 : Nat), Nat.mod_lt (32 : Nat) (BitVec.ofNat._proof_1 (8 : Nat))⟩ } }] ++
                  tf ++
                [{ toBitVec := { toFin := ⟨(46 : Nat), Nat.mod_lt (46 : Nat) (BitVec.ofNat._proof_1 (8 : Nat))⟩ } }] ++
              ta ++
            [{ toBitVec := { toFin := ⟨(32 : Nat), Nat.mod_lt (32 : Nat) (BitVec.ofNat._proof_1 (8 : Nat))⟩ } }]) +
        List.length tn ≤
      (9223372036854775807 : Nat),
    Spec.Holds P0 (sSigned n tn), n = n,
    List.length
          (nm ++ [{ toBitVec := { toFin := ⟨(32 : Nat), Nat.mod_lt (32 : Nat) (BitVec.ofNat._proof_1 (8 : Nat))⟩ } }] ++
                tf ++
              [{ toBitVec := { toFin := ⟨(46 : Nat), Nat.mod_lt (46 : Nat) (BitVec.ofNat._proof_1 (8 : Nat))⟩ } }] ++
            ta) +
        (1 : Nat) ≤
      (9223372036854775807 : Nat),
    hn = true, Spec.Holds P0 (sHasN k hn), k = k, SV.str nm = SV.str nm, SV.str nm = SV.str nm,
    SV.str
        (nm ++ [{ toBitVec := { toFin := ⟨(32 : Nat), Nat.mod_lt (32 : Nat) (BitVec.ofNat._proof_1 (8 : Nat))⟩ } }]) =
      SV.str
        (nm ++ [{ toBitVec := { toFin := ⟨(32 : Nat), Nat.mod_lt (32 : Nat) (BitVec.ofNat._proof_1 (8 : Nat))⟩ } }]),
    List.length nm + (1 : Nat) ≤ (9223372036854775807 : Nat),
    SV.str
        (nm ++ [{ toBitVec := { toFin := ⟨(32 : Nat), Nat.mod_lt (32 : Nat) (BitVec.ofNat._proof_1 (8 : Nat))⟩ } }]) =
      SV.str
        (nm ++ [{ toBitVec := { toFin := ⟨(32 : Nat), Nat.mod_lt (32 : Nat) (BitVec.ofNat._proof_1 (8 : Nat))⟩ } }]),
    List.length nm + (1 : Nat) ≤ (9223372036854775807 : Nat),
    SV.str
        (nm ++ [{ toBitVec := { toFin := ⟨(32 : Nat), Nat.mod_lt (32 : Nat) (BitVec.ofNat._proof_1 (8 : Nat))⟩ } }] ++
          tf) =
      SV.str
        (nm ++ [{ toBitVec := { toFin := ⟨(32 : Nat), Nat.mod_lt (32 : Nat) (BitVec.ofNat._proof_1 (8 : Nat))⟩ } }] ++
          tf),
    List.length
          (nm ++ [{ toBitVec := { toFin := ⟨(32 : Nat), Nat.mod_lt (32 : Nat) (BitVec.ofNat._proof_1 (8 : Nat))⟩ } }]) +
        List.length tf ≤
      (9223372036854775807 : Nat),
    SV.str
        (nm ++ [{ toBitVec := { toFin := ⟨(32 : Nat), Nat.mod_lt (32 : Nat) (BitVec.ofNat._proof_1 (8 : Nat))⟩ } }] ++
            tf ++
          [{ toBitVec := { toFin := ⟨(46 : Nat), Nat.mod_lt (46 : Nat) (BitVec.ofNat._proof_1 (8 : Nat))⟩ } }]) =
      SV.str
        (nm ++ [{ toBitVec := { toFin := ⟨(32 : Nat), Nat.mod_lt (32 : Nat) (BitVec.ofNat._proof_1 (8 : Nat))⟩ } }] ++
            tf ++
          [{ toBitVec := { toFin := ⟨(46 : Nat), Nat.mod_lt (46 : Nat) (BitVec.ofNat._proof_1 (8 : Nat))⟩ } }]),
    List.length
          (nm ++ [{ toBitVec := { toFin := ⟨(32 : Nat), Nat.mod_lt (32 : Nat) (BitVec.ofNat._proof_1 (8 : Nat))⟩ } }] ++
            tf) +
        (1 : Nat) ≤
      (9223372036854775807 : Nat),
    SV.ptr (0 : Nat) (LN.l (0 : Nat)) (0 : Nat) (2 : Nat) = SV.ptr (0 : Nat) (LN.l (0 : Nat)) (0 : Nat) (2 : Nat),
    SV.int IntKind.i64 a = SV.int IntKind.i64 a,
    List.length
          (nm ++ [{ toBitVec := { toFin := ⟨(32 : Nat), Nat.mod_lt (32 : Nat) (BitVec.ofNat._proof_1 (8 : Nat))⟩ } }] ++
              tf ++
            [{ toBitVec := { toFin := ⟨(46 : Nat), Nat.mod_lt (46 : Nat) (BitVec.ofNat._proof_1 (8 : Nat))⟩ } }]) +
        List.length ta ≤
      (9223372036854775807 : Nat),
    Spec.Holds P0 (sSigned a ta), a = a,
    List.length
          (nm ++ [{ toBitVec := { toFin := ⟨(32 : Nat), Nat.mod_lt (32 : Nat) (BitVec.ofNat._proof_1 (8 : Nat))⟩ } }] ++
            tf) +
        (1 : Nat) ≤
      (9223372036854775807 : Nat),
    List.length
          (nm ++ [{ toBitVec := { toFin := ⟨(32 : Nat), Nat.mod_lt (32 : Nat) (BitVec.ofNat._proof_1 (8 : Nat))⟩ } }]) +
        List.length tf ≤
      (9223372036854775807 : Nat),
    Spec.Holds P0 (sSigned f tf), f = f, List.length nm + (1 : Nat) ≤ (9223372036854775807 : Nat),
    (o != (0 : Int)) = true, Spec.Holds P0 (sRefOf k o), k = k, Spec.Holds P0 (sNameR k nm), k = k] := by kernel_rfl

theorem putRfTTFF_c (k f a n v w o : Int) (hn hv : Bool) (nm tf ta tn tv tw r : List UInt8) : check P0 300 10 (sPutRf k f a n v w r) [.call (sNameR k nm) [], .call (sRefOf k o) [], .br true, .call (sSigned f tf) [], .call (sSigned a ta) [], .call (sHasN k hn) [], .br true, .call (sSigned n tn) [], .call (sHasV k hv) [], .br false, .br false] = some [nm ++ [{ toBitVec := { toFin := ⟨(32 : Nat), Nat.mod_lt (32 : Nat) (BitVec.ofNat._proof_1 (8 : Nat))⟩ } }] ++ tf ++
              [{ toBitVec := { toFin := ⟨(46 : Nat), Nat.mod_lt (46 : Nat) (BitVec.ofNat._proof_1 (8 : Nat))⟩ } }] ++
            ta ++
          [{ toBitVec := { toFin := ⟨(32 : Nat), Nat.mod_lt (32 : Nat) (BitVec.ofNat._proof_1 (8 : Nat))⟩ } }] ++
        tn =
      r,
    (k == (9 : Int)) = false, hv = false, Spec.Holds P0 (sHasV k hv), k = k,
    List.length
          (nm ++ [{ toBitVec := { toFin := ⟨(32 : Nat), Nat.mod_lt (32 : Nat) (BitVec.ofNat._proof_1 (8 : Nat))⟩ } }] ++
                  tf ++
                [{ toBitVec := { toFin := ⟨(46 : Nat), Nat.mod_lt (46 : Nat) (BitVec.ofNat._proof_1 (8 : Nat))⟩ } }] ++
              ta ++
            [{ toBitVec := { toFin := ⟨(32 : Nat), Nat.mod_lt (32 : Nat) (BitVec.ofNat._proof_1 (8 : Nat))⟩ } }]) +
        List.length tn ≤
      (9223372036854775807 : Nat),
    Spec.Holds P0 (sSigned n tn), n = n,
    List.length
          (nm ++ [{ toBitVec := { toFin := ⟨(32 : Nat), Nat.mod_lt (32 : Nat) (BitVec.ofNat._proof_1 (8 : Nat))⟩ } }] ++
                tf ++
              [{ toBitVec := { toFin := ⟨(46 : Nat), Nat.mod_lt (46 : Nat) (BitVec.ofNat._proof_1 (8 : Nat))⟩ } }] ++
            ta) +
        (1 : Nat) ≤
      (9223372036854775807 : Nat),
    hn = true, Spec.Holds P0 (sHasN k hn), k = k, SV.str nm = SV.str nm, SV.str nm = SV.str nm,
    SV.str
        (nm ++ [{ toBitVec := { toFin := ⟨(32 : Nat), Nat.mod_lt (32 : Nat) (BitVec.ofNat._proof_1 (8 : Nat))⟩ } }]) =
      SV.str
        (nm ++ [{ toBitVec := { toFin := ⟨(32 : Nat), Nat.mod_lt (32 : Nat) (BitVec.ofNat._proof_1 (8 : Nat))⟩ } }]),
    List.length nm + (1 : Nat) ≤ (9223372036854775807 : Nat),
    SV.str
        (nm ++ [{ toBitVec := { toFin := ⟨(32 : Nat), Nat.mod_lt (32 : Nat) (BitVec.ofNat._proof_1 (8 : Nat))⟩ } }]) =
      SV.str
        (nm ++ [{ toBitVec := { toFin := ⟨(32 : Nat), Nat.mod_lt (32 : Nat) (BitVec.ofNat._proof_1 (8 : Nat))⟩ } }]),
    List.length nm + (1 : Nat) ≤ (9223372036854775807 : Nat),
    SV.str
        (nm ++ [{ toBitVec := { toFin := ⟨(32 : Nat), Nat.mod_lt (32 : Nat) (BitVec.ofNat._proof_1 (8 : Nat))⟩ } }] ++
          tf) =
      SV.str
        (nm ++ [{ toBitVec := { toFin := ⟨(32 : Nat), Nat.mod_lt (32 : Nat) (BitVec.ofNat._proof_1 (8 : Nat))⟩ } }] ++
          tf),
    List.length
          (nm ++ [{ toBitVec := { toFin := ⟨(32 : Nat), Nat.mod_lt (32 : Nat) (BitVec.ofNat._proof_1 (8 : Nat))⟩ } }]) +
        List.length tf ≤
      (9223372036854775807 : Nat),
    SV.str
        (nm ++ [{ toBitVec := { toFin := ⟨(32 : Nat), Nat.mod_lt (32 : Nat) (BitVec.ofNat._proof_1 (8 : Nat))⟩ } }] ++
            tf ++
          [{ toBitVec := { toFin := ⟨(46 : Nat), Nat.mod_lt (46 : Nat) (BitVec.ofNat._proof_1 (8 : Nat))⟩ } }]) =
      SV.str
        (nm ++ [{ toBitVec := { toFin := ⟨(32 : Nat), Nat.mod_lt (32 : Nat) (BitVec.ofNat._proof_1 (8 : Nat))⟩ } }] ++
            tf ++
          [{ toBitVec := { toFin := ⟨(46 : Nat), Nat.mod_lt (46 : Nat) (BitVec.ofNat._proof_1 (8 : Nat))⟩ } }]),
    List.length
          (nm ++ [{ toBitVec := { toFin := ⟨(32 : Nat), Nat.mod_lt (32 : Nat) (BitVec.ofNat._proof_1 (8 : Nat))⟩ } }] ++
            tf) +
        (1 : Nat) ≤
      (9223372036854775807 : Nat),
    SV.ptr (0 : Nat) (LN.l (0 : Nat)) (0 : Nat) (2 : Nat) = SV.ptr (0 : Nat) (LN.l (0 : Nat)) (0 : Nat) (2 : Nat),
    SV.int IntKind.i64 a = SV.int IntKind.i64 a,
    List.length
          (nm ++ [{ toBitVec := { toFin := ⟨(32 : Nat), Nat.mod_lt (32 : Nat) (BitVec.ofNat._proof_1 (8 : Nat))⟩ } }] ++
              tf ++
            [{ toBitVec := { toFin := ⟨(46 : Nat), Nat.mod_lt (46 : Nat) (BitVec.ofNat._proof_1 (8 : Nat))⟩ } }]) +
        List.length ta ≤
      (9223372036854775807 : Nat),
    Spec.Holds P0 (sSigned a ta), a = a,
    List.length
          (nm ++ [{ toBitVec := { toFin := ⟨(32 : Nat), Nat.mod_lt (32 : Nat) (BitVec.ofNat._proof_1 (8 : Nat))⟩ } }] ++
            tf) +
        (1 : Nat) ≤
      (9223372036854775807 : Nat),
    List.length
          (nm ++ [{ toBitVec := { toFin := ⟨(32 : Nat), Nat.mod_lt (32 : Nat) (BitVec.ofNat._proof_1 (8 : Nat))⟩ } }]) +
        List.length tf ≤
      (9223372036854775807 : Nat),
    Spec.Holds P0 (sSigned f tf), f = f, List.length nm + (1 : Nat) ≤ (9223372036854775807 : Nat),
    (o != (0 : Int)) = true, Spec.Holds P0 (sRefOf k o), k = k, Spec.Holds P0 (sNameR k nm), k = k] := by kernel_rfl

theorem putRfTFTT_c (k f a n v w o : Int) (hn hv : Bool) (nm tf ta tn tv tw r : List UInt8) : check P0 300 10 (sPutRf k f a n v w r) [.call (sNameR k nm) [], .call (sRefOf k o) [], .br true, .call (sSigned f tf) [], .call (sSigned a ta) [], .call (sHasN k hn) [], .br false, .call (sHasV k hv) [], .br true, .call (sDec v tv) [], .br true, .call (sDec w tw) []] = some [nm ++ [{ toBitVec := { toFin := ⟨(32 : Nat), Nat.mod_lt (32 : Nat) (BitVec.ofNat._proof_1 (8 : Nat))⟩ } }] ++ tf ++
                  [{
                      toBitVec :=
                        { toFin := ⟨(46 : Nat), Nat.mod_lt (46 : Nat) (BitVec.ofNat._proof_1 (8 : Nat))⟩ } }] ++
                ta ++
              [{ toBitVec := { toFin := ⟨(32 : Nat), Nat.mod_lt (32 : Nat) (BitVec.ofNat._proof_1 (8 : Nat))⟩ } }] ++
            tv ++
          [{ toBitVec := { toFin := ⟨(32 : Nat), Nat.mod_lt (32 : Nat) (BitVec.ofNat._proof_1 (8 : Nat))⟩ } }] ++
        tw =
      r,
    List.length
          (nm ++ [{ toBitVec := { toFin := ⟨(32 : Nat), Nat.mod_lt (32 : Nat) (BitVec.ofNat._proof_1 (8 : Nat))⟩ } }] ++
                      tf ++
                    [{
                        toBitVec :=
                          { toFin := ⟨(46 : Nat), Nat.mod_lt (46 : Nat) (BitVec.ofNat._proof_1 (8 : Nat))⟩ } }] ++
                  ta ++
                [{ toBitVec := { toFin := ⟨(32 : Nat), Nat.mod_lt (32 : Nat) (BitVec.ofNat._proof_1 (8 : Nat))⟩ } }] ++
              tv ++
            [{ toBitVec := { toFin := ⟨(32 : Nat), Nat.mod_lt (32 : Nat) (BitVec.ofNat._proof_1 (8 : Nat))⟩ } }]) +
        List.length tw ≤
      (9223372036854775807 : Nat),
    Spec.Holds P0 (sDec w tw), w = w,
    List.length
          (nm ++ [{ toBitVec := { toFin := ⟨(32 : Nat), Nat.mod_lt (32 : Nat) (BitVec.ofNat._proof_1 (8 : Nat))⟩ } }] ++
                    tf ++
                  [{
                      toBitVec :=
                        { toFin := ⟨(46 : Nat), Nat.mod_lt (46 : Nat) (BitVec.ofNat._proof_1 (8 : Nat))⟩ } }] ++
                ta ++
              [{ toBitVec := { toFin := ⟨(32 : Nat), Nat.mod_lt (32 : Nat) (BitVec.ofNat._proof_1 (8 : Nat))⟩ } }] ++
            tv) +
        (1 : Nat) ≤
      (9223372036854775807 : Nat),
    (k == (9 : Int)) = true,
    List.length
          (nm ++ [{ toBitVec := { toFin := ⟨(32 : Nat), Nat.mod_lt (32 : Nat) (BitVec.ofNat._proof_1 (8 : Nat))⟩ } }] ++
                  tf ++
                [{ toBitVec := { toFin := ⟨(46 : Nat), Nat.mod_lt (46 : Nat) (BitVec.ofNat._proof_1 (8 : Nat))⟩ } }] ++
              ta ++
            [{ toBitVec := { toFin := ⟨(32 : Nat), Nat.mod_lt (32 : Nat) (BitVec.ofNat._proof_1 (8 : Nat))⟩ } }]) +
        List.length tv ≤
      (9223372036854775807 : Nat),
    Spec.Holds P0 (sDec v tv), v = v,
    List.length
          (nm ++ [{ toBitVec := { toFin := ⟨(32 : Nat), Nat.mod_lt (32 : Nat) (BitVec.ofNat._proof_1 (8 : Nat))⟩ } }] ++
                tf ++
              [{ toBitVec := { toFin := ⟨(46 : Nat), Nat.mod_lt (46 : Nat) (BitVec.ofNat._proof_1 (8 : Nat))⟩ } }] ++
            ta) +
        (1 : Nat) ≤
      (9223372036854775807 : Nat),
    hv = true, Spec.Holds P0 (sHasV k hv), k = k, hn = false, Spec.Holds P0 (sHasN k hn), k = k, SV.str nm = SV.str nm,
    SV.str nm = SV.str nm,
    SV.str
        (nm ++ [{ toBitVec := { toFin := ⟨(32 : Nat), Nat.mod_lt (32 : Nat) (BitVec.ofNat._proof_1 (8 : Nat))⟩ } }]) =
      SV.str
        (nm ++ [{ toBitVec := { toFin := ⟨(32 : Nat), Nat.mod_lt (32 : Nat) (BitVec.ofNat._proof_1 (8 : Nat))⟩ } }]),
    List.length nm + (1 : Nat) ≤ (9223372036854775807 : Nat),
    SV.str
        (nm ++ [{ toBitVec := { toFin := ⟨(32 : Nat), Nat.mod_lt (32 : Nat) (BitVec.ofNat._proof_1 (8 : Nat))⟩ } }]) =
      SV.str
        (nm ++ [{ toBitVec := { toFin := ⟨(32 : Nat), Nat.mod_lt (32 : Nat) (BitVec.ofNat._proof_1 (8 : Nat))⟩ } }]),
    List.length nm + (1 : Nat) ≤ (9223372036854775807 : Nat),
    SV.str
        (nm ++ [{ toBitVec := { toFin := ⟨(32 : Nat), Nat.mod_lt (32 : Nat) (BitVec.ofNat._proof_1 (8 : Nat))⟩ } }] ++
          tf) =
      SV.str
        (nm ++ [{ toBitVec := { toFin := ⟨(32 : Nat), Nat.mod_lt (32 : Nat) (BitVec.ofNat._proof_1 (8 : Nat))⟩ } }] ++
          tf),
    List.length
          (nm ++ [{ toBitVec := { toFin := ⟨(32 : Nat), Nat.mod_lt (32 : Nat) (BitVec.ofNat._proof_1 (8 : Nat))⟩ } }]) +
        List.length tf ≤
      (9223372036854775807 : Nat),
    SV.str
        (nm ++ [{ toBitVec := { toFin := ⟨(32 : Nat), Nat.mod_lt (32 : Nat) (BitVec.ofNat._proof_1 (8 : Nat))⟩ } }] ++
            tf ++
          [{ toBitVec := { toFin := ⟨(46 : Nat), Nat.mod_lt (46 : Nat) (BitVec.ofNat._proof_1 (8 : Nat))⟩ } }]) =
      SV.str
        (nm ++ [{ toBitVec := { toFin := ⟨(32 : Nat), Nat.mod_lt (32 : Nat) (BitVec.ofNat._proof_1 (8 : Nat))⟩ } }] ++
            tf ++
          [{ toBitVec := { toFin := ⟨(46 : Nat), Nat.mod_lt (46 : Nat) (BitVec.ofNat._proof_1 (8 : Nat))⟩ } }]),
    List.length
          (nm ++ [{ toBitVec := { toFin := ⟨(32 : Nat), Nat.mod_lt (32 : Nat) (BitVec.ofNat._proof_1 (8 : Nat))⟩ } }] ++
            tf) +
        (1 : Nat) ≤
      (9223372036854775807 : Nat),
    SV.ptr (0 : Nat) (LN.l (0 : Nat)) (0 : Nat) (2 : Nat) = SV.ptr (0 : Nat) (LN.l (0 : Nat)) (0 : Nat) (2 : Nat),
    SV.int IntKind.i64 a = SV.int IntKind.i64 a,
    List.length
          (nm ++ [{ toBitVec := { toFin := ⟨(32 : Nat), Nat.mod_lt (32 : Nat) (BitVec.ofNat._proof_1 (8 : Nat))⟩ } }] ++
              tf ++
            [{ toBitVec := { toFin := ⟨(46 : Nat), Nat.mod_lt (46 : Nat) (BitVec.ofNat._proof_1 (8 : Nat))⟩ } }]) +
        List.length ta ≤
      (9223372036854775807 : Nat),
    Spec.Holds P0 (sSigned a ta), a = a,
    List.length
          (nm ++ [{ toBitVec := { toFin := ⟨(32 : Nat), Nat.mod_lt (32 : Nat) (BitVec.ofNat._proof_1 (8 : Nat))⟩ } }] ++
            tf) +
        (1 : Nat) ≤
      (9223372036854775807 : Nat),
    List.length
          (nm ++ [{ toBitVec := { toFin := ⟨(32 : Nat), Nat.mod_lt (32 : Nat) (BitVec.ofNat._proof_1 (8 : Nat))⟩ } }]) +
        List.length tf ≤
      (9223372036854775807 : Nat),
    Spec.Holds P0 (sSigned f tf), f = f, List.length nm + (1 : Nat) ≤ (9223372036854775807 : Nat),
    (o != (0 : Int)) = true, Spec.Holds P0 (sRefOf k o), k = k, Spec.Holds P0 (sNameR k nm), k = k] := by kernel_rfl

theorem putRfTFTF_c (k f a n v w o : Int) (hn hv : Bool) (nm tf ta tn tv tw r : List UInt8) : check P0 300 10 (sPutRf k f a n v w r) [.call (sNameR k nm) [], .call (sRefOf k o) [], .br true, .call (sSigned f tf) [], .call (sSigned a ta) [], .call (sHasN k hn) [], .br false, .call (sHasV k hv) [], .br true, .call (sDec v tv) [], .br false] = some [nm ++ [{ toBitVec := { toFin := ⟨(32 : Nat), Nat.mod_lt (32 : Nat) (BitVec.ofNat._proof_1 (8 : Nat))⟩ } }] ++ tf ++
              [{ toBitVec := { toFin := ⟨(46 : Nat), Nat.mod_lt (46 : Nat) (BitVec.ofNat._proof_1 (8 : Nat))⟩ } }] ++
            ta ++
          [{ toBitVec := { toFin := ⟨(32 : Nat), Nat.mod_lt (32 : Nat) (BitVec.ofNat._proof_1 (8 : Nat))⟩ } }] ++
        tv =
      r,
    (k == (9 : Int)) = false,
    List.length
          (nm ++ [{ toBitVec := { toFin := ⟨(32 : Nat), Nat.mod_lt (32 : Nat) (BitVec.ofNat._proof_1 (8 : Nat))⟩ } }] ++
                  tf ++
                [{ toBitVec := { toFin := ⟨(46 : Nat), Nat.mod_lt (46 : Nat) (BitVec.ofNat._proof_1 (8 : Nat))⟩ } }] ++
              ta ++
            [{ toBitVec := { toFin := ⟨(32 : Nat), Nat.mod_lt (32 : Nat) (BitVec.ofNat._proof_1 (8 : Nat))⟩ } }]) +
        List.length tv ≤
      (9223372036854775807 : Nat),
    Spec.Holds P0 (sDec v tv), v = v,
    List.length
          (nm ++ [{ toBitVec := { toFin := ⟨(32 : Nat), Nat.mod_lt (32 : Nat) (BitVec.ofNat._proof_1 (8 : Nat))⟩ } }] ++
                tf ++
              [{ toBitVec := { toFin := ⟨(46 : Nat), Nat.mod_lt (46 : Nat) (BitVec.ofNat._proof_1 (8 : Nat))⟩ } }] ++
            ta) +
        (1 : Nat) ≤
      (9223372036854775807 : Nat),
    hv = true, Spec.Holds P0 (sHasV k hv), k = k, hn = false, Spec.Holds P0 (sHasN k hn), k = k, SV.str nm = SV.str nm,
    SV.str nm = SV.str nm,
    SV.str
        (nm ++ [{ toBitVec := { toFin := ⟨(32 : Nat), Nat.mod_lt (32 : Nat) (BitVec.ofNat._proof_1 (8 : Nat))⟩ } }]) =
      SV.str
        (nm ++ [{ toBitVec := { toFin := ⟨(32 : Nat), Nat.mod_lt (32 : Nat) (BitVec.ofNat._proof_1 (8 : Nat))⟩ } }]),
    List.length nm + (1 : Nat) ≤ (9223372036854775807 : Nat),
    SV.str
        (nm ++ [{ toBitVec := { toFin := ⟨(32 : Nat), Nat.mod_lt (32 : Nat) (BitVec.ofNat._proof_1 (8 : Nat))⟩ } }]) =
      SV.str
        (nm ++ [{ toBitVec := { toFin := ⟨(32 : Nat), Nat.mod_lt (32 : Nat) (BitVec.ofNat._proof_1 (8 : Nat))⟩ } }]),
    List.length nm + (1 : Nat) ≤ (9223372036854775807 : Nat),
    SV.str
        (nm ++ [{ toBitVec := { toFin := ⟨(32 : Nat), Nat.mod_lt (32 : Nat) (BitVec.ofNat._proof_1 (8 : Nat))⟩ } }] ++
          tf) =
      SV.str
        (nm ++ [{ toBitVec := { toFin := ⟨(32 : Nat), Nat.mod_lt (32 : Nat) (BitVec.ofNat._proof_1 (8 : Nat))⟩ } }] ++
          tf),
    List.length
          (nm ++ [{ toBitVec := { toFin := ⟨(32 : Nat), Nat.mod_lt (32 : Nat) (BitVec.ofNat._proof_1 (8 : Nat))⟩ } }]) +
        List.length tf ≤
      (9223372036854775807 : Nat),
    SV.str
        (nm ++ [{ toBitVec := { toFin := ⟨(32 : Nat), Nat.mod_lt (32 : Nat) (BitVec.ofNat._proof_1 (8 : Nat))⟩ } }] ++
            tf ++
          [{ toBitVec := { toFin := ⟨(46 : Nat), Nat.mod_lt (46 : Nat) (BitVec.ofNat._proof_1 (8 : Nat))⟩ } }]) =
      SV.str
        (nm ++ [{ toBitVec := { toFin := ⟨(32 : Nat), Nat.mod_lt (32 : Nat) (BitVec.ofNat._proof_1 (8 : Nat))⟩ } }] ++
            tf ++
          [{ toBitVec := { toFin := ⟨(46 : Nat), Nat.mod_lt (46 : Nat) (BitVec.ofNat._proof_1 (8 : Nat))⟩ } }]),
    List.length
          (nm ++ [{ toBitVec := { toFin := ⟨(32 : Nat), Nat.mod_lt (32 : Nat) (BitVec.ofNat._proof_1 (8 : Nat))⟩ } }] ++
            tf) +
        (1 : Nat) ≤
      (9223372036854775807 : Nat),
    SV.ptr (0 : Nat) (LN.l (0 : Nat)) (0 : Nat) (2 : Nat) = SV.ptr (0 : Nat) (LN.l (0 : Nat)) (0 : Nat) (2 : Nat),
    SV.int IntKind.i64 a = SV.int IntKind.i64 a,
    List.length
          (nm ++ [{ toBitVec := { toFin := ⟨(32 : Nat), Nat.mod_lt (32 : Nat) (BitVec.ofNat._proof_1 (8 : Nat))⟩ } }] ++
              tf ++
            [{ toBitVec := { toFin := ⟨(46 : Nat), Nat.mod_lt (46 : Nat) (BitVec.ofNat._proof_1 (8 : Nat))⟩ } }]) +
        List.length ta ≤
      (9223372036854775807 : Nat),
    Spec.Holds P0 (sSigned a ta), a = a,
    List.length
          (nm ++ [{ toBitVec := { toFin := ⟨(32 : Nat), Nat.mod_lt (32 : Nat) (BitVec.ofNat._proof_1 (8 : Nat))⟩ } }] ++
            tf) +
        (1 : Nat) ≤
      (9223372036854775807 : Nat),
    List.length
          (nm ++ [{ toBitVec := { toFin := ⟨(32 : Nat), Nat.mod_lt (32 : Nat) (BitVec.ofNat._proof_1 (8 : Nat))⟩ } }]) +
        List.length tf ≤
      (9223372036854775807 : Nat),
    Spec.Holds P0 (sSigned f tf), f = f, List.length nm + (1 : Nat) ≤ (9223372036854775807 : Nat),
    (o != (0 : Int)) = true, Spec.Holds P0 (sRefOf k o), k = k, Spec.Holds P0 (sNameR k nm), k = k] := by kernel_rfl

theorem putRfTFFF_c (k f a n v w o : Int) (hn hv : Bool) (nm tf ta tn tv tw r : List UInt8) : check P0 300 10 (sPutRf k f a n v w r) [.call (sNameR k nm) [], .call (sRefOf k o) [], .br true, .call (sSigned f tf) [], .call (sSigned a ta) [], .call (sHasN k hn) [], .br false, .call (sHasV k hv) [], .br false, .br false] = some [nm ++ [{ toBitVec := { toFin := ⟨(32 : Nat), Nat.mod_lt (32 : Nat) (BitVec.ofNat._proof_1 (8 : Nat))⟩ } }] ++ tf ++
          [{ toBitVec := { toFin := ⟨(46 : Nat), Nat.mod_lt (46 : Nat) (BitVec.ofNat._proof_1 (8 : Nat))⟩ } }] ++
        ta =
      r,
    (k == (9 : Int)) = false, hv = false, Spec.Holds P0 (sHasV k hv), k = k, hn = false, Spec.Holds P0 (sHasN k hn),
    k = k, SV.str nm = SV.str nm, SV.str nm = SV.str nm,
    SV.str
        (nm ++ [{ toBitVec := { toFin := ⟨(32 : Nat), Nat.mod_lt (32 : Nat) (BitVec.ofNat._proof_1 (8 : Nat))⟩ } }]) =
      SV.str
        (nm ++ [{ toBitVec := { toFin := ⟨(32 : Nat), Nat.mod_lt (32 : Nat) (BitVec.ofNat._proof_1 (8 : Nat))⟩ } }]),
    List.length nm + (1 : Nat) ≤ (9223372036854775807 : Nat),
    SV.str
        (nm ++ [{ toBitVec := { toFin := ⟨(32 : Nat), Nat.mod_lt (32 : Nat) (BitVec.ofNat._proof_1 (8 : Nat))⟩ } }]) =
      SV.str
        (nm ++ [{ toBitVec := { toFin := ⟨(32 : Nat), Nat.mod_lt (32 : Nat) (BitVec.ofNat._proof_1 (8 : Nat))⟩ } }]),
    List.length nm + (1 : Nat) ≤ (9223372036854775807 : Nat),
    SV.str
        (nm ++ [{ toBitVec := { toFin := ⟨(32 : Nat), Nat.mod_lt (32 : Nat) (BitVec.ofNat._proof_1 (8 : Nat))⟩ } }] ++
          tf) =
      SV.str
        (nm ++ [{ toBitVec := { toFin := ⟨(32 : Nat), Nat.mod_lt (32 : Nat) (BitVec.ofNat._proof_1 (8 : Nat))⟩ } }] ++
          tf),
    List.length
          (nm ++ [{ toBitVec := { toFin := ⟨(32 : Nat), Nat.mod_lt (32 : Nat) (BitVec.ofNat._proof_1 (8 : Nat))⟩ } }]) +
        List.length tf ≤
      (9223372036854775807 : Nat),
    SV.str
        (nm ++ [{ toBitVec := { toFin := ⟨(32 : Nat), Nat.mod_lt (32 : Nat) (BitVec.ofNat._proof_1 (8 : Nat))⟩ } }] ++
            tf ++
          [{ toBitVec := { toFin := ⟨(46 : Nat), Nat.mod_lt (46 : Nat) (BitVec.ofNat._proof_1 (8 : Nat))⟩ } }]) =
      SV.str
        (nm ++ [{ toBitVec := { toFin := ⟨(32 : Nat), Nat.mod_lt (32 : Nat) (BitVec.ofNat._proof_1 (8 : Nat))⟩ } }] ++
            tf ++
          [{ toBitVec := { toFin := ⟨(46 : Nat), Nat.mod_lt (46 : Nat) (BitVec.ofNat._proof_1 (8 : Nat))⟩ } }]),
    List.length
          (nm ++ [{ toBitVec := { toFin := ⟨(32 : Nat), Nat.mod_lt (32 : Nat) (BitVec.ofNat._proof_1 (8 : Nat))⟩ } }] ++
            tf) +
        (1 : Nat) ≤
      (9223372036854775807 : Nat),
    SV.ptr (0 : Nat) (LN.l (0 : Nat)) (0 : Nat) (2 : Nat) = SV.ptr (0 : Nat) (LN.l (0 : Nat)) (0 : Nat) (2 : Nat),
    SV.int IntKind.i64 a = SV.int IntKind.i64 a,
    List.length
          (nm ++ [{ toBitVec := { toFin := ⟨(32 : Nat), Nat.mod_lt (32 : Nat) (BitVec.ofNat._proof_1 (8 : Nat))⟩ } }] ++
              tf ++
            [{ toBitVec := { toFin := ⟨(46 : Nat), Nat.mod_lt (46 : Nat) (BitVec.ofNat._proof_1 (8 : Nat))⟩ } }]) +
        List.length ta ≤
      (9223372036854775807 : Nat),
    Spec.Holds P0 (sSigned a ta), a = a,
    List.length
          (nm ++ [{ toBitVec := { toFin := ⟨(32 : Nat), Nat.mod_lt (32 : Nat) (BitVec.ofNat._proof_1 (8 : Nat))⟩ } }] ++
            tf) +
        (1 : Nat) ≤
      (9223372036854775807 : Nat),
    List.length
          (nm ++ [{ toBitVec := { toFin := ⟨(32 : Nat), Nat.mod_lt (32 : Nat) (BitVec.ofNat._proof_1 (8 : Nat))⟩ } }]) +
        List.length tf ≤
      (9223372036854775807 : Nat),
    Spec.Holds P0 (sSigned f tf), f = f, List.length nm + (1 : Nat) ≤ (9223372036854775807 : Nat),
    (o != (0 : Int)) = true, Spec.Holds P0 (sRefOf k o), k = k, Spec.Holds P0 (sNameR k nm), k = k] := by kernel_rfl

theorem putRfFTTT_c (k f a n v w o : Int) (hn hv : Bool) (nm tf ta tn tv tw r : List UInt8) : check P0 300 10 (sPutRf k f a n v w r) [.call (sNameR k nm) [], .call (sRefOf k o) [], .br false, .call (sHasN k hn) [], .br true, .call (sSigned n tn) [], .call (sHasV k hv) [], .br true, .call (sDec v tv) [], .br true, .call (sDec w tw) []] = some [nm ++ [{ toBitVec := { toFin := ⟨(32 : Nat), Nat.mod_lt (32 : Nat) (BitVec.ofNat._proof_1 (8 : Nat))⟩ } }] ++ tn ++
              [{ toBitVec := { toFin := ⟨(32 : Nat), Nat.mod_lt (32 : Nat) (BitVec.ofNat._proof_1 (8 : Nat))⟩ } }] ++
            tv ++
          [{ toBitVec := { toFin := ⟨(32 : Nat), Nat.mod_lt (32 : Nat) (BitVec.ofNat._proof_1 (8 : Nat))⟩ } }] ++
        tw =
      r,
    List.length
          (nm ++ [{ toBitVec := { toFin := ⟨(32 : Nat), Nat.mod_lt (32 : Nat) (BitVec.ofNat._proof_1 (8 : Nat))⟩ } }] ++
                  tn ++
                [{ toBitVec := { toFin := ⟨(32 : Nat), Nat.mod_lt (32 : Nat) (BitVec.ofNat._proof_1 (8 : Nat))⟩ } }] ++
              tv ++
            [{ toBitVec := { toFin := ⟨(32 : Nat), Nat.mod_lt (32 : Nat) (BitVec.ofNat._proof_1 (8 : Nat))⟩ } }]) +
        List.length tw ≤
      (9223372036854775807 : Nat),
    Spec.Holds P0 (sDec w tw), w = w,
    List.length
          (nm ++ [{ toBitVec := { toFin := ⟨(32 : Nat), Nat.mod_lt (32 : Nat) (BitVec.ofNat._proof_1 (8 : Nat))⟩ } }] ++
                tn ++
              [{ toBitVec := { toFin := ⟨(32 : Nat), Nat.mod_lt (32 : Nat) (BitVec.ofNat._proof_1 (8 : Nat))⟩ } }] ++
            tv) +
        (1 : Nat) ≤
      (9223372036854775807 : Nat),
    (k == (9 : Int)) = true,
    List.length
          (nm ++ [{ toBitVec := { toFin := ⟨(32 : Nat), Nat.mod_lt (32 : Nat) (BitVec.ofNat._proof_1 (8 : Nat))⟩ } }] ++
              tn ++
            [{ toBitVec := { toFin := ⟨(32 : Nat), Nat.mod_lt (32 : Nat) (BitVec.ofNat._proof_1 (8 : Nat))⟩ } }]) +
        List.length tv ≤
      (9223372036854775807 : Nat),
    Spec.Holds P0 (sDec v tv), v = v,
    List.length
          (nm ++ [{ toBitVec := { toFin := ⟨(32 : Nat), Nat.mod_lt (32 : Nat) (BitVec.ofNat._proof_1 (8 : Nat))⟩ } }] ++
            tn) +
        (1 : Nat) ≤
      (9223372036854775807 : Nat),
    hv = true, Spec.Holds P0 (sHasV k hv), k = k,
    List.length
          (nm ++ [{ toBitVec := { toFin := ⟨(32 : Nat), Nat.mod_lt (32 : Nat) (BitVec.ofNat._proof_1 (8 : Nat))⟩ } }]) +
        List.length tn ≤
      (9223372036854775807 : Nat),
    Spec.Holds P0 (sSigned n tn), n = n, List.length nm + (1 : Nat) ≤ (9223372036854775807 : Nat), hn = true,
    Spec.Holds P0 (sHasN k hn), k = k, (o != (0 : Int)) = false, Spec.Holds P0 (sRefOf k o), k = k,
    Spec.Holds P0 (sNameR k nm), k = k] := by kernel_rfl

theorem putRfFTTF_c (k f a n v w o : Int) (hn hv : Bool) (nm tf ta tn tv tw r : List UInt8) : check P0 300 10 (sPutRf k f a n v w r) [.call (sNameR k nm) [], .call (sRefOf k o) [], .br false, .call (sHasN k hn) [], .br true, .call (sSigned n tn) [], .call (sHasV k hv) [], .br true, .call (sDec v tv) [], .br false] = some [nm ++ [{ toBitVec := { toFin := ⟨(32 : Nat), Nat.mod_lt (32 : Nat) (BitVec.ofNat._proof_1 (8 : Nat))⟩ } }] ++ tn ++
          [{ toBitVec := { toFin := ⟨(32 : Nat), Nat.mod_lt (32 : Nat) (BitVec.ofNat._proof_1 (8 : Nat))⟩ } }] ++
        tv =
      r,
    (k == (9 : Int)) = false,
    List.length
          (nm ++ [{ toBitVec := { toFin := ⟨(32 : Nat), Nat.mod_lt (32 : Nat) (BitVec.ofNat._proof_1 (8 : Nat))⟩ } }] ++
              tn ++
            [{ toBitVec := { toFin := ⟨(32 : Nat), Nat.mod_lt (32 : Nat) (BitVec.ofNat._proof_1 (8 : Nat))⟩ } }]) +
        List.length tv ≤
      (9223372036854775807 : Nat),
    Spec.Holds P0 (sDec v tv), v = v,
    List.length
          (nm ++ [{ toBitVec := { toFin := ⟨(32 : Nat), Nat.mod_lt (32 : Nat) (BitVec.ofNat._proof_1 (8 : Nat))⟩ } }] ++
            tn) +
        (1 : Nat) ≤
      (9223372036854775807 : Nat),
    hv = true, Spec.Holds P0 (sHasV k hv), k = k,
    List.length
          (nm ++ [{ toBitVec := { toFin := ⟨(32 : Nat), Nat.mod_lt (32 : Nat) (BitVec.ofNat._proof_1 (8 : Nat))⟩ } }]) +
        List.length tn ≤
      (9223372036854775807 : Nat),
    Spec.Holds P0 (sSigned n tn), n = n, List.length nm + (1 : Nat) ≤ (9223372036854775807 : Nat), hn = true,
    Spec.Holds P0 (sHasN k hn), k = k, (o != (0 : Int)) = false, Spec.Holds P0 (sRefOf k o), k = k,
    Spec.Holds P0 (sNameR k nm), k = k] := by kernel_rfl

theorem putRfFTFF_c (k f a n v w o : Int) (hn hv : Bool) (nm tf ta tn tv tw r : List UInt8) : check P0 300 10 (sPutRf k f a n v w r) [.call (sNameR k nm) [], .call (sRefOf k o) [], .br false, .call (sHasN k hn) [], .br true, .call (sSigned n tn) [], .call (sHasV k hv) [], .br false, .br false] = some [nm ++ [{ toBitVec := { toFin := ⟨(32 : Nat), Nat.mod_lt (32 : Nat) (BitVec.ofNat._proof_1 (8 : Nat))⟩ } }] ++ tn = r,
    (k == (9 : Int)) = false, hv = false, Spec.Holds P0 (sHasV k hv), k = k,
    List.length
          (nm ++ [{ toBitVec := { toFin := ⟨(32 : Nat), Nat.mod_lt (32 : Nat) (BitVec.ofNat._proof_1 (8 : Nat))⟩ } }]) +
        List.length tn ≤
      (9223372036854775807 : Nat),
    Spec.Holds P0 (sSigned n tn), n = n, List.length nm + (1 : Nat) ≤ (9223372036854775807 : Nat), hn = true,
    Spec.Holds P0 (sHasN k hn), k = k, (o != (0 : Int)) = false, Spec.Holds P0 (sRefOf k o), k = k,
    Spec.Holds P0 (sNameR k nm), k = k] := by kernel_rfl

theorem putRfFFTT_c (k f a n v w o : Int) (hn hv : Bool) (nm tf ta tn tv tw r : List UInt8) : check P0 300 10 (sPutRf k f a n v w r) [.call (sNameR k nm) [], .call (sRefOf k o) [], .br false, .call (sHasN k hn) [], .br false, .call (sHasV k hv) [], .br true, .call (sDec v tv) [], .br true, .call (sDec w tw) []] = some [nm ++ [{ toBitVec := { toFin := ⟨(32 : Nat), Nat.mod_lt (32 : Nat) (BitVec.ofNat._proof_1 (8 : Nat))⟩ } }] ++ tv ++
          [{ toBitVec := { toFin := ⟨(32 : Nat), Nat.mod_lt (32 : Nat) (BitVec.ofNat._proof_1 (8 : Nat))⟩ } }] ++
        tw =
      r,
    List.length
          (nm ++ [{ toBitVec := { toFin := ⟨(32 : Nat), Nat.mod_lt (32 : Nat) (BitVec.ofNat._proof_1 (8 : Nat))⟩ } }] ++
              tv ++
            [{ toBitVec := { toFin := ⟨(32 : Nat), Nat.mod_lt (32 : Nat) (BitVec.ofNat._proof_1 (8 : Nat))⟩ } }]) +
        List.length tw ≤
      (9223372036854775807 : Nat),
    Spec.Holds P0 (sDec w tw), w = w,
    List.length
          (nm ++ [{ toBitVec := { toFin := ⟨(32 : Nat), Nat.mod_lt (32 : Nat) (BitVec.ofNat._proof_1 (8 : Nat))⟩ } }] ++
            tv) +
        (1 : Nat) ≤
      (9223372036854775807 : Nat),
    (k == (9 : Int)) = true,
    List.length
          (nm ++ [{ toBitVec := { toFin := ⟨(32 : Nat), Nat.mod_lt (32 : Nat) (BitVec.ofNat._proof_1 (8 : Nat))⟩ } }]) +
        List.length tv ≤
      (9223372036854775807 : Nat),
    Spec.Holds P0 (sDec v tv), v = v, List.length nm + (1 : Nat) ≤ (9223372036854775807 : Nat), hv = true,
    Spec.Holds P0 (sHasV k hv), k = k, hn = false, Spec.Holds P0 (sHasN k hn), k = k, (o != (0 : Int)) = false,
    Spec.Holds P0 (sRefOf k o), k = k, Spec.Holds P0 (sNameR k nm), k = k] := by kernel_rfl

theorem putRfFFTF_c (k f a n v w o : Int) (hn hv : Bool) (nm tf ta tn tv tw r : List UInt8) : check P0 300 10 (sPutRf k f a n v w r) [.call (sNameR k nm) [], .call (sRefOf k o) [], .br false, .call (sHasN k hn) [], .br false, .call (sHasV k hv) [], .br true, .call (sDec v tv) [], .br false] = some [nm ++ [{ toBitVec := { toFin := ⟨(32 : Nat), Nat.mod_lt (32 : Nat) (BitVec.ofNat._proof_1 (8 : Nat))⟩ } }] ++ tv = r,
    (k == (9 : Int)) = false,
    List.length
          (nm ++ [{ toBitVec := { toFin := ⟨(32 : Nat), Nat.mod_lt (32 : Nat) (BitVec.ofNat._proof_1 (8 : Nat))⟩ } }]) +
        List.length tv ≤
      (9223372036854775807 : Nat),
    Spec.Holds P0 (sDec v tv), v = v, List.length nm + (1 : Nat) ≤ (9223372036854775807 : Nat), hv = true,
    Spec.Holds P0 (sHasV k hv), k = k, hn = false, Spec.Holds P0 (sHasN k hn), k = k, (o != (0 : Int)) = false,
    Spec.Holds P0 (sRefOf k o), k = k, Spec.Holds P0 (sNameR k nm), k = k] := by kernel_rfl

theorem putRfFFFF_c (k f a n v w o : Int) (hn hv : Bool) (nm tf ta tn tv tw r : List UInt8) : check P0 300 10 (sPutRf k f a n v w r) [.call (sNameR k nm) [], .call (sRefOf k o) [], .br false, .call (sHasN k hn) [], .br false, .call (sHasV k hv) [], .br false, .br false] = some [nm = r, (k == (9 : Int)) = false, hv = false, Spec.Holds P0 (sHasV k hv), k = k, hn = false,
    Spec.Holds P0 (sHasN k hn), k = k, (o != (0 : Int)) = false, Spec.Holds P0 (sRefOf k o), k = k,
    Spec.Holds P0 (sNameR k nm), k = k] := by kernel_rfl

theorem mayRAm2_c (k f a n v w o : Int) (b bn b1 b2 bv b4 b5 : Bool) : check P0 300 10 (sMayR k f a n v w b) [.br true, .call (sInR k 1 12 b1) [], .br false, .call (sInR n 0 3 b2) [], .br true] = some [false = b, (!b2) = true, Spec.Holds P0 (sInR n (0 : Int) (3 : Int) b2), n = n, (0 : Int) = (0 : Int),
    (3 : Int) = (3 : Int), (!b1) = false, Spec.Holds P0 (sInR k (1 : Int) (12 : Int) b1), k = k, (1 : Int) = (1 : Int),
    (12 : Int) = (12 : Int), (k == (1 : Int)) = true] := by kernel_rfl

theorem mayRAm3_c (k f a n v w o : Int) (b bn b1 b2 bv b4 b5 : Bool) : check P0 300 10 (sMayR k f a n v w b) [.br true, .call (sInR k 1 12 b1) [], .br false, .call (sInR n 0 3 b2) [], .br false, .call (sHasV k bv) [], .br true, .br true] = some [false = b, (v != (0 : Int)) = true, (!bv) = true, Spec.Holds P0 (sHasV k bv), k = k, (!b2) = false,
    Spec.Holds P0 (sInR n (0 : Int) (3 : Int) b2), n = n, (0 : Int) = (0 : Int), (3 : Int) = (3 : Int), (!b1) = false,
    Spec.Holds P0 (sInR k (1 : Int) (12 : Int) b1), k = k, (1 : Int) = (1 : Int), (12 : Int) = (12 : Int),
    (k == (1 : Int)) = true] := by kernel_rfl

theorem mayRAm4_c (k f a n v w o : Int) (b bn b1 b2 bv b4 b5 : Bool) : check P0 300 10 (sMayR k f a n v w b) [.br true, .call (sInR k 1 12 b1) [], .br false, .call (sInR n 0 3 b2) [], .br false, .call (sHasV k bv) [], .br true, .br false, .br true, .br true] = some [false = b, (w != (0 : Int)) = true, (k != (9 : Int)) = true, (v != (0 : Int)) = false, (!bv) = true,
    Spec.Holds P0 (sHasV k bv), k = k, (!b2) = false, Spec.Holds P0 (sInR n (0 : Int) (3 : Int) b2), n = n,
    (0 : Int) = (0 : Int), (3 : Int) = (3 : Int), (!b1) = false, Spec.Holds P0 (sInR k (1 : Int) (12 : Int) b1), k = k,
    (1 : Int) = (1 : Int), (12 : Int) = (12 : Int), (k == (1 : Int)) = true] := by kernel_rfl

theorem mayRAm5t1_c (k f a n v w o : Int) (b bn b1 b2 bv b4 b5 : Bool) : check P0 300 10 (sMayR k f a n v w b) [.br true, .call (sInR k 1 12 b1) [], .br false, .call (sInR n 0 3 b2) [], .br false, .call (sHasV k bv) [], .br true, .br false, .br true, .br false, .call (sRefOf k o) [], .br true, .br false] = some [false = b, (f == (0 : Int)) = false, (o == (0 : Int)) = true, Spec.Holds P0 (sRefOf k o), k = k,
    (w != (0 : Int)) = false, (k != (9 : Int)) = true, (v != (0 : Int)) = false, (!bv) = true,
    Spec.Holds P0 (sHasV k bv), k = k, (!b2) = false, Spec.Holds P0 (sInR n (0 : Int) (3 : Int) b2), n = n,
    (0 : Int) = (0 : Int), (3 : Int) = (3 : Int), (!b1) = false, Spec.Holds P0 (sInR k (1 : Int) (12 : Int) b1), k = k,
    (1 : Int) = (1 : Int), (12 : Int) = (12 : Int), (k == (1 : Int)) = true] := by kernel_rfl

theorem mayRAm5t2_c (k f a n v w o : Int) (b bn b1 b2 bv b4 b5 : Bool) : check P0 300 10 (sMayR k f a n v w b) [.br true, .call (sInR k 1 12 b1) [], .br false, .call (sInR n 0 3 b2) [], .br false, .call (sHasV k bv) [], .br true, .br false, .br true, .br false, .call (sRefOf k o) [], .br true, .br true] = some [(a == (0 : Int)) = b, (f == (0 : Int)) = true, (o == (0 : Int)) = true, Spec.Holds P0 (sRefOf k o), k = k,
    (w != (0 : Int)) = false, (k != (9 : Int)) = true, (v != (0 : Int)) = false, (!bv) = true,
    Spec.Holds P0 (sHasV k bv), k = k, (!b2) = false, Spec.Holds P0 (sInR n (0 : Int) (3 : Int) b2), n = n,
    (0 : Int) = (0 : Int), (3 : Int) = (3 : Int), (!b1) = false, Spec.Holds P0 (sInR k (1 : Int) (12 : Int) b1), k = k,
    (1 : Int) = (1 : Int), (12 : Int) = (12 : Int), (k == (1 : Int)) = true] := by kernel_rfl

theorem mayRNm2_c (k f a n v w o : Int) (b bn b1 b2 bv b4 b5 : Bool) : check P0 300 10 (sMayR k f a n v w b) [.br false, .call (sHasN k bn) [], .br true, .call (sInR k 1 12 b1) [], .br false, .call (sInR n 0 65535 b2) [], .br true] = some [false = b, (!b2) = true, Spec.Holds P0 (sInR n (0 : Int) (65535 : Int) b2), n = n, (0 : Int) = (0 : Int),
    (65535 : Int) = (65535 : Int), (!b1) = false, Spec.Holds P0 (sInR k (1 : Int) (12 : Int) b1), k = k,
    (1 : Int) = (1 : Int), (12 : Int) = (12 : Int), bn = true, Spec.Holds P0 (sHasN k bn), k = k,
    (k == (1 : Int)) = false] := by kernel_rfl

theorem mayRNm3_c (k f a n v w o : Int) (b bn b1 b2 bv b4 b5 : Bool) : check P0 300 10 (sMayR k f a n v w b) [.br false, .call (sHasN k bn) [], .br true, .call (sInR k 1 12 b1) [], .br false, .call (sInR n 0 65535 b2) [], .br false, .call (sHasV k bv) [], .br true, .br true] = some [false = b, (v != (0 : Int)) = true, (!bv) = true, Spec.Holds P0 (sHasV k bv), k = k, (!b2) = false,
    Spec.Holds P0 (sInR n (0 : Int) (65535 : Int) b2), n = n, (0 : Int) = (0 : Int), (65535 : Int) = (65535 : Int),
    (!b1) = false, Spec.Holds P0 (sInR k (1 : Int) (12 : Int) b1), k = k, (1 : Int) = (1 : Int),
    (12 : Int) = (12 : Int), bn = true, Spec.Holds P0 (sHasN k bn), k = k, (k == (1 : Int)) = false] := by kernel_rfl

theorem mayRNm4_c (k f a n v w o : Int) (b bn b1 b2 bv b4 b5 : Bool) : check P0 300 10 (sMayR k f a n v w b) [.br false, .call (sHasN k bn) [], .br true, .call (sInR k 1 12 b1) [], .br false, .call (sInR n 0 65535 b2) [], .br false, .call (sHasV k bv) [], .br true, .br false, .br true, .br true] = some [false = b, (w != (0 : Int)) = true, (k != (9 : Int)) = true, (v != (0 : Int)) = false, (!bv) = true,
    Spec.Holds P0 (sHasV k bv), k = k, (!b2) = false, Spec.Holds P0 (sInR n (0 : Int) (65535 : Int) b2), n = n,
    (0 : Int) = (0 : Int), (65535 : Int) = (65535 : Int), (!b1) = false, Spec.Holds P0 (sInR k (1 : Int) (12 : Int) b1),
    k = k, (1 : Int) = (1 : Int), (12 : Int) = (12 : Int), bn = true, Spec.Holds P0 (sHasN k bn), k = k,
    (k == (1 : Int)) = false] := by kernel_rfl

theorem mayRNm5t3_c (k f a n v w o : Int) (b bn b1 b2 bv b4 b5 : Bool) : check P0 300 10 (sMayR k f a n v w b) [.br false, .call (sHasN k bn) [], .br true, .call (sInR k 1 12 b1) [], .br false, .call (sInR n 0 65535 b2) [], .br false, .call (sHasV k bv) [], .br true, .br false, .br true, .br false, .call (sRefOf k o) [], .br false, .call (sInR f 0 63 b4) [], .br false] = some [false = b, b4 = false, Spec.Holds P0 (sInR f (0 : Int) (63 : Int) b4), f = f, (0 : Int) = (0 : Int),
    (63 : Int) = (63 : Int), (o == (0 : Int)) = false, Spec.Holds P0 (sRefOf k o), k = k, (w != (0 : Int)) = false,
    (k != (9 : Int)) = true, (v != (0 : Int)) = false, (!bv) = true, Spec.Holds P0 (sHasV k bv), k = k, (!b2) = false,
    Spec.Holds P0 (sInR n (0 : Int) (65535 : Int) b2), n = n, (0 : Int) = (0 : Int), (65535 : Int) = (65535 : Int),
    (!b1) = false, Spec.Holds P0 (sInR k (1 : Int) (12 : Int) b1), k = k, (1 : Int) = (1 : Int),
    (12 : Int) = (12 : Int), bn = true, Spec.Holds P0 (sHasN k bn), k = k, (k == (1 : Int)) = false] := by kernel_rfl

theorem mayRNm5t4_c (k f a n v w o : Int) (b bn b1 b2 bv b4 b5 : Bool) : check P0 300 10 (sMayR k f a n v w b) [.br false, .call (sHasN k bn) [], .br true, .call (sInR k 1 12 b1) [], .br false, .call (sInR n 0 65535 b2) [], .br false, .call (sHasV k bv) [], .br true, .br false, .br true, .br false, .call (sRefOf k o) [], .br false, .call (sInR f 0 63 b4) [], .br true, .call (sInR a 0 999 b5) []] = some [b5 = b, Spec.Holds P0 (sInR a (0 : Int) (999 : Int) b5), a = a, (0 : Int) = (0 : Int), (999 : Int) = (999 : Int),
    b4 = true, Spec.Holds P0 (sInR f (0 : Int) (63 : Int) b4), f = f, (0 : Int) = (0 : Int), (63 : Int) = (63 : Int),
    (o == (0 : Int)) = false, Spec.Holds P0 (sRefOf k o), k = k, (w != (0 : Int)) = false, (k != (9 : Int)) = true,
    (v != (0 : Int)) = false, (!bv) = true, Spec.Holds P0 (sHasV k bv), k = k, (!b2) = false,
    Spec.Holds P0 (sInR n (0 : Int) (65535 : Int) b2), n = n, (0 : Int) = (0 : Int), (65535 : Int) = (65535 : Int),
    (!b1) = false, Spec.Holds P0 (sInR k (1 : Int) (12 : Int) b1), k = k, (1 : Int) = (1 : Int),
    (12 : Int) = (12 : Int), bn = true, Spec.Holds P0 (sHasN k bn), k = k, (k == (1 : Int)) = false] := by kernel_rfl

theorem mayRNm6t3_c (k f a n v w o : Int) (b bn b1 b2 bv b4 b5 : Bool) : check P0 300 10 (sMayR k f a n v w b) [.br false, .call (sHasN k bn) [], .br true, .call (sInR k 1 12 b1) [], .br false, .call (sInR n 0 65535 b2) [], .br false, .call (sHasV k bv) [], .br false, .br false, .call (sRefOf k o) [], .br false, .call (sInR f 0 63 b4) [], .br false] = some [false = b, b4 = false, Spec.Holds P0 (sInR f (0 : Int) (63 : Int) b4), f = f, (0 : Int) = (0 : Int),
    (63 : Int) = (63 : Int), (o == (0 : Int)) = false, Spec.Holds P0 (sRefOf k o), k = k, (k != (9 : Int)) = false,
    (!bv) = false, Spec.Holds P0 (sHasV k bv), k = k, (!b2) = false, Spec.Holds P0 (sInR n (0 : Int) (65535 : Int) b2),
    n = n, (0 : Int) = (0 : Int), (65535 : Int) = (65535 : Int), (!b1) = false,
    Spec.Holds P0 (sInR k (1 : Int) (12 : Int) b1), k = k, (1 : Int) = (1 : Int), (12 : Int) = (12 : Int), bn = true,
    Spec.Holds P0 (sHasN k bn), k = k, (k == (1 : Int)) = false] := by kernel_rfl

theorem mayRNm6t4_c (k f a n v w o : Int) (b bn b1 b2 bv b4 b5 : Bool) : check P0 300 10 (sMayR k f a n v w b) [.br false, .call (sHasN k bn) [], .br true, .call (sInR k 1 12 b1) [], .br false, .call (sInR n 0 65535 b2) [], .br false, .call (sHasV k bv) [], .br false, .br false, .call (sRefOf k o) [], .br false, .call (sInR f 0 63 b4) [], .br true, .call (sInR a 0 999 b5) []] = some [b5 = b, Spec.Holds P0 (sInR a (0 : Int) (999 : Int) b5), a = a, (0 : Int) = (0 : Int), (999 : Int) = (999 : Int),
    b4 = true, Spec.Holds P0 (sInR f (0 : Int) (63 : Int) b4), f = f, (0 : Int) = (0 : Int), (63 : Int) = (63 : Int),
    (o == (0 : Int)) = false, Spec.Holds P0 (sRefOf k o), k = k, (k != (9 : Int)) = false, (!bv) = false,
    Spec.Holds P0 (sHasV k bv), k = k, (!b2) = false, Spec.Holds P0 (sInR n (0 : Int) (65535 : Int) b2), n = n,
    (0 : Int) = (0 : Int), (65535 : Int) = (65535 : Int), (!b1) = false, Spec.Holds P0 (sInR k (1 : Int) (12 : Int) b1),
    k = k, (1 : Int) = (1 : Int), (12 : Int) = (12 : Int), bn = true, Spec.Holds P0 (sHasN k bn), k = k,
    (k == (1 : Int)) = false] := by kernel_rfl

theorem mayRNm7_c (k f a n v w o : Int) (b bn b1 b2 bv b4 b5 : Bool) : check P0 300 10 (sMayR k f a n v w b) [.br false, .call (sHasN k bn) [], .br true, .call (sInR k 1 12 b1) [], .br false, .call (sInR n 0 65535 b2) [], .br false, .call (sHasV k bv) [], .br false, .br true, .br true] = some [false = b, (w != (0 : Int)) = true, (k != (9 : Int)) = true, (!bv) = false, Spec.Holds P0 (sHasV k bv), k = k,
    (!b2) = false, Spec.Holds P0 (sInR n (0 : Int) (65535 : Int) b2), n = n, (0 : Int) = (0 : Int),
    (65535 : Int) = (65535 : Int), (!b1) = false, Spec.Holds P0 (sInR k (1 : Int) (12 : Int) b1), k = k,
    (1 : Int) = (1 : Int), (12 : Int) = (12 : Int), bn = true, Spec.Holds P0 (sHasN k bn), k = k,
    (k == (1 : Int)) = false] := by kernel_rfl

theorem mayRNm8t3_c (k f a n v w o : Int) (b bn b1 b2 bv b4 b5 : Bool) : check P0 300 10 (sMayR k f a n v w b) [.br false, .call (sHasN k bn) [], .br true, .call (sInR k 1 12 b1) [], .br false, .call (sInR n 0 65535 b2) [], .br false, .call (sHasV k bv) [], .br false, .br true, .br false, .call (sRefOf k o) [], .br false, .call (sInR f 0 63 b4) [], .br false] = some [false = b, b4 = false, Spec.Holds P0 (sInR f (0 : Int) (63 : Int) b4), f = f, (0 : Int) = (0 : Int),
    (63 : Int) = (63 : Int), (o == (0 : Int)) = false, Spec.Holds P0 (sRefOf k o), k = k, (w != (0 : Int)) = false,
    (k != (9 : Int)) = true, (!bv) = false, Spec.Holds P0 (sHasV k bv), k = k, (!b2) = false,
    Spec.Holds P0 (sInR n (0 : Int) (65535 : Int) b2), n = n, (0 : Int) = (0 : Int), (65535 : Int) = (65535 : Int),
    (!b1) = false, Spec.Holds P0 (sInR k (1 : Int) (12 : Int) b1), k = k, (1 : Int) = (1 : Int),
    (12 : Int) = (12 : Int), bn = true, Spec.Holds P0 (sHasN k bn), k = k, (k == (1 : Int)) = false] := by kernel_rfl

theorem mayRNm8t4_c (k f a n v w o : Int) (b bn b1 b2 bv b4 b5 : Bool) : check P0 300 10 (sMayR k f a n v w b) [.br false, .call (sHasN k bn) [], .br true, .call (sInR k 1 12 b1) [], .br false, .call (sInR n 0 65535 b2) [], .br false, .call (sHasV k bv) [], .br false, .br true, .br false, .call (sRefOf k o) [], .br false, .call (sInR f 0 63 b4) [], .br true, .call (sInR a 0 999 b5) []] = some [b5 = b, Spec.Holds P0 (sInR a (0 : Int) (999 : Int) b5), a = a, (0 : Int) = (0 : Int), (999 : Int) = (999 : Int),
    b4 = true, Spec.Holds P0 (sInR f (0 : Int) (63 : Int) b4), f = f, (0 : Int) = (0 : Int), (63 : Int) = (63 : Int),
    (o == (0 : Int)) = false, Spec.Holds P0 (sRefOf k o), k = k, (w != (0 : Int)) = false, (k != (9 : Int)) = true,
    (!bv) = false, Spec.Holds P0 (sHasV k bv), k = k, (!b2) = false, Spec.Holds P0 (sInR n (0 : Int) (65535 : Int) b2),
    n = n, (0 : Int) = (0 : Int), (65535 : Int) = (65535 : Int), (!b1) = false,
    Spec.Holds P0 (sInR k (1 : Int) (12 : Int) b1), k = k, (1 : Int) = (1 : Int), (12 : Int) = (12 : Int), bn = true,
    Spec.Holds P0 (sHasN k bn), k = k, (k == (1 : Int)) = false] := by kernel_rfl

theorem mayRZm1_c (k f a n v w o : Int) (b bn b1 b2 bv b4 b5 : Bool) : check P0 300 10 (sMayR k f a n v w b) [.br false, .call (sHasN k bn) [], .br false, .call (sInR k 1 12 b1) [], .br true] = some [false = b, (!b1) = true, Spec.Holds P0 (sInR k (1 : Int) (12 : Int) b1), k = k, (1 : Int) = (1 : Int),
    (12 : Int) = (12 : Int), bn = false, Spec.Holds P0 (sHasN k bn), k = k, (k == (1 : Int)) = false] := by kernel_rfl

theorem mayRZm2_c (k f a n v w o : Int) (b bn b1 b2 bv b4 b5 : Bool) : check P0 300 10 (sMayR k f a n v w b) [.br false, .call (sHasN k bn) [], .br false, .call (sInR k 1 12 b1) [], .br false, .call (sInR n 0 0 b2) [], .br true] = some [false = b, (!b2) = true, Spec.Holds P0 (sInR n (0 : Int) (0 : Int) b2), n = n, (0 : Int) = (0 : Int),
    (0 : Int) = (0 : Int), (!b1) = false, Spec.Holds P0 (sInR k (1 : Int) (12 : Int) b1), k = k, (1 : Int) = (1 : Int),
    (12 : Int) = (12 : Int), bn = false, Spec.Holds P0 (sHasN k bn), k = k, (k == (1 : Int)) = false] := by kernel_rfl

theorem mayRZm3_c (k f a n v w o : Int) (b bn b1 b2 bv b4 b5 : Bool) : check P0 300 10 (sMayR k f a n v w b) [.br false, .call (sHasN k bn) [], .br false, .call (sInR k 1 12 b1) [], .br false, .call (sInR n 0 0 b2) [], .br false, .call (sHasV k bv) [], .br true, .br true] = some [false = b, (v != (0 : Int)) = true, (!bv) = true, Spec.Holds P0 (sHasV k bv), k = k, (!b2) = false,
    Spec.Holds P0 (sInR n (0 : Int) (0 : Int) b2), n = n, (0 : Int) = (0 : Int), (0 : Int) = (0 : Int), (!b1) = false,
    Spec.Holds P0 (sInR k (1 : Int) (12 : Int) b1), k = k, (1 : Int) = (1 : Int), (12 : Int) = (12 : Int), bn = false,
    Spec.Holds P0 (sHasN k bn), k = k, (k == (1 : Int)) = false] := by kernel_rfl

theorem mayRZm4_c (k f a n v w o : Int) (b bn b1 b2 bv b4 b5 : Bool) : check P0 300 10 (sMayR k f a n v w b) [.br false, .call (sHasN k bn) [], .br false, .call (sInR k 1 12 b1) [], .br false, .call (sInR n 0 0 b2) [], .br false, .call (sHasV k bv) [], .br true, .br false, .br true, .br true] = some [false = b, (w != (0 : Int)) = true, (k != (9 : Int)) = true, (v != (0 : Int)) = false, (!bv) = true,
    Spec.Holds P0 (sHasV k bv), k = k, (!b2) = false, Spec.Holds P0 (sInR n (0 : Int) (0 : Int) b2), n = n,
    (0 : Int) = (0 : Int), (0 : Int) = (0 : Int), (!b1) = false, Spec.Holds P0 (sInR k (1 : Int) (12 : Int) b1), k = k,
    (1 : Int) = (1 : Int), (12 : Int) = (12 : Int), bn = false, Spec.Holds P0 (sHasN k bn), k = k,
    (k == (1 : Int)) = false] := by kernel_rfl

theorem mayRZm5t1_c (k f a n v w o : Int) (b bn b1 b2 bv b4 b5 : Bool) : check P0 300 10 (sMayR k f a n v w b) [.br false, .call (sHasN k bn) [], .br false, .call (sInR k 1 12 b1) [], .br false, .call (sInR n 0 0 b2) [], .br false, .call (sHasV k bv) [], .br true, .br false, .br true, .br false, .call (sRefOf k o) [], .br true, .br false] = some [false = b, (f == (0 : Int)) = false, (o == (0 : Int)) = true, Spec.Holds P0 (sRefOf k o), k = k,
    (w != (0 : Int)) = false, (k != (9 : Int)) = true, (v != (0 : Int)) = false, (!bv) = true,
    Spec.Holds P0 (sHasV k bv), k = k, (!b2) = false, Spec.Holds P0 (sInR n (0 : Int) (0 : Int) b2), n = n,
    (0 : Int) = (0 : Int), (0 : Int) = (0 : Int), (!b1) = false, Spec.Holds P0 (sInR k (1 : Int) (12 : Int) b1), k = k,
    (1 : Int) = (1 : Int), (12 : Int) = (12 : Int), bn = false, Spec.Holds P0 (sHasN k bn), k = k,
    (k == (1 : Int)) = false] := by kernel_rfl

theorem mayRZm5t2_c (k f a n v w o : Int) (b bn b1 b2 bv b4 b5 : Bool) : check P0 300 10 (sMayR k f a n v w b) [.br false, .call (sHasN k bn) [], .br false, .call (sInR k 1 12 b1) [], .br false, .call (sInR n 0 0 b2) [], .br false, .call (sHasV k bv) [], .br true, .br false, .br true, .br false, .call (sRefOf k o) [], .br true, .br true] = some [(a == (0 : Int)) = b, (f == (0 : Int)) = true, (o == (0 : Int)) = true, Spec.Holds P0 (sRefOf k o), k = k,
    (w != (0 : Int)) = false, (k != (9 : Int)) = true, (v != (0 : Int)) = false, (!bv) = true,
    Spec.Holds P0 (sHasV k bv), k = k, (!b2) = false, Spec.Holds P0 (sInR n (0 : Int) (0 : Int) b2), n = n,
    (0 : Int) = (0 : Int), (0 : Int) = (0 : Int), (!b1) = false, Spec.Holds P0 (sInR k (1 : Int) (12 : Int) b1), k = k,
    (1 : Int) = (1 : Int), (12 : Int) = (12 : Int), bn = false, Spec.Holds P0 (sHasN k bn), k = k,
    (k == (1 : Int)) = false] := by kernel_rfl

theorem mayRZm5t3_c (k f a n v w o : Int) (b bn b1 b2 bv b4 b5 : Bool) : check P0 300 10 (sMayR k f a n v w b) [.br false, .call (sHasN k bn) [], .br false, .call (sInR k 1 12 b1) [], .br false, .call (sInR n 0 0 b2) [], .br false, .call (sHasV k bv) [], .br true, .br false, .br true, .br false, .call (sRefOf k o) [], .br false, .call (sInR f 0 63 b4) [], .br false] = some [false = b, b4 = false, Spec.Holds P0 (sInR f (0 : Int) (63 : Int) b4), f = f, (0 : Int) = (0 : Int),
    (63 : Int) = (63 : Int), (o == (0 : Int)) = false, Spec.Holds P0 (sRefOf k o), k = k, (w != (0 : Int)) = false,
    (k != (9 : Int)) = true, (v != (0 : Int)) = false, (!bv) = true, Spec.Holds P0 (sHasV k bv), k = k, (!b2) = false,
    Spec.Holds P0 (sInR n (0 : Int) (0 : Int) b2), n = n, (0 : Int) = (0 : Int), (0 : Int) = (0 : Int), (!b1) = false,
    Spec.Holds P0 (sInR k (1 : Int) (12 : Int) b1), k = k, (1 : Int) = (1 : Int), (12 : Int) = (12 : Int), bn = false,
    Spec.Holds P0 (sHasN k bn), k = k, (k == (1 : Int)) = false] := by kernel_rfl

theorem mayRZm5t4_c (k f a n v w o : Int) (b bn b1 b2 bv b4 b5 : Bool) : check P0 300 10 (sMayR k f a n v w b) [.br false, .call (sHasN k bn) [], .br false, .call (sInR k 1 12 b1) [], .br false, .call (sInR n 0 0 b2) [], .br false, .call (sHasV k bv) [], .br true, .br false, .br true, .br false, .call (sRefOf k o) [], .br false, .call (sInR f 0 63 b4) [], .br true, .call (sInR a 0 999 b5) []] = some [b5 = b, Spec.Holds P0 (sInR a (0 : Int) (999 : Int) b5), a = a, (0 : Int) = (0 : Int), (999 : Int) = (999 : Int),
    b4 = true, Spec.Holds P0 (sInR f (0 : Int) (63 : Int) b4), f = f, (0 : Int) = (0 : Int), (63 : Int) = (63 : Int),
    (o == (0 : Int)) = false, Spec.Holds P0 (sRefOf k o), k = k, (w != (0 : Int)) = false, (k != (9 : Int)) = true,
    (v != (0 : Int)) = false, (!bv) = true, Spec.Holds P0 (sHasV k bv), k = k, (!b2) = false,
    Spec.Holds P0 (sInR n (0 : Int) (0 : Int) b2), n = n, (0 : Int) = (0 : Int), (0 : Int) = (0 : Int), (!b1) = false,
    Spec.Holds P0 (sInR k (1 : Int) (12 : Int) b1), k = k, (1 : Int) = (1 : Int), (12 : Int) = (12 : Int), bn = false,
    Spec.Holds P0 (sHasN k bn), k = k, (k == (1 : Int)) = false] := by kernel_rfl

theorem saysT_c [GG] (k f a n v w o o2 : Int) (nm nm2 t r : List UInt8) : check P0 300 10 (sSays k f a n v w) [.call sFirst [0], .call (sMayR k f a n v w true) [], .call (sMay k f a n v w true) [], .br false, .call (sOf k o) [], .call (sRefOf k o2) [], .br false, .call (sName k nm) [], .call (sNameR k nm2) [], .br false, .call (sPut k f a n v w t 0) [0], .br false, .call (sPutRf k f a n v w r) [], .br true, .br true] = some [true = true, Glob = Glob, (t == r) = true, Spec.Holds P0 (sPutRf k f a n v w r), k = k, f = f, a = a, n = n, v = v,
    w = w, false = false, Spec.Holds P0 (sPut k f a n v w t (0 : Int)), k = k, f = f, a = a, n = n, v = v, w = w,
    Glob = Glob, (!nm == nm2) = false, SV.bool true = SV.bool true,
    SV.ptr (1 : Nat) (LN.l (0 : Nat)) (0 : Nat) (0 : Nat) = SV.ptr (1 : Nat) (LN.l (0 : Nat)) (0 : Nat) (0 : Nat),
    SV.int IntKind.i64 k = SV.int IntKind.i64 k,
    SV.ptr (1 : Nat) (LN.l (0 : Nat)) (0 : Nat) (0 : Nat) = SV.ptr (1 : Nat) (LN.l (0 : Nat)) (0 : Nat) (0 : Nat),
    SV.int IntKind.i64 k = SV.int IntKind.i64 k, Spec.Holds P0 (sNameR k nm2), k = k, Spec.Holds P0 (sName k nm), k = k,
    (o != o2) = false, Spec.Holds P0 (sRefOf k o2), k = k, Spec.Holds P0 (sOf k o), k = k, false = false,
    Spec.Holds P0 (sMay k f a n v w true), k = k, f = f, a = a, n = n, v = v, w = w,
    Spec.Holds P0 (sMayR k f a n v w true), k = k, f = f, a = a, n = n, v = v, w = w, Spec.Holds P0 sFirst, Glob = Glob] := by kernel_rfl

theorem saysF_c [GG] (k f a n v w o o2 : Int) (nm nm2 : List UInt8) : check P0 300 10 (sSays k f a n v w) [.call sFirst [0], .call (sMayR k f a n v w false) [], .call (sMay k f a n v w false) [], .br false, .call (sOf k o) [], .call (sRefOf k o2) [], .br false, .call (sName k nm) [], .call (sNameR k nm2) [], .br false, .call (sPut k f a n v w [] 10) [0], .br true, .br true] = some [true = true, Glob = Glob, true = true, true = true, Spec.Holds P0 (sPut k f a n v w [] (10 : Int)), k = k, f = f,
    a = a, n = n, v = v, w = w, Glob = Glob, (!nm == nm2) = false, SV.bool false = SV.bool false,
    SV.ptr (1 : Nat) (LN.l (0 : Nat)) (0 : Nat) (0 : Nat) = SV.ptr (1 : Nat) (LN.l (0 : Nat)) (0 : Nat) (0 : Nat),
    SV.int IntKind.i64 k = SV.int IntKind.i64 k,
    SV.ptr (1 : Nat) (LN.l (0 : Nat)) (0 : Nat) (0 : Nat) = SV.ptr (1 : Nat) (LN.l (0 : Nat)) (0 : Nat) (0 : Nat),
    SV.int IntKind.i64 k = SV.int IntKind.i64 k, Spec.Holds P0 (sNameR k nm2), k = k, Spec.Holds P0 (sName k nm), k = k,
    (o != o2) = false, Spec.Holds P0 (sRefOf k o2), k = k, Spec.Holds P0 (sOf k o), k = k, false = false,
    Spec.Holds P0 (sMay k f a n v w false), k = k, f = f, a = a, n = n, v = v, w = w,
    Spec.Holds P0 (sMayR k f a n v w false), k = k, f = f, a = a, n = n, v = v, w = w, Spec.Holds P0 sFirst,
    Glob = Glob] := by kernel_rfl

end Go.OpP
