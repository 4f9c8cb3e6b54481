import Derived.Test.YtdmphnfpcblfnaaDoorFs16
/- The document's answer for the field: products, digit by digit. -/
namespace Go.Proofs.YtdmphnfpcblfnaaDoor
open Go Go.Sx
set_option maxRecDepth 100000

/-- Digits of sixteen bits. -/
def toD : Nat → Int → List Int
  | 0, _ => []
  | k + 1, n => n % 65536 :: toD k (n / 65536)
abbrev digC : List SV → T SV := ct l1 (fun | [.l a] => U64 a | _ => False) [.ints .u64 16] (fun | [.l a] => [.l (toD 16 (val a))] | _ => [])
def dig1T (a : List Int) (k : List Int → T SV) : T SV := .need (U64 a) (k (toD 16 (val a)))

def mstep (xi yk : Int) (j : Nat) (l : List Int) : List Int := putL l j 32 1 [IntKind.u64.wrap (l.getD j 0 + IntKind.u64.wrap (xi * yk))]
def mrow (xi : Int) (y : List Int) (i : Nat) : Nat → List Int → List Int
  | 0, l => l
  | k + 1, l => mstep xi (y.getD k 0) (i + k) (mrow xi y i k l)
def mall (x y : List Int) : Nat → List Int
  | 0 => List.replicate 32 0
  | i + 1 => mrow (x.getD i 0) y i 16 (mall x y i)
def mlow (all : List Int) : Nat → List Int
  | 0 => List.replicate 16 0
  | i + 1 => putL (mlow all i) i 16 1 [IntKind.u64.wrap (all.getD i 0 + IntKind.u64.wrap (38 * all.getD (i + 16) 0))]
def pstep (k : Nat) (r : List Int × Int) : List Int × Int :=
  (putL r.1 k 16 1 [(IntKind.u64.wrap (r.1.getD k 0 + r.2)).tmod 65536], IntKind.u64.wrap ((IntKind.u64.wrap (r.1.getD k 0 + r.2)).tdiv 65536))
def pass (l : List Int) : Nat → List Int × Int
  | 0 => (l, 0)
  | k + 1 => pstep k (pass l k)
def pass38 (l : List Int) : List Int := putL (pass l 16).1 0 16 1 [IntKind.u64.wrap ((pass l 16).1.getD 0 0 + IntKind.u64.wrap (38 * (pass l 16).2))]
def ostep (l : List Int) (k : Nat) (r : List Int × Int) : List Int × Int :=
  (putL r.1 (k / 4) 4 1 [bitsI .or .u64 (r.1.getD (k / 4) 0) (shlI .u64 ((IntKind.u64.wrap (l.getD k 0 + r.2)).tmod 65536) (16 * (k % 4) : Nat))], IntKind.u64.wrap ((IntKind.u64.wrap (l.getD k 0 + r.2)).tdiv 65536))
def opass (l : List Int) : Nat → List Int × Int
  | 0 => ([0, 0, 0, 0], 0)
  | k + 1 => ostep l k (opass l k)
def rmulV (x y : List Int) : List Int := (opass (pass38 (pass38 (pass38 (mlow (mall x y 16) 16)))) 16).1

theorem run19 (a b : List Int) : runX (cxF [(56, digC), (53, belowC)]) no 100 Tryd.f19 (body Tryd.f19) (can l2 [.l a, .l b]) gmT =
  dig1T a fun x => dig1T b fun y => belT (rmulV x y) fun r => l11 r := by kernel_rfl
end Go.Proofs.YtdmphnfpcblfnaaDoor
