import Derived.Test.YtdmphnfpcblfnaaDoorFs16
/- The document's answer for the field: products, digit by digit. -/
namespace Go.Proofs.YtdmphnfpcblfnaaDoor
open Go Go.Sx
set_option maxRecDepth 100000

/-- Digits of sixteen bits. -/
def toD : Nat → Int → List Int
  | 0, _ => []
  | k + 1, n => n % 65536 :: toD k (n / 65536)
abbrev digC : List SV → T SV := ct l1 (fun | [.l a] => U64 a | _ => False) [.ints .u64 16] (fun | [.l a] => [.l (toD 16 (val a))] | _ => [])
def dig1T (a : List Int) (k : List Int → T SV) : T SV := .need (U64 a) (k (toD 16 (val a)))

def mstep (xi yk : Int) (j : Nat) (l : List Int) : List Int := putL l j 32 1 [IntKind.u64.wrap (l.getD j 0 + IntKind.u64.wrap (xi * yk))]
def mrow (xi : Int) (y : List Int) (i : Nat) : Nat → List Int → List Int
  | 0, l => l
  | k + 1, l => mstep xi (y.getD k 0) (i + k) (mrow xi y i k l)
def mall (x y : List Int) : Nat → List Int
  | 0 => List.replicate 32 0
  | i + 1 => mrow (x.getD i 0) y i 16 (mall x y i)
def mlow (all : List Int) : Nat → List Int
  | 0 => List.replicate 16 0
  | i + 1 => putL (mlow all i) i 16 1 [IntKind.u64.wrap (all.getD i 0 + IntKind.u64.wrap (38 * all.getD (i + 16) 0))]
def pstep (k : Nat) (r : List Int × Int) : List Int × Int :=
  (putL r.1 k 16 1 [(IntKind.u64.wrap (r.1.getD k 0 + r.2)).tmod 65536], IntKind.u64.wrap ((IntKind.u64.wrap (r.1.getD k 0 + r.2)).tdiv 65536))
def pass (l : List Int) : Nat → List Int × Int
  | 0 => (l, 0)
  | k + 1 => pstep k (pass l k)
def pass38 (l : List Int) : List Int := putL (pass l 16).1 0 16 1 [IntKind.u64.wrap ((pass l 16).1.getD 0 0 + IntKind.u64.wrap (38 * (pass l 16).2))]
def ostep (l : List Int) (k : Nat) (r : List Int × Int) : List Int × Int :=
  (putL r.1 (k / 4) 4 1 [bitsI .or .u64 (r.1.getD (k / 4) 0) (shlI .u64 ((IntKind.u64.wrap (l.getD k 0 + r.2)).tmod 65536) (16 * (k % 4) : Nat))], IntKind.u64.wrap ((IntKind.u64.wrap (l.getD k 0 + r.2)).tdiv 65536))
def opass (l : List Int) : Nat → List Int × Int
  | 0 => ([0, 0, 0, 0], 0)
  | k + 1 => ostep l k (opass l k)
def rmulV (x y : List Int) : List Int := (opass (pass38 (pass38 (pass38 (mlow (mall x y 16) 16)))) 16).1

/-! ### The inner loop, cut out: a run for each digit, so that none is great -/
theorem cut_rule {P : Program} {Γ : Gam} {cx : Cx} {draw : Array Oper → St → T St} {bl : Blocks} (hc : CxOk P Γ.G cx) (hg : GlobOk Γ) (h0 : Γ.G Γ.w0) (hd : DrawOk P Γ draw) {c : Code} (hbl : BlocksIn P Γ bl c) (fuel : Nat) (ks js : Fg) (hn : Γ.n0 ≤ ks.nx) (hno : Γ.n0 ≤ js.nx)
    {H H' : St} (hrun : endOf js js (exec cx draw bl fuel c H) = .ret (.normal, H')) {S : St} (hk : keepOk ks S = true) (hs : Sx.forget ks S = H) : Go.Sx.Comes P Γ c S .normal H' := by
  intro ρ a w hrel
  obtain ⟨ρ2, hr2⟩ := hrel.forget hk hn
  rw [hs] at hr2
  have hround : (endOf js js (exec cx draw bl fuel c H)).good fun r => r = (.normal, H') := by rw [hrun]; rfl
  unfold endOf at hround
  rw [T.good_bind] at hround
  obtain ⟨⟨e, S1⟩, hr, hq⟩ := T.reach_of_good hround
  refine wp_mono ((exec_sound hc hg h0 hd fuel).1 c _ S1 e hbl hr ρ2 a w hr2) fun x a' w' ⟨hx, ρ', hr'⟩ => ?_
  subst hx
  cases e with
  | normal =>
    obtain ⟨hk2, he⟩ := ifT_good hq
    have he : (Ex.normal, Sx.forget js S1) = (Ex.normal, H') := he
    cases he
    exact ⟨rfl, hr'.forget hk2 hno⟩
  | exit j =>
    obtain ⟨-, he⟩ := ifT_good hq
    have he : (Ex.exit j, Sx.forget js S1) = (Ex.normal, H') := he
    cases he
  | ret => exact hq.elim

noncomputable def bodyK : Code := (Code.blk (body Tryd.f19) 2).getD .skip
noncomputable abbrev cxK : Cx := cxF [(56, digC), (53, belowC)]
def ksK : Fg := ⟨List.replicate 10 .keep ++ List.replicate 110 .junk, 6, 18⟩
def jsK : Fg := ⟨List.replicate 9 .keep ++ List.replicate 111 .junk, 6, 18⟩
def memK (a b x y l : List Int) : Mem := [(0, .st true [.ints .u64 4 a]), (1, .st true [.ints .u64 4 b]), (2, .st true [.ints .u64 4 [0, 0, 0, 0]]), (5, .st true [.ints .u64 16 x]), (9, .st true [.ints .u64 16 y]), (12, .st true [.ints .u64 32 l])]
def hdK (a b x y : List Int) (i : Int) (l : List Int) : St := ⟨[.ints .u64 4 a, .ints .u64 4 b, ptr0 0, ptr0 1, ptr0 2, ptr0 5, ptr0 9, ptr0 12, .lit .i64 i, .lit .i64 0] ++ junks 10 110, memK a b x y l, 18⟩
def outK (a b x y : List Int) (i : Int) (l : List Int) : St := ⟨[.ints .u64 4 a, .ints .u64 4 b, ptr0 0, ptr0 1, ptr0 2, ptr0 5, ptr0 9, ptr0 12, .lit .i64 i] ++ junks 9 111, memK a b x y l, 18⟩
noncomputable def lhsK (a b x y l : List Int) (i : Nat) : T (Ex × St) := endOf jsK jsK (exec cxK (drawS cxK) no 100 (.block 2 bodyK) (hdK a b x y i l))
def rhsK (a b x y l : List Int) (i : Nat) : T (Ex × St) := .ret (.normal, outK a b x y i (mrow (x.getD i 0) y i 16 l))
theorem runK0 (a b x y l : List Int) : lhsK a b x y l 0 = rhsK a b x y l 0 := by kernel_rfl
theorem runK1 (a b x y l : List Int) : lhsK a b x y l 1 = rhsK a b x y l 1 := by kernel_rfl
theorem runK2 (a b x y l : List Int) : lhsK a b x y l 2 = rhsK a b x y l 2 := by kernel_rfl
theorem runK3 (a b x y l : List Int) : lhsK a b x y l 3 = rhsK a b x y l 3 := by kernel_rfl
theorem runK4 (a b x y l : List Int) : lhsK a b x y l 4 = rhsK a b x y l 4 := by kernel_rfl
theorem runK5 (a b x y l : List Int) : lhsK a b x y l 5 = rhsK a b x y l 5 := by kernel_rfl
theorem runK6 (a b x y l : List Int) : lhsK a b x y l 6 = rhsK a b x y l 6 := by kernel_rfl
theorem runK7 (a b x y l : List Int) : lhsK a b x y l 7 = rhsK a b x y l 7 := by kernel_rfl
theorem runK8 (a b x y l : List Int) : lhsK a b x y l 8 = rhsK a b x y l 8 := by kernel_rfl
theorem runK9 (a b x y l : List Int) : lhsK a b x y l 9 = rhsK a b x y l 9 := by kernel_rfl
theorem runK10 (a b x y l : List Int) : lhsK a b x y l 10 = rhsK a b x y l 10 := by kernel_rfl
theorem runK11 (a b x y l : List Int) : lhsK a b x y l 11 = rhsK a b x y l 11 := by kernel_rfl
theorem runK12 (a b x y l : List Int) : lhsK a b x y l 12 = rhsK a b x y l 12 := by kernel_rfl
theorem runK13 (a b x y l : List Int) : lhsK a b x y l 13 = rhsK a b x y l 13 := by kernel_rfl
theorem runK14 (a b x y l : List Int) : lhsK a b x y l 14 = rhsK a b x y l 14 := by kernel_rfl
theorem runK15 (a b x y l : List Int) : lhsK a b x y l 15 = rhsK a b x y l 15 := by kernel_rfl
theorem runK (a b x y l : List Int) : ∀ i : Nat, i < 16 → lhsK a b x y l i = rhsK a b x y l i
  | 0, _ => runK0 a b x y l
  | 1, _ => runK1 a b x y l
  | 2, _ => runK2 a b x y l
  | 3, _ => runK3 a b x y l
  | 4, _ => runK4 a b x y l
  | 5, _ => runK5 a b x y l
  | 6, _ => runK6 a b x y l
  | 7, _ => runK7 a b x y l
  | 8, _ => runK8 a b x y l
  | 9, _ => runK9 a b x y l
  | 10, _ => runK10 a b x y l
  | 11, _ => runK11 a b x y l
  | 12, _ => runK12 a b x y l
  | 13, _ => runK13 a b x y l
  | 14, _ => runK14 a b x y l
  | 15, _ => runK15 a b x y l
  | n + 16, h => absurd h (by omega)

def cutK (a b x y : List Int) (S : St) : T (Ex × St) := match S.tmps.getD 8 .tt, Go.Sx.look S.mem 12 with
  | .lit _ i, some (.st _ [.ints _ _ l]) => ifT (keepOk ksK S) (.need (0 ≤ i ∧ i < 16 ∧ Sx.forget ksK S = hdK a b x y i l) (.ret (.normal, outK a b x y i (mrow (x.getD i.toNat 0) y i.toNat 16 l))))
  | _, _ => .fail "another head"
def blK (a b x y : List Int) : Blocks := fun i => match Nat.beq i 2 with
  | true => some (cutK a b x y)
  | false => none

theorem cutK_ok {Γ : Gam} (hc : CxOk Tryd.prog Γ.G cxK) (hg : GlobOk Γ) (h0 : Γ.G Γ.w0) (hz : Γ.n0 = 0) (a b x y : List Int) : ∀ S e S', T.Reach (cutK a b x y S) (e, S') → Go.Sx.Comes Tryd.prog Γ (.block 2 bodyK) S e S' := by
  intro S e S' hr
  unfold cutK at hr
  split at hr
  · rename_i l _ _
    obtain ⟨hk, hr⟩ := ifT_reach hr
    simp only [T.reach_need, T.reach_ret] at hr
    obtain ⟨⟨h1, h2, h3⟩, he⟩ := hr
    cases he
    rename_i i _
    obtain ⟨n, rfl⟩ := Int.eq_ofNat_of_zero_le h1
    exact cut_rule hc hg h0 (drawS_sound hc hg h0) (bl := no) (blocksIn_none _) 100 ksK jsK (by rw [hz]; exact Nat.zero_le _) (by rw [hz]; exact Nat.zero_le _) (runK a b x y l n (by omega)) hk h3
  · exact (T.reach_fail hr).elim

theorem blK_in {Γ : Gam} (hc : CxOk Tryd.prog Γ.G cxK) (hg : GlobOk Γ) (h0 : Γ.G Γ.w0) (hz : Γ.n0 = 0) (a b x y : List Int) : BlocksIn Tryd.prog Γ (blK a b x y) (body Tryd.f19) := by
  refine blocksIn_of _ fun id f hf c hb => ?_
  have hid : id = 2 := by
    simp only [blK] at hf
    split at hf
    · rename_i h; exact Nat.eq_of_beq_eq_true h
    · cases hf
  subst hid
  have hbl : blksL (body Tryd.f19) 2 = [bodyK] := by kernel_rfl
  rw [hbl] at hb
  have hb := List.mem_singleton.1 hb
  subst hb
  have hf : cutK a b x y = f := by simpa [blK] using hf
  subst hf
  exact cutK_ok hc hg h0 hz a b x y

def ndK (a b x y : List Int) (t : T SV) : Nat → T SV
  | 0 => t
  | n + 1 => .need (0 ≤ ((15 - n : Nat) : Int) ∧ ((15 - n : Nat) : Int) < 16 ∧ hdK a b x y (15 - n : Nat) (mall x y (15 - n)) = hdK a b x y (15 - n : Nat) (mall x y (15 - n))) (ndK a b x y t n)
theorem ndK_good {a b x y : List Int} {t : T SV} {Q : SV → Prop} (h : t.good Q) : ∀ n, (ndK a b x y t n).good Q
  | 0 => h
  | n + 1 => ⟨⟨by omega, by omega, rfl⟩, ndK_good h n⟩
theorem run19 (a b : List Int) : runX cxK (blK a b (toD 16 (val a)) (toD 16 (val b))) 100 Tryd.f19 (body Tryd.f19) (can l2 [.l a, .l b]) gmT =
  dig1T a fun x => dig1T b fun y => ndK a b x y (belT (rmulV x y) fun r => l11 r) 16 := by kernel_rfl
end Go.Proofs.YtdmphnfpcblfnaaDoor
