import Derived.Test.YtdmphnfpcblfnaaDoorFs10
import Derived.Test.YtdmphnfpcblfnaaDoorSxTb
/- The statements' first call: 'awake' answers true. -/
namespace Go.Proofs.YtdmphnfpcblfnaaDoor
open Go Go.Sx
set_option maxRecDepth 100000

abbrev halfL : List Int := [18446744073709551607, 18446744073709551615, 18446744073709551615, 4611686018427387903]
theorem pwI (a : Int) : a ^ 57896044618658097711785492504343953926634992332820282019728792003956564819947 % P25 = pm a 255 57896044618658097711785492504343953926634992332820282019728792003956564819947 % P25 := (pm_eq a 255 _ (by decide +kernel)).symm
theorem pwE (a : Int) : a ^ (val eighthL).toNat % P25 = pm a 255 (val eighthL).toNat % P25 := (pm_eq a 255 _ (by decide +kernel)).symm
theorem pwQ (a : Int) : a ^ (val quarterL).toNat % P25 = pm a 255 (val quarterL).toNat % P25 := (pm_eq a 255 _ (by decide +kernel)).symm

def qM (U V : Int) : Int := pm (U * (pm V 255 57896044618658097711785492504343953926634992332820282019728792003956564819947 % P25) % P25) 255 (val eighthL).toNat % P25
theorem qP_eq (U V : Int) : qP U V = qM U V := by unfold qP qM; rw [pwE, pwI]
def rootM (U V : Int) : Int × Bool := if chkP U V (qM U V) then endP U V (qM U V) else endP U V (qM U V * (pm (val [2, 0, 0, 0]) 255 (val quarterL).toNat % P25) % P25)
theorem rootP_eq (U V : Int) : rootP U V = rootM U V := by unfold rootP rootM; rw [qP_eq, pwQ]

theorem tb31 : FnOk Tryd.prog GF 31 (spG l2 (tabF [i4, .bool] [([.l [4, 0, 0, 0], .l [1, 0, 0, 0]], [.l [2, 0, 0, 0], .b true]), ([.l [2, 0, 0, 0], .l [1, 0, 0, 0]], [.l [0, 0, 0, 0], .b false])])) :=
  fn31.tab2 _ _ _ _ ⟨u64_4.2 (by decide), u64_4.2 (by decide)⟩ (by simp only [rootP_eq]; rfl) ⟨u64_4.2 (by decide), u64_4.2 (by decide)⟩ (by simp only [rootP_eq]; rfl)
theorem tb33 : FnOk Tryd.prog GF 33 (spG l1 (tabF [i4] [([.l [2, 0, 0, 0]], [.l halfL])])) :=
  fn33.tab1 _ _ (u64_4.2 (by decide)) (by simp only [pwI]; rfl)
theorem tb18 : FnOk Tryd.prog GF 18 (spG l2 (tabF [i4] [([.l [2, 0, 0, 0], .l halfL], [.l [1, 0, 0, 0]])])) :=
  fn18.tab1 _ _ ⟨u64_4.2 (by decide), u64_4.2 (by decide)⟩ rfl
theorem tb20 : FnOk Tryd.prog GF 20 (spG l1 (tabF [i4] [([.l [1, 0, 0, 0]], [.l [18446744073709551596, 18446744073709551615, 18446744073709551615, 9223372036854775807]])])) :=
  fn20.tab1 _ _ (u64_4.2 (by decide)) rfl
theorem tb14 : FnOk Tryd.prog GF 14 (spG l2 (tabF [i4] [([.l [18446744073709551596, 18446744073709551615, 18446744073709551615, 9223372036854775807], .l [1, 0, 0, 0]], [.l [0, 0, 0, 0]])])) :=
  fn14.tab1 _ _ ⟨u64_4.2 (by decide), u64_4.2 (by decide)⟩ rfl
theorem tb16 : FnOk Tryd.prog GF 16 (spG l2 (tabF [i4] [([.l [5, 0, 0, 0], .l [3, 0, 0, 0]], [.l [2, 0, 0, 0]])])) :=
  (fn16 fn20).tab1 _ _ ⟨u64_4.2 (by decide), u64_4.2 (by decide)⟩ rfl
theorem tb26 : FnOk Tryd.prog GF 26 (spG [u6] (tabF [i4] [([.n 258], [.l [258, 0, 0, 0]])])) := fn26.tab1 _ _ trivial rfl
abbrev b258 : List Int := [2, 1, 0, 0, 0, 0, 0, 0, 0, 0, 0, 0, 0, 0, 0, 0, 0, 0, 0, 0, 0, 0, 0, 0, 0, 0, 0, 0, 0, 0, 0, 0]
theorem tb24 : FnOk Tryd.prog GF 24 (spG l1 (tabF [.ints .u8 32] [([.l [258, 0, 0, 0]], [.l b258])])) := fn24.tab1 _ _ (u64_4.2 (by decide)) rfl
theorem tb22 : FnOk Tryd.prog GF 22 (spG [.ints .u8 32] (tabF [i4] [([.l b258], [.l [258, 0, 0, 0]])])) := fn22.tab1 _ _ (show U8 b258 by intro x hx; simp [b258] at hx; omega) rfl
theorem tb29 : FnOk Tryd.prog GF 29 (spG l1 (tabF [.bool] [([.l [3, 0, 0, 0]], [.b true])])) := fn29.tab1 _ _ (u64_4.2 (by decide)) rfl
theorem tb27 : FnOk Tryd.prog GF 27 (spG l2 (tabF [.bool] [([.l primeL, .l [0, 0, 0, 0]], [.b true])])) := fn27.tab1 _ _ ⟨u64_4.2 (by decide), u64_4.2 (by decide)⟩ rfl

noncomputable abbrev cxAw : List (Nat × (List SV → T SV)) := [(31, spG l2 (tabF [i4, .bool] [([.l [4, 0, 0, 0], .l [1, 0, 0, 0]], [.l [2, 0, 0, 0], .b true]), ([.l [2, 0, 0, 0], .l [1, 0, 0, 0]], [.l [0, 0, 0, 0], .b false])])),
  (33, spG l1 (tabF [i4] [([.l [2, 0, 0, 0]], [.l halfL])])), (50, halfC), (18, spG l2 (tabF [i4] [([.l [2, 0, 0, 0], .l halfL], [.l [1, 0, 0, 0]])])),
  (20, spG l1 (tabF [i4] [([.l [1, 0, 0, 0]], [.l [18446744073709551596, 18446744073709551615, 18446744073709551615, 9223372036854775807]])])),
  (14, spG l2 (tabF [i4] [([.l [18446744073709551596, 18446744073709551615, 18446744073709551615, 9223372036854775807], .l [1, 0, 0, 0]], [.l [0, 0, 0, 0]])])),
  (16, spG l2 (tabF [i4] [([.l [5, 0, 0, 0], .l [3, 0, 0, 0]], [.l [2, 0, 0, 0]])])), (26, spG [u6] (tabF [i4] [([.n 258], [.l [258, 0, 0, 0]])])),
  (24, spG l1 (tabF [.ints .u8 32] [([.l [258, 0, 0, 0]], [.l b258])])), (22, spG [.ints .u8 32] (tabF [i4] [([.l b258], [.l [258, 0, 0, 0]])])),
  (29, spG l1 (tabF [.bool] [([.l [3, 0, 0, 0]], [.b true])])), (27, spG l2 (tabF [.bool] [([.l primeL, .l [0, 0, 0, 0]], [.b true])]))]
theorem half50 : FnOk Tryd.prog GF 50 (spG [] (tabF [i4] [([], [.l halfL])])) := fn50.tab1 _ _ trivial rfl
noncomputable abbrev cxAw' : List (Nat × (List SV → T SV)) := (50, spG [] (tabF [i4] [([], [.l halfL])])) :: cxAw
theorem up13 : comesTrue (runX (cxF cxAw') no 100 Tryd.f13 (body Tryd.f13) [] gmF) = true := by kernel_rfl
theorem cxAw_ok : FnsOk Tryd.prog GF cxAw' := ⟨half50, tb31, tb33, fn50, tb18, tb20, tb14, tb16, tb26, tb24, tb22, tb29, tb27, trivial⟩
theorem up13g : (runX (cxF cxAw') no 100 Tryd.f13 (body Tryd.f13) [] gmF).good (fun u => ∀ ρ, u.den ρ = .bool true) := comesTrue_good up13
theorem fn13 : FnOk Tryd.prog GF 13 upF :=
  upF_of (cx := cxF cxAw') (cxF_ok cxAw_ok) (gm := gmF) gF (fn := Tryd.f13) Tryd.func13 (c := body Tryd.f13) (by kernel_rfl) (enters_of Tryd.func13 (by kernel_rfl) (by kernel_rfl)) (bl := no) (fuel := 100) noBl up13g
end Go.Proofs.YtdmphnfpcblfnaaDoor
