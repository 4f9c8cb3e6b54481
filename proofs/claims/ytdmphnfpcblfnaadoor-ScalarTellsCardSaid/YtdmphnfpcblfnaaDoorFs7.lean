import Derived.Test.YtdmphnfpcblfnaaDoorFs6
namespace Go.Proofs.YtdmphnfpcblfnaaDoor
open Go Go.Sx
set_option maxRecDepth 100000

abbrev invC : List SV → T SV := ct l1 (fun | [.l a] => U64 a | _ => False) [i4] (fun | [.l a] => [.l (toL 4 (val a ^ 57896044618658097711785492504343953926634992332820282019728792003956564819947 % P25))] | _ => [])
def powT (a n : List Int) (k : List Int → T SV) : T SV := .need (U64 a ∧ U64 n) (k (toL 4 (val a ^ (val n).toNat % P25)))
theorem run33 (a : List Int) : runX (cxF [(60, powC)]) no 100 Tryd.f33 (body Tryd.f33) (can l1 [.l a]) gmF = powT a less2L fun r => l11 r := by kernel_rfl
theorem fn33 : FnOk Tryd.prog GF 33 invC := by
  refine fnOk_ct (cxF_ok (fns := [(60, powC)]) ⟨fn60, trivial⟩) gF Tryd.func33 (c := body Tryd.f33) (by kernel_rfl) (enters_of Tryd.func33 (by kernel_rfl) (by kernel_rfl)) (bl := no) (fuel := 100) noBl ?_
  intro xs hfit hp
  obtain ⟨a, rfl, ha⟩ := fit_l1 hfit
  have ua : U64 a := hp
  refine ⟨fit_i4 _, ?_⟩
  rw [run33]
  simp only [powT, T.good]
  refine ⟨⟨ua, u64_4.2 (by decide)⟩, ?_⟩
  rw [show (val less2L).toNat = 57896044618658097711785492504343953926634992332820282019728792003956564819947 by decide]
  rfl
end Go.Proofs.YtdmphnfpcblfnaaDoor
