import Derived.Test.YtdmphnfpcblfnaaDoorFs11
/- FieldLaws, up to its card. -/
namespace Go.Proofs.YtdmphnfpcblfnaaDoor
open Go Go.Sx
set_option maxRecDepth 100000

def okT (b : Bool) (k : T SV) : T SV := .need (b = true) k
def sub2T (a b : List Int) (k : List Int → T SV) : T SV := .need (U64 a ∧ U64 b) (k (toL 4 ((val a - val b) % P25)))
abbrev z4 : List Int := [0, 0, 0, 0]
abbrev o4 : List Int := [1, 0, 0, 0]

def laws5T (a b c : List Int) : T SV :=
  add2T a b fun ab => add2T b a fun ba => okT (ab == ba) <|
  add2T a b fun ab => add2T ab c fun x => add2T b c fun bc => add2T a bc fun y => okT (x == y) <|
  sub2T a b fun s => add2T s b fun s3 => add2T a z4 fun a0 =>
  mul2T a b fun ab => mul2T b a fun ba => okT (ab == ba) <|
  mul2T a b fun ab => mul2T ab c fun x => mul2T b c fun bc => mul2T a bc fun y => okT (x == y) <|
  mul2T a o4 fun a1 => add2T a z4 fun a0' => okT (s3 == a0) <| okT (a1 == a0') <|
  add2T b c fun bc => mul2T a bc fun x => mul2T a b fun ab => mul2T a c fun ac => add2T ab ac fun y => okT (x == y) <|
  sub2T a b fun x => neg1T b fun nb => add2T a nb fun y => .ret (.bool (x == y))

theorem run5 (a b c : List Int) : prune (runX (cxF [(14, addC), (16, subC), (18, mulC), (20, negC), (13, upF)]) no 100 Tryd.f5 (body Tryd.f5) (can [i4, i4, i4] [.l a, .l b, .l c]) gmF) (List.replicate 20 true) = laws5T a b c := by kernel_rfl

theorem ut4 (x : Int) : U64 (toL 4 x) := toL_u64 4 x
theorem uz4 : U64 z4 := u64_4.2 (by decide)
theorem uo4 : U64 o4 := u64_4.2 (by decide)
theorem val_z4 : val z4 = 0 := by decide
theorem val_o4 : val o4 = 1 := by decide

/-- Numbers of one residue are one. -/
theorem same4 {x y : Int} (h : x % P25 = y % P25) : (toL 4 (x % P25) == toL 4 (y % P25)) = true := by rw [h]; exact beq_self_eq_true _


theorem laws5_good (a b c : List Int) (u1 : U64 a) (u2 : U64 b) (u3 : U64 c) : (laws5T a b c).good fun u => ∀ ρ, u.den ρ = (outV [.bool] [.b true]).den ρ := by
  simp only [laws5T, add2T, sub2T, mul2T, neg1T, okT, T.good, val_toLP, val_z4, val_o4]
  generalize val a = A
  generalize val b = B
  generalize val c = C
  have em : ∀ x : Int, x % P25 % P25 = x % P25 := fun x => Int.emod_emod_of_dvd x (Int.dvd_refl P25)
  refine ⟨⟨u1, u2⟩, ⟨u2, u1⟩, same4 ?_, ⟨u1, u2⟩, ⟨ut4 _, u3⟩, ⟨u2, u3⟩, ⟨u1, ut4 _⟩, same4 ?_, ⟨u1, u2⟩, ⟨ut4 _, u2⟩, ⟨u1, uz4⟩, ⟨u1, u2⟩, ⟨u2, u1⟩, same4 ?_, ⟨u1, u2⟩, ⟨ut4 _, u3⟩, ⟨u2, u3⟩, ⟨u1, ut4 _⟩, same4 ?_, ⟨u1, uo4⟩, ⟨u1, uz4⟩, same4 ?_, same4 ?_,
    ⟨u2, u3⟩, ⟨u1, ut4 _⟩, ⟨u1, u2⟩, ⟨u1, u3⟩, ⟨ut4 _, ut4 _⟩, same4 ?_, ⟨u1, u2⟩, u2, ⟨u1, ut4 _⟩, ?_⟩
  · rw [Int.add_comm]
  · rw [Int.add_emod, em, ← Int.add_emod, Int.add_emod A, em, ← Int.add_emod, Int.add_assoc]
  · rw [Int.mul_comm]
  · rw [Int.mul_emod, em, ← Int.mul_emod, Int.mul_emod A, em, ← Int.mul_emod, Int.mul_assoc]
  · rw [Int.add_emod, em, ← Int.add_emod]; congr 1; omega
  · rw [Int.mul_one, Int.add_zero]
  · rw [Int.mul_emod, em, ← Int.mul_emod, Int.mul_add, Int.add_emod, Int.add_emod (A * B % P25), em, em]
  · intro ρ
    have : (toL 4 ((A - B) % P25) == toL 4 ((A + -B % P25) % P25)) = true := same4 (by rw [Int.add_emod, em, ← Int.add_emod, Int.sub_eq_add_neg])
    rw [this]
    simp [SV.den, outV, can1]
theorem cx5_ok : FnsOk Tryd.prog GF [(14, addC), (16, subC), (18, mulC), (20, negC), (13, upF)] := ⟨fn14, fn16 fn20, fn18, fn20, fn13, trivial⟩
theorem fn5 : FnOk Tryd.prog GF 5 (ct [i4, i4, i4] (fun | [.l a, .l b, .l c] => U64 a ∧ U64 b ∧ U64 c | _ => False) [.bool] (fun _ => [.b true])) := by
  refine fnOk_gd (cxF_ok cx5_ok) gF Tryd.func5 (c := body Tryd.f5) (by kernel_rfl) (enters_of Tryd.func5 (by kernel_rfl) (by kernel_rfl)) (fuel := 100) ?_
  intro xs hfit hp
  obtain ⟨a, b, c, rfl, ha, hb, hc⟩ := fit_l3 hfit
  obtain ⟨u1, u2, u3⟩ := hp
  exact ⟨no, noBl, by simp [fit, fit1], Gd.of_run (run5 a b c) ⟨laws5_good a b c u1 u2 u3⟩⟩
end Go.Proofs.YtdmphnfpcblfnaaDoor
