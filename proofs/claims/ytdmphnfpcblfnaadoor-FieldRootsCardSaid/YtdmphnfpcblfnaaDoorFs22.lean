import Derived.Test.YtdmphnfpcblfnaaDoorFs21
/- FieldTells, FieldRoots: contracts. -/
namespace Go.Proofs.YtdmphnfpcblfnaaDoor
open Go Go.Sx
set_option maxRecDepth 100000

abbrev toGF {g : FuncId} {spec : List SV → T SV} (h : FnOk Tryd.prog GT g spec) : FnOk Tryd.prog GF g spec := h.mono fun _ _ => trivial

def tells3T (a b c : List Int) (n : Int) : T SV :=
  add2T a b fun x => add2T a b fun y => okT (x == y) <|
  sub2T a b fun x => sub2T a b fun y => okT (x == y) <|
  mul2T a b fun x => mul2T a b fun y => okT (x == y) <|
  neg1T a fun x => neg1T a fun y => okT (x == y) <|
  of1T c fun x => of1T c fun y => okT (x == y) <|
  bytes1T a fun x => bytes1T a fun y => okT (x == y) <|
  .need True <| okT ([n, 0, 0, 0] == [n, 0, 0, 0]) <|
  sameT a b fun x => sameT a b fun y => okT (x == y) <|
  oddT a fun x => oddT a fun y => .ret (.bool (x == y))
noncomputable abbrev fns3 : List (Nat × (List SV → T SV)) := [(14, addC), (15, addC), (16, subC), (17, subC), (18, mulC), (19, mulC), (20, negC), (21, negC), (22, ofC), (23, ofC), (24, bytesC), (25, bytesC), (26, smallC), (27, sameC), (28, sameC), (29, oddC), (30, oddC), (13, upF)]
theorem run3 (a b c : List Int) (n : Int) : prune (runX (cxF fns3) no 100 Tryd.f3 (body Tryd.f3) (can [i4, i4, .ints .u8 32, u6] [.l a, .l b, .l c, .n n]) gmF) (List.replicate 20 true) = tells3T a b c n := by kernel_rfl
theorem fns3_ok : FnsOk Tryd.prog GF fns3 := ⟨fn14, toGF fn15, fn16 fn20, toGF fn17, fn18, toGF fn19T, fn20, toGF fn21, fn22, toGF fn23, fn24, toGF fn25, fn26, fn27, toGF fn28, fn29, toGF fn30, fn13, trivial⟩
theorem fit_llln {k k' k'' k3 : IntKind} {n n' n'' : Nat} {xs : List AV} (h : fit [.ints k n, .ints k' n', .ints k'' n'', .num k3] xs) : ∃ a b c x, xs = [.l a, .l b, .l c, .n x] ∧ a.length = n ∧ b.length = n' ∧ c.length = n'' := by
  match xs, h with
  | [a, b, c, d], h =>
    obtain ⟨h1, h2, h3, h4, -⟩ := h
    cases a <;> cases b <;> cases c <;> cases d <;> first | exact ⟨_, _, _, _, rfl, h1, h2, h3⟩ | exact h1.elim | exact h2.elim | exact h3.elim | exact h4.elim
  | [], h => exact h.elim
  | [_], h => exact h.2.elim
  | [_, _], h => exact h.2.2.elim
  | [_, _, _], h => exact h.2.2.2.elim
  | _ :: _ :: _ :: _ :: _ :: _, h => exact h.2.2.2.2.elim
theorem tells3_good (a b c : List Int) (n : Int) (u1 : U64 a) (u2 : U64 b) (u3 : U8 c) : Gd (tells3T a b c n) fun u => ∀ ρ, u.den ρ = (outV [.bool] [.b true]).den ρ := by
  have e (l : List Int) : (l == l) = true := beq_self_eq_true l
  have e' (x : Bool) : (x == x) = true := beq_self_eq_true x
  refine ⟨?_⟩
  simp only [tells3T, add2T, sub2T, mul2T, neg1T, of1T, bytes1T, sameT, oddT, okT, T.good]
  exact ⟨⟨u1, u2⟩, ⟨u1, u2⟩, e _, ⟨u1, u2⟩, ⟨u1, u2⟩, e _, ⟨u1, u2⟩, ⟨u1, u2⟩, e _, u1, u1, e _, u3, u3, e _, u1, u1, e _, trivial, e _, ⟨u1, u2⟩, ⟨u1, u2⟩, e' _, u1, u1, den_true (e' _)⟩
theorem fn3 : FnOk Tryd.prog GF 3 (ct [i4, i4, .ints .u8 32, u6] (fun | [.l a, .l b, .l c, .n _] => U64 a ∧ U64 b ∧ U8 c | _ => False) [.bool] (fun _ => [.b true])) := by
  refine fnOk_gd (cxF_ok fns3_ok) gF Tryd.func3 (c := body Tryd.f3) (by kernel_rfl) (enters_of Tryd.func3 (by kernel_rfl) (by kernel_rfl)) (fuel := 100) ?_
  intro xs hfit hp
  obtain ⟨a, b, c, n, rfl, ha, hb, hc⟩ := fit_llln hfit
  obtain ⟨u1, u2, u3⟩ := hp
  exact ⟨no, noBl, by simp [fit, fit1], Gd.of_run (run3 a b c n) (tells3_good a b c n u1 u2 u3)⟩

def roots4T (u v : List Int) : T SV :=
  root2T u v fun x ok => root2T u v fun y is => invT u fun i => invT u fun j => okT (i == j) <| okT (x == y) <| .ret (.bool (ok == is))
noncomputable abbrev fns4 : List (Nat × (List SV → T SV)) := [(31, rootC), (32, rootC), (33, invC), (34, invC), (13, upF)]
theorem run4 (u v : List Int) : prune (runX (cxF fns4) no 100 Tryd.f4 (body Tryd.f4) (can l2 [.l u, .l v]) gmF) (List.replicate 20 true) = roots4T u v := by kernel_rfl
theorem fns4_ok : FnsOk Tryd.prog GF fns4 := ⟨fn31, toGF fn32, fn33, toGF fn34, fn13, trivial⟩
theorem roots4_good (u v : List Int) (u1 : U64 u) (u2 : U64 v) : Gd (roots4T u v) fun w => ∀ ρ, w.den ρ = (outV [.bool] [.b true]).den ρ := by
  have e (l : List Int) : (l == l) = true := beq_self_eq_true l
  have e' (x : Bool) : (x == x) = true := beq_self_eq_true x
  refine ⟨?_⟩
  simp only [roots4T, root2T, invT, okT, T.good]
  exact ⟨⟨u1, u2⟩, ⟨u1, u2⟩, u1, u1, e _, e _, den_true (e' _)⟩
theorem fn4 : FnOk Tryd.prog GF 4 (ct l2 preU2 [.bool] (fun _ => [.b true])) := by
  refine fnOk_gd (cxF_ok fns4_ok) gF Tryd.func4 (c := body Tryd.f4) (by kernel_rfl) (enters_of Tryd.func4 (by kernel_rfl) (by kernel_rfl)) (fuel := 100) ?_
  intro xs hfit hp
  obtain ⟨a, b, rfl, ha, hb⟩ := fit_l2 hfit
  obtain ⟨u1, u2⟩ := hp
  exact ⟨no, noBl, by simp [fit, fit1], Gd.of_run (run4 a b) (roots4_good a b u1 u2)⟩
end Go.Proofs.YtdmphnfpcblfnaaDoor
