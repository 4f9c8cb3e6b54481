import Derived.Test.YtkhooaaidmoogaaDoorMg
import Derived.Test.YtkhooaaidmoogaaDoorMc
import Derived.Test.YtkhooaaidmoogaaDoorRows
/- The first point; reference 06's functions: contracts, its product mirrored. -/
namespace Go.Proofs.YtkhooaaidmoogaaDoor
open Go Go.Sx
open Go.Nt (cls digs Pt E4 E3 Pc Dc Gc On padd pneg pzero smul sm sum3 pt3 cvc)
set_option maxRecDepth 100000

theorem base_y : (4 : Fin Pc) * Nt.inv 5 = Gc.y := by
  have h : Gc.y * 5 = 4 := by decide +kernel
  rw [← h]
  exact dc_inv _ _ (by decide +kernel)
theorem root_mod' (U V : Int) : toL 4 (rootP U V).1 = digs (cp (rootP U V).1) := by
  rw [← digs_cp, root_mod]
theorem base_x (U V : Int) (hu : cp U = Gc.y * Gc.y - 1) (hv : cp V = Dc * (Gc.y * Gc.y) + 1) : toL 4 (rootP U V).1 = digs Gc.x := by
  rw [root_mod']
  have hr := root_is U V
  rw [hu, hv] at hr
  obtain ⟨he, hr⟩ := hr
  have hg := (Nt.on_iff Gc).1 Nt.Gc_on
  rcases hr with ⟨-, h⟩ | ⟨-, h⟩
  · have h3 := Nt.cancel Nt.Pc_prime (Nt.vy_ne Gc.y) (show cp (rootP U V).1 * cp (rootP U V).1 * (Dc * (Gc.y * Gc.y) + 1) = Gc.x * Gc.x * (Dc * (Gc.y * Gc.y) + 1) by
      generalize Dc * (Gc.y * Gc.y) + 1 = v at *
      generalize cp (rootP U V).1 = r at *
      generalize Gc.x = x at *
      grind)
    rcases Nt.sq_eq Nt.Pc_prime _ _ h3 with h4 | h4
    · rw [h4]
    · have h0 : Gc.x ≠ 0 := by decide +kernel
      have h5 := Nt.neg_par h0
      rw [← h4] at h5
      have h6 : Gc.x.val % 2 = 0 := by decide +kernel
      omega
  · exact absurd hg (h Gc.x)

abbrev rootF (a b : LI) : LI × Bool := (toL 4 (rootP (val a) (val b)).1, (rootP (val a) (val b)).2)
theorem dRoot : FnOk Tryd.prog GC 55 (ct l2 preU2 [i4, .bool] (fun | [.l a, .l b] => [.l (rootF a b).1, .b (rootF a b).2] | _ => [])) := cRoot
theorem cls_smn (n : Int) : cls (smF n) = cp n := by
  unfold Nt.cls; rw [show val (smF n) = n by simp [val]]
theorem cBase : FnOk Tryd.prog GC 25 (g0p (ptV Gc)) := by
  refine fnOk_gd (cxC_ok (fns := [(30, g2 mulF), (32, gSm smF), (54, g1 invF), (34, g2 subF), (31, g2 addF), (33, g0 (digs Dc)), (55, ct l2 preU2 [i4, .bool] (fun | [.l a, .l b] => [.l (rootF a b).1, .b (rootF a b).2] | _ => []))]) ⟨dMul, dSmall, dInv, dSub, dAdd, cFactor, dRoot, trivial⟩) gmC_is Tryd.func25 (c := body Tryd.f25) (by kernel_rfl) (enters_of Tryd.func25 (by kernel_rfl) (by kernel_rfl)) (fuel := 100) ?_
  intro xs hfit _
  obtain rfl := fit_0 hfit
  refine ⟨no, noBlC, fitP _, Gd.of_eq (rnBase mulF addF subF smF invF (digs Dc) rootF) ⟨?_⟩⟩
  have g := Nt.digs_u64
  simp only [uS, u0, u1, u2, T.good]
  refine ⟨trivial, trivial, usm (by decide), ⟨usm (by decide), g _⟩, ⟨g _, g _⟩, trivial, ⟨g _, usm (by decide)⟩, trivial, ⟨g _, g _⟩, ⟨g _, usm (by decide)⟩, ⟨g _, g _⟩, fun ρ => ?_⟩
  have h4 : cls (smF 4) = 4 := by rw [cls_smn]; decide +kernel
  have h5 : cls (smF 5) = 5 := by rw [cls_smn]; decide +kernel
  have ey : mulF (smF 4) (invF (smF 5)) = digs Gc.y := by
    simp only [mulF, invF, Nt.cls_digs, h4, h5, base_y]
  rw [ey]
  have ex : toL 4 (rootP (val (subF (mulF (digs Gc.y) (digs Gc.y)) (smF 1))) (val (addF (mulF (digs Dc) (mulF (digs Gc.y) (digs Gc.y))) (smF 1)))).1 = digs Gc.x := by
    refine base_x _ _ ?_ ?_
    · rw [cp_val]; simp only [mulF, subF, Nt.cls_digs, cls_sm1]
    · rw [cp_val]; simp only [mulF, addF, Nt.cls_digs, cls_sm1]
  rw [ex]
  rfl

/-! ### Reference 06 -/
theorem eDee : FnOk Tryd.prog GC 37 (g0 (digs Dc)) := by
  refine fnOk_gd (cxC_ok (fns := []) trivial) gmC_is Tryd.func37 (c := body Tryd.f37) (by kernel_rfl) (enters_of Tryd.func37 (by kernel_rfl) (by kernel_rfl)) (fuel := 100) ?_
  intro xs hfit _
  obtain rfl := fit_0 hfit
  refine ⟨no, noBlC, ⟨dl _, trivial⟩, Gd.of_eq rrDee ⟨fun ρ => ?_⟩⟩
  have e : digs Dc = [0x75eb4dca135978a3, 0x700a4d4141d8ab, 0x8cc740797779e898, 0x52036cee2b6ffe73] := by decide +kernel
  rw [e]; rfl
theorem eZero : FnOk Tryd.prog GC 29 (g0p (ptV pzero)) := by
  refine fnOk_gd (cxC_ok (fns := []) trivial) gmC_is Tryd.func29 (c := body Tryd.f29) (by kernel_rfl) (enters_of Tryd.func29 (by kernel_rfl) (by kernel_rfl)) (fuel := 100) ?_
  intro xs hfit _
  obtain rfl := fit_0 hfit
  refine ⟨no, noBlC, fitP _, Gd.of_eq rrZero ⟨fun ρ => ?_⟩⟩
  have e : ptV (pzero : Pt Pc) = ([0, 0, 0, 0], [1, 0, 0, 0]) := by decide +kernel
  rw [e]; rfl
theorem eBase : FnOk Tryd.prog GC 28 (g0p (ptV Gc)) := by
  refine fnOk_gd (cxC_ok (fns := []) trivial) gmC_is Tryd.func28 (c := body Tryd.f28) (by kernel_rfl) (enters_of Tryd.func28 (by kernel_rfl) (by kernel_rfl)) (fuel := 100) ?_
  intro xs hfit _
  obtain rfl := fit_0 hfit
  refine ⟨no, noBlC, fitP _, Gd.of_eq rrBase ⟨fun ρ => ?_⟩⟩
  have e : ptV Gc = ([0xc9562d608f25d51a, 0x692cc7609525a7b2, 0xc0a4e231fdd6dc5c, 0x216936d3cd6e53fe], [0x6666666666666658, 0x6666666666666666, 0x6666666666666666, 0x6666666666666666]) := by decide +kernel
  rw [e]; rfl
theorem digs_beq (a b : Fin Pc) : (digs a == digs b) = decide (a = b) := by
  by_cases h : a = b
  · rw [h, beq_self_eq_true, decide_eq_true rfl]
  · rw [decide_eq_false h]; exact beq_eq_false_iff_ne.2 fun e => h (Nt.digs_inj e)
theorem cls_one : cls oneL = 1 := cls_sm1
theorem u_one : U64 oneL := usm (n := 1) (by decide)
theorem eCheck : FnOk Tryd.prog GC 11 (gPB checkF) := by
  refine fnOk_gd (cxC_ok (fns := [(35, g2 mulF), (36, g2 addF), (38, g2 subF), (37, g0 (digs Dc))]) ⟨eMul, eAdd, eSub, eDee, trivial⟩) gmC_is Tryd.func11 (c := body Tryd.f11) (by kernel_rfl) (enters_of Tryd.func11 (by kernel_rfl) (by kernel_rfl)) (fuel := 100) ?_
  intro xs hfit hp
  obtain ⟨x, y, rfl⟩ := fit_p hfit
  obtain ⟨h1, h2⟩ := hp
  refine ⟨no, noBlC, ⟨trivial, trivial⟩, Gd.of_eq (rrCheck mulF addF subF (digs Dc) x y) ⟨?_⟩⟩
  simp only [u0, u2, T.good]
  have g := Nt.digs_u64
  refine ⟨⟨h1, h1⟩, ⟨h2, h2⟩, trivial, ⟨g _, g _⟩, ⟨g _, g _⟩, ⟨u_one, g _⟩, ⟨g _, g _⟩, fun ρ => ?_⟩
  have e : (subF (mulF y y) (mulF x x) == addF oneL (mulF (digs Dc) (mulF (mulF x x) (mulF y y)))) = checkF (x, y) := by
    simp only [subF, mulF, addF, Nt.cls_digs, cls_one, checkF, rawP, digs_beq]
    refine decide_eq_decide.2 ?_
    unfold On
    simp only
    generalize cls x = u
    generalize cls y = v
    generalize Dc = d
    rw [show 1 + d * u * u * v * v = 1 + d * (u * u * (v * v)) by grind]
  rw [e]; rfl
theorem eLeast' : FnOk Tryd.prog GC 42 (gPP fun p => ptV (tkP p)) := by
  refine fnOk_gd (cxC_ok (fns := [(11, gPB checkF), (29, g0p (ptV pzero)), (63, g1 leastF)]) ⟨eCheck, eZero, eLeast, trivial⟩) gmC_is Tryd.func42 (c := body Tryd.f42) (by kernel_rfl) (enters_of Tryd.func42 (by kernel_rfl) (by kernel_rfl)) (fuel := 100) ?_
  intro xs hfit hp
  obtain ⟨x, y, rfl⟩ := fit_p hfit
  obtain ⟨h1, h2⟩ := hp
  refine ⟨no, noBlC, fitP _, Gd.of_eq (rrLeast leastF checkF (ptV pzero) x y) ⟨?_⟩⟩
  simp only [uPB, u0p, u1, T.good]
  refine ⟨⟨h1, h2⟩, fun hc => ⟨trivial, fun ρ => ?_⟩, fun hc => ⟨h1, h2, fun ρ => ?_⟩⟩
  · have hn : ¬ On Dc (rawP (x, y)) := by simpa [checkF] using hc
    have e : tkP (x, y) = pzero := by unfold tkP; rw [if_neg hn]
    rw [e]; rfl
  · have hy : On Dc (rawP (x, y)) := by simpa [checkF] using hc
    rw [tk_fst x y hy]; rfl
theorem eAdd' : FnOk Tryd.prog GC 13 (gPPP fun p q => ptV (padd Dc (tkP p) (tkP q))) := by
  refine fnOk_gd (cxC_ok (fns := [(42, gPP fun p => ptV (tkP p)), (35, g2 mulF), (36, g2 addF), (38, g2 subF), (37, g0 (digs Dc)), (43, g1 invF)]) ⟨eLeast', eMul, eAdd, eSub, eDee, eInv, trivial⟩) gmC_is Tryd.func13 (c := body Tryd.f13) (by kernel_rfl) (enters_of Tryd.func13 (by kernel_rfl) (by kernel_rfl)) (fuel := 100) ?_
  intro xs hfit hp
  obtain ⟨x, y, z, w, rfl⟩ := fit_pp hfit
  obtain ⟨h1, h2⟩ := hp
  refine ⟨no, noBlC, fitP _, Gd.of_eq (rrAdd mulF addF subF invF (digs Dc) (fun p => ptV (tkP p)) x y z w) ⟨?_⟩⟩
  simp only [uPP, u0, u1, u2, T.good]
  have g := Nt.digs_u64
  refine ⟨h1, h2, ⟨g _, g _⟩, ⟨g _, g _⟩, trivial, ⟨g _, g _⟩, ⟨g _, g _⟩, ⟨g _, g _⟩, ⟨g _, g _⟩, ⟨g _, g _⟩, ⟨g _, g _⟩, ⟨u_one, g _⟩, g _, ⟨u_one, g _⟩, g _, ⟨g _, g _⟩, ⟨g _, g _⟩, fun ρ => ?_⟩
  have key : ∀ p q : Pt Pc, padd Dc p q = ⟨(p.x * q.y + p.y * q.x) * Nt.inv (1 + Dc * (p.x * q.x * (p.y * q.y))), (p.y * q.y + p.x * q.x) * Nt.inv (1 - Dc * (p.x * q.x * (p.y * q.y)))⟩ := fun p q => by
    unfold padd Nt.ee
    generalize Dc = d
    rw [show d * p.x * q.x * p.y * q.y = d * (p.x * q.x * (p.y * q.y)) by grind]
  have e : ptV (padd Dc (tkP (x, y)) (tkP (z, w))) = _ := congrArg ptV (key (tkP (x, y)) (tkP (z, w)))
  simp only [mulF, addF, subF, invF, ptV, Nt.cls_digs, cls_one]
  simp only [ptV] at e
  rw [show padd Dc (tkP (x, y)) (tkP (z, w)) = _ from key (tkP (x, y)) (tkP (z, w))]
  rfl
theorem eNeg' : FnOk Tryd.prog GC 15 (gPP fun p => ptV (pneg (tkP p))) := by
  refine fnOk_gd (cxC_ok (fns := [(42, gPP fun p => ptV (tkP p)), (46, g1 negF)]) ⟨eLeast', eNeg, trivial⟩) gmC_is Tryd.func15 (c := body Tryd.f15) (by kernel_rfl) (enters_of Tryd.func15 (by kernel_rfl) (by kernel_rfl)) (fuel := 100) ?_
  intro xs hfit hp
  obtain ⟨x, y, rfl⟩ := fit_p hfit
  refine ⟨no, noBlC, fitP _, Gd.of_eq (rrNeg negF (fun p => ptV (tkP p)) x y) ⟨?_⟩⟩
  simp only [uPP, u1, T.good]
  refine ⟨hp, Nt.digs_u64 _, fun ρ => ?_⟩
  simp only [negF, ptV, Nt.cls_digs]
  rfl
theorem eSame' : FnOk Tryd.prog GC 17 (gPPB same2) := by
  refine fnOk_gd (cxC_ok (fns := [(42, gPP fun p => ptV (tkP p))]) ⟨eLeast', trivial⟩) gmC_is Tryd.func17 (c := body Tryd.f17) (by kernel_rfl) (enters_of Tryd.func17 (by kernel_rfl) (by kernel_rfl)) (fuel := 100) ?_
  intro xs hfit hp
  obtain ⟨x, y, z, w, rfl⟩ := fit_pp hfit
  refine ⟨no, noBlC, ⟨trivial, trivial⟩, Gd.of_eq (rrSame (fun p => ptV (tkP p)) x y z w) ⟨?_⟩⟩
  simp only [uPP, T.good, ptV_beq]
  exact ⟨hp.1, hp.2, fun ρ => rfl⟩
theorem eClear : FnOk Tryd.prog GC 21 (gPP fun p => ptV (smul Dc 8 (tkP p))) := by
  refine fnOk_gd (cxC_ok (fns := [(13, gPPP fun p q => ptV (padd Dc (tkP p) (tkP q)))]) ⟨eAdd', trivial⟩) gmC_is Tryd.func21 (c := body Tryd.f21) (by kernel_rfl) (enters_of Tryd.func21 (by kernel_rfl) (by kernel_rfl)) (fuel := 100) ?_
  intro xs hfit hp
  obtain ⟨x, y, rfl⟩ := fit_p hfit
  refine ⟨no, noBlC, fitP _, Gd.of_eq (rrClear _ x y) ⟨?_⟩⟩
  simp only [uPPP, T.good]
  have u := U2_ptV
  refine ⟨⟨hp, hp⟩, ⟨u _, u _⟩, ⟨u _, u _⟩, fun ρ => ?_⟩
  have o := tkP_on (x, y)
  have o2 := Nt.on_padd cvc o o
  have o4 := Nt.on_padd cvc o2 o2
  have e1 : ∀ p : Pt Pc, On Dc p → tkP ((ptV p).1, (ptV p).2) = p := fun p h => tk_ptV h
  rw [e1 _ o2, e1 _ o4, Nt.smul_8 cvc o]
  rfl
theorem eSum : FnOk Tryd.prog GC 50 (gTTT fun a b => p3v (sum3 Dc (e3v a) (e3v b))) := by
  refine fnOk_gd (cxC_ok (fns := [(35, g2 mulF), (36, g2 addF), (38, g2 subF), (37, g0 (digs Dc))]) ⟨eMul, eAdd, eSub, eDee, trivial⟩) gmC_is Tryd.func50 (c := body Tryd.f50) (by kernel_rfl) (enters_of Tryd.func50 (by kernel_rfl) (by kernel_rfl)) (fuel := 100) ?_
  intro xs hfit hp
  obtain ⟨x, y, z, u, v, w, rfl⟩ := fit_tt hfit
  obtain ⟨⟨h1, h2, h3⟩, ⟨k1, k2, k3⟩⟩ := hp
  refine ⟨no, noBlC, fitT _, Gd.of_eq (rrSum mulF addF subF (digs Dc) x y z u v w) ⟨?_⟩⟩
  simp only [u0, u2, T.good]
  have g := Nt.digs_u64
  refine ⟨⟨h3, k3⟩, ⟨g _, g _⟩, ⟨h1, k1⟩, ⟨h2, k2⟩, trivial, ⟨g _, g _⟩, ⟨g _, g _⟩, ⟨g _, g _⟩, ⟨g _, g _⟩, ⟨h1, k2⟩, ⟨h2, k1⟩, ⟨g _, g _⟩, ⟨g _, g _⟩, ⟨g _, g _⟩, ⟨g _, g _⟩, ⟨g _, g _⟩, ⟨g _, g _⟩, ⟨g _, g _⟩, fun ρ => ?_⟩
  simp only [mulF, addF, subF, Nt.cls_digs]
  rfl

/-! ### Its product -/
abbrev l3s (a : P3) : List SV := [.ints .u64 4 a.1, .ints .u64 4 a.2.1, .ints .u64 4 a.2.2]
abbrev pr3 (a : P3) : P3 := (a.1, a.2.1, a.2.2)
def ksN : Fg := ⟨List.replicate 7 .keep ++ [.soft] ++ List.replicate 47 .junk, 5, 24⟩
def jsN : Fg := ⟨List.replicate 7 .keep ++ List.replicate 48 .junk, 5, 24⟩
def memN' (k x y : LI) (one all : P3) : Mem := [(0, .st true [.ints .u64 4 k]), (1, .st true [.ints .u64 4 x, .ints .u64 4 y]), (2, .st true [.ints .u64 4 [0, 0, 0, 0], .ints .u64 4 [0, 0, 0, 0]]), (15, .st true (l3s one)), (21, .st true (l3s all))]
def hdN (k x y : LI) : List SV := [.ints .u64 4 k, .agg [.ints .u64 4 x, .ints .u64 4 y], ptr0 0, ptr0 1, ptr0 2, ptr0 15, ptr0 21]
def invN (k x y k' x' y' : LI) (one : P3) (i : Int) (all : P3) : St := ⟨hdN k x y ++ [.int .i64 i] ++ junks 8 47, memN' k' x' y' one all, 24⟩
def outN (k x y k' x' y' : LI) (one all : P3) : St := ⟨hdN k x y ++ junks 7 48, memN' k' x' y' one all, 24⟩
noncomputable def bodyN : Code := unloop (Code.blk (body Tryd.f19) 0)
def uTTT {α : Type} (M : P3 → P3 → P3) (p q : P3) (k : P3 → T α) : T α := .need (U3 (p.1, p.2.1, p.2.2) ∧ U3 (q.1, q.2.1, q.2.2)) (k (M (p.1, p.2.1, p.2.2) (q.1, q.2.1, q.2.2)))
variable (H : P3 → P3 → P3) (R : P2 → P2) (L I : LI → LI) (M : LI → LI → LI)
noncomputable abbrev fnsN : List (Nat × (List SV → T SV)) := [(42, gPP R), (49, g1 L), (50, gTTT H), (43, g1 I), (35, g2 M)]
abbrev bitN (n : LI) (i : Int) : Bool := (shrI .u64 (n.getD (IntKind.i64.wrap (i.tdiv 64)).toNat 0) (IntKind.u64.wrap (i.tmod 64))).tmod 2 == 1
theorem roundN (k x y k' x' y' : LI) (one all : P3) (i : Int) : endOf ksN jsN (exec (cxF (fnsN H R L I M)) (drawS (cxF (fnsN H R L I M))) no 100 bodyN (invN k x y k' x' y' one i all)) =
  .ite (decide (i ≥ 0)) (uTTT H all all fun a => .need (0 ≤ IntKind.i64.wrap (i.tdiv 64) ∧ IntKind.i64.wrap (i.tdiv 64) < 4) (.need ((IntKind.i64.wrap (i.tdiv 64)).toNat + 1 ≤ 4) (.need (0 ≤ IntKind.u64.wrap (i.tmod 64))
      (.ite (bitN k' i) (uTTT H a one fun b => .ret (.normal, invN k x y k' x' y' one (IntKind.i64.wrap (i - 1)) (pr3 b))) (.ret (.normal, invN k x y k' x' y' one (IntKind.i64.wrap (i - 1)) (pr3 a)))))))
  (.ret (.exit 0, outN k x y k' x' y' one all)) := by kernel_rfl
noncomputable def blN (k x y k' x' y' : LI) (one st out : P3) : Blocks := fun i => match Nat.beq i 0 with
  | true => some (loopF ksN (invN k x y k' x' y' one 255 st) (outN k x y k' x' y' one out))
  | false => none
abbrev z43 : P3 := ([0, 0, 0, 0], [1, 0, 0, 0], [1, 0, 0, 0])
theorem runMulR (k x y : LI) (out : P3) : runX (cxF (fnsN H R L I M)) (blN k x y (L k) (R (x, y)).1 (R (x, y)).2 ((R (x, y)).1, (R (x, y)).2, oneL) z43 out) 100 Tryd.f19 (body Tryd.f19) (can [i4, pK] [.l k, .a [x, y]]) [] =
  .need (U2 (x, y)) (.need (U64 k) (.need (invN k x y (L k) (R (x, y)).1 (R (x, y)).2 ((R (x, y)).1, (R (x, y)).2, oneL) 255 z43 = invN k x y (L k) (R (x, y)).1 (R (x, y)).2 ((R (x, y)).1, (R (x, y)).2, oneL) 255 z43)
    (u1 I out.2.2 fun n => u2 M out.1 n fun a => u2 M out.2.1 n fun b => rV pK [a, b]))) := by kernel_rfl

/-- What its rounds come to. -/
def mulE3 (b : E3 Pc) (N : Int) : Nat → E3 Pc
  | 0 => ⟨0, 1, 1⟩
  | i + 1 => if N / 2 ^ (255 - i) % 2 = 1 then sum3 Dc (sum3 Dc (mulE3 b N i) (mulE3 b N i)) b else sum3 Dc (mulE3 b N i) (mulE3 b N i)
theorem mulE3_rep {b : E3 Pc} {p : Pt Pc} (hb : Nt.Rep3 Dc b p) (N : Int) (h0 : 0 ≤ N) (h1 : N < 2 ^ 256) : ∀ i, i ≤ 256 → Nt.Rep3 Dc (mulE3 b N i) (smul Dc (N / 2 ^ (256 - i)).toNat p)
  | 0, _ => by
    rw [show N / 2 ^ (256 - 0) = 0 from Int.ediv_eq_zero_of_lt h0 h1]
    exact Nt.rep3_of cvc (Nt.on_zero Dc)
  | i + 1, hi => by
    have ih := mulE3_rep hb N h0 h1 i (by omega)
    obtain ⟨s1, s2⟩ := Nt.rep3_step hb ih
    unfold mulE3
    have hb2 : N / 2 ^ (255 - i) % 2 = 0 ∨ N / 2 ^ (255 - i) % 2 = 1 := by omega
    rcases hb2 with h | h
    · rw [if_neg (by omega), pow_step N N i h0 (by omega) 0 h]
      rw [show 2 * (N / 2 ^ (256 - i)).toNat + Int.toNat 0 = (N / 2 ^ (256 - i)).toNat + (N / 2 ^ (256 - i)).toNat by omega]
      exact s1
    · rw [if_pos h, pow_step N N i h0 (by omega) 1 h]
      rw [show 2 * (N / 2 ^ (256 - i)).toNat + Int.toNat 1 = (N / 2 ^ (256 - i)).toNat + (N / 2 ^ (256 - i)).toNat + 1 by omega]
      exact s2
theorem bitN_eq (n : LI) (u : U64 n) (i : Nat) (hi : i < 256) : (0 ≤ IntKind.i64.wrap ((255 - (i : Int)).tdiv 64) ∧ IntKind.i64.wrap ((255 - (i : Int)).tdiv 64) < 4) ∧
    (IntKind.i64.wrap ((255 - (i : Int)).tdiv 64)).toNat + 1 ≤ 4 ∧ 0 ≤ IntKind.u64.wrap ((255 - (i : Int)).tmod 64) ∧ bitN n (255 - (i : Int)) = decide (val n / 2 ^ (255 - i) % 2 = 1) := by
  unfold bitN
  rw [wrap_i64 ((255 - (i : Int)).tdiv 64) (by rw [Int.tdiv_eq_ediv_of_nonneg (by omega)]; omega),
      Int.tdiv_eq_ediv_of_nonneg (by omega), Int.tmod_eq_emod_of_nonneg (by omega), wrap_u64, Int.emod_eq_of_lt (a := (255 - (i : Int)) % 64) (by omega) (by omega)]
  have hq : ((255 - (i : Int)) / 64).toNat = (255 - i) / 64 := by omega
  have hr : (255 - (i : Int)) % 64 = (((255 - i) % 64 : Nat) : Int) := by omega
  have hs : 64 * ((255 - i) / 64) + (255 - i) % 64 = 255 - i := by omega
  have hd := digit_bit n ((255 - i) / 64) ((255 - i) % 64) u (by omega)
  rw [hs] at hd
  have hg' := U64.getD u ((255 - i) / 64)
  have hdiv : 0 ≤ n.getD ((255 - i) / 64) 0 / 2 ^ ((255 - i) % 64) := Int.ediv_nonneg hg'.1 (Int.le_of_lt (Int.pow_pos (by decide)))
  refine ⟨⟨by omega, by omega⟩, by omega, by omega, ?_⟩
  rw [hq, hr, shrI_u64 _ _ (by omega), Int.tmod_eq_emod_of_nonneg hdiv, ← hd]
  by_cases h : val n / 2 ^ (255 - i) % 2 = 1
  · rw [h, decide_eq_true rfl]; rfl
  · rw [decide_eq_false h]; exact beq_eq_false_iff_ne.2 h

noncomputable abbrev fnsNC : List (Nat × (List SV → T SV)) := fnsN (fun a b => p3v (sum3 Dc (e3v a) (e3v b))) (fun p => ptV (tkP p)) (fun a => toL 4 (val a % L25)) invF mulF
theorem fnsNC_ok : FnsOk Tryd.prog GC fnsNC := ⟨eLeast', rLeastS, eSum, eInv, eMul, trivial⟩
abbrev one3 (p : Pt Pc) : P3 := ((ptV p).1, (ptV p).2, oneL)
theorem e3_one (p : Pt Pc) : e3v (one3 p) = ⟨p.x, p.y, 1⟩ := by simp only [e3v, ptV, Nt.cls_digs, cls_one]
theorem U3_one (p : Pt Pc) : U3 (one3 p) := ⟨Nt.digs_u64 _, Nt.digs_u64 _, u_one⟩
noncomputable def InvN (k x y : LI) (i : Nat) : St := invN k x y (toL 4 (val k % L25)) (ptV (tkP (x, y))).1 (ptV (tkP (x, y))).2 (one3 (tkP (x, y))) (255 - (i : Int)) (pr3 (p3v (mulE3 ⟨(tkP (x, y)).x, (tkP (x, y)).y, 1⟩ (val k % L25) i)))
theorem roundN_good (k x y : LI) (i : Nat) (hi : i ≤ 256) : (endOf ksN jsN (exec (cxF fnsNC) (drawS (cxF fnsNC)) no 100 bodyN (InvN k x y i))).good fun r => match r.1 with
      | .normal => ∃ i', i' ≤ 256 ∧ r.2 = InvN k x y i' ∧ 256 - i' < 256 - i
      | .exit j => j = 0 ∧ r.2 = outN k x y (toL 4 (val k % L25)) (ptV (tkP (x, y))).1 (ptV (tkP (x, y))).2 (one3 (tkP (x, y))) (pr3 (p3v (mulE3 ⟨(tkP (x, y)).x, (tkP (x, y)).y, 1⟩ (val k % L25) 256)))
      | .ret => False := by
  unfold InvN
  rw [roundN]
  simp only [T.good, decide_eq_true_eq, decide_eq_false_iff_not, uTTT, ge_iff_le]
  have ee : ∀ a : E3 Pc, e3v ((pr3 (p3v a)).1, (pr3 (p3v a)).2.1, (pr3 (p3v a)).2.2) = a := fun a => e3_p3 a
  have ee' : ∀ a : E3 Pc, e3v ((p3v a).1, (p3v a).2.1, (p3v a).2.2) = a := fun a => e3_p3 a
  have eo := e3_one (tkP (x, y))
  refine ⟨fun hlt => ?_, fun hlt => ?_⟩
  · have hi' : i < 256 := by omega
    obtain ⟨b1, b2, b3, b4⟩ := bitN_eq (toL 4 (val k % L25)) (toL_u64 _ _) i hi'
    rw [val_toLL] at b4
    refine ⟨⟨U3_p3v _, U3_p3v _⟩, b1, b2, b3, ?_⟩
    rw [b4, wrap_i64 (255 - (i : Int) - 1) (by omega)]
    have ei : (255 : Int) - i - 1 = 255 - ((i + 1 : Nat) : Int) := by omega
    rw [ei]
    simp only [decide_eq_true_eq, decide_eq_false_iff_not]
    refine ⟨fun hb => ⟨⟨U3_p3v _, U3_one _⟩, i + 1, by omega, ?_, by omega⟩, fun hb => ⟨i + 1, by omega, ?_, by omega⟩⟩
    · have e : mulE3 ⟨(tkP (x, y)).x, (tkP (x, y)).y, 1⟩ (val k % L25) (i + 1) = sum3 Dc (sum3 Dc (mulE3 ⟨(tkP (x, y)).x, (tkP (x, y)).y, 1⟩ (val k % L25) i) (mulE3 ⟨(tkP (x, y)).x, (tkP (x, y)).y, 1⟩ (val k % L25) i)) ⟨(tkP (x, y)).x, (tkP (x, y)).y, 1⟩ := by
        conv => lhs; unfold mulE3
        rw [if_pos hb]
      rw [e, ee, ee', show e3v ((one3 (tkP (x, y))).1, (one3 (tkP (x, y))).2.1, (one3 (tkP (x, y))).2.2) = _ from eo]
    · have e : mulE3 ⟨(tkP (x, y)).x, (tkP (x, y)).y, 1⟩ (val k % L25) (i + 1) = sum3 Dc (mulE3 ⟨(tkP (x, y)).x, (tkP (x, y)).y, 1⟩ (val k % L25) i) (mulE3 ⟨(tkP (x, y)).x, (tkP (x, y)).y, 1⟩ (val k % L25) i) := by
        conv => lhs; unfold mulE3
        rw [if_neg hb]
      rw [e, ee]
  · have : i = 256 := by omega
    subst this
    exact ⟨trivial, rfl⟩

theorem eMul' : FnOk Tryd.prog GC 19 (gKP fun k p => ptV (sm (val k) (tkP p))) := by
  have hcx := cxC_ok fnsNC_ok
  refine fnOk_gd hcx gmC_is Tryd.func19 (c := body Tryd.f19) (by kernel_rfl) (enters_of Tryd.func19 (by kernel_rfl) (by kernel_rfl)) (fuel := 100) ?_
  intro xs hfit hp
  obtain ⟨k, x, y, rfl, hk⟩ := fit_lp hfit
  obtain ⟨hu, hp⟩ := hp
  refine ⟨blN k x y (toL 4 (val k % L25)) (ptV (tkP (x, y))).1 (ptV (tkP (x, y))).2 (one3 (tkP (x, y))) z43 (pr3 (p3v (mulE3 ⟨(tkP (x, y)).x, (tkP (x, y)).y, 1⟩ (val k % L25) 256))), ?_, fitP _, ?_⟩
  · intro Γ hG h0 hg hz
    refine blocksIn_of _ fun id f hf b hb => ?_
    have hid : id = 0 := by
      simp only [blN] at hf
      split at hf
      · rename_i h; exact Nat.eq_of_beq_eq_true h
      · cases hf
    subst hid
    have hbl : blksL (body Tryd.f19) 0 = [.loop bodyN] := by kernel_rfl
    rw [hbl] at hb
    have hb := List.mem_singleton.1 hb
    subst hb
    have hf : loopF ksN (invN k x y (toL 4 (val k % L25)) (ptV (tkP (x, y))).1 (ptV (tkP (x, y))).2 (one3 (tkP (x, y))) 255 z43) (outN k x y (toL 4 (val k % L25)) (ptV (tkP (x, y))).1 (ptV (tkP (x, y))).2 (one3 (tkP (x, y))) (pr3 (p3v (mulE3 ⟨(tkP (x, y)).x, (tkP (x, y)).y, 1⟩ (val k % L25) 256)))) = f := by
      simpa [blN] using hf
    subst hf
    have e0 : invN k x y (toL 4 (val k % L25)) (ptV (tkP (x, y))).1 (ptV (tkP (x, y))).2 (one3 (tkP (x, y))) 255 z43 = InvN k x y 0 := by
      unfold InvN
      have e : pr3 (p3v (mulE3 ⟨(tkP (x, y)).x, (tkP (x, y)).y, 1⟩ (val k % L25) 0)) = z43 := by
        have : pr3 (p3v (⟨0, 1, 1⟩ : E3 Pc)) = z43 := by decide +kernel
        exact this
      rw [e]
      rfl
    rw [e0]
    exact loop_rule (hG ▸ hcx) hg h0 (drawS_sound (hG ▸ hcx) hg h0) (bl := no) (blocksIn_none _) (InvN k x y) (fun i => 256 - i) (fun i => i ≤ 256) _ 100 ksN jsN (by rw [hz]; exact Nat.zero_le _) (by rw [hz]; exact Nat.zero_le _)
      (roundN_good k x y) 0 (Nat.zero_le _)
  · refine Gd.of_eq (runMulR _ _ _ _ _ k x y _) ⟨?_⟩
    simp only [T.good, u1, u2]
    have g := Nt.digs_u64
    refine ⟨hp, hu, trivial, g _, ⟨g _, g _⟩, ⟨g _, g _⟩, fun ρ => ?_⟩
    have hr := mulE3_rep (Nt.rep3_of cvc (tkP_on (x, y))) (val k % L25) (modL_lt _).1 (modL_lt _).2 256 (Nat.le_refl _)
    rw [sm_is] at hr
    have e := Nt.rep3_pt cvc hr
    simp only [mulF, invF, p3v, Nt.cls_digs]
    rw [← e]
    rfl
end Go.Proofs.YtkhooaaidmoogaaDoor

/- The curve's statements: contracts. -/
namespace Go.Proofs.YtkhooaaidmoogaaDoor
open Go Go.Sx
open Go.Nt (cls digs Pt E4 E3 Pc Dc Gc On padd pneg pzero smul sm cvc)
set_option maxRecDepth 100000

abbrev eqP (p q : P2) : Bool := p.1 == q.1 && (p.2 == q.2 && true)
abbrev z2 : P2 := ([0, 0, 0, 0], [0, 0, 0, 0])
section
variable (Z B B' Z' : P2) (C C' : P2 → Bool) (A A' : P2 → P2 → P2) (N N' K K' : P2 → P2) (Mu Mu' : LI → P2 → P2) (Sm Sm' : P2 → P2 → Bool) (sn : LI → LI) (sa sm' : LI → LI → LI)
noncomputable abbrev fnsC : List (Nat × (List SV → T SV)) := [(25, g0p B), (28, g0p B'), (22, g0p Z), (29, g0p Z'), (10, gPB C), (12, gPPP A), (14, gPP N), (18, gKP Mu), (20, gPP K), (16, gPPB Sm), (24, g1 sn),
  (11, gPB C'), (13, gPPP A'), (15, gPP N'), (19, gKP Mu'), (21, gPP K'), (17, gPPB Sm'), (26, g2 sa), (27, g2 sm'), (9, upF)]
def awT : T SV := u0p B fun b => u0p B' fun b' => okT (eqP b b') <| u0p Z fun z => u0p Z' fun z' => okT (eqP z z') <| uPB C b fun c => okT c <| uPB C z2 fun c => okT (!c) <| uPP N b fun n => uPPP A b n fun x => u0p Z fun z => okT (eqP x z) <|
  uKP Mu [2, 0, 0, 0] b fun x => uPPP A b b fun y => okT (eqP x y) <| u1 sn [1, 0, 0, 0] fun m => uKP Mu m b fun x => uPP N b fun y => okT (eqP x y) <| uPP K b fun x => uKP Mu [8, 0, 0, 0] b fun y => okT (eqP x y) <|
  u0p Z fun z => uPPB Sm z2 z fun s => okT s <| u0p Z fun z => uPPB Sm b z fun s => rB (!s)
theorem rnAw0 : prune (runX (cxF ((fnsC Z B B' Z' C C' A A' N N' K K' Mu Mu' Sm Sm' sn sa sm').take 19)) no 100 Tryd.f9 (body Tryd.f9) [] []) (List.replicate 9 true) = awT Z B B' Z' C A N K Mu Sm sn := by kernel_rfl
def tellsT (p q : P2) : T SV := uPB C p fun c => uPB C' p fun c' => okT (c == c') <| uPPP A p q fun x => uPPP A' p q fun y => okT (eqP x y) <| uPP N p fun x => uPP N' p fun y => okT (eqP x y) <| uPPB Sm p q fun s => uPPB Sm' p q fun s' => rB (s == s')
theorem rnTells (x y z w : LI) : prune (runX (cxF (fnsC Z B B' Z' C C' A A' N N' K K' Mu Mu' Sm Sm' sn sa sm')) no 100 Tryd.f3 (body Tryd.f3) (can [pK, pK] [.a [x, y], .a [z, w]]) []) (List.replicate 9 true) = tellsT C C' A A' N N' Sm Sm' (x, y) (z, w) := by kernel_rfl
def timesT (k : LI) (p : P2) : T SV := uKP Mu k p fun x => uKP Mu' k p fun y => okT (eqP x y) <| uPP K p fun x => uPP K' p fun y => rB (eqP x y)
theorem rnTimes (k x y : LI) : prune (runX (cxF (fnsC Z B B' Z' C C' A A' N N' K K' Mu Mu' Sm Sm' sn sa sm')) no 100 Tryd.f4 (body Tryd.f4) (can [i4, pK] [.l k, .a [x, y]]) []) (List.replicate 9 true) = timesT K K' Mu Mu' k (x, y) := by kernel_rfl
def groupT (p q r : P2) : T SV := uPPP A p q fun s => uPB C s fun c => okT c <| uPPP A q p fun t => okT (eqP s t) <| uPPP A s r fun u => uPPP A q r fun v => uPPP A p v fun w => okT (eqP u w) <| uPP N p fun n => uPPP A p n fun x => u0p Z fun z => okT (eqP x z) <| u0p Z fun z => uPPP A p z fun y => uPPB Sm y p fun b => rB b
theorem rnGroup (x y z w u v : LI) : prune (runX (cxF (fnsC Z B B' Z' C C' A A' N N' K K' Mu Mu' Sm Sm' sn sa sm')) no 100 Tryd.f5 (body Tryd.f5) (can [pK, pK, pK] [.a [x, y], .a [z, w], .a [u, v]]) []) (List.replicate 9 true) = groupT Z C A N Sm (x, y) (z, w) (u, v) := by kernel_rfl
def sumsT (a b c : LI) : T SV := u0p B fun g => uKP Mu c g fun p => uKP Mu a p fun x => uKP Mu b p fun y => u2 sa a b fun s => uKP Mu s p fun l => uPPP A x y fun r => okT (eqP l r) <| u2 sm' a b fun s => uKP Mu s p fun l => uKP Mu a y fun r => okT (eqP l r) <|
  uPPP A p g fun s => uKP Mu a s fun l => uKP Mu a g fun t => uPPP A x t fun r => okT (eqP l r) <| uPB C x fun c => rB c
theorem rnSums (a b c : LI) : prune (runX (cxF (fnsC Z B B' Z' C C' A A' N N' K K' Mu Mu' Sm Sm' sn sa sm')) no 100 Tryd.f8 (body Tryd.f8) (can [i4, i4, i4] [.l a, .l b, .l c]) []) (List.replicate 9 true) = sumsT B C A Mu sa sm' a b c := by kernel_rfl
def negsT (k : LI) (p : P2) : T SV := uPP N p fun n => uPP K p fun c => u1 sn [1, 0, 0, 0] fun m => uKP Mu m c fun last => uKP Mu k n fun x => uKP Mu k p fun y => uPP N y fun y => okT (eqP x y) <| uPP N n fun x => u0p Z fun z => uPPP A p z fun y => okT (eqP x y) <|
  uPPP A last c fun x => u0p Z fun z => okT (eqP x z) <| uPP K n fun x => uPP N c fun y => rB (eqP x y)
theorem rnNegs (k x y : LI) : prune (runX (cxF (fnsC Z B B' Z' C C' A A' N N' K K' Mu Mu' Sm Sm' sn sa sm')) no 100 Tryd.f7 (body Tryd.f7) (can [i4, pK] [.l k, .a [x, y]]) []) (List.replicate 9 true) = negsT Z A N K Mu sn k (x, y) := by kernel_rfl
end
end Go.Proofs.YtkhooaaidmoogaaDoor

/- The curve's statements: contracts, but for CurveSteps. -/
namespace Go.Proofs.YtkhooaaidmoogaaDoor
open Go Go.Sx
open Go.Nt (cls digs Pt E4 E3 Pc Dc Gc On padd pneg pzero smul sm cvc)
set_option maxRecDepth 100000

abbrev mulV (k : LI) (p : P2) : P2 := ptV (sm (val k) (tkP p))
abbrev addV (p q : P2) : P2 := ptV (padd Dc (tkP p) (tkP q))
abbrev negV (p : P2) : P2 := ptV (pneg (tkP p))
abbrev clrV (p : P2) : P2 := ptV (smul Dc 8 (tkP p))
abbrev snV (a : LI) : LI := toL 4 ((-val a) % L25)
abbrev saV (a b : LI) : LI := toL 4 ((val a + val b) % L25)
abbrev smV (a b : LI) : LI := toL 4 ((val a * val b) % L25)
noncomputable abbrev fnsL : List (Nat × (List SV → T SV)) := fnsC (ptV pzero) (ptV Gc) (ptV Gc) (ptV pzero) checkF checkF addV addV negV negV clrV clrV mulV mulV same2 same2 snV saV smV
noncomputable abbrev fnsL0 : List (Nat × (List SV → T SV)) := fnsL.take 19
theorem fnsL0_ok : FnsOk Tryd.prog GC fnsL0 := ⟨cBase, eBase, cZero, eZero, cCheck, cAdd', cNeg', cMul', cClear, cSame', sNeg, eCheck, eAdd', eNeg', eMul', eClear, eSame', sAdd, sMul, trivial⟩

theorem eqV (p q : Pt Pc) : eqP (ptV p) (ptV q) = decide (p = q) := ptV_beq p q
theorem eqV' (p q : Pt Pc) (h : p = q) : eqP (ptV p) (ptV q) = true := by rw [eqV]; exact decide_eq_true h
theorem tkv {p : Pt Pc} (h : On Dc p) : tkP ((ptV p).1, (ptV p).2) = p := tk_ptV h
theorem check_on {p : Pt Pc} (h : On Dc p) : checkF ((ptV p).1, (ptV p).2) = true := by
  show decide (On Dc (rawP (ptV p))) = true
  rw [raw_ptV]; exact decide_eq_true h
theorem den_eq {b : Bool} (h : b = true) : ∀ ρ, (SV.bool b).den ρ = .bool true := fun ρ => by rw [h]; simp [SV.den]
theorem u4l (a b c d : Int) (h : (0 ≤ a ∧ a < 18446744073709551616) ∧ (0 ≤ b ∧ b < 18446744073709551616) ∧ (0 ≤ c ∧ c < 18446744073709551616) ∧ (0 ≤ d ∧ d < 18446744073709551616)) : U64 [a, b, c, d] := u64_4.2 h
theorem sm_1 (p : Pt Pc) (h : On Dc p) : sm 1 p = p := by
  have := Nt.sm_small 1 (by decide +kernel) p
  rw [show ((1 : Nat) : Int) = 1 from rfl] at this
  rw [this, Nt.smul_one cvc h]
theorem tk_z2 : tkP z2 = pzero := by unfold tkP; rw [if_neg (by unfold On; decide +kernel)]
theorem check_z2 : checkF z2 = false := by unfold checkF; exact decide_eq_false (by unfold On; decide +kernel)
theorem val_L (a : Int) : val (toL 4 (a % L25)) = a % L25 := val_toLL a
theorem sm_modL (k : Int) (p : Pt Pc) : sm (k % L25) p = sm k p := by rw [← Lc_cast]; exact Nt.sm_mod k p

theorem awOk : Gd (awT (ptV pzero) (ptV Gc) (ptV Gc) (ptV pzero) checkF addV negV clrV mulV same2 snV) fun u => ∀ ρ, u.den ρ = .bool true := by
  refine ⟨?_⟩
  have g := U2_ptV
  have oG : On Dc Gc := Nt.Gc_on
  have tG : tkP ((ptV Gc).1, (ptV Gc).2) = Gc := tkv oG
  have oN := Nt.on_neg oG
  have tN : tkP ((ptV (pneg Gc)).1, (ptV (pneg Gc)).2) = pneg Gc := tkv oN
  have tZ : tkP ((ptV (pzero : Pt Pc)).1, (ptV (pzero : Pt Pc)).2) = pzero := tkv (Nt.on_zero Dc)
  have hm : snV [1, 0, 0, 0] = toL 4 ((-1) % L25) := by unfold snV; rw [show val [1, 0, 0, 0] = 1 by decide]
  simp only [awT, u0p, uPB, uPP, uPPP, uKP, u1, uPPB, okT, T.good, addV, mulV, negV, clrV]
  rw [tG, tN, hm]
  have u2 : U64 [2, 0, 0, 0] := u4l _ _ _ _ (by decide)
  have u8 : U64 [8, 0, 0, 0] := u4l _ _ _ _ (by decide)
  have u1' : U64 [1, 0, 0, 0] := u4l _ _ _ _ (by decide)
  have uz : U2 z2 := ⟨u4l _ _ _ _ (by decide), u4l _ _ _ _ (by decide)⟩
  refine ⟨trivial, trivial, eqV' _ _ rfl, trivial, trivial, eqV' _ _ rfl, g _, check_on oG, uz, ?_, g _, ⟨g _, g _⟩, trivial, eqV' _ _ (Nt.padd_neg cvc oG), ⟨u2, g _⟩, ⟨g _, g _⟩, eqV' _ _ ?_, u1', ⟨toL_u64 _ _, g _⟩, g _, eqV' _ _ ?_, g _, ⟨u8, g _⟩, eqV' _ _ ?_, trivial, ⟨uz, g _⟩, ?_, trivial, ⟨g _, g _⟩, den_eq ?_⟩
  · show (!checkF z2) = true
    rw [check_z2]; rfl
  · rw [show val [2, 0, 0, 0] = ((2 : Nat) : Int) by decide, Nt.sm_small 2 (by decide +kernel), show (2 : Nat) = 1 + 1 from rfl, Nt.smul_succ cvc oG, Nt.smul_one cvc oG]
  · rw [val_L, sm_modL]
    have h1 := Nt.sm_pneg 1 oG
    have h2 := Nt.sm_minus oG Nt.Gc_L
    have oM := Nt.on_sm (-1) oG
    have h3 := Nt.padd_neg cvc oG
    -- both are below none of it
    have e : padd Dc (padd Dc (sm (-1) Gc) Gc) (pneg Gc) = sm (-1) Gc := by
      rw [Nt.padd_assoc cvc oM oG oN, h3, Nt.padd_zero cvc oM]
    rw [h2, Nt.zero_padd cvc oN] at e
    exact e.symm
  · rw [show val [8, 0, 0, 0] = ((8 : Nat) : Int) by decide, Nt.sm_small 8 (by decide +kernel)]
  · show decide (tkP z2 = tkP ((ptV (pzero : Pt Pc)).1, (ptV (pzero : Pt Pc)).2)) = true
    rw [tk_z2, tZ]; exact decide_eq_true rfl
  · show (!decide (tkP ((ptV Gc).1, (ptV Gc).2) = tkP ((ptV (pzero : Pt Pc)).1, (ptV (pzero : Pt Pc)).2))) = true
    rw [tG, tZ, decide_eq_false Nt.Gc_ne]; rfl
theorem fnAw : FnOk Tryd.prog GC 9 upF :=
  upF_of (cxC_ok (fns := fnsL0) fnsL0_ok) gmC_is Tryd.func9 (c := body Tryd.f9) (by kernel_rfl) (enters_of Tryd.func9 (by kernel_rfl) (by kernel_rfl)) (fuel := 100) noBlC
    (Gd.of_run (ds := List.replicate 9 true) (m := awT (ptV pzero) (ptV Gc) (ptV Gc) (ptV pzero) checkF addV negV clrV mulV same2 snV) (rnAw0 (ptV pzero) (ptV Gc) (ptV Gc) (ptV pzero) checkF checkF addV addV negV negV clrV clrV mulV mulV same2 same2 snV saV smV) awOk).good
theorem fnsL_ok : FnsOk Tryd.prog GC fnsL := ⟨cBase, eBase, cZero, eZero, cCheck, cAdd', cNeg', cMul', cClear, cSame', sNeg, eCheck, eAdd', eNeg', eMul', eClear, eSame', sAdd, sMul, fnAw, trivial⟩

abbrev prP3 : List AV → Prop := fun | [.a [x, y], .a [z, w], .a [u, v]] => U2 (x, y) ∧ U2 (z, w) ∧ U2 (u, v) | _ => False
abbrev prKP : List AV → Prop := fun | [.l k, .a [x, y]] => U64 k ∧ U2 (x, y) | _ => False
abbrev pr3L : List AV → Prop := fun | [.l a, .l b, .l c] => U64 a ∧ U64 b ∧ U64 c | _ => False
theorem fit_ppp {xs : List AV} (h : fit [pK, pK, pK] xs) : ∃ x y z w u v, xs = [.a [x, y], .a [z, w], .a [u, v]] := by
  match xs, h with
  | a :: l, h =>
    obtain ⟨z, w, u, v, rfl⟩ := fit_pp (xs := l) h.2
    obtain ⟨x, y, e⟩ := fit_p (xs := [a]) ⟨h.1, trivial⟩
    cases e
    exact ⟨x, y, z, w, u, v, rfl⟩
  | [], h => exact h.elim

theorem fnTells : FnOk Tryd.prog GC 3 (ct [pK, pK] prP2 [.bool] (fun _ => [.b true])) := by
  refine fnOk_gd (cxC_ok fnsL_ok) gmC_is Tryd.func3 (c := body Tryd.f3) (by kernel_rfl) (enters_of Tryd.func3 (by kernel_rfl) (by kernel_rfl)) (fuel := 100) ?_
  intro xs hfit hp
  obtain ⟨x, y, z, w, rfl⟩ := fit_pp hfit
  obtain ⟨h1, h2⟩ := hp
  refine ⟨no, noBlC, ⟨trivial, trivial⟩, Gd.of_run (rnTells _ _ _ _ _ _ _ _ _ _ _ _ _ _ _ _ _ _ _ x y z w) ⟨?_⟩⟩
  simp only [tellsT, uPB, uPPP, uPP, uPPB, okT, T.good, addV, negV]
  exact ⟨h1, h1, beq_self_eq_true _, ⟨h1, h2⟩, ⟨h1, h2⟩, eqV' _ _ rfl, h1, h1, eqV' _ _ rfl, ⟨h1, h2⟩, ⟨h1, h2⟩, den_true (beq_self_eq_true _)⟩
theorem fnTimes : FnOk Tryd.prog GC 4 (ct [i4, pK] prKP [.bool] (fun _ => [.b true])) := by
  refine fnOk_gd (cxC_ok fnsL_ok) gmC_is Tryd.func4 (c := body Tryd.f4) (by kernel_rfl) (enters_of Tryd.func4 (by kernel_rfl) (by kernel_rfl)) (fuel := 100) ?_
  intro xs hfit hp
  obtain ⟨k, x, y, rfl, hk⟩ := fit_lp hfit
  obtain ⟨h1, h2⟩ := hp
  refine ⟨no, noBlC, ⟨trivial, trivial⟩, Gd.of_run (rnTimes _ _ _ _ _ _ _ _ _ _ _ _ _ _ _ _ _ _ _ k x y) ⟨?_⟩⟩
  simp only [timesT, uPP, uKP, okT, T.good, mulV, clrV]
  exact ⟨⟨h1, h2⟩, ⟨h1, h2⟩, eqV' _ _ rfl, h2, h2, den_true (eqV' _ _ rfl)⟩
theorem fnGroup : FnOk Tryd.prog GC 5 (ct [pK, pK, pK] prP3 [.bool] (fun _ => [.b true])) := by
  refine fnOk_gd (cxC_ok fnsL_ok) gmC_is Tryd.func5 (c := body Tryd.f5) (by kernel_rfl) (enters_of Tryd.func5 (by kernel_rfl) (by kernel_rfl)) (fuel := 100) ?_
  intro xs hfit hp
  obtain ⟨x, y, z, w, u, v, rfl⟩ := fit_ppp hfit
  obtain ⟨h1, h2, h3⟩ := hp
  refine ⟨no, noBlC, ⟨trivial, trivial⟩, Gd.of_run (rnGroup _ _ _ _ _ _ _ _ _ _ _ _ _ _ _ _ _ _ _ x y z w u v) ⟨?_⟩⟩
  simp only [groupT, uPB, uPPP, uPP, uPPB, u0p, okT, T.good, addV, negV]
  have g := U2_ptV
  have o1 := tkP_on (x, y)
  have o2 := tkP_on (z, w)
  have o3 := tkP_on (u, v)
  have o12 := Nt.on_padd cvc o1 o2
  have o23 := Nt.on_padd cvc o2 o3
  rw [tkv o12, tkv o23, tkv (Nt.on_neg o1), tkv (Nt.on_zero Dc)]
  refine ⟨⟨h1, h2⟩, g _, check_on o12, ⟨h2, h1⟩, eqV' _ _ (Nt.padd_comm _ _ _), ⟨g _, h3⟩, ⟨h2, h3⟩, ⟨h1, g _⟩, eqV' _ _ (Nt.padd_assoc cvc o1 o2 o3), h1, ⟨h1, g _⟩, trivial, eqV' _ _ (Nt.padd_neg cvc o1), trivial, ⟨h1, g _⟩, ⟨g _, h1⟩, den_true ?_⟩
  show decide (tkP ((ptV (padd Dc (tkP (x, y)) pzero)).1, (ptV (padd Dc (tkP (x, y)) pzero)).2) = tkP (x, y)) = true
  rw [Nt.padd_zero cvc o1, tkv o1]
  exact decide_eq_true rfl
theorem fnSums : FnOk Tryd.prog GC 8 (ct [i4, i4, i4] pr3L [.bool] (fun _ => [.b true])) := by
  refine fnOk_gd (cxC_ok fnsL_ok) gmC_is Tryd.func8 (c := body Tryd.f8) (by kernel_rfl) (enters_of Tryd.func8 (by kernel_rfl) (by kernel_rfl)) (fuel := 100) ?_
  intro xs hfit hp
  obtain ⟨a, b, c, rfl, -, -, -⟩ := fit_l3 hfit
  obtain ⟨h1, h2, h3⟩ := hp
  refine ⟨no, noBlC, ⟨trivial, trivial⟩, Gd.of_run (rnSums _ _ _ _ _ _ _ _ _ _ _ _ _ _ _ _ _ _ _ a b c) ⟨?_⟩⟩
  simp only [sumsT, uPB, uPPP, uKP, u2, u0p, okT, T.good, addV, mulV, saV, smV]
  have g := U2_ptV
  have oG : On Dc Gc := Nt.Gc_on
  rw [tkv oG]
  have oP := Nt.on_sm (val c) oG
  have lP := Nt.sm_L (val c) oG Nt.Gc_L
  generalize hP : sm (val c) Gc = P at *
  rw [tkv oP]
  have oX := Nt.on_sm (val a) oP
  have oY := Nt.on_sm (val b) oP
  have oA := Nt.on_sm (val a) oG
  rw [tkv oX, tkv oY, tkv (Nt.on_padd cvc oP oG), tkv oA, val_L, val_L, sm_modL, sm_modL]
  exact ⟨trivial, ⟨h3, g _⟩, ⟨h1, g _⟩, ⟨h2, g _⟩, ⟨h1, h2⟩, ⟨toL_u64 _ _, g _⟩, ⟨g _, g _⟩, eqV' _ _ (Nt.sm_add oP lP _ _), ⟨h1, h2⟩, ⟨toL_u64 _ _, g _⟩, ⟨h1, g _⟩, eqV' _ _ (Nt.sm_mul oP lP _ _), ⟨g _, g _⟩, ⟨h1, g _⟩, ⟨h1, g _⟩, ⟨g _, g _⟩, eqV' _ _ (Nt.sm_padd _ oP oG), g _, den_true (check_on oX)⟩
theorem fnNegs : FnOk Tryd.prog GC 7 (ct [i4, pK] prKP [.bool] (fun _ => [.b true])) := by
  refine fnOk_gd (cxC_ok fnsL_ok) gmC_is Tryd.func7 (c := body Tryd.f7) (by kernel_rfl) (enters_of Tryd.func7 (by kernel_rfl) (by kernel_rfl)) (fuel := 100) ?_
  intro xs hfit hp
  obtain ⟨k, x, y, rfl, hk⟩ := fit_lp hfit
  obtain ⟨h1, h2⟩ := hp
  refine ⟨no, noBlC, ⟨trivial, trivial⟩, Gd.of_run (rnNegs _ _ _ _ _ _ _ _ _ _ _ _ _ _ _ _ _ _ _ k x y) ⟨?_⟩⟩
  simp only [negsT, uPPP, uPP, uKP, u1, u0p, okT, T.good, addV, mulV, negV, clrV]
  have g := U2_ptV
  have o := tkP_on (x, y)
  have oN := Nt.on_neg o
  have oC := Nt.on_smul cvc o 8
  have oK := Nt.on_sm (val k) o
  have oM := Nt.on_sm (-1) oC
  have hm : val (snV [1, 0, 0, 0]) = (-1) % L25 := by unfold snV; rw [show val [1, 0, 0, 0] = 1 by decide, val_L]
  have u1' : U64 [1, 0, 0, 0] := u4l _ _ _ _ (by decide)
  rw [tkv oN, tkv oC, tkv oK, tkv (Nt.on_zero Dc), hm, sm_modL, tkv oM]
  refine ⟨h2, h2, u1', ⟨toL_u64 _ _, g _⟩, ⟨h1, g _⟩, ⟨h1, h2⟩, g _, eqV' _ _ (Nt.sm_pneg _ o), g _, trivial, ⟨h2, g _⟩, eqV' _ _ ?_, ⟨g _, g _⟩, trivial, eqV' _ _ (Nt.sm_minus oC (Nt.smul_L8 o)), g _, g _, den_true (eqV' _ _ (Nt.smul_neg cvc o 8))⟩
  rw [Nt.padd_zero cvc o]; exact Nt.pneg_pneg _
end Go.Proofs.YtkhooaaidmoogaaDoor

/- CurveSteps: its contract. -/
namespace Go.Proofs.YtkhooaaidmoogaaDoor
open Go Go.Sx
open Go.Nt (cls digs Pt E4 E3 Pc Dc Gc On padd pneg pzero smul sm cvc)
set_option maxRecDepth 100000

def ksS : Fg := ⟨List.replicate 8 .keep ++ [.soft] ++ List.replicate 41 .junk, 2, 12⟩
def jsS : Fg := ⟨List.replicate 8 .keep ++ List.replicate 42 .junk, 2, 12⟩
def hdS (x y : LI) (n k : Int) : List SV := [.agg [.ints .u64 4 x, .ints .u64 4 y], .int .u8 n, ptr0 0, .raw (.tuple #[]), .ff, .tt, .int .i64 k, ptr0 9]
def invS (x y : LI) (n k i : Int) (s : P2) : St := ⟨hdS x y n k ++ [.int .i64 i] ++ junks 9 41, [(0, .st true [.ints .u64 4 x, .ints .u64 4 y]), (9, .st true [.ints .u64 4 s.1, .ints .u64 4 s.2])], 12⟩
def outS (x y : LI) (n k : Int) (s : P2) : St := ⟨hdS x y n k ++ junks 8 42, [(0, .st true [.ints .u64 4 x, .ints .u64 4 y]), (9, .st true [.ints .u64 4 s.1, .ints .u64 4 s.2])], 12⟩
noncomputable def bodyS : Code := unloop (Code.blk (body Tryd.f6) 0)
section
variable (Z : P2) (A : P2 → P2 → P2) (N K : P2 → P2) (Mu : LI → P2 → P2) (E : LI → LI → Bool)
noncomputable abbrev fnsSt : List (Nat × (List SV → T SV)) := [(22, g0p Z), (12, gPPP A), (14, gPP N), (18, gKP Mu), (20, gPP K), (23, gB E), (9, upF)]
theorem roundS (x y : LI) (n k i : Int) (s : P2) : endOf ksS jsS (exec (cxF (fnsSt Z A N K Mu E)) (drawS (cxF (fnsSt Z A N K Mu E))) no 100 bodyS (invS x y n k i s)) =
  .ite (decide (i < k)) (uPPP A s (x, y) fun s' => .ret (.normal, invS x y n k (IntKind.i64.wrap (i + 1)) (s'.1, s'.2))) (.ret (.exit 0, outS x y n k s)) := by kernel_rfl
noncomputable def blS (x y : LI) (n k : Int) (st out : P2) : Blocks := fun i => match Nat.beq i 0 with
  | true => some (loopF ksS (invS x y n k 0 st) (outS x y n k out))
  | false => none
def stepsT (k : Int) (p out : P2) : T SV := uKP Mu [IntKind.u64.wrap k, 0, 0, 0] p fun m => okT (eqP m out) <| uPP K p fun c => uKP Mu [8, 0, 0, 0] p fun m => okT (eqP c m) <| uPP N p fun a => uPP N p fun b => uPP N b fun b => uBo E a.2 b.2 fun r => rB r
theorem runSteps (x y : LI) (n : Int) (out : P2) : prune (runX (cxF (fnsSt Z A N K Mu E)) (blS x y n ((IntKind.i64.wrap n).tmod 40) (Z.1, Z.2) out) 100 Tryd.f6 (body Tryd.f6) (can [pK, .num .u8] [.a [x, y], .n n]) []) (List.replicate 9 true) =
  .need True (.need (invS x y n ((IntKind.i64.wrap n).tmod 40) 0 (Z.1, Z.2) = invS x y n ((IntKind.i64.wrap n).tmod 40) 0 (Z.1, Z.2)) (stepsT N K Mu E ((IntKind.i64.wrap n).tmod 40) (x, y) out)) := by kernel_rfl
end

theorem fit_pn {xs : List AV} (h : fit [pK, .num .u8] xs) : ∃ x y n, xs = [.a [x, y], .n n] := by
  match xs, h with
  | [a, b], h =>
    obtain ⟨x, y, e⟩ := fit_p (xs := [a]) ⟨h.1, trivial⟩
    cases e
    have h2 := h.2.1
    cases b <;> first | exact ⟨x, y, _, rfl⟩ | exact h2.elim
  | [], h => exact h.elim
  | [_], h => exact h.2.elim
  | _ :: _ :: _ :: _, h => exact h.2.2.elim
abbrev prPN : List AV → Prop := fun | [.a [x, y], .n n] => U2 (x, y) ∧ 0 ≤ n ∧ n < 256 | _ => False
noncomputable abbrev fnsS : List (Nat × (List SV → T SV)) := fnsSt (ptV pzero) addV negV clrV mulV sameF
theorem fnsS_ok : FnsOk Tryd.prog GC fnsS := ⟨cZero, cAdd', cNeg', cMul', cClear, dSame, fnAw, trivial⟩
noncomputable def InvS (x y : LI) (n k : Int) (i : Nat) : St := invS x y n k i (ptV (smul Dc i (tkP (x, y))))
theorem roundS_good (x y : LI) (hu : U2 (x, y)) (n : Int) (k : Nat) (hk : k < 40) (i : Nat) (hi : i ≤ k) : (endOf ksS jsS (exec (cxF fnsS) (drawS (cxF fnsS)) no 100 bodyS (InvS x y n k i))).good fun r => match r.1 with
      | .normal => ∃ i', i' ≤ k ∧ r.2 = InvS x y n k i' ∧ k - i' < k - i
      | .exit j => j = 0 ∧ r.2 = outS x y n k (ptV (smul Dc k (tkP (x, y))))
      | .ret => False := by
  unfold InvS
  rw [roundS]
  have o := tkP_on (x, y)
  simp only [T.good, decide_eq_true_eq, decide_eq_false_iff_not, uPPP, addV]
  refine ⟨fun hlt => ⟨⟨U2_ptV _, hu⟩, i + 1, by omega, ?_, by omega⟩, fun hlt => ?_⟩
  · rw [tkv (Nt.on_smul cvc o i), ← Nt.smul_succ cvc o, wrap_i64 _ (by omega)]
    rfl
  · have : i = k := by omega
    subst this
    exact ⟨trivial, rfl⟩
theorem fnSteps : FnOk Tryd.prog GC 6 (ct [pK, .num .u8] prPN [.bool] (fun _ => [.b true])) := by
  have hcx := cxC_ok fnsS_ok
  refine fnOk_gd hcx gmC_is Tryd.func6 (c := body Tryd.f6) (by kernel_rfl) (enters_of Tryd.func6 (by kernel_rfl) (by kernel_rfl)) (fuel := 100) ?_
  intro xs hfit hp
  obtain ⟨x, y, n, rfl⟩ := fit_pn hfit
  obtain ⟨hu, hn0, hn1⟩ := hp
  obtain ⟨k, hk, hkn⟩ : ∃ k : Nat, k < 40 ∧ (IntKind.i64.wrap n).tmod 40 = (k : Int) := by
    refine ⟨(n % 40).toNat, by omega, ?_⟩
    rw [wrap_i64 n (by omega), Int.tmod_eq_emod_of_nonneg hn0]
    omega
  refine ⟨blS x y n ((IntKind.i64.wrap n).tmod 40) ((ptV (pzero : Pt Pc)).1, (ptV (pzero : Pt Pc)).2) (ptV (smul Dc k (tkP (x, y)))), ?_, ⟨trivial, trivial⟩, ?_⟩
  · intro Γ hG h0 hg hz
    refine blocksIn_of _ fun id f hf b hb => ?_
    have hid : id = 0 := by
      simp only [blS] at hf
      split at hf
      · rename_i h; exact Nat.eq_of_beq_eq_true h
      · cases hf
    subst hid
    have hbl : blksL (body Tryd.f6) 0 = [.loop bodyS] := by kernel_rfl
    rw [hbl] at hb
    have hb := List.mem_singleton.1 hb
    subst hb
    have hf : loopF ksS (invS x y n ((IntKind.i64.wrap n).tmod 40) 0 ((ptV (pzero : Pt Pc)).1, (ptV (pzero : Pt Pc)).2)) (outS x y n ((IntKind.i64.wrap n).tmod 40) (ptV (smul Dc k (tkP (x, y))))) = f := by
      simpa [blS] using hf
    subst hf
    rw [hkn]
    have e0 : invS x y n (k : Int) 0 ((ptV (pzero : Pt Pc)).1, (ptV (pzero : Pt Pc)).2) = InvS x y n k 0 := by
      unfold InvS
      rfl
    rw [e0]
    exact loop_rule (hG ▸ hcx) hg h0 (drawS_sound (hG ▸ hcx) hg h0) (bl := no) (blocksIn_none _) (InvS x y n k) (fun i => k - i) (fun i => i ≤ k) _ 100 ksS jsS (by rw [hz]; exact Nat.zero_le _) (by rw [hz]; exact Nat.zero_le _)
      (roundS_good x y hu n k hk) 0 (Nat.zero_le _)
  · refine Gd.of_run (runSteps _ _ _ _ _ _ x y n _) ⟨?_⟩
    simp only [stepsT, uPP, uKP, uBo, okT, T.good, mulV, negV, clrV]
    have g := U2_ptV
    have o := tkP_on (x, y)
    have oN := Nt.on_neg o
    have hkv : val [IntKind.u64.wrap ((IntKind.i64.wrap n).tmod 40), 0, 0, 0] = (k : Int) := by
      rw [hkn, wrap_u64, Int.emod_eq_of_lt (by omega) (by omega)]; simp [val]
    have hku : U64 [IntKind.u64.wrap ((IntKind.i64.wrap n).tmod 40), 0, 0, 0] := by
      rw [hkn, wrap_u64, Int.emod_eq_of_lt (by omega) (by omega)]
      exact u4l _ _ _ _ ⟨⟨by omega, by omega⟩, by omega, by omega, by omega⟩
    rw [tkv oN, hkv]
    refine ⟨trivial, trivial, ⟨hku, hu⟩, eqV' _ _ ?_, hu, ⟨u4l _ _ _ _ (by decide), hu⟩, eqV' _ _ ?_, hu, hu, g _, ⟨Nt.digs_u64 _, Nt.digs_u64 _⟩, den_true ?_⟩
    · exact Nt.sm_small k (Nat.lt_trans hk (by decide +kernel)) _
    · rw [show val [8, 0, 0, 0] = ((8 : Nat) : Int) by decide, Nt.sm_small 8 (by decide +kernel)]
    · exact decide_eq_true rfl
end Go.Proofs.YtkhooaaidmoogaaDoor

/- What the listed variables give; the world in which the door has laid them. -/
namespace Go.Proofs.YtkhooaaidmoogaaDoor
open Go Go.Sx
open Go.ChangeShapes Go.WideShapes Go.RowKit
set_option maxRecDepth 100000

noncomputable abbrev laidF : List (String × DataW Unit) := [("yashmak/field.prime", Rows.laid_yashmak_field_prime), ("yashmak/field.less2", Rows.laid_yashmak_field_less2), ("yashmak/field.eighth", Rows.laid_yashmak_field_eighth), ("yashmak/field.quarter", Rows.laid_yashmak_field_quarter), ("yashmak/scalar.order", Rows.laid_yashmak_scalar_order)]
theorem door_metF (os : Os) (args : Array Value) : laidMetH Tryd.prog laidF ((World.doorLaid Tryd.prog 400 os).forCall (fun _ _ => 0) ⟨#[], args, []⟩).memory :=
  laidMetH_of_parts3 (fuel := 8) (laidMet_of_run' 8 (by kernel_rfl) (by kernel_rfl)) (by kernel_rfl) (by kernel_rfl)

theorem GC_of_laid {W : World} (h : laidMetH Tryd.prog laidF W) : GC W := by
  rw [MakeChecks.laidMetH_plain _ _ _ (by kernel_rfl)] at h
  obtain ⟨ps, ⟨g0, t0, cs0, f0, p0, q0, hg0, ht0, hv0, hd0, ⟨g1, t1, cs1, f1, p1, q1, hg1, ht1, hv1, hd1, ⟨g2, t2, cs2, f2, p2, q2, hg2, ht2, hv2, hd2, ⟨g3, t3, cs3, f3, p3, q3, hg3, ht3, hv3, hd3, ⟨g4, t4, cs4, f4, p4, q4, hg4, ht4, hv4, hd4, _, _⟩, _⟩, _⟩, _⟩, _⟩, _, _⟩ := h
  obtain rfl := Option.some.inj ((show (Tryd.prog.globals[g0]?).map (·.type) = some 24 by rw [Option.some.inj (hg0.symm.trans (show Tryd.prog.globalNamed "yashmak/field.prime" = some 1 by kernel_rfl))]; kernel_rfl).symm.trans ht0)
  obtain rfl := Option.some.inj ((show (Tryd.prog.globals[g1]?).map (·.type) = some 24 by rw [Option.some.inj (hg1.symm.trans (show Tryd.prog.globalNamed "yashmak/field.less2" = some 2 by kernel_rfl))]; kernel_rfl).symm.trans ht1)
  obtain rfl := Option.some.inj ((show (Tryd.prog.globals[g2]?).map (·.type) = some 24 by rw [Option.some.inj (hg2.symm.trans (show Tryd.prog.globalNamed "yashmak/field.eighth" = some 3 by kernel_rfl))]; kernel_rfl).symm.trans ht2)
  obtain rfl := Option.some.inj ((show (Tryd.prog.globals[g3]?).map (·.type) = some 24 by rw [Option.some.inj (hg3.symm.trans (show Tryd.prog.globalNamed "yashmak/field.quarter" = some 4 by kernel_rfl))]; kernel_rfl).symm.trans ht3)
  obtain rfl := Option.some.inj ((show (Tryd.prog.globals[g4]?).map (·.type) = some 32 by rw [Option.some.inj (hg4.symm.trans (show Tryd.prog.globalNamed "yashmak/scalar.order" = some 0 by kernel_rfl))]; kernel_rfl).symm.trans ht4)
  have hu : Tryd.prog.underlying 24 = some (.array 4 22) := by kernel_rfl
  have hu2 : Tryd.prog.underlying 22 = some (.int .u64) := by kernel_rfl
  have hc : Tryd.prog.cellsOf 22 = 1 := by kernel_rfl
  have hn : Tryd.prog.cellsOf 24 = 4 := by kernel_rfl
  have hu' : Tryd.prog.underlying 32 = some (.array 4 22) := by kernel_rfl
  have hn' : Tryd.prog.cellsOf 32 = 4 := by kernel_rfl
  have a0 := gInts_of (l := primeL) hg0 hv0 hu hu2 hc hn hd0
  have a1 := gInts_of (l := less2L) hg1 hv1 hu hu2 hc hn hd1
  have a2 := gInts_of (l := eighthL) hg2 hv2 hu hu2 hc hn hd2
  have a3 := gInts_of (l := quarterL) hg3 hv3 hu hu2 hc hn hd3
  have a4 := gInts_of (l := orderL) hg4 hv4 hu' hu2 hc hn' hd4
  rw [Option.some.inj (hg0.symm.trans (show Tryd.prog.globalNamed "yashmak/field.prime" = some 1 by kernel_rfl))] at a0
  rw [Option.some.inj (hg1.symm.trans (show Tryd.prog.globalNamed "yashmak/field.less2" = some 2 by kernel_rfl))] at a1
  rw [Option.some.inj (hg2.symm.trans (show Tryd.prog.globalNamed "yashmak/field.eighth" = some 3 by kernel_rfl))] at a2
  rw [Option.some.inj (hg3.symm.trans (show Tryd.prog.globalNamed "yashmak/field.quarter" = some 4 by kernel_rfl))] at a3
  rw [Option.some.inj (hg4.symm.trans (show Tryd.prog.globalNamed "yashmak/scalar.order" = some 0 by kernel_rfl))] at a4
  exact ⟨⟨a0, a2, a3, a1, trivial⟩, ⟨a4, trivial⟩⟩

theorem own : ownKnob Tryd.prog.godebug = none := by kernel_rfl
theorem laidOut : laidOutB Tryd.prog = true := by kernel_rfl
theorem u64_has {l : List Int} (h : hasL .u64 l) : U64 l := fun x hx => by
  have := h x hx
  simp only [IntKind.has, IntKind.min, IntKind.max, IntKind.signed, IntKind.bits] at this
  simp at this
  omega
theorem u2_has {x y : LI} (h : has1 pK (.a [x, y])) : U2 (x, y) := ⟨u64_has h.1, u64_has h.2.1⟩
theorem u8_has1 {n : Int} (h : has1 (.num .u8) (.n n)) : 0 ≤ n ∧ n < 256 := by
  have : IntKind.u8.has n := h
  simp only [IntKind.has, IntKind.min, IntKind.max, IntKind.signed, IntKind.bits] at this
  simp at this
  omega
end Go.Proofs.YtkhooaaidmoogaaDoor
