import Derived.Test.YtdmphnfpcblfnaaDoorFs2
namespace Go.Proofs.YtdmphnfpcblfnaaDoor
open Go Go.Sx
set_option maxRecDepth 100000

def stepT (a b c d : Int) (k : Int → Int → T SV) : T SV := .need (U64 [a, b, c, d]) (k ((a * b + c + d) % 18446744073709551616) ((a * b + c + d) / 18446744073709551616))
def plusT (a b : List Int) (k : List Int → Int → T SV) : T SV := .need (U64 a ∧ U64 b) (k (toL 4 (val a + val b)) ((val a + val b) / pw 4))

theorem stepT_good {a b c d : Int} {k : Int → Int → T SV} {Q : SV → Prop} (ha : 0 ≤ a ∧ a < 18446744073709551616) (hb : 0 ≤ b ∧ b < 18446744073709551616) (hc : 0 ≤ c ∧ c < 18446744073709551616) (hd : 0 ≤ d ∧ d < 18446744073709551616)
    (h : ∀ lo hi, (0 ≤ lo ∧ lo < 18446744073709551616) → (0 ≤ hi ∧ hi < 18446744073709551616) → lo + 18446744073709551616 * hi = a * b + c + d → (k lo hi).good Q) : (stepT a b c d k).good Q := by
  have hm := mulDivMod a b c d ha hb hc hd
  refine ⟨u64_4.2 ⟨ha, hb, hc, hd⟩, h _ _ ?_ ?_ ?_⟩ <;> omega

theorem u64_8 {a b c d e f g h : Int} (ha : 0 ≤ a ∧ a < 18446744073709551616) (hb : 0 ≤ b ∧ b < 18446744073709551616) (hc : 0 ≤ c ∧ c < 18446744073709551616) (hd : 0 ≤ d ∧ d < 18446744073709551616) (he : 0 ≤ e ∧ e < 18446744073709551616) (hf : 0 ≤ f ∧ f < 18446744073709551616) (hg : 0 ≤ g ∧ g < 18446744073709551616) (hh : 0 ≤ h ∧ h < 18446744073709551616) : U64 [a, b, c, d, e, f, g, h] := by
  simp only [U64.cons]; exact ⟨ha, hb, hc, hd, he, hf, hg, hh, U64.nil⟩

theorem mul44 (x0 x1 x2 x3 y0 y1 y2 y3 : Int) : val [x0, x1, x2, x3] * val [y0, y1, y2, y3] = 1 * (x0 * y0) + 18446744073709551616 * (x0 * y1) + 340282366920938463463374607431768211456 * (x0 * y2) + 6277101735386680763835789423207666416102355444464034512896 * (x0 * y3) + 18446744073709551616 * (x1 * y0) + 340282366920938463463374607431768211456 * (x1 * y1) + 6277101735386680763835789423207666416102355444464034512896 * (x1 * y2) + 115792089237316195423570985008687907853269984665640564039457584007913129639936 * (x1 * y3) + 340282366920938463463374607431768211456 * (x2 * y0) + 6277101735386680763835789423207666416102355444464034512896 * (x2 * y1) + 115792089237316195423570985008687907853269984665640564039457584007913129639936 * (x2 * y2) + 2135987035920910082395021706169552114602704522356652769947041607822219725780640550022962086936576 * (x2 * y3) + 6277101735386680763835789423207666416102355444464034512896 * (x3 * y0) + 115792089237316195423570985008687907853269984665640564039457584007913129639936 * (x3 * y1) + 2135987035920910082395021706169552114602704522356652769947041607822219725780640550022962086936576 * (x3 * y2) + 39402006196394479212279040100143613805079739270465446667948293404245721771497210611414266254884915640806627990306816 * (x3 * y3) := by
  simp only [val]
  grind

def prodT (x0 x1 x2 x3 y0 y1 y2 y3 : Int) : T SV :=
  stepT x0 y0 0 0 fun l00 h00 =>
  stepT x0 y1 0 h00 fun l01 h01 =>
  stepT x0 y2 0 h01 fun l02 h02 =>
  stepT x0 y3 0 h02 fun l03 h03 =>
  stepT x1 y0 l01 0 fun l10 h10 =>
  stepT x1 y1 l02 h10 fun l11 h11 =>
  stepT x1 y2 l03 h11 fun l12 h12 =>
  stepT x1 y3 h03 h12 fun l13 h13 =>
  stepT x2 y0 l11 0 fun l20 h20 =>
  stepT x2 y1 l12 h20 fun l21 h21 =>
  stepT x2 y2 l13 h21 fun l22 h22 =>
  stepT x2 y3 h13 h22 fun l23 h23 =>
  stepT x3 y0 l21 0 fun l30 h30 =>
  stepT x3 y1 l22 h30 fun l31 h31 =>
  stepT x3 y2 l23 h31 fun l32 h32 =>
  stepT x3 y3 h23 h32 fun l33 h33 =>
  .ret (.ints .u64 8 [l00, l10, l20, l30, l31, l32, l33, h33])

theorem run55 (x0 x1 x2 x3 y0 y1 y2 y3 : Int) : runX (cxF [(74, stepC)]) no 100 Tryd.f55 (body Tryd.f55) (can l2 [.l [x0,x1,x2,x3], .l [y0,y1,y2,y3]]) gmF = prodT x0 x1 x2 x3 y0 y1 y2 y3 := by kernel_rfl

theorem prodT_good (x0 x1 x2 x3 y0 y1 y2 y3 : Int) (bx0 : 0 ≤ x0 ∧ x0 < 18446744073709551616) (bx1 : 0 ≤ x1 ∧ x1 < 18446744073709551616) (bx2 : 0 ≤ x2 ∧ x2 < 18446744073709551616) (bx3 : 0 ≤ x3 ∧ x3 < 18446744073709551616) (by0 : 0 ≤ y0 ∧ y0 < 18446744073709551616) (by1 : 0 ≤ y1 ∧ y1 < 18446744073709551616) (by2 : 0 ≤ y2 ∧ y2 < 18446744073709551616) (by3 : 0 ≤ y3 ∧ y3 < 18446744073709551616) : (prodT x0 x1 x2 x3 y0 y1 y2 y3).good fun u => u = .ints .u64 8 (toL 8 (val [x0, x1, x2, x3] * val [y0, y1, y2, y3])) := by
  have b0 : 0 ≤ (0 : Int) ∧ (0 : Int) < 18446744073709551616 := by omega
  unfold prodT
  refine stepT_good bx0 by0 b0 b0 fun l00 h00 bl00 bh00 el00 => ?_
  refine stepT_good bx0 by1 b0 bh00 fun l01 h01 bl01 bh01 el01 => ?_
  refine stepT_good bx0 by2 b0 bh01 fun l02 h02 bl02 bh02 el02 => ?_
  refine stepT_good bx0 by3 b0 bh02 fun l03 h03 bl03 bh03 el03 => ?_
  refine stepT_good bx1 by0 bl01 b0 fun l10 h10 bl10 bh10 el10 => ?_
  refine stepT_good bx1 by1 bl02 bh10 fun l11 h11 bl11 bh11 el11 => ?_
  refine stepT_good bx1 by2 bl03 bh11 fun l12 h12 bl12 bh12 el12 => ?_
  refine stepT_good bx1 by3 bh03 bh12 fun l13 h13 bl13 bh13 el13 => ?_
  refine stepT_good bx2 by0 bl11 b0 fun l20 h20 bl20 bh20 el20 => ?_
  refine stepT_good bx2 by1 bl12 bh20 fun l21 h21 bl21 bh21 el21 => ?_
  refine stepT_good bx2 by2 bl13 bh21 fun l22 h22 bl22 bh22 el22 => ?_
  refine stepT_good bx2 by3 bh13 bh22 fun l23 h23 bl23 bh23 el23 => ?_
  refine stepT_good bx3 by0 bl21 b0 fun l30 h30 bl30 bh30 el30 => ?_
  refine stepT_good bx3 by1 bl22 bh30 fun l31 h31 bl31 bh31 el31 => ?_
  refine stepT_good bx3 by2 bl23 bh31 fun l32 h32 bl32 bh32 el32 => ?_
  refine stepT_good bx3 by3 bh23 bh32 fun l33 h33 bl33 bh33 el33 => ?_
  simp only [T.good]
  have hu : U64 [l00, l10, l20, l30, l31, l32, l33, h33] := u64_8 bl00 bl10 bl20 bl30 bl31 bl32 bl33 bh33
  rw [show toL 8 (val [x0, x1, x2, x3] * val [y0, y1, y2, y3]) = toL 8 (val [l00, l10, l20, l30, l31, l32, l33, h33]) from ?_]
  · have := toL_val hu; simp only [List.length_cons, List.length_nil] at this; rw [this]
  · congr 1
    have e : val [x0, x1, x2, x3] * val [y0, y1, y2, y3] = 1 * (x0 * y0) + 18446744073709551616 * (x0 * y1) + 340282366920938463463374607431768211456 * (x0 * y2) + 6277101735386680763835789423207666416102355444464034512896 * (x0 * y3) + 18446744073709551616 * (x1 * y0) + 340282366920938463463374607431768211456 * (x1 * y1) + 6277101735386680763835789423207666416102355444464034512896 * (x1 * y2) + 115792089237316195423570985008687907853269984665640564039457584007913129639936 * (x1 * y3) + 340282366920938463463374607431768211456 * (x2 * y0) + 6277101735386680763835789423207666416102355444464034512896 * (x2 * y1) + 115792089237316195423570985008687907853269984665640564039457584007913129639936 * (x2 * y2) + 2135987035920910082395021706169552114602704522356652769947041607822219725780640550022962086936576 * (x2 * y3) + 6277101735386680763835789423207666416102355444464034512896 * (x3 * y0) + 115792089237316195423570985008687907853269984665640564039457584007913129639936 * (x3 * y1) + 2135987035920910082395021706169552114602704522356652769947041607822219725780640550022962086936576 * (x3 * y2) + 39402006196394479212279040100143613805079739270465446667948293404245721771497210611414266254884915640806627990306816 * (x3 * y3) := mul44 x0 x1 x2 x3 y0 y1 y2 y3
    rw [e]; clear e hu
    simp only [val]
    generalize x0 * y0 = p00 at *
    generalize x0 * y1 = p01 at *
    generalize x0 * y2 = p02 at *
    generalize x0 * y3 = p03 at *
    generalize x1 * y0 = p10 at *
    generalize x1 * y1 = p11 at *
    generalize x1 * y2 = p12 at *
    generalize x1 * y3 = p13 at *
    generalize x2 * y0 = p20 at *
    generalize x2 * y1 = p21 at *
    generalize x2 * y2 = p22 at *
    generalize x2 * y3 = p23 at *
    generalize x3 * y0 = p30 at *
    generalize x3 * y1 = p31 at *
    generalize x3 * y2 = p32 at *
    generalize x3 * y3 = p33 at *
    omega
end Go.Proofs.YtdmphnfpcblfnaaDoor
