import Derived.Test.YtdlhklnpnpmibaaDoorChecked
import Derived.Test.YtdlhklnpnpmibaaDoorMc
import Derived.KernelRfl
import Derived.Test.YtdlhklnpnpmibaaDoorMb
import Derived.RangeFuncNested
import Derived.RangeFuncBound
import Derived.RangeFuncCalls
import Derived.RangeFuncLeaves
import Derived.Shelf.Abstract
import Derived.WalkKit
import Derived.OwnWalkIn
import Derived.TacticsInMore
import Derived.LoopNIn
import Derived.LoopIn
import Derived.Test.YtdlhklnpnpmibaaDoorRows
/- What the symbolic layer is told of the types of this translation: made by program. -/
namespace Go.Proofs.YtdlhklnpnpmibaaDoor
open Go.Sx
set_option maxRecDepth 100000
noncomputable def ty2 : TyI := ⟨(.int .i64), 1, 8, (.lit .i64 0), false⟩
noncomputable def ty3 : TyI := ⟨(.int .i64), 1, 8, (.lit .i64 0), false⟩
noncomputable def ty4 : TyI := ⟨.bool, 1, 1, .ff, false⟩
noncomputable def ty5 : TyI := ⟨(.int .u8), 1, 1, (.lit .u8 0), false⟩
noncomputable def ty9 : TyI := ⟨.string, 1, 16, (.raw (.string ByteArray.empty)), false⟩
noncomputable def ty12 : TyI := ⟨(.int .u64), 1, 8, (.lit .u64 0), false⟩
noncomputable def ty13 : TyI := ⟨(undD Tryd.prog 13), 2, 24, (.agg [.raw (.string ByteArray.empty), .ints .u64 1 [0]]), false⟩
noncomputable def ty21 : TyI := ⟨(.int .i32), 1, 4, (.lit .i32 0), false⟩
noncomputable def ty22 : TyI := ⟨(.int .u64), 1, 8, (.lit .u64 0), false⟩
noncomputable def ty23 : TyI := ⟨(.array 8 22), 8, 64, (.ints .u64 8 [0, 0, 0, 0, 0, 0, 0, 0]), true⟩
noncomputable def ty24 : TyI := ⟨(.slice 5), 1, 24, (.raw (.slice none 0 0)), false⟩
noncomputable def ty25 : TyI := ⟨(undD Tryd.prog 25), 10, 96, (.agg [.ints .u64 8 [0, 0, 0, 0, 0, 0, 0, 0], .raw (.slice none 0 0), .ints .u64 1 [0]]), false⟩
noncomputable def ty26 : TyI := ⟨(undD Tryd.prog 26), 10, 96, (.agg [.ints .u64 8 [0, 0, 0, 0, 0, 0, 0, 0], .raw (.slice none 0 0), .ints .u64 1 [0]]), false⟩
noncomputable def ty28 : TyI := ⟨(.int .i64), 1, 8, (.lit .i64 0), false⟩
noncomputable def ty31 : TyI := ⟨(.array 64 5), 64, 64, (.ints .u8 64 [0, 0, 0, 0, 0, 0, 0, 0, 0, 0, 0, 0, 0, 0, 0, 0, 0, 0, 0, 0, 0, 0, 0, 0, 0, 0, 0, 0, 0, 0, 0, 0, 0, 0, 0, 0, 0, 0, 0, 0, 0, 0, 0, 0, 0, 0, 0, 0, 0, 0, 0, 0, 0, 0, 0, 0, 0, 0, 0, 0, 0, 0, 0, 0]), true⟩
noncomputable def ty38 : TyI := ⟨(.slice 39), 1, 24, (.raw (.slice none 0 0)), false⟩
noncomputable def ty39 : TyI := ⟨(.int .u16), 1, 2, (.lit .u16 0), false⟩
noncomputable def ty52 : TyI := ⟨(.int .u64), 1, 8, (.lit .u64 0), false⟩
noncomputable def ty54 : TyI := ⟨(.array 80 22), 80, 640, (.ints .u64 80 [0, 0, 0, 0, 0, 0, 0, 0, 0, 0, 0, 0, 0, 0, 0, 0, 0, 0, 0, 0, 0, 0, 0, 0, 0, 0, 0, 0, 0, 0, 0, 0, 0, 0, 0, 0, 0, 0, 0, 0, 0, 0, 0, 0, 0, 0, 0, 0, 0, 0, 0, 0, 0, 0, 0, 0, 0, 0, 0, 0, 0, 0, 0, 0, 0, 0, 0, 0, 0, 0, 0, 0, 0, 0, 0, 0, 0, 0, 0, 0]), true⟩
noncomputable def ty56 : TyI := ⟨(.slice 22), 1, 24, (.raw (.slice none 0 0)), false⟩
noncomputable def ty68 : TyI := ⟨(.int .u32), 1, 4, (.lit .u32 0), false⟩
noncomputable def ty72 : TyI := ⟨(.pointer 5), 1, 8, (.raw (.pointer none)), false⟩
noncomputable def tabL : List (Nat × TyI) := [(2, ty2), (3, ty3), (4, ty4), (5, ty5), (9, ty9), (12, ty12), (13, ty13), (21, ty21), (22, ty22), (23, ty23), (24, ty24), (25, ty25), (26, ty26), (28, ty28), (31, ty31), (38, ty38), (39, ty39), (52, ty52), (54, ty54), (56, ty56), (68, ty68), (72, ty72)]
theorem ty2_ok : TyOk Tryd.prog 2 ty2 := tyOk_of (by kernel_rfl) (by kernel_rfl) (fun ρ => by kernel_rfl) (by simp [ty2, wf]) (fun p => by simp [ty2, SV.ids]) (fun h => by cases h)
theorem ty3_ok : TyOk Tryd.prog 3 ty3 := tyOk_of (by kernel_rfl) (by kernel_rfl) (fun ρ => by kernel_rfl) (by simp [ty3, wf]) (fun p => by simp [ty3, SV.ids]) (fun h => by cases h)
theorem ty4_ok : TyOk Tryd.prog 4 ty4 := tyOk_of (by kernel_rfl) (by kernel_rfl) (fun ρ => by kernel_rfl) (by simp [ty4, wf]) (fun p => by simp [ty4, SV.ids]) (fun h => by cases h)
theorem ty5_ok : TyOk Tryd.prog 5 ty5 := tyOk_of (by kernel_rfl) (by kernel_rfl) (fun ρ => by kernel_rfl) (by simp [ty5, wf]) (fun p => by simp [ty5, SV.ids]) (fun h => by cases h)
theorem ty9_ok : TyOk Tryd.prog 9 ty9 := tyOk_of (by kernel_rfl) (by kernel_rfl) (fun ρ => by kernel_rfl) (by simp [ty9, wf]) (fun p => by simp [ty9, SV.ids]) (fun h => by cases h)
theorem ty12_ok : TyOk Tryd.prog 12 ty12 := tyOk_of (by kernel_rfl) (by kernel_rfl) (fun ρ => by kernel_rfl) (by simp [ty12, wf]) (fun p => by simp [ty12, SV.ids]) (fun h => by cases h)
theorem ty13_ok : TyOk Tryd.prog 13 ty13 := tyOk_of (by kernel_rfl) (by kernel_rfl) (fun ρ => by kernel_rfl) (by simp [ty13, wf, isAtom, atomsL, one]) (fun p => by simp [ty13, SV.ids, idsL]) (fun h => by cases h)
theorem ty21_ok : TyOk Tryd.prog 21 ty21 := tyOk_of (by kernel_rfl) (by kernel_rfl) (fun ρ => by kernel_rfl) (by simp [ty21, wf]) (fun p => by simp [ty21, SV.ids]) (fun h => by cases h)
theorem ty22_ok : TyOk Tryd.prog 22 ty22 := tyOk_of (by kernel_rfl) (by kernel_rfl) (fun ρ => by kernel_rfl) (by simp [ty22, wf]) (fun p => by simp [ty22, SV.ids]) (fun h => by cases h)
theorem ty23_ok : TyOk Tryd.prog 23 ty23 := tyOk_of (by kernel_rfl) (by kernel_rfl) (fun ρ => by kernel_rfl) (by simp [ty23, wf]) (fun p => by simp [ty23, SV.ids]) (fun _ => ⟨by kernel_rfl, by kernel_rfl, fun fs h => by cases h⟩)
theorem ty24_ok : TyOk Tryd.prog 24 ty24 := tyOk_of (by kernel_rfl) (by kernel_rfl) (fun ρ => by kernel_rfl) (by simp [ty24, wf]) (fun p => by simp [ty24, SV.ids]) (fun h => by cases h)
theorem ty25_ok : TyOk Tryd.prog 25 ty25 := tyOk_of (by kernel_rfl) (by kernel_rfl) (fun ρ => by kernel_rfl) (by simp [ty25, wf, isAtom, atomsL, one]) (fun p => by simp [ty25, SV.ids, idsL]) (fun h => by cases h)
theorem ty26_ok : TyOk Tryd.prog 26 ty26 := tyOk_of (by kernel_rfl) (by kernel_rfl) (fun ρ => by kernel_rfl) (by simp [ty26, wf, isAtom, atomsL, one]) (fun p => by simp [ty26, SV.ids, idsL]) (fun h => by cases h)
theorem ty28_ok : TyOk Tryd.prog 28 ty28 := tyOk_of (by kernel_rfl) (by kernel_rfl) (fun ρ => by kernel_rfl) (by simp [ty28, wf]) (fun p => by simp [ty28, SV.ids]) (fun h => by cases h)
theorem ty31_ok : TyOk Tryd.prog 31 ty31 := tyOk_of (by kernel_rfl) (by kernel_rfl) (fun ρ => by kernel_rfl) (by simp [ty31, wf]) (fun p => by simp [ty31, SV.ids]) (fun _ => ⟨by kernel_rfl, by kernel_rfl, fun fs h => by cases h⟩)
theorem ty38_ok : TyOk Tryd.prog 38 ty38 := tyOk_of (by kernel_rfl) (by kernel_rfl) (fun ρ => by kernel_rfl) (by simp [ty38, wf]) (fun p => by simp [ty38, SV.ids]) (fun h => by cases h)
theorem ty39_ok : TyOk Tryd.prog 39 ty39 := tyOk_of (by kernel_rfl) (by kernel_rfl) (fun ρ => by kernel_rfl) (by simp [ty39, wf]) (fun p => by simp [ty39, SV.ids]) (fun h => by cases h)
theorem ty52_ok : TyOk Tryd.prog 52 ty52 := tyOk_of (by kernel_rfl) (by kernel_rfl) (fun ρ => by kernel_rfl) (by simp [ty52, wf]) (fun p => by simp [ty52, SV.ids]) (fun h => by cases h)
theorem ty54_ok : TyOk Tryd.prog 54 ty54 := tyOk_of (by kernel_rfl) (by kernel_rfl) (fun ρ => by kernel_rfl) (by simp [ty54, wf]) (fun p => by simp [ty54, SV.ids]) (fun _ => ⟨by kernel_rfl, by kernel_rfl, fun fs h => by cases h⟩)
theorem ty56_ok : TyOk Tryd.prog 56 ty56 := tyOk_of (by kernel_rfl) (by kernel_rfl) (fun ρ => by kernel_rfl) (by simp [ty56, wf]) (fun p => by simp [ty56, SV.ids]) (fun h => by cases h)
theorem ty68_ok : TyOk Tryd.prog 68 ty68 := tyOk_of (by kernel_rfl) (by kernel_rfl) (fun ρ => by kernel_rfl) (by simp [ty68, wf]) (fun p => by simp [ty68, SV.ids]) (fun h => by cases h)
theorem ty72_ok : TyOk Tryd.prog 72 ty72 := tyOk_of (by kernel_rfl) (by kernel_rfl) (fun ρ => by kernel_rfl) (by simp [ty72, wf]) (fun p => by simp [ty72, SV.ids]) (fun h => by cases h)
theorem tab_ok : TabOk Tryd.prog (tabOf tabL) := tabOk_of (by
  intro x hx
  simp only [tabL, List.mem_cons, List.mem_nil_iff, or_false] at hx
  rcases hx with rfl | rfl | rfl | rfl | rfl | rfl | rfl | rfl | rfl | rfl | rfl | rfl | rfl | rfl | rfl | rfl | rfl | rfl | rfl | rfl | rfl | rfl
  · exact ty2_ok
  · exact ty3_ok
  · exact ty4_ok
  · exact ty5_ok
  · exact ty9_ok
  · exact ty12_ok
  · exact ty13_ok
  · exact ty21_ok
  · exact ty22_ok
  · exact ty23_ok
  · exact ty24_ok
  · exact ty25_ok
  · exact ty26_ok
  · exact ty28_ok
  · exact ty31_ok
  · exact ty38_ok
  · exact ty39_ok
  · exact ty52_ok
  · exact ty54_ok
  · exact ty56_ok
  · exact ty68_ok
  · exact ty72_ok)
end Go.Proofs.YtdlhklnpnpmibaaDoor

/- Tools: contexts, blocks, needs; what is taken of the listed variables. -/
namespace Go.Proofs.YtdlhklnpnpmibaaDoor
open Go Go.Sx
open Go.RowKit (Below)
set_option maxRecDepth 100000

def firstL : List Int := [7640891576956012808, 13503953896175478587, 4354685564936845355, 11912009170470909681, 5840696475078001361, 11170449401992604703, 2270897969802886507, 6620516959819538809]
def constL : List Int := [4794697086780616226, 8158064640168781261, 13096744586834688815, 16840607885511220156, 4131703408338449720, 6480981068601479193, 10538285296894168987, 12329834152419229976, 15566598209576043074, 1334009975649890238, 2608012711638119052, 6128411473006802146, 8268148722764581231, 9286055187155687089, 11230858885718282805, 13951009754708518548, 16472876342353939154, 17275323862435702243, 1135362057144423861, 2597628984639134821, 3308224258029322869, 5365058923640841347, 6679025012923562964, 8573033837759648693, 10970295158949994411, 12119686244451234320, 12683024718118986047, 13788192230050041572, 14330467153632333762, 15395433587784984357, 489312712824947311, 1452737877330783856, 2861767655752347644, 3322285676063803686, 5560940570517711597, 5996557281743188959, 7280758554555802590, 8532644243296465576, 9350256976987008742, 10552545826968843579, 11727347734174303076, 12113106623233404929, 14000437183269869457, 14369950271660146224, 15101387698204529176, 15463397548674623760, 17586052441742319658, 1182934255886127544, 1847814050463011016, 2177327727835720531, 2830643537854262169, 3796741975233480872, 4115178125766777443, 5681478168544905931, 6601373596472566643, 7507060721942968483, 8399075790359081724, 8693463985226723168, 9568029438360202098, 10144078919501101548, 10430055236837252648, 11840083180663258601, 13761210420658862357, 14299343276471374635, 14566680578165727644, 15097957966210449927, 16922976911328602910, 17689382322260857208, 500013540394364858, 748580250866718886, 1242879168328830382, 1977374033974150939, 2944078676154940804, 3659926193048069267, 4368137639120453308, 4836135668995329356, 5532061633213252278, 6448918945643986474, 6902733635092675308, 7801388544844847127]
/-- What is taken of the listed variables. -/
abbrev glW : List (Nat × IntKind × List Int) := [(0, .u64, firstL), (1, .u64, constL)]
abbrev GW : World → Prop := GOf glW
def gmW : Mem := gmOf glW
theorem GW_keep (w w' : World) (hb : Below w.heap.size w w') (h : GW w) : GW w' := GOf_keep glW w w' hb h
theorem gW : GlobIs GW gmW := gmOf_is glW

noncomputable def body (f : Func) : Code := f.body.getD .skip
abbrev no : Blocks := fun _ => none
noncomputable abbrev cxW (fns : List (Nat × (List SV → T SV))) (fms : List (Nat × MSpec)) : Cx := cxM (tabOf tabL) [] fns fms
theorem cxW_ok {fns : List (Nat × (List SV → T SV))} {fms : List (Nat × MSpec)} (h : FnsOk Tryd.prog GW fns) (hm : FnmsOk Tryd.prog GW fms) : CxOk Tryd.prog GW (cxW fns fms) := cxM_ok tab_ok trivial h hm GW_keep (by kernel_rfl)
theorem noBl {c : Code} : ∀ Γ : Gam, Γ.G = GW → Γ.G Γ.w0 → GlobOk Γ → Γ.n0 = 0 → BlocksIn Tryd.prog Γ no c := fun _ _ _ _ _ => blocksIn_none c
/-- Bytes; a text that is summed; numbers. -/
abbrev sK : MK := .s 5 .u8 1
abbrev hK : MK := .x [.i .u64 8, .s 5 .u8 1, .i .u64 1]
abbrev iK : MK := .p (.num .i64)
abbrev uK : MK := .p (.num .u64)
abbrev bK : MK := .p .bool
abbrev stK : MK := .p (.ints .u64 8)

def Code.blk : Code → Nat → Option Code
  | .seq a b, i => match Code.blk a i with
    | some c => some c
    | none => Code.blk b i
  | .cond _ a b, i => match Code.blk a i with
    | some c => some c
    | none => Code.blk b i
  | .block j b, i => match Nat.beq j i with
    | true => some b
    | false => Code.blk b i
  | .loop b, i => Code.blk b i
  | .scope b, i => Code.blk b i
  | _, _ => none
def unloop : Option Code → Code
  | some (.loop b) => b
  | _ => .skip
def junks : Nat → Nat → List SV
  | _, 0 => []
  | i, n + 1 => .junk i :: junks (i + 1) n
/-- A rule for one block. -/
def blOne (i : Nat) (f : St → T (Ex × St)) : Blocks := fun j => match Nat.beq j i with
  | true => some f
  | false => none

theorem blOne_in {P : Program} {Γ : Gam} {c lp : Code} {i : Nat} {f : St → T (Ex × St)} (hc : blksL c i = [.loop lp]) (h : ∀ S e S', T.Reach (f S) (e, S') → Go.Sx.Comes P Γ (.block i (.loop lp)) S e S') : BlocksIn P Γ (blOne i f) c := by
  refine blocksIn_of c fun id g hg b hb S e S' hr => ?_
  unfold blOne at hg
  split at hg
  · rename_i hid
    have hid := Nat.eq_of_beq_eq_true hid
    subst hid
    cases hg
    rw [hc] at hb
    simp at hb
    subst hb
    exact h S e S' hr
  · cases hg
/-- A block that is not reached. -/
def blNone (i : Nat) : Blocks := blOne i fun _ => .fail "not reached"
theorem blNone_in {P : Program} {Γ : Gam} {c lp : Code} {i : Nat} (hc : blksL c i = [.loop lp]) : BlocksIn P Γ (blNone i) c := blOne_in hc fun _ _ _ h => (T.reach_fail h).elim
/-- Rules for two blocks. -/
def blTwo (i : Nat) (f : St → T (Ex × St)) (i' : Nat) (f' : St → T (Ex × St)) : Blocks := fun j => match Nat.beq j i with
  | true => some f
  | false => match Nat.beq j i' with
    | true => some f'
    | false => none
theorem blTwo_in {P : Program} {Γ : Gam} {c lp lp' : Code} {i i' : Nat} {f f' : St → T (Ex × St)} (hc : blksL c i = [.loop lp]) (hc' : blksL c i' = [.loop lp']) (h : ∀ S e S', T.Reach (f S) (e, S') → Go.Sx.Comes P Γ (.block i (.loop lp)) S e S')
    (h' : ∀ S e S', T.Reach (f' S) (e, S') → Go.Sx.Comes P Γ (.block i' (.loop lp')) S e S') : BlocksIn P Γ (blTwo i f i' f') c := by
  refine blocksIn_of c fun id g hg b hb S e S' hr => ?_
  unfold blTwo at hg
  split at hg
  · rename_i hid
    have hid := Nat.eq_of_beq_eq_true hid
    subst hid
    cases hg
    rw [hc] at hb
    simp at hb
    subst hb
    exact h S e S' hr
  · split at hg
    · rename_i hid
      have hid := Nat.eq_of_beq_eq_true hid
      subst hid
      cases hg
      rw [hc'] at hb
      simp at hb
      subst hb
      exact h' S e S' hr
    · cases hg

/-! ### Needs -/
/-- Needs, one behind the other. -/
def needs {α : Type} : List Prop → T α → T α
  | [], t => t
  | p :: ps, t => .need p (needs ps t)
theorem needs_app {α : Type} {Q : α → Prop} {t : T α} : ∀ {ps qs : List Prop}, (∀ p ∈ ps, p) → (needs qs t).good Q → (needs (ps ++ qs) t).good Q
  | [], _, _, h => h
  | p :: ps, qs, hp, h => ⟨hp p (by simp), needs_app (fun q hq => hp q (by simp [hq])) h⟩
theorem all_nil : ∀ p ∈ ([] : List Prop), p := fun p hp => by cases hp
theorem all_cons {q : Prop} {ps : List Prop} (h : q) (hs : ∀ p ∈ ps, p) : ∀ p ∈ q :: ps, p := fun p hp => by
  rcases List.mem_cons.1 hp with rfl | hp
  · exact h
  · exact hs p hp
theorem wrap_i64 {x : Int} (h0 : -9223372036854775808 ≤ x) (h1 : x < 9223372036854775808) : IntKind.i64.wrap x = x := by rw [IntKind.wrap_i64]; omega
end Go.Proofs.YtdlhklnpnpmibaaDoor

/- The sum of five hundred and twelve bits, in plain lists of numbers; no program in sight. -/
namespace Go.Sh
open Go Go.Sx

abbrev W (x : Int) : Int := IntKind.u64.wrap x
/-- Turned to the left, as bits has it; to the right, as the program has it, and as the reference has it. -/
def rolV (x k : Int) : Int := bitsI .or .u64 (shlI .u64 x (bitsI .and .u64 (IntKind.u64.wrap k) 63)) (shrI .u64 x (IntKind.u64.wrap (64 - bitsI .and .u64 (IntKind.u64.wrap k) 63)))
def turnV (x k : Int) : Int := rolV x (IntKind.i64.wrap (0 - k))
def turnR (x k : Int) : Int := W (shrI .u64 x k + shlI .u64 x (IntKind.u64.wrap (64 - k)))

section
variable (tn : Int → Int → Int)
def s0 (x : Int) : Int := bitsI .xor .u64 (bitsI .xor .u64 (tn x 1) (tn x 8)) (shrI .u64 x 7)
def s1 (y : Int) : Int := bitsI .xor .u64 (bitsI .xor .u64 (tn y 19) (tn y 61)) (shrI .u64 y 6)
/-- One more of a block's numbers. -/
def wstep (l : List Int) (i : Nat) : List Int := l.set i (W (W (W (s1 tn (l.getD (i - 2) 0) + l.getD (i - 7) 0) + s0 tn (l.getD (i - 15) 0)) + l.getD (i - 16) 0))
def wIt (l : List Int) : Nat → List Int
  | 0 => l
  | i + 1 => wstep tn (wIt l i) (16 + i)
def S1 (e : Int) : Int := bitsI .xor .u64 (bitsI .xor .u64 (tn e 14) (tn e 18)) (tn e 41)
def S0 (a : Int) : Int := bitsI .xor .u64 (bitsI .xor .u64 (tn a 28) (tn a 34)) (tn a 39)
def ch (e f g : Int) : Int := bitsI .or .u64 (bitsI .and .u64 e f) (bitsI .and .u64 (bitsI .xor .u64 18446744073709551615 e) g)
def mj (a b c : Int) : Int := bitsI .or .u64 (bitsI .or .u64 (bitsI .and .u64 a b) (bitsI .and .u64 a c)) (bitsI .and .u64 b c)
def t1 (k w e f g h : Int) : Int := W (W (W (W (h + S1 tn e) + ch e f g) + k) + w)
def t2 (a b c : Int) : Int := W (S0 tn a + mj a b c)
/-- One step of a block's eighty. -/
def stp (k w : Int) : List Int → List Int
  | [a, b, c, d, e, f, g, h] => [W (t1 tn k w e f g h + t2 tn a b c), a, b, c, W (d + t1 tn k w e f g h), e, f, g]
  | l => l
/-- The state behind i steps. -/
def sIt (ks ws s : List Int) : Nat → List Int
  | 0 => s
  | i + 1 => stp tn (ks.getD i 0) (ws.getD i 0) (sIt ks ws s i)
end
theorem wstep_length (tn : Int → Int → Int) (l : List Int) (i : Nat) : (wstep tn l i).length = l.length := by simp [wstep]
theorem wIt_length (tn : Int → Int → Int) (l : List Int) : ∀ i, (wIt tn l i).length = l.length
  | 0 => rfl
  | i + 1 => by rw [wIt, wstep_length, wIt_length tn l i]
theorem stp_length (tn : Int → Int → Int) (k w : Int) {l : List Int} (h : l.length = 8) : (stp tn k w l).length = 8 := by
  obtain ⟨a, b, c, d, e, f, g, i, rfl⟩ := len8 h
  rfl
theorem sIt_length (tn : Int → Int → Int) (ks ws : List Int) {s : List Int} (h : s.length = 8) : ∀ i, (sIt tn ks ws s i).length = 8
  | 0 => h
  | i + 1 => stp_length _ _ _ (sIt_length tn ks ws h i)

/-- A block's first numbers, byte by byte, as the program has them. -/
def nstep (b l : List Int) (i : Nat) : List Int := l.set (i / 8) (bitsI .or .u64 (shlI .u64 (l.getD (i / 8) 0) 8) (W (b.getD i 0)))
def z80 : List Int := List.replicate 80 0
def nIt (b : List Int) : Nat → List Int
  | 0 => z80
  | i + 1 => nstep b (nIt b i) i
theorem nIt_length (b : List Int) : ∀ i, (nIt b i).length = 80
  | 0 => by simp [nIt, z80]
  | i + 1 => by simp [nIt, nstep, nIt_length b i]
/-- .. as the reference has them: number i, byte k. -/
def rstep (b l : List Int) (i k : Nat) : List Int := l.set i (W (W (l.getD i 0 * 256) + W (b.getD (8 * i + k) 0)))
def rIn (b l : List Int) (i : Nat) : Nat → List Int
  | 0 => l
  | k + 1 => rstep b (rIn b l i k) i k
def rIt (b : List Int) : Nat → List Int
  | 0 => z80
  | i + 1 => rIn b (rIt b i) i 8
theorem rIn_length (b l : List Int) (i : Nat) : ∀ k, (rIn b l i k).length = l.length
  | 0 => rfl
  | k + 1 => by simp [rIn, rstep, rIn_length b l i k]
theorem rIt_length (b : List Int) : ∀ i, (rIt b i).length = 80
  | 0 => by simp [rIt, z80]
  | i + 1 => by rw [rIt, rIn_length, rIt_length b i]

/-- Added, number by number, up to i. -/
def addIt (s v : List Int) : Nat → List Int
  | 0 => s
  | i + 1 => (addIt s v i).set i (W ((addIt s v i).getD i 0 + v.getD i 0))
theorem addIt_length (s v : List Int) : ∀ i, (addIt s v i).length = s.length
  | 0 => rfl
  | i + 1 => by simp [addIt, addIt_length s v i]

def numV (b : List Int) : List Int := wIt turnV (nIt b 128) 64
def numR (b : List Int) : List Int := wIt turnR (rIt b 16) 64
/-- The state behind a block. -/
def compV (ks s b : List Int) : List Int := addIt s (sIt turnV ks (numV b) s 80) 8
def compR (ks s b : List Int) : List Int := addIt (sIt turnR ks (numR b) s 80) s 8
theorem numV_length (b : List Int) : (numV b).length = 80 := by rw [numV, wIt_length, nIt_length]
theorem numR_length (b : List Int) : (numR b).length = 80 := by rw [numR, wIt_length, rIt_length]
theorem compV_length {ks s b : List Int} (h : s.length = 8) : (compV ks s b).length = 8 := by rw [compV, addIt_length, h]
theorem compR_length {ks s b : List Int} (h : s.length = 8) : (compR ks s b).length = 8 := by rw [compR, addIt_length, sIt_length _ _ _ h]
/-- Eight bytes of a number, the highest first. -/
def by8 (x : Int) (i : Nat) : Int := IntKind.u8.wrap (shrI .u64 x ((8 * (7 - i) : Nat) : Int))
def be8 (x : Int) : List Int := (List.range 8).map (by8 x)
theorem be8_length (x : Int) : (be8 x).length = 8 := by simp [be8]
/-- Whether what is left over is as long as how many bytes there were tells. -/
def fitsV (n : Nat) (m : Int) : Bool := decide ((n : Int) < 128) && (IntKind.u64.wrap (n : Int) == m.tmod 128)

/-! ### Texts that go on -/
/-- The state behind i blocks of a text. -/
def runB (c : List Int → List Int → List Int) (s t : List Int) : Nat → List Int
  | 0 => s
  | i + 1 => c (runB c s t i) (sub t (128 * i) 128)
theorem runB_length {c : List Int → List Int → List Int} (hc : ∀ s b, s.length = 8 → (c s b).length = 8) {s : List Int} (hs : s.length = 8) (t : List Int) : ∀ i, (runB c s t i).length = 8
  | 0 => hs
  | i + 1 => hc _ _ (runB_length hc hs t i)
section
variable (c : List Int → List Int → List Int) (s : List Int) (n : Nat) (r : List Int) (m : Int) (k : Nat) (b : List Int)
/-- More: state, how much is left over, what is, how many bytes there were, the error. -/
def mrS : List Int := cond (fitsV n m) (runB c s (r ++ b) ((n + k) / 128)) s
def mrN : Nat := cond (fitsV n m) (n + k - 128 * ((n + k) / 128)) n
def mrR : List Int := cond (fitsV n m) (sub (r ++ b) (128 * ((n + k) / 128)) (n + k - 128 * ((n + k) / 128))) r
def mrM : Int := cond (fitsV n m) (W (m + W (k : Int))) m
def mrE : Int := cond (fitsV n m) 0 1
end
end Go.Sh

/- Numbers turned to the right; constants; which sizes may be. -/
namespace Go.Proofs.YtdlhklnpnpmibaaDoor
open Go Go.Sx
set_option maxRecDepth 100000

theorem fit_2 {k k' : IntKind} {xs : List AV} (h : fit [.num k, .num k'] xs) : ∃ x y, xs = [.n x, .n y] := by
  match xs, h with
  | [.n x, .n y], _ => exact ⟨x, y, rfl⟩
  | [], h => exact h.elim
  | [a], h => exact h.2.elim
  | .n _ :: .l _ :: _, h => exact h.2.1.elim
  | .n _ :: .b _ :: _, h => exact h.2.1.elim
  | .n _ :: .a _ :: _, h => exact h.2.1.elim
  | .l _ :: _, h => exact h.1.elim
  | .b _ :: _, h => exact h.1.elim
  | .a _ :: _, h => exact h.1.elim
  | .n _ :: .n _ :: _ :: _, h => exact h.2.2.elim

open Go.Sh

abbrev tnC (f : Int → Int → Int) (k' : IntKind) : List SV → T SV := ct [.num .u64, .num k'] (fun | [.n _, .n k] => 0 ≤ k ∧ k < 64 | _ => False) [.num .u64] (fun | [.n x, .n k] => [.n (f x k)] | _ => [])
theorem run32 (x k : Int) : runX (cxW [] []) no 100 Tryd.f32 (body Tryd.f32) (can [.num .u64, .num .i64] [.n x, .n k]) gmW =
    .need (0 ≤ bitsI .and .u64 (IntKind.u64.wrap k) 63) (.need (0 ≤ IntKind.u64.wrap (64 - bitsI .and .u64 (IntKind.u64.wrap k) 63)) (.ret (.int .u64 (rolV x k)))) := by kernel_rfl
abbrev rolC : List SV → T SV := ct [.num .u64, .num .i64] (fun _ => True) [.num .u64] (fun | [.n x, .n k] => [.n (rolV x k)] | _ => [])
theorem wrap_nn (x : Int) : 0 ≤ IntKind.u64.wrap x := by rw [wrap_u64]; omega
theorem bitsI_nn (op : BinOp) (x y : Int) : 0 ≤ bitsI op .u64 x y := by unfold bitsI; split <;> exact wrap_nn _
theorem fn32 : FnOk Tryd.prog GW 32 rolC := by
  refine fnOk_gd (cxW_ok (fns := []) (fms := []) trivial trivial) gW Tryd.func32 (c := body Tryd.f32) (by kernel_rfl) (Go.Sx.enters_of Tryd.func32 (by kernel_rfl) (by kernel_rfl)) (fuel := 100) fun xs hfit _ => ?_
  obtain ⟨x, k, rfl⟩ := fit_2 hfit
  exact ⟨no, noBl, ⟨trivial, trivial⟩, Gd.of_eq (run32 x k) ⟨bitsI_nn _ _ _, wrap_nn _, fun ρ => rfl⟩⟩
theorem run27 (x k : Int) : runX (cxW [(32, rolC)] []) no 100 Tryd.f27 (body Tryd.f27) (can [.num .u64, .num .i64] [.n x, .n k]) gmW = .need True (.ret (.int .u64 (turnV x k))) := by kernel_rfl
theorem fn27 : FnOk Tryd.prog GW 27 (tnC turnV .i64) := by
  refine fnOk_gd (cxW_ok (fns := [(32, rolC)]) (fms := []) ⟨fn32, trivial⟩ trivial) gW Tryd.func27 (c := body Tryd.f27) (by kernel_rfl) (Go.Sx.enters_of Tryd.func27 (by kernel_rfl) (by kernel_rfl)) (fuel := 100) fun xs hfit _ => ?_
  obtain ⟨x, k, rfl⟩ := fit_2 hfit
  exact ⟨no, noBl, ⟨trivial, trivial⟩, Gd.of_eq (run27 x k) ⟨trivial, fun ρ => rfl⟩⟩
theorem run30 (x k : Int) : runX (cxW [] []) no 100 Tryd.f30 (body Tryd.f30) (can [.num .u64, .num .u64] [.n x, .n k]) gmW = .need (0 ≤ k) (.need (0 ≤ IntKind.u64.wrap (64 - k)) (.ret (.int .u64 (turnR x k)))) := by kernel_rfl
theorem fn30 : FnOk Tryd.prog GW 30 (tnC turnR .u64) := by
  refine fnOk_gd (cxW_ok (fns := []) (fms := []) trivial trivial) gW Tryd.func30 (c := body Tryd.f30) (by kernel_rfl) (Go.Sx.enters_of Tryd.func30 (by kernel_rfl) (by kernel_rfl)) (fuel := 100) fun xs hfit hp => ?_
  obtain ⟨x, k, rfl⟩ := fit_2 hfit
  have hp : 0 ≤ k ∧ k < 64 := hp
  exact ⟨no, noBl, ⟨trivial, trivial⟩, Gd.of_eq (run30 x k) ⟨hp.1, wrap_nn _, fun ρ => rfl⟩⟩
end Go.Proofs.YtdlhklnpnpmibaaDoor

/- A block's eighty numbers. -/
namespace Go.Proofs.YtdlhklnpnpmibaaDoor
open Go Go.Sx Go.Sh
set_option maxRecDepth 100000

theorem fit_s {e : TypeId} {k : IntKind} {st : Nat} {xs : List MV} (h : fitM [.s e k st] xs) : ∃ n l, xs = [.s n l] ∧ l.length = n * st := by
  match xs, h with
  | [x], h => cases x <;> first | exact ⟨_, _, rfl, h.1⟩ | exact h.elim
  | [], h => exact h.elim
  | a :: _ :: _, h => cases a <;> first | exact h.2.elim | exact h.elim

noncomputable abbrev cxN : Cx := cxW [(27, tnC turnV .i64)] []
theorem cxN_ok : CxOk Tryd.prog GW cxN := cxW_ok (fns := [(27, tnC turnV .i64)]) (fms := []) ⟨fn27, trivial⟩ trivial
noncomputable def lp26 : Code := unloop (Code.blk (body Tryd.f26) 0)
noncomputable def lp26b : Code := unloop (Code.blk (body Tryd.f26) 2)
def mw (l : List Int) : Mem := [(1, .st true [.ints .u64 80 z80]), (2, .st true [.ints .u64 80 l])]
def m26 (n : Nat) (b l : List Int) : Mem := [(0, .vec false 5 .u8 1 n b)] ++ mw l ++ gmW
def hd26 : List SV := [.junk 0, .junk 1, .ptr 1 0 (.lit 0), .ptr 2 0 (.lit 0)]
def kk26 : List Kp := [.junk, .junk, .keep, .keep]
def ks26 : Fh := ⟨[], kk26 ++ List.replicate 7 .junk ++ [.keep, .keep, .soft] ++ List.replicate 60 .junk, [0, 1, 2], 6⟩
def js26 : Fh := ⟨[], kk26 ++ List.replicate 70 .junk, [1, 2], 6⟩
def rsJ : Fh := ⟨[], List.replicate 74 .junk, [], 6⟩
def inv26 (n : Nat) (b l : List Int) (i : Int) : St := ⟨hd26 ++ junks 4 7 ++ [.sl 0, .int .i64 n, .int .i64 i] ++ junks 14 60, m26 n b l, 6⟩
def out26 (l : List Int) : St := ⟨hd26 ++ junks 4 70, mw l ++ gmW, 6⟩
def i8 (i : Int) : Nat := (IntKind.i64.wrap (i.tdiv 8)).toNat
theorem round26 (n : Nat) (b l : List Int) (i : Int) : endV ks26 js26 rsJ (exec cxN (drawS cxN) no 100 lp26 (inv26 n b l i)) =
    .ite (decide (i < (n : Int))) (needs [0 ≤ i ∧ i < (n : Int), i.toNat + 1 ≤ n, 0 ≤ IntKind.i64.wrap (i.tdiv 8) ∧ IntKind.i64.wrap (i.tdiv 8) < 80, i8 i + 1 ≤ 80, 0 ≤ IntKind.i64.wrap (i.tdiv 8) ∧ IntKind.i64.wrap (i.tdiv 8) < 80, i8 i + 1 ≤ 80]
      (.ret (.normal, inv26 n b (l.set (i8 i) (bitsI .or .u64 (shlI .u64 (l.getD (i8 i) 0) 8) (IntKind.u64.wrap (b.getD i.toNat 0)))) (IntKind.i64.wrap (i + 1)))))
    (.ret (.exit 0, out26 l)) := by kernel_rfl

def ks26b : Fh := ⟨[], kk26 ++ [.junk, .junk, .soft] ++ List.replicate 67 .junk, [1, 2], 7⟩
def js26b : Fh := ⟨[], kk26 ++ List.replicate 70 .junk, [1, 2], 7⟩
def inv26b (l : List Int) (i : Int) : St := ⟨hd26 ++ [.junk 4, .junk 5, .int .i64 i] ++ junks 7 67, mw l ++ gmW, 7⟩
def out26b (l : List Int) : St := ⟨hd26 ++ junks 4 70, mw l ++ gmW, 7⟩
def at80 (x : Int) : Prop := 0 ≤ x ∧ x < 80
abbrev wi (i d : Int) : Int := IntKind.i64.wrap (i - d)
def tK (k : Int) : Prop := 0 ≤ k ∧ k < 64
theorem round26b (l : List Int) (i : Int) : endV ks26b js26b rsJ (exec cxN (drawS cxN) no 100 lp26b (inv26b l i)) =
    .ite (decide (i < 80)) (needs [at80 (wi i 15), (wi i 15).toNat + 1 ≤ 80, at80 (wi i 2), (wi i 2).toNat + 1 ≤ 80, tK 1, tK 8, tK 19, tK 61, at80 (wi i 7), (wi i 7).toNat + 1 ≤ 80, at80 (wi i 16), (wi i 16).toNat + 1 ≤ 80, at80 i, i.toNat + 1 ≤ 80]
      (.ret (.normal, inv26b (l.set i.toNat (W (W (W (s1 turnV (l.getD (wi i 2).toNat 0) + l.getD (wi i 7).toNat 0) + s0 turnV (l.getD (wi i 15).toNat 0)) + l.getD (wi i 16).toNat 0))) (IntKind.i64.wrap (i + 1)))))
    (.ret (.exit 2, out26b l)) := by kernel_rfl
theorem blks26 : blksL (body Tryd.f26) 0 = [.loop lp26] := by kernel_rfl
theorem blks26b : blksL (body Tryd.f26) 2 = [.loop lp26b] := by kernel_rfl
noncomputable def bl26 (b : List Int) : Blocks :=
  blTwo 0 (loopV ks26 (inv26 128 b z80 0) true (.normal, out26 (nIt b 128)) (.normal, out26 (nIt b 128))) 2 (loopV ks26b (inv26b (nIt b 128) 16) true (.normal, out26b (numV b)) (.normal, out26b (numV b)))
theorem run26 (b : List Int) (zs : Nat → Bool) : runM cxN (bl26 b) 100 Tryd.f26 (body Tryd.f26) [sK] [.s 128 b] zs [.p (.ints .u64 80)] gmW =
    .need (inv26 128 b z80 0 = inv26 128 b z80 0) (.ite true (.need (inv26b (nIt b 128) 16 = inv26b (nIt b 128) 16) (.ite true (.ret [.p (.l (numV b))]) (.ret [.p (.l (numV b))]))) (.need (inv26b (nIt b 128) 16 = inv26b (nIt b 128) 16) (.ite true (.ret [.p (.l (numV b))]) (.ret [.p (.l (numV b))])))) := by kernel_rfl

theorem wi_of {i : Nat} {d : Nat} (h : d ≤ i) (h2 : i < 1000) : wi (i : Int) d = ((i - d : Nat) : Int) := by
  unfold wi; rw [wrap_i64 (by omega) (by omega)]; omega
theorem i8_of {i : Nat} (h : i < 1000) : IntKind.i64.wrap ((i : Int).tdiv 8) = ((i / 8 : Nat) : Int) := by
  rw [show (i : Int).tdiv 8 = ((i / 8 : Nat) : Int) from by rw [Int.tdiv_eq_ediv_of_nonneg (by omega)]; rfl]
  exact wrap_i64 (by omega) (by omega)
abbrev numC (f : List Int → List Int) : MSpec := ctM [sK] (fun | [.s n _] => n = 128 | _ => False) [.p (.ints .u64 80)] (fun | [.s _ b] => [.p (.l (f b))] | _ => [])

theorem fn26 : FnmS Tryd.prog GW 26 (numC numV) :=
  fnm_run cxN_ok gW Tryd.func26 (c := body Tryd.f26) rfl (Go.Sx.enters_of Tryd.func26 (by kernel_rfl) (by kernel_rfl)) (fuel := 100) (by decide) fun xs zs hfit hp _ => by
    obtain ⟨n, b, rfl, hb⟩ := fit_s hfit
    have hp : n = 128 := hp
    subst hp
    refine ⟨bl26 b, fun Γ hG h0 hg hn => ?_, Gd.of_eq (run26 b zs) ⟨rfl, fun _ => ⟨rfl, fun _ => rfl, fun h => (by cases h)⟩, fun h => (by cases h)⟩⟩
    have hcx := hG ▸ cxN_ok
    refine blTwo_in blks26 blks26b
      (loop_ruleV hcx hg h0 hn (drawS_sound hcx hg h0) (bl := no) (blocksIn_none _) (fun i : Nat => inv26 128 b (nIt b i) i) (fun i => 128 - i) (fun i => i ≤ 128) true _ _ 100 ks26 js26 rsJ (fun i hi => ?_) 0 (Nat.zero_le _))
      (loop_ruleV hcx hg h0 hn (drawS_sound hcx hg h0) (bl := no) (blocksIn_none _) (fun i : Nat => inv26b (wIt turnV (nIt b 128) i) ((16 + i : Nat) : Int)) (fun i => 64 - i) (fun i => i ≤ 64) true _ _ 100 ks26b js26b rsJ (fun i hi => ?_) 0 (Nat.zero_le _))
    · rw [round26]
      refine ⟨fun h => ?_, fun h => ?_⟩
      · have h := of_decide_eq_true h
        have e8 := i8_of (i := i) (by omega)
        have e9 : i8 (i : Int) = i / 8 := by unfold i8; rw [e8]; rfl
        rw [e8, e9]
        refine ⟨by omega, by omega, by omega, by omega, by omega, by omega, i + 1, by omega, ?_, by omega⟩
        rw [wrap_i64 (by omega) (by omega)]
        rfl
      · have h := of_decide_eq_false h
        have : i = 128 := by omega
        subst this; rfl
    · rw [round26b]
      refine ⟨fun h => ?_, fun h => ?_⟩
      · have h := of_decide_eq_true h
        have e15 := wi_of (i := 16 + i) (d := 15) (by omega) (by omega)
        have e2 := wi_of (i := 16 + i) (d := 2) (by omega) (by omega)
        have e7 := wi_of (i := 16 + i) (d := 7) (by omega) (by omega)
        have e16 := wi_of (i := 16 + i) (d := 16) (by omega) (by omega)
        rw [show ((15 : Nat) : Int) = 15 from rfl] at e15
        rw [show ((2 : Nat) : Int) = 2 from rfl] at e2
        rw [show ((7 : Nat) : Int) = 7 from rfl] at e7
        rw [show ((16 : Nat) : Int) = 16 from rfl] at e16
        rw [e15, e2, e7, e16]
        refine ⟨⟨by omega, by omega⟩, by omega, ⟨by omega, by omega⟩, by omega, ⟨by omega, by omega⟩, ⟨by omega, by omega⟩, ⟨by omega, by omega⟩, ⟨by omega, by omega⟩, ⟨by omega, by omega⟩, by omega, ⟨by omega, by omega⟩, by omega, ⟨by omega, by omega⟩, by omega, i + 1, by omega, ?_, by omega⟩
        rw [wrap_i64 (by omega) (by omega)]
        rfl
      · have h := of_decide_eq_false h
        have : i = 64 := by omega
        subst this; rfl
end Go.Proofs.YtdlhklnpnpmibaaDoor

/- A block's eighty numbers, as the reference has them. -/
namespace Go.Proofs.YtdlhklnpnpmibaaDoor
open Go Go.Sx Go.Sh
set_option maxRecDepth 100000

noncomputable abbrev cxN' : Cx := cxW [(30, tnC turnR .u64)] []
theorem cxN'_ok : CxOk Tryd.prog GW cxN' := cxW_ok (fns := [(30, tnC turnR .u64)]) (fms := []) ⟨fn30, trivial⟩ trivial
noncomputable def lp28 : Code := unloop (Code.blk (body Tryd.f28) 0)
noncomputable def lp28b : Code := unloop (Code.blk (body Tryd.f28) 2)
def mw' (l : List Int) : Mem := [(1, .st true [.ints .u64 80 z80]), (3, .st true [.ints .u64 80 l])]
def m28 (b l : List Int) : Mem := [(0, .vec false 5 .u8 1 128 b)] ++ mw' l ++ gmW
def hd28 : List SV := [.sl 0, .junk 1, .ptr 1 0 (.lit 0), .ptr 3 0 (.lit 0)]
def kk28 : List Kp := [.keep, .junk, .keep, .keep]
def inv28b (b l : List Int) (i k : Int) : St := ⟨hd28 ++ [.int .i64 i, .int .i64 k] ++ junks 6 70, m28 b l, 11⟩
def out28b (b l : List Int) (i : Int) : St := ⟨hd28 ++ [.int .i64 i] ++ junks 5 71, m28 b l, 11⟩
def inv28 (b l : List Int) (i : Int) : St := ⟨hd28 ++ [.int .i64 i] ++ junks 5 71, m28 b l, 6⟩
def out28 (l : List Int) : St := ⟨[.junk 0, .junk 1, .ptr 1 0 (.lit 0), .ptr 3 0 (.lit 0)] ++ junks 4 72, mw' l ++ gmW, 6⟩
def ks28b : Fh := ⟨[], kk28 ++ [.soft, .soft] ++ List.replicate 70 .junk, [0, 1, 3], 11⟩
def js28b : Fh := ⟨[], kk28 ++ [.soft] ++ List.replicate 71 .junk, [0, 1, 3], 11⟩
def ks28 : Fh := ⟨[], kk28 ++ [.soft] ++ List.replicate 71 .junk, [0, 1, 3], 6⟩
def js28 : Fh := ⟨[], [.junk, .junk, .keep, .keep] ++ List.replicate 72 .junk, [1, 3], 6⟩
def rsJ' : Fh := ⟨[], List.replicate 76 .junk, [], 6⟩
abbrev ik (i k : Int) : Int := IntKind.i64.wrap (IntKind.i64.wrap (8 * i) + k)
theorem round28b (b l : List Int) (i k : Int) : endV ks28b js28b rsJ' (exec cxN' (drawS cxN') no 100 lp28b (inv28b b l i k)) =
    .ite (decide (k < 8)) (needs [at80 i, i.toNat + 1 ≤ 80, 0 ≤ ik i k ∧ ik i k < ((128 : Nat) : Int), (ik i k).toNat + 1 ≤ 128, at80 i, i.toNat + 1 ≤ 80]
      (.ret (.normal, inv28b b (l.set i.toNat (W (W (l.getD i.toNat 0 * 256) + W (b.getD (ik i k).toNat 0)))) i (IntKind.i64.wrap (k + 1)))))
    (.ret (.exit 2, out28b b l i)) := by kernel_rfl
theorem blks28b : blksL lp28 2 = [.loop lp28b] := by kernel_rfl
theorem blks28 : blksL (body Tryd.f28) 0 = [.loop lp28] := by kernel_rfl
noncomputable def bl28b (b : List Int) : Blocks := blOne 2 fun S => match getS S.tmps 4, Sx.look S.mem 3 with
  | .int _ i, some (.st _ [.ints _ _ l]) => .need (0 ≤ i ∧ i < 16) (loopV ks28b (inv28b b l i 0) true (.normal, out28b b (rIn b l i.toNat 8) i) (.normal, out28b b (rIn b l i.toNat 8) i) S)
  | _, _ => .fail "no number"
theorem round28 (b l : List Int) (i : Int) : endV ks28 js28 rsJ' (exec cxN' (drawS cxN') (bl28b b) 100 lp28 (inv28 b l i)) =
    .ite (decide (i < 80)) (.ite (decide (i < 16)) (.need (0 ≤ i ∧ i < 16) (.need (inv28b b l i 0 = inv28b b l i 0) (.ite true (.ret (.normal, inv28 b (rIn b l i.toNat 8) (IntKind.i64.wrap (i + 1)))) (.ret (.normal, inv28 b (rIn b l i.toNat 8) (IntKind.i64.wrap (i + 1)))))))
      (needs [at80 (wi i 15), (wi i 15).toNat + 1 ≤ 80, at80 (wi i 2), (wi i 2).toNat + 1 ≤ 80, tK 1, tK 8, tK 19, tK 61, at80 (wi i 7), (wi i 7).toNat + 1 ≤ 80, at80 (wi i 16), (wi i 16).toNat + 1 ≤ 80, at80 i, i.toNat + 1 ≤ 80]
        (.ret (.normal, inv28 b (l.set i.toNat (W (W (W (s1 turnR (l.getD (wi i 2).toNat 0) + l.getD (wi i 7).toNat 0) + s0 turnR (l.getD (wi i 15).toNat 0)) + l.getD (wi i 16).toNat 0))) (IntKind.i64.wrap (i + 1))))))
    (.ret (.exit 0, out28 l)) := by kernel_rfl
noncomputable def bl28 (b : List Int) : Blocks := blOne 0 (loopV ks28 (inv28 b z80 0) true (.normal, out28 (numR b)) (.normal, out28 (numR b)))
theorem run28 (b : List Int) (zs : Nat → Bool) : runM cxN' (bl28 b) 100 Tryd.f28 (body Tryd.f28) [sK] [.s 128 b] zs [.p (.ints .u64 80)] gmW =
    .need (inv28 b z80 0 = inv28 b z80 0) (.ite true (.ret [.p (.l (numR b))]) (.ret [.p (.l (numR b))])) := by kernel_rfl

theorem bl28b_in {Γ : Gam} (hcx : CxOk Tryd.prog Γ.G cxN') (h0 : Γ.G Γ.w0) (hg : GlobOk Γ) (hn : Γ.n0 = 0) {b : List Int} : BlocksIn Tryd.prog Γ (bl28b b) lp28 := by
  refine blOne_in blks28b fun S e S' hr => ?_
  split at hr
  · rename_i _k i _o _k' _n l hi hl
    rw [T.reach_need] at hr
    obtain ⟨hb, hr⟩ := hr
    refine loop_ruleV hcx hg h0 hn (drawS_sound hcx hg h0) (bl := no) (blocksIn_none _) (fun k : Nat => inv28b b (rIn b l i.toNat k) i k) (fun k => 8 - k) (fun k => k ≤ 8) true _ _ 100 ks28b js28b rsJ' (fun k hk => ?_) 0 (Nat.zero_le _) S e S' hr
    rw [round28b]
    refine ⟨fun h => ?_, fun h => ?_⟩
    · have h := of_decide_eq_true h
      have e1 : ik i k = ((8 * i.toNat + k : Nat) : Int) := by
        unfold ik
        rw [wrap_i64 (x := 8 * i) (by omega) (by omega), wrap_i64 (by omega) (by omega)]; omega
      rw [e1]
      refine ⟨⟨by omega, by omega⟩, by omega, ⟨by omega, by omega⟩, by omega, ⟨by omega, by omega⟩, by omega, k + 1, by omega, ?_, by omega⟩
      rw [wrap_i64 (by omega) (by omega)]
      rfl
    · have h := of_decide_eq_false h
      have : k = 8 := by omega
      subst this; rfl
  · exact (T.reach_fail hr).elim

/-- The numbers behind i rounds. -/
def rAt (b : List Int) (i : Nat) : List Int := wIt turnR (rIt b (min i 16)) (i - 16)
theorem rAt_lt {b : List Int} {i : Nat} (h : i < 16) : rAt b (i + 1) = rIn b (rAt b i) i 8 := by
  unfold rAt
  rw [show min (i + 1) 16 = i + 1 from by omega, show min i 16 = i from by omega, show i + 1 - 16 = 0 from by omega, show i - 16 = 0 from by omega]
  rfl
theorem rAt_ge {b : List Int} {i : Nat} (h : 16 ≤ i) : rAt b (i + 1) = wstep turnR (rAt b i) i := by
  unfold rAt
  rw [show min (i + 1) 16 = 16 from by omega, show min i 16 = 16 from by omega, show i + 1 - 16 = (i - 16) + 1 from by omega, wIt, show 16 + (i - 16) = i from by omega]

theorem fn28 : FnmS Tryd.prog GW 28 (numC numR) :=
  fnm_run cxN'_ok gW Tryd.func28 (c := body Tryd.f28) rfl (Go.Sx.enters_of Tryd.func28 (by kernel_rfl) (by kernel_rfl)) (fuel := 100) (by decide) fun xs zs hfit hp _ => by
    obtain ⟨n, b, rfl, hb⟩ := fit_s hfit
    have hp : n = 128 := hp
    subst hp
    refine ⟨bl28 b, fun Γ hG h0 hg hn => ?_, Gd.of_eq (run28 b zs) ⟨rfl, fun _ => rfl, fun h => (by cases h)⟩⟩
    have hcx := hG ▸ cxN'_ok
    refine blOne_in blks28 (loop_ruleV hcx hg h0 hn (drawS_sound hcx hg h0) (bl := bl28b b) (bl28b_in hcx h0 hg hn) (fun i : Nat => inv28 b (rAt b i) i) (fun i => 80 - i) (fun i => i ≤ 80) true _ _ 100 ks28 js28 rsJ' (fun i hi => ?_) 0 (Nat.zero_le _))
    rw [round28]
    refine ⟨fun h => ⟨fun h2 => ⟨?_, rfl, fun _ => ?_, fun h => (by cases h)⟩, fun h2 => ?_⟩, fun h => ?_⟩
    · have h2 := of_decide_eq_true h2
      omega
    · have h2 := of_decide_eq_true h2
      refine ⟨i + 1, by omega, ?_, by omega⟩
      rw [wrap_i64 (by omega) (by omega), rAt_lt (by omega)]
      rfl
    · have h := of_decide_eq_true h
      have h2 := of_decide_eq_false h2
      have e15 := wi_of (i := i) (d := 15) (by omega) (by omega)
      have e2 := wi_of (i := i) (d := 2) (by omega) (by omega)
      have e7 := wi_of (i := i) (d := 7) (by omega) (by omega)
      have e16 := wi_of (i := i) (d := 16) (by omega) (by omega)
      rw [show ((15 : Nat) : Int) = 15 from rfl] at e15
      rw [show ((2 : Nat) : Int) = 2 from rfl] at e2
      rw [show ((7 : Nat) : Int) = 7 from rfl] at e7
      rw [show ((16 : Nat) : Int) = 16 from rfl] at e16
      rw [e15, e2, e7, e16]
      refine ⟨⟨by omega, by omega⟩, by omega, ⟨by omega, by omega⟩, by omega, ⟨by omega, by omega⟩, ⟨by omega, by omega⟩, ⟨by omega, by omega⟩, ⟨by omega, by omega⟩, ⟨by omega, by omega⟩, by omega, ⟨by omega, by omega⟩, by omega, ⟨by omega, by omega⟩, by omega, i + 1, by omega, ?_, by omega⟩
      rw [wrap_i64 (by omega) (by omega), rAt_ge (by omega)]
      rfl
    · have h := of_decide_eq_false h
      have : i = 80 := by omega
      subst this; rfl
end Go.Proofs.YtdlhklnpnpmibaaDoor

/- The state behind a block. -/
namespace Go.Proofs.YtdlhklnpnpmibaaDoor
open Go Go.Sx Go.Sh
set_option maxRecDepth 100000

noncomputable abbrev cxB : Cx := cxW [(27, tnC turnV .i64)] [(26, numC numV)]
theorem cxB_ok : CxOk Tryd.prog GW cxB := cxW_ok (fns := [(27, tnC turnV .i64)]) (fms := [(26, numC numV)]) ⟨fn27, trivial⟩ ⟨fn26, trivial⟩
noncomputable def lp20 : Code := unloop (Code.blk (body Tryd.f20) 0)
noncomputable def lp20b : Code := unloop (Code.blk (body Tryd.f20) 2)
def z8 : List Int := List.replicate 8 0
def m20 (s w v : List Int) : Mem := [(1, .st true [.ints .u64 8 s]), (2, .st true [.ints .u64 8 z8]), (5, .st true [.ints .u64 80 w]), (7, .st true [.ints .u64 8 v])]
def m20b (s : List Int) : Mem := [(1, .st true [.ints .u64 8 s]), (2, .st true [.ints .u64 8 z8])]
def hd20 : List SV := [.junk 0, .junk 1, .ptr 1 0 (.lit 0), .junk 3, .ptr 2 0 (.lit 0), .ptr 5 0 (.lit 0), .ptr 7 0 (.lit 0)]
def hd20b : List SV := [.junk 0, .junk 1, .ptr 1 0 (.lit 0), .junk 3, .ptr 2 0 (.lit 0)]
def kk20 : List Kp := [.junk, .junk, .keep, .junk, .keep, .keep, .keep]
def kk20b : List Kp := [.junk, .junk, .keep, .junk, .keep]
def inv20 (s w v : List Int) (i : Int) : St := ⟨hd20 ++ junks 7 16 ++ [.int .i64 i] ++ junks 24 88, m20 s w v ++ gmW, 12⟩
def out20 (s w v : List Int) : St := ⟨hd20 ++ junks 7 105, m20 s w v ++ gmW, 12⟩
def ks20 : Fh := ⟨[], kk20 ++ List.replicate 16 .junk ++ [.soft] ++ List.replicate 88 .junk, [1, 2, 5, 7], 12⟩
def js20 : Fh := ⟨[], kk20 ++ List.replicate 105 .junk, [1, 2, 5, 7], 12⟩
def rs20 : Fh := ⟨[], List.replicate 112 .junk, [], 12⟩
theorem round20 (s w : List Int) (a b c d e f g h i : Int) : endV ks20 js20 rs20 (exec cxB (drawS cxB) no 100 lp20 (inv20 s w [a, b, c, d, e, f, g, h] i)) =
    .ite (decide (i < 80)) (needs [tK 14, tK 18, tK 41, at80 i, i.toNat + 1 ≤ 80, at80 i, i.toNat + 1 ≤ 80, tK 28, tK 34, tK 39] (.ret (.normal, inv20 s w (stp turnV (constL.getD i.toNat 0) (w.getD i.toNat 0) [a, b, c, d, e, f, g, h]) (IntKind.i64.wrap (i + 1)))))
    (.ret (.exit 0, out20 s w [a, b, c, d, e, f, g, h])) := by kernel_rfl
def inv20b (s x : List Int) (i : Int) : St := ⟨hd20b ++ junks 5 94 ++ [.ints .u64 8 x, .int .i64 i] ++ junks 101 11, m20b s ++ gmW, 14⟩
def out20b (s : List Int) : St := ⟨hd20b ++ junks 5 107, m20b s ++ gmW, 14⟩
def ks20b : Fh := ⟨[], kk20b ++ List.replicate 94 .junk ++ [.keep, .soft] ++ List.replicate 11 .junk, [1, 2], 14⟩
def js20b : Fh := ⟨[], kk20b ++ List.replicate 107 .junk, [1, 2], 14⟩
def at8 (x : Int) : Prop := 0 ≤ x ∧ x < 8
theorem round20b (s x : List Int) (i : Int) : endV ks20b js20b rs20 (exec cxB (drawS cxB) no 100 lp20b (inv20b s x i)) =
    .ite (decide (i < 8)) (needs [at8 i, at8 i, i.toNat + 1 ≤ 8, at8 i, i.toNat + 1 ≤ 8] (.ret (.normal, inv20b (s.set i.toNat (W (s.getD i.toNat 0 + x.getD i.toNat 0))) x (IntKind.i64.wrap (i + 1)))))
    (.ret (.exit 2, out20b s)) := by kernel_rfl
theorem blks20 : blksL (body Tryd.f20) 0 = [.loop lp20] := by kernel_rfl
theorem blks20b : blksL (body Tryd.f20) 2 = [.loop lp20b] := by kernel_rfl
noncomputable def bl20 (s w v r : List Int) : Blocks :=
  blTwo 0 (loopV ks20 (inv20 s w s 0) true (.normal, out20 s w v) (.normal, out20 s w v)) 2 (loopV ks20b (inv20b s v 0) true (.normal, out20b r) (.normal, out20b r))
theorem run20 (a b c d e f g h : Int) (p v r : List Int) (zs : Nat → Bool) : runM cxB (bl20 [a, b, c, d, e, f, g, h] (numV p) v r) 100 Tryd.f20 (body Tryd.f20) [stK, sK] [.p (.l [a, b, c, d, e, f, g, h]), .s 128 p] zs [stK] gmW =
    .need (128 = 128) (.need (inv20 [a, b, c, d, e, f, g, h] (numV p) [a, b, c, d, e, f, g, h] 0 = inv20 [a, b, c, d, e, f, g, h] (numV p) [a, b, c, d, e, f, g, h] 0)
      (.ite true (.need (inv20b [a, b, c, d, e, f, g, h] v 0 = inv20b [a, b, c, d, e, f, g, h] v 0) (.ite true (.ret [.p (.l r)]) (.ret [.p (.l r)])))
        (.need (inv20b [a, b, c, d, e, f, g, h] v 0 = inv20b [a, b, c, d, e, f, g, h] v 0) (.ite true (.ret [.p (.l r)]) (.ret [.p (.l r)]))))) := by kernel_rfl

theorem fit_ps {k : IntKind} {m : Nat} {e : TypeId} {k' : IntKind} {st : Nat} {xs : List MV} (h : fitM [.p (.ints k m), .s e k' st] xs) : ∃ l n b, xs = [.p (.l l), .s n b] ∧ l.length = m ∧ b.length = n * st := by
  match xs, h with
  | [.p (.l l), .s n b], h => exact ⟨l, n, b, rfl, h.1, h.2.1⟩
  | [.p (.l _), .p _], h => exact h.2.elim
  | [.p (.l _), .x _], h => exact h.2.elim
  | [.p (.l _)], h => exact h.2.elim
  | .p (.l _) :: .s _ _ :: _ :: _, h => exact h.2.2.elim
  | .p (.l _) :: .p _ :: _ :: _, h => exact h.2.elim
  | .p (.l _) :: .x _ :: _ :: _, h => exact h.2.elim
  | .p (.n _) :: _, h => exact h.1.elim
  | .p (.b _) :: _, h => exact h.1.elim
  | .p (.a _) :: _, h => exact h.1.elim
  | .s _ _ :: _, h => exact h.elim
  | .x _ :: _, h => exact h.elim
  | [], h => exact h.elim

abbrev cmpC (f : List Int → List Int → List Int → List Int) : MSpec := ctM [stK, sK] (fun | [.p (.l _), .s n _] => n = 128 | _ => False) [stK] (fun | [.p (.l s), .s _ b] => [.p (.l (f constL s b))] | _ => [])

theorem at80_of {i : Nat} (h : i < 80) : at80 (i : Int) := ⟨by omega, by omega⟩
theorem at8_of {i : Nat} (h : i < 8) : at8 (i : Int) := ⟨by omega, by omega⟩

theorem fn20 : FnmS Tryd.prog GW 20 (cmpC compV) :=
  fnm_run cxB_ok gW Tryd.func20 (c := body Tryd.f20) rfl (Go.Sx.enters_of Tryd.func20 (by kernel_rfl) (by kernel_rfl)) (fuel := 100) (by decide) fun xs zs hfit hp _ => by
    obtain ⟨s, n, p, rfl, hs, hb⟩ := fit_ps hfit
    have hp : n = 128 := hp
    subst hp
    obtain ⟨a, b, c, d, e, f, g, h, rfl⟩ := len8 hs
    refine ⟨bl20 [a, b, c, d, e, f, g, h] (numV p) (sIt turnV constL (numV p) [a, b, c, d, e, f, g, h] 80) (compV constL [a, b, c, d, e, f, g, h] p), fun Γ hG h0 hg hn => ?_, Gd.of_eq (run20 a b c d e f g h p _ _ zs) ⟨rfl, rfl, fun _ => ⟨rfl, fun _ => rfl, fun h => (by cases h)⟩, fun h => (by cases h)⟩⟩
    have hcx := hG ▸ cxB_ok
    generalize hS : [a, b, c, d, e, f, g, h] = S at hs
    refine blTwo_in blks20 blks20b
      (loop_ruleV hcx hg h0 hn (drawS_sound hcx hg h0) (bl := no) (blocksIn_none _) (fun i : Nat => inv20 S (numV p) (sIt turnV constL (numV p) S i) i) (fun i => 80 - i) (fun i => i ≤ 80) true _ _ 100 ks20 js20 rs20 (fun i hi => ?_) 0 (Nat.zero_le _))
      (loop_ruleV hcx hg h0 hn (drawS_sound hcx hg h0) (bl := no) (blocksIn_none _) (fun i : Nat => inv20b (addIt S (sIt turnV constL (numV p) S 80) i) (sIt turnV constL (numV p) S 80) i) (fun i => 8 - i) (fun i => i ≤ 8) true _ _ 100 ks20b js20b rs20 (fun i hi => ?_) 0 (Nat.zero_le _))
    · have hl := sIt_length turnV constL (numV p) hs i
      have hnext : sIt turnV constL (numV p) S (i + 1) = stp turnV (constL.getD i 0) ((numV p).getD i 0) (sIt turnV constL (numV p) S i) := rfl
      have hend : i = 80 → sIt turnV constL (numV p) S i = sIt turnV constL (numV p) S 80 := fun e => by rw [e]
      generalize hv : sIt turnV constL (numV p) S i = v at hl hnext hend
      obtain ⟨a, b, c, d, e, f, g, h, rfl⟩ := len8 hl
      rw [round20]
      refine ⟨fun h => ?_, fun h => ?_⟩
      · have h := of_decide_eq_true h
        refine ⟨⟨by omega, by omega⟩, ⟨by omega, by omega⟩, ⟨by omega, by omega⟩, at80_of (by omega), by omega, at80_of (by omega), by omega, ⟨by omega, by omega⟩, ⟨by omega, by omega⟩, ⟨by omega, by omega⟩, i + 1, by omega, ?_, by omega⟩
        rw [wrap_i64 (by omega) (by omega), hnext]
        rfl
      · have h := of_decide_eq_false h
        rw [hend (by omega)]
        rfl
    · rw [round20b]
      refine ⟨fun h => ?_, fun h => ?_⟩
      · have h := of_decide_eq_true h
        refine ⟨at8_of (by omega), at8_of (by omega), by omega, at8_of (by omega), by omega, i + 1, by omega, ?_, by omega⟩
        rw [wrap_i64 (by omega) (by omega)]
        rfl
      · have h := of_decide_eq_false h
        have : i = 8 := by omega
        subst this; subst hS; rfl
end Go.Proofs.YtdlhklnpnpmibaaDoor

/- The state behind a block, as the reference has it. -/
namespace Go.Proofs.YtdlhklnpnpmibaaDoor
open Go Go.Sx Go.Sh
set_option maxRecDepth 100000

theorem fit_0 {xs : List MV} (h : fitM [] xs) : xs = [] := by
  cases xs with
  | nil => rfl
  | cons _ _ => exact h.elim
abbrev cnsC : MSpec := ctM [] (fun _ => True) [.p (.ints .u64 80)] (fun _ => [.p (.l constL)])
theorem run29 (zs : Nat → Bool) : runM (cxW [] []) no 100 Tryd.f29 (body Tryd.f29) [] [] zs [.p (.ints .u64 80)] gmW = .ret [.p (.l constL)] := by kernel_rfl
theorem fn29 : FnmS Tryd.prog GW 29 cnsC :=
  fnm_run (cxW_ok (fns := []) (fms := []) trivial trivial) gW Tryd.func29 (c := body Tryd.f29) rfl (Go.Sx.enters_of Tryd.func29 (by kernel_rfl) (by kernel_rfl)) (fuel := 100) (by decide) fun xs zs hfit _ _ => by
    obtain rfl := fit_0 hfit
    exact ⟨no, noBl, Gd.of_eq (run29 zs) ⟨rfl⟩⟩

noncomputable abbrev cxR : Cx := cxW [(30, tnC turnR .u64)] [(28, numC numR), (29, cnsC)]
theorem cxR_ok : CxOk Tryd.prog GW cxR := cxW_ok (fns := [(30, tnC turnR .u64)]) (fms := [(28, numC numR), (29, cnsC)]) ⟨fn30, trivial⟩ ⟨fn28, fn29, trivial⟩
noncomputable def lp22 : Code := unloop (Code.blk (body Tryd.f22) 0)
noncomputable def lp22b : Code := unloop (Code.blk (body Tryd.f22) 2)
def m22 (s w x : List Int) : Mem := [(1, .st true [.ints .u64 8 s]), (2, .st true [.ints .u64 8 z8]), (5, .st true [.ints .u64 80 w]), (8, .st true [.ints .u64 80 constL]), (11, .st true [.ints .u64 8 x])]
def m22b (s x : List Int) : Mem := [(1, .st true [.ints .u64 8 s]), (2, .st true [.ints .u64 8 z8]), (11, .st true [.ints .u64 8 x])]
def hd22 : List SV := [.junk 0, .junk 1, .ptr 1 0 (.lit 0), .junk 3, .ptr 2 0 (.lit 0), .ptr 5 0 (.lit 0), .ptr 8 0 (.lit 0), .ptr 11 0 (.lit 0)]
def hd22b : List SV := [.junk 0, .junk 1, .ptr 1 0 (.lit 0), .junk 3, .ptr 2 0 (.lit 0), .junk 5, .junk 6, .ptr 11 0 (.lit 0)]
def kk22 : List Kp := [.junk, .junk, .keep, .junk, .keep, .keep, .keep, .keep]
def kk22b : List Kp := [.junk, .junk, .keep, .junk, .keep, .junk, .junk, .keep]
def inv22 (s w x : List Int) (i : Int) : St := ⟨hd22 ++ [.int .i64 i] ++ junks 9 109, m22 s w x ++ gmW, 14⟩
def out22 (s w x : List Int) : St := ⟨hd22 ++ junks 8 110, m22 s w x ++ gmW, 14⟩
def ks22 : Fh := ⟨[], kk22 ++ [.soft] ++ List.replicate 109 .junk, [1, 2, 5, 8, 11], 14⟩
def js22 : Fh := ⟨[], kk22 ++ List.replicate 110 .junk, [1, 2, 5, 8, 11], 14⟩
def rs22 : Fh := ⟨[], List.replicate 118 .junk, [], 14⟩
theorem round22 (s w : List Int) (a b c d e f g h i : Int) : endV ks22 js22 rs22 (exec cxR (drawS cxR) no 100 lp22 (inv22 s w [a, b, c, d, e, f, g, h] i)) =
    .ite (decide (i < 80)) (needs [tK 14, tK 18, tK 41, at80 i, i.toNat + 1 ≤ 80, at80 i, i.toNat + 1 ≤ 80, tK 28, tK 34, tK 39] (.ret (.normal, inv22 s w (stp turnR (constL.getD i.toNat 0) (w.getD i.toNat 0) [a, b, c, d, e, f, g, h]) (IntKind.i64.wrap (i + 1)))))
    (.ret (.exit 0, out22 s w [a, b, c, d, e, f, g, h])) := by kernel_rfl
def inv22b (s x : List Int) (i : Int) : St := ⟨hd22b ++ junks 8 7 ++ [.int .i64 i] ++ junks 16 102, m22b s x ++ gmW, 15⟩
def out22b (s x : List Int) : St := ⟨hd22b ++ junks 8 110, m22b s x ++ gmW, 15⟩
def ks22b : Fh := ⟨[], kk22b ++ List.replicate 7 .junk ++ [.soft] ++ List.replicate 102 .junk, [1, 2, 11], 15⟩
def js22b : Fh := ⟨[], kk22b ++ List.replicate 110 .junk, [1, 2, 11], 15⟩
theorem round22b (s x : List Int) (i : Int) : endV ks22b js22b rs22 (exec cxR (drawS cxR) no 100 lp22b (inv22b s x i)) =
    .ite (decide (i < 8)) (needs [at8 i, i.toNat + 1 ≤ 8, at8 i, i.toNat + 1 ≤ 8, at8 i, i.toNat + 1 ≤ 8] (.ret (.normal, inv22b s (x.set i.toNat (W (x.getD i.toNat 0 + s.getD i.toNat 0))) (IntKind.i64.wrap (i + 1)))))
    (.ret (.exit 2, out22b s x)) := by kernel_rfl
theorem blks22 : blksL (body Tryd.f22) 0 = [.loop lp22] := by kernel_rfl
theorem blks22b : blksL (body Tryd.f22) 2 = [.loop lp22b] := by kernel_rfl
noncomputable def bl22 (s w v r : List Int) : Blocks :=
  blTwo 0 (loopV ks22 (inv22 s w s 0) true (.normal, out22 s w v) (.normal, out22 s w v)) 2 (loopV ks22b (inv22b s v 0) true (.normal, out22b s r) (.normal, out22b s r))
theorem run22 (a b c d e f g h : Int) (p v r : List Int) (zs : Nat → Bool) : runM cxR (bl22 [a, b, c, d, e, f, g, h] (numR p) v r) 100 Tryd.f22 (body Tryd.f22) [stK, sK] [.p (.l [a, b, c, d, e, f, g, h]), .s 128 p] zs [stK] gmW =
    .need (128 = 128) (.need True (.need (inv22 [a, b, c, d, e, f, g, h] (numR p) [a, b, c, d, e, f, g, h] 0 = inv22 [a, b, c, d, e, f, g, h] (numR p) [a, b, c, d, e, f, g, h] 0)
      (.ite true (.need (inv22b [a, b, c, d, e, f, g, h] v 0 = inv22b [a, b, c, d, e, f, g, h] v 0) (.ite true (.ret [.p (.l r)]) (.ret [.p (.l r)])))
        (.need (inv22b [a, b, c, d, e, f, g, h] v 0 = inv22b [a, b, c, d, e, f, g, h] v 0) (.ite true (.ret [.p (.l r)]) (.ret [.p (.l r)])))))) := by kernel_rfl

theorem fn22 : FnmS Tryd.prog GW 22 (cmpC compR) :=
  fnm_run cxR_ok gW Tryd.func22 (c := body Tryd.f22) rfl (Go.Sx.enters_of Tryd.func22 (by kernel_rfl) (by kernel_rfl)) (fuel := 100) (by decide) fun xs zs hfit hp _ => by
    obtain ⟨s, n, p, rfl, hs, hb⟩ := fit_ps hfit
    have hp : n = 128 := hp
    subst hp
    obtain ⟨a, b, c, d, e, f, g, h, rfl⟩ := len8 hs
    refine ⟨bl22 [a, b, c, d, e, f, g, h] (numR p) (sIt turnR constL (numR p) [a, b, c, d, e, f, g, h] 80) (compR constL [a, b, c, d, e, f, g, h] p), fun Γ hG h0 hg hn => ?_, Gd.of_eq (run22 a b c d e f g h p _ _ zs) ⟨rfl, trivial, rfl, fun _ => ⟨rfl, fun _ => rfl, fun h => (by cases h)⟩, fun h => (by cases h)⟩⟩
    have hcx := hG ▸ cxR_ok
    generalize hS : [a, b, c, d, e, f, g, h] = S at hs
    refine blTwo_in blks22 blks22b
      (loop_ruleV hcx hg h0 hn (drawS_sound hcx hg h0) (bl := no) (blocksIn_none _) (fun i : Nat => inv22 S (numR p) (sIt turnR constL (numR p) S i) i) (fun i => 80 - i) (fun i => i ≤ 80) true _ _ 100 ks22 js22 rs22 (fun i hi => ?_) 0 (Nat.zero_le _))
      (loop_ruleV hcx hg h0 hn (drawS_sound hcx hg h0) (bl := no) (blocksIn_none _) (fun i : Nat => inv22b S (addIt (sIt turnR constL (numR p) S 80) S i) i) (fun i => 8 - i) (fun i => i ≤ 8) true _ _ 100 ks22b js22b rs22 (fun i hi => ?_) 0 (Nat.zero_le _))
    · have hl := sIt_length turnR constL (numR p) hs i
      have hnext : sIt turnR constL (numR p) S (i + 1) = stp turnR (constL.getD i 0) ((numR p).getD i 0) (sIt turnR constL (numR p) S i) := rfl
      have hend : i = 80 → sIt turnR constL (numR p) S i = sIt turnR constL (numR p) S 80 := fun e => by rw [e]
      generalize hv : sIt turnR constL (numR p) S i = v at hl hnext hend
      obtain ⟨a, b, c, d, e, f, g, h, rfl⟩ := len8 hl
      rw [round22]
      refine ⟨fun h => ?_, fun h => ?_⟩
      · have h := of_decide_eq_true h
        refine ⟨⟨by omega, by omega⟩, ⟨by omega, by omega⟩, ⟨by omega, by omega⟩, at80_of (by omega), by omega, at80_of (by omega), by omega, ⟨by omega, by omega⟩, ⟨by omega, by omega⟩, ⟨by omega, by omega⟩, i + 1, by omega, ?_, by omega⟩
        rw [wrap_i64 (by omega) (by omega), hnext]
        rfl
      · have h := of_decide_eq_false h
        rw [hend (by omega)]
        rfl
    · rw [round22b]
      refine ⟨fun h => ?_, fun h => ?_⟩
      · have h := of_decide_eq_true h
        refine ⟨at8_of (by omega), by omega, at8_of (by omega), by omega, at8_of (by omega), by omega, i + 1, by omega, ?_, by omega⟩
        rw [wrap_i64 (by omega) (by omega)]
        rfl
      · have h := of_decide_eq_false h
        have : i = 8 := by omega
        subst this; subst hS; rfl
end Go.Proofs.YtdlhklnpnpmibaaDoor

/- Copies; whether a rest may be; a number's bytes. -/
namespace Go.Proofs.YtdlhklnpnpmibaaDoor
open Go Go.Sx Go.Sh
set_option maxRecDepth 100000

theorem fit_h {xs : List MV} (h : fitM [hK] xs) : ∃ s n r m, xs = [.x [.l s, .s n r, .l [m]]] ∧ s.length = 8 ∧ r.length = n * 1 := by
  match xs, h with
  | [.x [.l s, .s n r, .l ms]], h =>
    obtain ⟨h1, h2, h3, -⟩ := h.1
    obtain ⟨m, rfl⟩ := len1 h3
    exact ⟨s, n, r, m, rfl, h1, h2⟩
  | [.x [.l _, .s _ _, .s _ _]], h => exact h.1.2.2.elim
  | [.x [.l _, .s _ _]], h => exact h.1.2.2.elim
  | [.x (.l _ :: .s _ _ :: .l _ :: _ :: _)], h => exact h.1.2.2.2.elim
  | [.x (.l _ :: .s _ _ :: .s _ _ :: _)], h => exact h.1.2.2.elim
  | [.x [.l _]], h => exact h.1.2.elim
  | [.x (.l _ :: .l _ :: _)], h => exact h.1.2.elim
  | [.x []], h => exact h.1.elim
  | [.x (.s _ _ :: _)], h => exact h.1.elim
  | [.p _], h => exact h.elim
  | [.s _ _], h => exact h.elim
  | [], h => exact h.elim
  | .x _ :: _ :: _, h => exact h.2.elim
  | .p _ :: _ :: _, h => exact h.elim
  | .s _ _ :: _ :: _, h => exact h.elim

noncomputable abbrev cx0 : Cx := cxW [] []
theorem cx0_ok : CxOk Tryd.prog GW cx0 := cxW_ok (fns := []) (fms := []) trivial trivial
abbrev fitsC : MSpec := ctM [hK] (fun _ => True) [bK] (fun | [.x [.l _, .s n _, .l [m]]] => [.p (.b (fitsV n m))] | _ => [])
theorem run17 (s : List Int) (n : Nat) (r : List Int) (m : Int) (zs : Nat → Bool) : runM cx0 no 100 Tryd.f17 (body Tryd.f17) [hK] [.x [.l s, .s n r, .l [m]]] zs [bK] gmW =
    .ite (decide ((n : Int) < 128)) (.ret [.p (.b (IntKind.u64.wrap (n : Int) == m.tmod 128))]) (.ret [.p (.b false)]) := by kernel_rfl
theorem run21 (s : List Int) (n : Nat) (r : List Int) (m : Int) (zs : Nat → Bool) : runM cx0 no 100 Tryd.f21 (body Tryd.f21) [hK] [.x [.l s, .s n r, .l [m]]] zs [bK] gmW =
    .ite (decide ((n : Int) < 128)) (.ret [.p (.b (IntKind.u64.wrap (n : Int) == m.tmod 128))]) (.ret [.p (.b false)]) := by kernel_rfl
theorem fn17 : FnmS Tryd.prog GW 17 fitsC :=
  fnm_run cx0_ok gW Tryd.func17 rfl (Go.Sx.enters_of Tryd.func17 (by kernel_rfl) (by kernel_rfl)) (fuel := 100) (by decide) fun xs zs hfit _ _ => by
    obtain ⟨s, n, r, m, rfl, -, -⟩ := fit_h hfit
    refine ⟨no, noBl, Gd.of_eq (run17 s n r m zs) ⟨fun h => ?_, fun h => ?_⟩⟩
    · show [MV.p (AV.b _)] = [MV.p (AV.b (fitsV n m))]
      unfold fitsV; rw [h]; rfl
    · show [MV.p (AV.b _)] = [MV.p (AV.b (fitsV n m))]
      unfold fitsV; rw [h]; rfl
theorem fn21 : FnmS Tryd.prog GW 21 fitsC :=
  fnm_run cx0_ok gW Tryd.func21 rfl (Go.Sx.enters_of Tryd.func21 (by kernel_rfl) (by kernel_rfl)) (fuel := 100) (by decide) fun xs zs hfit _ _ => by
    obtain ⟨s, n, r, m, rfl, -, -⟩ := fit_h hfit
    refine ⟨no, noBl, Gd.of_eq (run21 s n r m zs) ⟨fun h => ?_, fun h => ?_⟩⟩
    · show [MV.p (AV.b _)] = [MV.p (AV.b (fitsV n m))]
      unfold fitsV; rw [h]; rfl
    · show [MV.p (AV.b _)] = [MV.p (AV.b (fitsV n m))]
      unfold fitsV; rw [h]; rfl

theorem run18 (n : Nat) (l : List Int) (zs : Nat → Bool) : runM cx0 no 100 Tryd.f18 (body Tryd.f18) [sK] [.s n l] zs [sK] gmW =
    .ite (zs 0 == true) (.ret [.s 0 []]) (.need (n ≤ 140737488355328) (.ret [.s n l])) := by kernel_rfl
abbrev preB : List MV → Prop := fun | [.s n _] => n ≤ 3000 | _ => False
abbrev cloneC : MSpec := ctM [sK] preB [sK] (fun xs => xs)
theorem fn18 : FnmS Tryd.prog GW 18 cloneC :=
  fnm_run cx0_ok gW Tryd.func18 rfl (Go.Sx.enters_of Tryd.func18 (by kernel_rfl) (by kernel_rfl)) (fuel := 100) (by decide) fun xs zs hfit hp hz => by
    obtain ⟨n, l, rfl, hl⟩ := fit_s hfit
    have hp : n ≤ 3000 := hp
    refine ⟨no, noBl, Gd.of_eq (run18 n l zs) ⟨?_, ?_⟩⟩
    · intro hzz
      obtain ⟨h1, rfl⟩ := hz 0 5 .u8 1 n l rfl (by simpa using hzz)
      have : n = 0 := by omega
      subst this; rfl
    · intro _
      exact ⟨by omega, rfl⟩

abbrev beginV : List MV := [.x [.l firstL, .s 0 [], .l [0]]]
abbrev beginC : MSpec := ctM [] (fun _ => True) [hK] (fun _ => beginV)
theorem run13 (zs : Nat → Bool) : runM cx0 no 100 Tryd.f13 (body Tryd.f13) [] [] zs [hK] gmW = .ret beginV := by kernel_rfl
theorem run14 (zs : Nat → Bool) : runM cx0 no 100 Tryd.f14 (body Tryd.f14) [] [] zs [hK] gmW = .ret beginV := by kernel_rfl
theorem fn13 : FnmS Tryd.prog GW 13 beginC :=
  fnm_run cx0_ok gW Tryd.func13 rfl (Go.Sx.enters_of Tryd.func13 (by kernel_rfl) (by kernel_rfl)) (fuel := 100) (by decide) fun xs zs hfit _ _ => by
    obtain rfl := fit_0 hfit
    exact ⟨no, noBl, Gd.of_eq (run13 zs) ⟨rfl⟩⟩
theorem fn14 : FnmS Tryd.prog GW 14 beginC :=
  fnm_run cx0_ok gW Tryd.func14 rfl (Go.Sx.enters_of Tryd.func14 (by kernel_rfl) (by kernel_rfl)) (fuel := 100) (by decide) fun xs zs hfit _ _ => by
    obtain rfl := fit_0 hfit
    exact ⟨no, noBl, Gd.of_eq (run14 zs) ⟨rfl⟩⟩

theorem run31 (x : Int) : runX cx0 no 100 Tryd.f31 (body Tryd.f31) (can [.num .i64] [.n x]) gmW = .ite (decide (x ≥ 1)) (.ret (.bool (decide (x ≤ 8)))) (.ret .ff) := by kernel_rfl
abbrev szC : List SV → T SV := ct [.num .i64] (fun | [.n x] => x = 8 | _ => False) [.bool] (fun _ => [.b true])
theorem fit_n1 {k : IntKind} {xs : List AV} (h : fit [.num k] xs) : ∃ x, xs = [.n x] := by
  match xs, h with
  | [.n x], _ => exact ⟨x, rfl⟩
  | [], h => exact h.elim
  | .n _ :: _ :: _, h => exact h.2.elim
  | .l _ :: _, h => exact h.1.elim
  | .b _ :: _, h => exact h.1.elim
  | .a _ :: _, h => exact h.1.elim
theorem fn31 : FnOk Tryd.prog GW 31 szC := by
  refine fnOk_gd cx0_ok gW Tryd.func31 (c := body Tryd.f31) (by kernel_rfl) (Go.Sx.enters_of Tryd.func31 (by kernel_rfl) (by kernel_rfl)) (fuel := 100) fun xs hfit hp => ?_
  obtain ⟨x, rfl⟩ := fit_n1 hfit
  have hp : x = 8 := hp
  subst hp
  exact ⟨no, noBl, ⟨trivial, trivial⟩, Gd.of_eq (run31 8) ⟨fun _ ρ => rfl, fun h => (by cases h)⟩⟩

noncomputable abbrev cxP : Cx := cxW [(31, szC)] []
theorem cxP_ok : CxOk Tryd.prog GW cxP := cxW_ok (fns := [(31, szC)]) (fms := []) ⟨fn31, trivial⟩ trivial
noncomputable def lp24 : Code := unloop (Code.blk (body Tryd.f24) 0)
def ks24 : Fh := ⟨[⟨.tmp 8, 20, 5, .u8, 1⟩], [.junk, .soft, .soft] ++ List.replicate 5 .junk ++ [.keep] ++ List.replicate 23 .junk ++ [.soft, .soft] ++ List.replicate 15 .junk, [20], 24⟩
def js24 : Fh := ⟨[], List.replicate 8 .junk ++ [.keep] ++ List.replicate 40 .junk, [20], 24⟩
def m24 (n : Nat) (l : List Int) : Mem := [(20, .vec true 5 .u8 1 n l)]
def inv24 (x : Int) (n : Nat) (l : List Int) (i : Int) : St := ⟨[.junk 0, .int .u64 x, .int .i64 8] ++ junks 3 5 ++ [.sl 20] ++ junks 9 23 ++ [.int .i64 8, .int .i64 i] ++ junks 34 15, m24 n l ++ gmW, 24⟩
def out24 (n : Nat) (l : List Int) : St := ⟨junks 0 8 ++ [.sl 20] ++ junks 9 40, m24 n l ++ gmW, 24⟩
def sh8 (i : Int) : Int := IntKind.i64.wrap (8 * IntKind.i64.wrap (7 - i))
theorem round24 (x : Int) (n : Nat) (l : List Int) (i : Int) : endV ks24 js24 js24 (exec cxP (drawS cxP) no 100 lp24 (inv24 x n l i)) =
    .ite (decide (i < 8)) (.need (0 ≤ sh8 i) (.need (addO n 1 ≤ 140737488355328) (.ret (.normal, inv24 x (addO n 1) (l ++ [IntKind.u8.wrap (shrI .u64 x (sh8 i))]) (IntKind.i64.wrap (i + 1))))))
    (.ret (.exit 0, out24 n l)) := by kernel_rfl
theorem blks24 : blksL (body Tryd.f24) 0 = [.loop lp24] := by kernel_rfl
noncomputable def bl24 (x : Int) (n : Nat) (b r : List Int) : Blocks := blOne 0 (loopV ks24 (inv24 x n b 0) true (.normal, out24 (n + 8) r) (.normal, out24 (n + 8) r))
theorem run24 (x : Int) (n : Nat) (b r : List Int) (zs : Nat → Bool) : prune (runM cxP (bl24 x n b r) 100 Tryd.f24 (body Tryd.f24) [sK, uK, iK] [.s n b, .p (.n x), .p (.n 8)] zs [sK, iK] gmW) [false, false, true] =
    needs [(8 : Int) = 8, false = false, false = false, 0 ≤ (0 : Int) ∧ 0 ≤ IntKind.i64.wrap ((n : Int) + 8) ∧ 1 * IntKind.i64.wrap ((n : Int) + 8) ≤ 281474976710656 ∧ IntKind.i64.wrap ((n : Int) + 8) ≤ 9223372036854775807, n ≤ 140737488355328,
      inv24 x n b 0 = inv24 x n b 0, true = true] (.ret [.s (n + 8) r, .p (.n 0)]) := by kernel_rfl

abbrev putC : MSpec := ctM [sK, uK, iK] (fun | [.s n _, .p (.n _), .p (.n k)] => n ≤ 3000 ∧ k = 8 | _ => False) [sK, iK] (fun | [.s n b, .p (.n x), .p (.n _)] => [.s (n + 8) (b ++ be8 x), .p (.n 0)] | _ => [])
theorem fit_snn {e : TypeId} {k k' k'' : IntKind} {st : Nat} {xs : List MV} (h : fitM [.s e k st, .p (.num k'), .p (.num k'')] xs) : ∃ n b x y, xs = [.s n b, .p (.n x), .p (.n y)] ∧ b.length = n * st := by
  match xs, h with
  | [.s n b, .p (.n x), .p (.n y)], h => exact ⟨n, b, x, y, rfl, h.1⟩
  | [.s _ _, .p (.n _), .p (.l _)], h => exact h.2.2.1.elim
  | [.s _ _, .p (.n _), .p (.b _)], h => exact h.2.2.1.elim
  | [.s _ _, .p (.n _), .p (.a _)], h => exact h.2.2.1.elim
  | [.s _ _, .p (.n _), .s _ _], h => exact h.2.2.elim
  | [.s _ _, .p (.n _), .x _], h => exact h.2.2.elim
  | [.s _ _, .p (.n _)], h => exact h.2.2.elim
  | .s _ _ :: .p (.n _) :: .p _ :: _ :: _, h => exact h.2.2.2.elim
  | .s _ _ :: .p (.n _) :: .s _ _ :: _ :: _, h => exact h.2.2.elim
  | .s _ _ :: .p (.n _) :: .x _ :: _ :: _, h => exact h.2.2.elim
  | .s _ _ :: .p (.l _) :: _, h => exact h.2.1.elim
  | .s _ _ :: .p (.b _) :: _, h => exact h.2.1.elim
  | .s _ _ :: .p (.a _) :: _, h => exact h.2.1.elim
  | .s _ _ :: .s _ _ :: _, h => exact h.2.elim
  | .s _ _ :: .x _ :: _, h => exact h.2.elim
  | [.s _ _], h => exact h.2.elim
  | .p _ :: _, h => exact h.elim
  | .x _ :: _, h => exact h.elim
  | [], h => exact h.elim
theorem sh8_of {i : Nat} (h : i < 8) : sh8 (i : Int) = ((8 * (7 - i) : Nat) : Int) := by
  unfold sh8
  rw [wrap_i64 (x := 7 - (i : Int)) (by omega) (by omega), wrap_i64 (by omega) (by omega)]; omega
theorem be8_take (x : Int) {i : Nat} (h : i < 8) : (be8 x).take (i + 1) = (be8 x).take i ++ [by8 x i] := by
  rw [List.take_succ_eq_append_getElem (by rw [be8_length]; exact h)]
  simp [be8]
theorem fn24 : FnmS Tryd.prog GW 24 putC :=
  fnm_run cxP_ok gW Tryd.func24 (c := body Tryd.f24) rfl (Go.Sx.enters_of Tryd.func24 (by kernel_rfl) (by kernel_rfl)) (fuel := 100) (by decide) fun xs zs hfit hp _ => by
    obtain ⟨n, b, x, y, rfl, hb⟩ := fit_snn hfit
    have hp : n ≤ 3000 ∧ y = 8 := hp
    obtain ⟨hn3, rfl⟩ := hp
    have hw : IntKind.i64.wrap ((n : Int) + 8) = (n : Int) + 8 := wrap_i64 (by omega) (by omega)
    refine ⟨bl24 x n b (b ++ be8 x), fun Γ hG h0 hg hn => ?_, Gd.of_run (run24 x n b _ zs) ⟨rfl, rfl, rfl, by rw [hw]; omega, by omega, rfl, rfl, rfl⟩⟩
    have hcx := hG ▸ cxP_ok
    refine blOne_in blks24 (i := 0) (f := loopV ks24 (inv24 x n b 0) true (.normal, out24 (n + 8) (b ++ be8 x)) (.normal, out24 (n + 8) (b ++ be8 x)))
      (fun S e S' hr => loop_ruleV hcx hg h0 hn (drawS_sound hcx hg h0) (bl := no) (blocksIn_none _) (fun i : Nat => inv24 x (n + i) (b ++ (be8 x).take i) i) (fun i => 8 - i) (fun i => i ≤ 8) true _ _ 100 ks24 js24 js24 (fun i hi => ?_) 0 (Nat.zero_le _) S e S' (by simpa using hr))
    rw [round24]
    refine ⟨fun h => ?_, fun h => ?_⟩
    · have h := of_decide_eq_true h
      have e8 := sh8_of (i := i) (by omega)
      refine ⟨by rw [e8]; omega, by rw [addO_eq]; omega, i + 1, by omega, ?_, by omega⟩
      rw [wrap_i64 (by omega) (by omega), addO_eq, e8, be8_take x (by omega), List.append_assoc]
      rfl
    · have h := of_decide_eq_false h
      have : i = 8 := by omega
      subst this
      rw [List.take_of_length_le (by rw [be8_length]; omega)]
      rfl
end Go.Proofs.YtdlhklnpnpmibaaDoor

/- The reference's More; whether two texts that are summed are alike. -/
namespace Go.Proofs.YtdlhklnpnpmibaaDoor
open Go Go.Sx Go.Sh
set_option maxRecDepth 100000

def sameV (s : List Int) (n : Nat) (r : List Int) (m : Int) (s' : List Int) (n' : Nat) (r' : List Int) (m' : Int) : Bool := (s == s') && strEq r r' && (m == m')
abbrev sameC : MSpec := ctM [hK, hK] (fun _ => True) [bK] (fun | [.x [.l s, .s n r, .l [m]], .x [.l s', .s n' r', .l [m']]] => [.p (.b (sameV s n r m s' n' r' m'))] | _ => [])
theorem fit_hc {ks : List MK} {xs : List MV} (h : fitM (hK :: ks) xs) : ∃ s n r m ys, xs = .x [.l s, .s n r, .l [m]] :: ys ∧ s.length = 8 ∧ r.length = n * 1 ∧ fitM ks ys := by
  match xs, h with
  | x :: ys, h =>
    have h1 : fitM [hK] [x] := by
      cases x <;> first | exact h.elim | exact ⟨h.1, trivial⟩
    have h2 : fitM ks ys := by
      cases x <;> first | exact h.elim | exact h.2
    obtain ⟨s, n, r, m, e, l1, l2⟩ := fit_h h1
    cases e
    exact ⟨s, n, r, m, ys, rfl, l1, l2, h2⟩
  | [], h => exact h.elim
theorem run12 (s : List Int) (n : Nat) (r : List Int) (m : Int) (s' : List Int) (n' : Nat) (r' : List Int) (m' : Int) (zs : Nat → Bool) : runM cx0 no 100 Tryd.f12 (body Tryd.f12) [hK, hK] [.x [.l s, .s n r, .l [m]], .x [.l s', .s n' r', .l [m']]] zs [bK] gmW =
    .ite (s == s') (.ite (strEq r r' == true) (.ret [.p (.b (m == m'))]) (.ret [.p (.b false)])) (.ret [.p (.b false)]) := by kernel_rfl
theorem fn12 : FnmS Tryd.prog GW 12 sameC :=
  fnm_run cx0_ok gW Tryd.func12 rfl (Go.Sx.enters_of Tryd.func12 (by kernel_rfl) (by kernel_rfl)) (fuel := 100) (by decide) fun xs zs hfit _ _ => by
    obtain ⟨s, n, r, m, ys, rfl, -, -, hfit⟩ := fit_hc hfit
    obtain ⟨s', n', r', m', rfl, -, -⟩ := fit_h hfit
    refine ⟨no, noBl, Gd.of_eq (run12 s n r m s' n' r' m' zs) ⟨fun h => ⟨fun h2 => ?_, fun h2 => ?_⟩, fun h => ?_⟩⟩
    · have h2 : strEq r r' = true := by simpa using h2
      show [MV.p (AV.b _)] = [MV.p (AV.b (sameV s n r m s' n' r' m'))]
      unfold sameV; rw [h, h2]; rfl
    · have h2 : strEq r r' = false := by simpa using h2
      show [MV.p (AV.b _)] = [MV.p (AV.b (sameV s n r m s' n' r' m'))]
      unfold sameV; rw [h, h2]; rfl
    · show [MV.p (AV.b _)] = [MV.p (AV.b (sameV s n r m s' n' r' m'))]
      unfold sameV; rw [h]; rfl

/-! ### The reference's More -/
abbrev moreP (c : List Int → List Int → List Int) (s : List Int) (n : Nat) (r : List Int) (m : Int) (k : Nat) (b : List Int) : List MV :=
  [.x [.l (mrS c s n r m k b), .s (mrN n m k) (mrR n r m k b), .l [mrM n m k]], .p (.n (mrE n m))]
abbrev preM : List MV → Prop := fun | [.x [.l _, .s n _, .l [_]], .s k _] => n ≤ 1000 ∧ k ≤ 1000 | _ => False
abbrev moreC (c : List Int → List Int → List Int) : MSpec := ctM [hK, sK] preM [hK, iK] (fun | [.x [.l s, .s n r, .l [m]], .s k b] => moreP c s n r m k b | _ => [])
noncomputable abbrev cxM9 : Cx := cxW [] [(21, fitsC), (22, cmpC compR)]
theorem cxM9_ok : CxOk Tryd.prog GW cxM9 := cxW_ok (fns := []) (fms := [(21, fitsC), (22, cmpC compR)]) trivial ⟨fn21, fn22, trivial⟩
noncomputable def lp9 : Code := unloop (Code.blk (body Tryd.f9) 0)
theorem blks9 : blksL (body Tryd.f9) 0 = [.loop lp9] := by kernel_rfl
def mm9 (q : Nat) (r : List Int) (n0 : Nat) (t s : List Int) (m : Int) : Mem :=
  [(3, .st true [.ints .u64 8 z8, .raw (.slice none 0 0), .ints .u64 1 [0]]), (12, .vec true 5 .u8 1 q r), (14, .st true [.ints .u64 8 s, .sl 12, .ints .u64 1 [m]]), (34, .vec true 5 .u8 1 n0 t)]
def kk9 : List Kp := List.replicate 4 .junk ++ [.keep, .keep, .keep, .junk, .keep] ++ List.replicate 43 .junk
def k09 : Fh := ⟨[], kk9, [3, 12, 14, 34], 40⟩
def ks9 : Fh := ⟨[⟨.tmp 8, 36, 5, .u8, 1⟩], kk9, [3, 12, 14, 34, 36], 40⟩
def js9 : Fh := ⟨[], kk9, [3, 12, 14, 34, 36], 40⟩
def rs9 : Fh := ⟨[], List.replicate 52 .junk, [], 40⟩
def sl9 (j : Nat) : List SV := junks 0 4 ++ [.ptr 3 0 (.lit 0), .lit .i64 0, .ptr 14 0 (.lit 0), .junk 7, .sl j] ++ junks 9 43
section
variable (q : Nat) (r : List Int) (n0 : Nat) (t s : List Int) (m : Int)
def inv09 : St := ⟨sl9 34, mm9 q r n0 t s m ++ gmW, 40⟩
def inv9 (o n : Nat) : St := ⟨sl9 36, mm9 q r n0 t s m ++ [(36, .view 34 1 o n)] ++ gmW, 40⟩
theorem round9 (o n : Nat) : endV ks9 js9 rs9 (exec cxM9 (drawS cxM9) no 100 lp9 (inv9 q r n0 t s m o n)) =
    .ite (decide ((n : Int) ≥ 128)) (needs [0 ≤ (0 : Int) ∧ (0 : Int) ≤ 128 ∧ 128 ≤ (n : Int), 128 = 128, 0 ≤ (128 : Int) ∧ 128 ≤ (n : Int) ∧ (n : Int) ≤ (n : Int)]
      (.ret (.normal, inv9 q r n0 t (compR constL s (sub t (o * 1) (128 * 1))) m (o + 128) ((n : Int).toNat - 128))))
    (.ret (.exit 0, inv9 q r n0 t s m o n)) := by kernel_rfl
theorem round09 : endV ks9 js9 rs9 (exec cxM9 (drawS cxM9) no 100 lp9 (inv09 q r n0 t s m)) =
    .ite (decide ((n0 : Int) ≥ 128)) (needs [0 ≤ (0 : Int) ∧ (0 : Int) ≤ 128 ∧ 128 ≤ (n0 : Int), 128 = 128, 0 ≤ (128 : Int) ∧ 128 ≤ (n0 : Int) ∧ (n0 : Int) ≤ (n0 : Int)]
      (.ret (.normal, inv9 q r n0 t (compR constL s (sub t 0 (128 * 1))) m 128 ((n0 : Int).toNat - 128))))
    (.fail "a head's blocks") := by kernel_rfl
theorem round009 : endV ks9 k09 rs9 (exec cxM9 (drawS cxM9) no 100 lp9 (inv09 q r n0 t s m)) =
    .ite (decide ((n0 : Int) ≥ 128)) (needs [0 ≤ (0 : Int) ∧ (0 : Int) ≤ 128 ∧ 128 ≤ (n0 : Int), 128 = 128, 0 ≤ (128 : Int) ∧ 128 ≤ (n0 : Int) ∧ (n0 : Int) ≤ (n0 : Int)]
      (.ret (.normal, inv9 q r n0 t (compR constL s (sub t 0 (128 * 1))) m 128 ((n0 : Int).toNat - 128))))
    (.ret (.exit 0, inv09 q r n0 t s m)) := by kernel_rfl
end
end Go.Proofs.YtdlhklnpnpmibaaDoor

/- The reference's More: the contract. -/
namespace Go.Proofs.YtdlhklnpnpmibaaDoor
open Go Go.Sx Go.Sh
set_option maxRecDepth 100000

abbrev bigB : Nat := 140737488355328
section
variable (s : List Int) (n : Nat) (r : List Int) (m : Int) (k : Nat) (b : List Int) (zs : Nat → Bool)
noncomputable abbrev r9 (bl : Blocks) : T (List MV) := runM cxM9 bl 100 Tryd.f9 (body Tryd.f9) [hK, sK] [.x [.l s, .s n r, .l [m]], .s k b] zs [hK, iK] gmW
abbrev m9' : Int := W (m + W (k : Int))
noncomputable def bl09 : Blocks := blOne 0 (loopV k09 (inv09 n r (addO n k) (r ++ b) s (m9' m k)) true (.normal, inv09 n r (addO n k) (r ++ b) s (m9' m k)) (.normal, inv09 n r (addO n k) (r ++ b) s (m9' m k)))
noncomputable def bl9 (s' : List Int) (o n' : Nat) : Blocks := blOne 0 (loopV k09 (inv09 n r (addO n k) (r ++ b) s (m9' m k)) true (.normal, inv9 n r (addO n k) (r ++ b) s' (m9' m k) o n') (.normal, inv9 n r (addO n k) (r ++ b) s' (m9' m k) o n'))
theorem run9a : prune (r9 s n r m k b zs (blNone 0)) [true] = needs [n ≤ bigB, True, (!(fitsV n m)) = true] (.ret [.x [.l s, .s n r, .l [m]], .p (.n 1)]) := by kernel_rfl
theorem run9b : prune (r9 s n r m k b zs (bl09 s n r m k b)) [false, true] = needs [n ≤ bigB, True, (!(fitsV n m)) = false, n ≤ bigB, addO n k ≤ bigB, inv09 n r (addO n k) (r ++ b) s (m9' m k) = inv09 n r (addO n k) (r ++ b) s (m9' m k), true = true, addO n k ≤ bigB]
    (.ret [.x [.l s, .s (addO n k) (r ++ b), .l [m9' m k]], .p (.n 0)]) := by kernel_rfl
theorem run9c (s' : List Int) (o n' : Nat) : prune (r9 s n r m k b zs (bl9 s n r m k b s' o n')) [false, true] = needs [n ≤ bigB, True, (!(fitsV n m)) = false, n ≤ bigB, addO n k ≤ bigB, inv09 n r (addO n k) (r ++ b) s (m9' m k) = inv09 n r (addO n k) (r ++ b) s (m9' m k), true = true, n' ≤ bigB]
    (.ret [.x [.l s', .s n' (sub (r ++ b) (o * 1) (n' * 1)), .l [m9' m k]], .p (.n 0)]) := by kernel_rfl
end

theorem fit_hs {xs : List MV} (h : fitM [hK, sK] xs) : ∃ s n r m k b, xs = [.x [.l s, .s n r, .l [m]], .s k b] ∧ s.length = 8 ∧ r.length = n ∧ b.length = k := by
  obtain ⟨s, n, r, m, ys, rfl, h1, h2, h3⟩ := fit_hc h
  obtain ⟨k, b, rfl, h4⟩ := fit_s h3
  exact ⟨s, n, r, m, k, b, rfl, h1, by omega, by omega⟩
theorem more_no (c : List Int → List Int → List Int) {s : List Int} {n : Nat} {r : List Int} {m : Int} {k : Nat} {b : List Int} (h : fitsV n m = false) : moreP c s n r m k b = [.x [.l s, .s n r, .l [m]], .p (.n 1)] := by
  unfold moreP mrS mrN mrR mrM mrE; rw [h]; rfl
theorem more_yes (c : List Int → List Int → List Int) {s : List Int} {n : Nat} {r : List Int} {m : Int} {k : Nat} {b : List Int} (h : fitsV n m = true) :
    moreP c s n r m k b = [.x [.l (runB c s (r ++ b) ((n + k) / 128)), .s (n + k - 128 * ((n + k) / 128)) (sub (r ++ b) (128 * ((n + k) / 128)) (n + k - 128 * ((n + k) / 128))), .l [m9' m k]], .p (.n 0)] := by
  unfold moreP mrS mrN mrR mrM mrE; rw [h]; rfl
theorem sub_all {t : List Int} {n : Nat} (h : t.length = n) : sub t 0 n = t := by simp [sub, ← h]

/-- The heads behind i blocks. -/
def iv9 (q : Nat) (r : List Int) (n0 : Nat) (t s : List Int) (m : Int) : Nat → St
  | 0 => inv09 q r n0 t s m
  | i + 1 => inv9 q r n0 t (runB (compR constL) s t (i + 1)) m (128 * (i + 1)) (n0 - 128 * (i + 1))

theorem bl9_in {Γ : Gam} (hcx : CxOk Tryd.prog Γ.G cxM9) (h0 : Γ.G Γ.w0) (hg : GlobOk Γ) (hn0 : Γ.n0 = 0) {s : List Int} {n : Nat} {r : List Int} {m : Int} {k : Nat} {b : List Int} (hge : 128 ≤ n + k) :
    BlocksIn Tryd.prog Γ (bl9 s n r m k b (runB (compR constL) s (r ++ b) ((n + k) / 128)) (128 * ((n + k) / 128)) (n + k - 128 * ((n + k) / 128))) (body Tryd.f9) := by
  have hN : addO n k = n + k := addO_eq _ _
  unfold bl9
  rw [hN]
  refine blOne_in blks9 (loop_ruleW hcx hg h0 hn0 (drawS_sound hcx hg h0) (bl := no) (blocksIn_none _) (iv9 n r (n + k) (r ++ b) s (m9' m k)) (fun i => (n + k) / 128 - i) (fun i => i ≤ (n + k) / 128) true _ _ 100 k09 ks9 js9 rs9 (fun i hi => ?_) 0 (Nat.zero_le _))
  cases i with
  | zero =>
    show (endV ks9 js9 rs9 (exec cxM9 (drawS cxM9) no 100 lp9 (inv09 n r (n + k) (r ++ b) s (m9' m k)))).good _
    rw [round09]
    refine ⟨fun _ => ⟨by omega, rfl, by omega, 1, by omega, rfl, by omega⟩, fun h => ?_⟩
    have h := of_decide_eq_false h; omega
  | succ i =>
    show (endV ks9 js9 rs9 (exec cxM9 (drawS cxM9) no 100 lp9 (inv9 n r (n + k) (r ++ b) (runB (compR constL) s (r ++ b) (i + 1)) (m9' m k) (128 * (i + 1)) (n + k - 128 * (i + 1))))).good _
    rw [round9]
    refine ⟨fun h => ?_, fun h => ?_⟩
    · have h := of_decide_eq_true h
      refine ⟨by omega, rfl, by omega, i + 2, by omega, ?_, by omega⟩
      show inv9 n r (n + k) (r ++ b) _ _ _ _ = inv9 n r (n + k) (r ++ b) (runB (compR constL) s (r ++ b) (i + 2)) _ (128 * (i + 2)) (n + k - 128 * (i + 2))
      rw [Int.toNat_natCast, show 128 * (i + 1) + 128 = 128 * (i + 2) from by omega, show n + k - 128 * (i + 1) - 128 = n + k - 128 * (i + 2) from by omega, Nat.mul_one, Nat.mul_one]
      rfl
    · have h := of_decide_eq_false h
      have he : i + 1 = (n + k) / 128 := by omega
      show (afterX 0 (.exit 0), _) = _
      rw [he]; rfl

theorem bl09_in {Γ : Gam} (hcx : CxOk Tryd.prog Γ.G cxM9) (h0 : Γ.G Γ.w0) (hg : GlobOk Γ) (hn0 : Γ.n0 = 0) {s : List Int} {n : Nat} {r : List Int} {m : Int} {k : Nat} {b : List Int} (hlt : n + k < 128) : BlocksIn Tryd.prog Γ (bl09 s n r m k b) (body Tryd.f9) := by
  have hN : addO n k = n + k := addO_eq _ _
  unfold bl09
  rw [hN]
  refine blOne_in blks9 (loop_ruleW hcx hg h0 hn0 (drawS_sound hcx hg h0) (bl := no) (blocksIn_none _) (fun _ : Nat => inv09 n r (n + k) (r ++ b) s (m9' m k)) (fun i => i) (fun _ => True) true _ _ 100 k09 ks9 k09 rs9 (fun i hi => ?_) 0 trivial)
  rw [round009]
  refine ⟨fun h => ?_, fun h => rfl⟩
  have h := of_decide_eq_true h; omega

theorem fn9 : FnmS Tryd.prog GW 9 (moreC (compR constL)) :=
  fnm_run cxM9_ok gW Tryd.func9 rfl (Go.Sx.enters_of Tryd.func9 (by kernel_rfl) (by kernel_rfl)) (fuel := 100) (by decide) fun xs zs hfit hp _ => by
    obtain ⟨s, n, r, m, k, b, rfl, hs, hr, hb⟩ := fit_hs hfit
    have hp : n ≤ 1000 ∧ k ≤ 1000 := hp
    have h1 : n ≤ bigB := by show n ≤ 140737488355328; omega
    have h2 : addO n k ≤ bigB := by rw [addO_eq]; show n + k ≤ 140737488355328; omega
    cases hf : fitsV n m with
    | false =>
      refine ⟨blNone 0, fun Γ _ _ _ _ => blNone_in blks9, Gd.of_run (run9a s n r m k b zs) ⟨h1, trivial, by rw [hf]; rfl, ?_⟩⟩
      show _ = moreP _ _ _ _ _ _ _
      rw [more_no _ hf]
    | true =>
      have hnf : (!(fitsV n m)) = false := by rw [hf]; rfl
      by_cases hlt : n + k < 128
      · refine ⟨bl09 s n r m k b, fun Γ hG h0 hg hn => bl09_in (hG ▸ cxM9_ok) h0 hg hn hlt, Gd.of_run (run9b s n r m k b zs) ⟨h1, trivial, hnf, h1, h2, rfl, rfl, h2, ?_⟩⟩
        show _ = moreP _ _ _ _ _ _ _
        rw [more_yes _ hf, addO_eq, show (n + k) / 128 = 0 from by omega, Nat.mul_zero, Nat.sub_zero, sub_all (by simp; omega)]
        rfl
      · refine ⟨_, fun Γ hG h0 hg hn => bl9_in (hG ▸ cxM9_ok) h0 hg hn (by omega), Gd.of_run (run9c s n r m k b zs _ _ _) ⟨h1, trivial, hnf, h1, h2, rfl, rfl, ?_, ?_⟩⟩
        · show _ ≤ 140737488355328; omega
        · show _ = moreP _ _ _ _ _ _ _
          rw [more_yes _ hf, Nat.mul_one, Nat.mul_one]
end Go.Proofs.YtdlhklnpnpmibaaDoor

/- A text's blocks, one behind the other: the iterator. -/
namespace Go.Proofs.YtdlhklnpnpmibaaDoor
open Go.RowKit Go.Shelf
attribute [local go_sem] Oper.semAt_some

set_option maxHeartbeats 1000000 in
/-- The text is boxed; the function value captures the box. -/
theorem blocks_in (F : Fence) (n : Nat) (h5 : F.fn 19) (hro : F.round = none) (a : Option Addr) (len cap : Nat) (w : World) :
    CallsIn F n Tryd.prog 19 #[.slice a len cap] w fun e w' => e = .returned (.func (.func 25) #[] #[.pointer (some ⟨w.heap.size, 0, none⟩)]) ∧ w' = w.alloc (.cells #[.slice a len cap] 24) := by
  refine callsIn_of_wp Tryd.func19 rfl h5 ?_ hro
  simp only [Tryd.ntmps19, List.size_toArray, List.length_cons, List.length_nil, Nat.reduceAdd, Nat.reduceSub, Array.replicate_succ, Array.replicate_zero, List.push_toArray, List.append_toArray, List.nil_append, List.cons_append]
  gi_wp2
  go_ret
  exact ⟨rfl, rfl⟩

/-- What has come when k rounds are over. -/
def upto (K k : Nat) : List (Fin K) := (List.finRange K).take k
theorem upto_succ {K k : Nat} (h : k < K) : upto K (k + 1) = upto K k ++ [⟨k, h⟩] := by
  unfold upto
  rw [List.take_succ_eq_append_getElem (by simpa using h)]
  simp
theorem upto_length {K k : Nat} (h : k ≤ K) : (upto K k).length = k := by simp [upto, h]

set_option maxRecDepth 100000 in
set_option maxHeartbeats 2000000 in
theorem blocks1_in (F : Fence) (n : Nat) (h7 : F.fn 25) (hro : F.round = none) (hn : 1 ≤ n) (l Bs bo g len cap : Nat) (hlen : len ≤ 5000) (hcap : len ≤ cap) (J Jx : List (Fin (len / 128)) → World → Prop)
    (hY : ∀ pre x W, J pre W → pre.length < len / 128 → YieldAt F (n - 1) Tryd.prog l #[.slice (some ⟨g, x.1 * 128, none⟩) 128 (cap - x.1 * 128)] W fun e W' =>
      (e = .returned (.bool true) ∧ J (pre ++ [x]) W' ∧ W'.cell? ⟨Bs, bo, none⟩ = some (.slice (some ⟨g, 0, none⟩) len cap)) ∨ (e = .returned (.bool false) ∧ Jx (pre ++ [x]) W'))
    (W : World) (hBs : W.cell? ⟨Bs, bo, none⟩ = some (.slice (some ⟨g, 0, none⟩) len cap)) (h0 : J [] W) :
    CallsIn F n Tryd.prog 25 #[.func (.yield l) #[] #[], .pointer (some ⟨Bs, bo, none⟩)] W fun e W' => (∃ v, e = .returned v) ∧
      ((∃ ys, ys = upto (len / 128) (len / 128) ∧ J ys W') ∨ (∃ pre, True ∧ Jx pre W')) := by
  refine callsIn_of_wp Tryd.func25 rfl h7 ?_ hro
  simp only [Tryd.ntmps25, List.size_toArray, List.length_cons, List.length_nil, Nat.reduceAdd, Nat.reduceSub, Array.replicate_succ, Array.replicate_zero, List.push_toArray, List.append_toArray, List.nil_append, List.cons_append]
  gi_wp2
  gi_loopw [3] (fun i wr => ∃ k : Nat, k ≤ len / 128 ∧ i = .int .i64 ((k * 128 : Nat) : Int) ∧ J (upto (len / 128) k) wr ∧ wr.cell? ⟨Bs, bo, none⟩ = some (.slice (some ⟨g, 0, none⟩) len cap))
    (fun i _ => len - (intOf i).toNat)
  case atStart => exact ⟨0, Nat.zero_le _, rfl, h0, hBs⟩
  case round =>
    obtain ⟨k, hk, rfl, hJs, hcx⟩ := hrel
    by_cases hlt : k < len / 128
    · obtain ⟨fn, tmps, assign, body, hy, hR⟩ := hY _ ⟨k, hlt⟩ wr hJs (by rw [upto_length (by omega)]; exact hlt)
      dsimp only at hy
      gi_wp2
      refine hR.mono ?_
      rintro e W3 (⟨rfl, hJ3, hk3⟩ | ⟨rfl, hJx3⟩)
      · gi_wp2
        go_roundw
        case rel => exact ⟨k + 1, by omega, by simp; omega, by rw [upto_succ hlt]; exact hJ3, hk3⟩
        case measure => simp [intOf]; omega
      · gi_wp2
        refine bodyPost_ret (results_none rfl _ _ _) rfl ?_
        exact ⟨⟨_, rfl⟩, .inr ⟨_, trivial, hJx3⟩⟩
    · obtain rfl : k = len / 128 := by omega
      gi_wp2
      go_end0
      exact ⟨⟨_, rfl⟩, .inl ⟨_, rfl, hJs⟩⟩

set_option maxRecDepth 100000 in
set_option maxHeartbeats 1000000 in
/-- A text shorter than a block: no round. -/
theorem blocks1_none (F : Fence) (n : Nat) (h7 : F.fn 25) (hro : F.round = none) (l Bs bo : Nat) (a : Option Addr) (len cap : Nat) (hlen : len < 128) (J : World → Prop) (W : World) (hBs : W.cell? ⟨Bs, bo, none⟩ = some (.slice a len cap)) (h0 : J W) :
    CallsIn F n Tryd.prog 25 #[.func (.yield l) #[] #[], .pointer (some ⟨Bs, bo, none⟩)] W fun e W' => (∃ v, e = .returned v) ∧ J W' := by
  refine callsIn_of_wp Tryd.func25 rfl h7 ?_ hro
  simp only [Tryd.ntmps25, List.size_toArray, List.length_cons, List.length_nil, Nat.reduceAdd, Nat.reduceSub, Array.replicate_succ, Array.replicate_zero, List.push_toArray, List.append_toArray, List.nil_append, List.cons_append]
  gi_wp2
  gi_loopw [3] (fun i wr => i = .int .i64 0 ∧ J wr ∧ wr.cell? ⟨Bs, bo, none⟩ = some (.slice a len cap)) (fun _ _ => 0)
  case atStart => exact ⟨rfl, h0, hBs⟩
  case round =>
    obtain ⟨rfl, hJs, hcx⟩ := hrel
    have hno : ¬ (128 : Int) ≤ (len : Int) := by omega
    gi_wp2
    go_end0
    exact ⟨⟨_, rfl⟩, hJs⟩

/-- What a round that goes on keeps: the box. -/
def KpB (Bs bo : Nat) (A B : World) : Prop := ∀ v, A.cell? ⟨Bs, bo, none⟩ = some v → B.cell? ⟨Bs, bo, none⟩ = some v
theorem kpB_t {Bs bo : Nat} {A B C : World} (h : KpB Bs bo A B) (k : KpB Bs bo B C) : KpB Bs bo A C := fun v hv => k v (h v hv)
theorem kpB_b {Bs bo : Nat} (W : World) (l : Nat) (o o' : Obj) (h : W.heap[l]? = some o) (ho : o.isCells = false) : KpB Bs bo W (W.putObj l o') := fun v hv =>
  cell_kept hv (grownBy_putObj' W l o') (fun r e => by cases e; exact ⟨o, h, ho⟩)

/-- The part of a text that is a block. -/
def blkV (a : Option Addr) (cap x : Nat) : Value := match a with
  | some p => .slice (some ⟨p.block, x * 128, none⟩) 128 (cap - x * 128)
  | none => .slice none 0 0

/-- **The blocks of a text, at whatever it may be.** -/
theorem blocks_stops (F : Fence) (n : Nat) (h7 : F.fn 25) (hro : F.round = none) (hn : 1 ≤ n) (Bs bo : Nat) (a : Option Addr) (len cap : Nat) (hlen : len ≤ 5000) (ha : len = 0 ∨ ∃ g, a = some ⟨g, 0, none⟩ ∧ len ≤ cap) (w : World) (hb : Bs < w.heap.size)
    (hc : w.cell? ⟨Bs, bo, none⟩ = some (.slice a len cap)) :
    SeqStopsK F n Tryd.prog 25 #[.pointer (some ⟨Bs, bo, none⟩)] (fun x : Fin (len / 128) => #[blkV a cap x.1]) (KpB Bs bo) (fun ys => ys = upto (len / 128) (len / 128)) (fun _ => True) (len / 128) w := fun l J Jx W hW _ _ hY h0 => by
  have hc' := (hW.cell (p := ⟨Bs, bo, none⟩) hb).trans hc
  by_cases hlt : len < 128
  · refine (blocks1_none F n h7 hro l Bs bo a len cap hlt (J []) W hc' h0).mono fun e W' ⟨he, hj⟩ => ⟨he, .inl ⟨[], ?_, hj⟩⟩
    have hz : len / 128 = 0 := by omega
    apply List.eq_nil_of_length_eq_zero (l := upto (len / 128) (len / 128)) _ |>.symm
    rw [upto_length (Nat.le_refl _)]; exact hz
  · rcases ha with ha | ⟨g, rfl, h1⟩
    · omega
    · -- the contract wants the box kept, from the round's own word
      refine (blocks1_in F n h7 hro hn l Bs bo g len cap hlen h1 (fun pre X => J pre X ∧ X.cell? ⟨Bs, bo, none⟩ = some (.slice (some ⟨g, 0, none⟩) len cap)) Jx ?_ W hc' ⟨h0, hc'⟩).mono ?_
      · intro pre x W1 ⟨hJ, hcl⟩ hl
        refine (hY pre x W1 hJ hl).mono fun e W' hh => ?_
        rcases hh with ⟨he, hj, hk⟩ | hh
        · exact .inl ⟨he, ⟨hj, hk _ hcl⟩, hk _ hcl⟩
        · exact .inr hh
      · rintro e W' ⟨he, ⟨ys, rfl, hj, -⟩ | ⟨pre, -, hj⟩⟩
        · exact ⟨he, .inl ⟨_, rfl, hj⟩⟩
        · exact ⟨he, .inr ⟨pre, trivial, hj⟩⟩
end Go.Proofs.YtdlhklnpnpmibaaDoor

/- More: the range over a text's blocks. -/
namespace Go.Proofs.YtdlhklnpnpmibaaDoor
open Go Go.Sx Go.Sh
open Go.RowKit (Below)
set_option maxRecDepth 100000

/-- A text's blocks: a box for the text, and a function value that holds it. -/
def blkSpec : MSpec := fun args _ nx => match args with
  | [.sl i] => .ret (.fn 25 [.ptr nx 0 (.lit 0)], some (.st true [.sl i]))
  | _ => .fail "blocks: of what"

theorem fn19 : FnmS Tryd.prog GW 19 blkSpec := by
  refine ⟨enters_of Tryd.func19 (c := body Tryd.f19) (by kernel_rfl) (by kernel_rfl), fun Γ hG hG0 hg args v ob ρ S a w hrel hwf hids hlk hlt hr => ?_⟩
  unfold blkSpec at hr
  split at hr
  · rename_i i
    rw [T.reach_ret] at hr
    cases hr
    obtain ⟨ao, n, c, hv⟩ := den_sl ρ i
    have hargs : (denL ρ [SV.sl i]).toArray = #[.slice ao n c] := by simp only [denL, hv]
    rw [hargs]
    have hi : S.has i := by simp only [idsL, SV.ids] at hids; exact hids.1
    exact ((callsIn_wide (n := 3)).1 (blocks_in Fence.wide 3 trivial rfl ao n c w)).mono fun e w' hh => ⟨_, hh.1, fun dst n' hn' => by rw [hh.2]; exact hrel.boxFn 25 hi hlk hlt hv 24 dst n' hn'⟩
  · exact (T.reach_fail hr).elim

noncomputable abbrev cxV : Cx := cxW [] [(17, fitsC), (18, cloneC), (19, blkSpec), (20, cmpC compV)]
theorem cxV_ok : CxOk Tryd.prog GW cxV := cxW_ok (fns := []) (fms := [(17, fitsC), (18, cloneC), (19, blkSpec), (20, cmpC compV)]) trivial ⟨fn17, fn18, fn19, fn20, trivial⟩

/-! ### The range's code -/
noncomputable def rf8 : Code := (Code.blk (body Tryd.f8) 0).getD .skip
def rfAsg : Code → Array Oper
  | .rangeFunc _ _ (.region _ ops _) _ => ops
  | _ => #[]
def rfBody : Code → Array Oper
  | .rangeFunc _ _ _ (.block _ (.region _ ops _)) => ops
  | _ => #[]
noncomputable def asg8 : Array Oper := rfAsg rf8
noncomputable def ops8 : Array Oper := rfBody rf8
theorem rf8_eq : rf8 = .rangeFunc (.tmp 31) #[32] (.region 8 asg8 false) (.block 1 (.region 9 ops8 false)) := by kernel_rfl
theorem blks8 : blksL (body Tryd.f8) 0 = [rf8] := by kernel_rfl
theorem asg8_eq : asg8.toList = [{ dst := some 7, op := .assign (.tmp 32), type := 24, pos := "wide.go:63", after := #[], guard := none }] := by kernel_rfl

def tm8 : List SV := [.junk 0, .sl 1, .ptr 2 0 (.lit 0), .junk 3, .ptr 3 0 (.lit 0), .lit .i64 0, .sl 23] ++ junks 7 24 ++ [.fn 25 [.ptr 26 0 (.lit 0)]] ++ junks 32 22
section
variable (n : Nat) (r : List Int) (k : Nat) (b s : List Int) (m : Int) (N : Nat) (t : List Int)
def mem8 : Mem := [(0, .vec false 5 .u8 1 n r), (1, .vec false 5 .u8 1 k b), (2, .st true [.ints .u64 8 s, .sl 0, .ints .u64 1 [m]]), (3, .st true [.ints .u64 8 z8, .raw (.slice none 0 0), .ints .u64 1 [0]]), (23, .vec true 5 .u8 1 N t), (26, .st true [.sl 23])]
def st8 : St := ⟨tm8, mem8 n r k b s m N t ++ gmW, 27⟩
def ks8 : Fh := ⟨[], [.junk, .keep, .keep, .junk, .keep, .keep, .keep] ++ List.replicate 24 .junk ++ [.keep] ++ List.replicate 22 .junk, [0, 1, 2, 3, 23, 26], 27⟩
def vw8 (x : Nat) : Blk := .view 23 1 (x * 128) 128
def en8 (x : Nat) : St := { (({ (st8 n r k b s m N t) with mem := upd (goneM (st8 n r k b s m N t).mem none) 27 (vw8 x) } : St).put (some 32) (.sl 27)).put (some 7) (.sl 27) with next := 28 }
noncomputable def round8 (x : Nat) : T St := (runOps cxV ops8 ops8.toList (en8 n r k b s m N t x)).bind fun S1 => ifT (roundOkB (st8 n r k b s m N t) S1) (bring ks8 ⟨tm8, S1.mem, S1.next⟩)
theorem round8_eq (x : Nat) : round8 n r k b s m N t x = .need (128 = 128) (.ret (st8 n r k b (compV constL s (sub t (x * 128 * 1) (128 * 1))) m N t)) := by kernel_rfl
theorem notD8 : ops8.toList.all notDefer = true := by kernel_rfl
end
end Go.Proofs.YtdlhklnpnpmibaaDoor

/- More: the range over a text's blocks, as a rule. -/
namespace Go.Proofs.YtdlhklnpnpmibaaDoor
open Go Go.Sx Go.Sh
open Go.RowKit (Below)
set_option maxRecDepth 100000

def foldB (c : List Int → List Int → List Int) (s t : List Int) {K : Nat} (pre : List (Fin K)) : List Int := pre.foldl (fun s x => c s (sub t (x.1 * 128 * 1) (128 * 1))) s
theorem foldB_upto (c : List Int → List Int → List Int) (s t : List Int) {K : Nat} : ∀ {k : Nat}, k ≤ K → foldB c s t (upto K k) = runB c s t k
  | 0, _ => by simp [foldB, upto, runB]
  | k + 1, h => by
    have ih := foldB_upto c s t (K := K) (k := k) (by omega)
    rw [upto_succ (by omega)]
    unfold foldB at ih ⊢
    rw [List.foldl_append, ih]
    show c _ (sub t (k * 128 * 1) (128 * 1)) = c _ (sub t (128 * k) 128)
    rw [Nat.mul_one, Nat.mul_one, Nat.mul_comm]

section
variable {n : Nat} {r : List Int} {k : Nat} {b : List Int} {m : Int} {N : Nat} {t : List Int}
theorem look8 {s s' : List Int} {i : Nat} {bl : Blk} (h : Sx.look (st8 n r k b s m N t).mem i = some bl) : ∃ bl', Sx.look (st8 n r k b s' m N t).mem i = some bl' ∧ ∀ ρ, phys ρ i bl = phys ρ i bl' := by
  by_cases hi : i = 2
  · subst hi
    cases h
    exact ⟨_, rfl, fun ρ => rfl⟩
  · refine ⟨bl, ?_, fun _ => rfl⟩
    rw [← h]
    have h2 : Nat.beq 2 i = false := beq_no fun e => hi e.symm
    simp only [st8, mem8, List.cons_append, Sx.look, h2]
theorem has8 {s : List Int} : (st8 n r k b s m N t).has 23 ∧ (st8 n r k b s m N t).has 26 := ⟨rfl, rfl⟩
end

theorem asg_in {l n' : Nat} {Q : Exit → Act → World → Prop} {a : Act} {W : World} (h : Q .normal (a.put (some 7) (a.eval (.tmp 32))) W) : (Code.region 8 asg8 false).wpIn (Fence.wide.inRound l) n' Tryd.prog Q a W := by
  refine wpIn_region_list ?_
  rw [asg8_eq]
  exact ⟨fun _ _ => trivial, h⟩

theorem blkV_sl (ao : Option Addr) (c x : Nat) : sliceV (blkV ao c x) = blkV ao c x := by
  unfold blkV; split <;> rfl

section
variable {Γ : Gam} {n : Nat} {r : List Int} {k : Nat} {b : List Int} {m : Int} {N : Nat} {t : List Int}

/-- What holds between two rounds. -/
def Inv8 (Γ : Gam) (n : Nat) (r : List Int) (k : Nat) (b : List Int) (m : Int) (N : Nat) (t s0 : List Int) (a : Act) (B Bs bo : Nat) (v : Value) (pre : List (Fin (N / 128))) (W : World) : Prop :=
  ∃ ρ, Rel Γ ρ (st8 n r k b (foldB (compV constL) s0 t pre) m N t) a W ∧ (∀ i bl g, Sx.look (st8 n r k b (foldB (compV constL) s0 t pre) m N t).mem i = some bl → phys ρ i bl = some g → g < B) ∧ ρ.blk 26 = Bs ∧ ρ.off 26 = bo ∧ ρ.vec 23 = v

theorem Inv8.box {s0 : List Int} {a : Act} {B Bs bo : Nat} {v : Value} {pre : List (Fin (N / 128))} {W : World} (h : Inv8 Γ n r k b m N t s0 a B Bs bo v pre W) (hv : sliceV v = v) (hc : v.cells = #[v]) : W.cell? ⟨Bs, bo, none⟩ = some v := by
  obtain ⟨ρ, hr, -, e1, e2, e3⟩ := h
  have := (hr.mem 26 (.st true [.sl 23]) rfl).1.cell 0 v (by simp only [Blk.cells, cellsL, SV.den, e3, hv, hc]; rfl)
  rw [e1, e2, Nat.add_zero] at this
  exact this

theorem body8 (hcx : CxOk Tryd.prog Γ.G cxV) (h0 : Γ.G Γ.w0) (hg : GlobOk Γ) (hn0 : Γ.n0 = 0) {s0 : List Int} {a : Act} {B Bs bo : Nat} {ao : Option Addr} {c : Nat} (ha : N = 0 ∨ ∃ g, ao = some ⟨g, 0, none⟩ ∧ N ≤ c) {l n' : Nat}
    (pre : List (Fin (N / 128))) (x : Fin (N / 128)) (W : World) (hI : Inv8 Γ n r k b m N t s0 a B Bs bo (.slice ao N c) pre W) :
    (Code.block 1 (.region 9 ops8 false)).wpIn (Fence.wide.inRound l) n' Tryd.prog (ownPostG B (KpB Bs bo) (Inv8 Γ n r k b m N t s0 a B Bs bo (.slice ao N c)) (fun _ _ _ => False) (pre ++ [x]) W)
      (({ a with defers := [] } : Act).put (some 32) (blkV ao c x.1) |>.put (some 7) (blkV ao c x.1)) W := by
  have hbox := hI.box rfl rfl
  obtain ⟨ρ, hr, hp, e1, e2, e3⟩ := hI
  obtain ⟨hg1, hr1⟩ := enterRound hr hg
  have hx := x.2
  obtain ⟨g, rfl, hNc⟩ : ∃ g, ao = some ⟨g, 0, none⟩ ∧ N ≤ c := by
    rcases ha with h | h
    · omega
    · exact h
  obtain ⟨ρ1, hr2⟩ := hr1.newVec (o := none) (b := vw8 x.1) (v := blkV (some ⟨g, 0, none⟩) c x.1) (row := none) (w' := W) ⟨rfl, rfl, rfl, Nat.le_refl _, fun _ _ _ => rfl⟩ (fun _ h => by cases h) (fun _ h => by cases h) rfl (show (27:Nat) < 1000000 by decide) rfl
    (fun ρ' f1 f2 => by
      show VecPart 1 (ρ'.vec 23) (x.1 * 128) (ρ'.vec 27) 128
      have f1 : ρ'.vec 27 = blkV (some ⟨g, 0, none⟩) c x.1 := f1
      rw [f1, f2 23 (show (23:Nat) ≠ 27 by decide), e3]
      exact ⟨_, _, rfl, by omega, .inr ⟨g, 0, N, c, rfl, by simp, by omega⟩⟩)
    has8.1 (fun g h => by cases h) (some 32) (n' := 28) (show (27:Nat) ≤ 28 by decide) (blkV_sl _ _ _)
  have hlen : a.tmps.size = 54 := by rw [hr.tm, List.size_toArray, denL_eq, List.length_map]; rfl
  have hv : (SV.sl 27).den ρ1 = blkV (some ⟨g, 0, none⟩) c x.1 := by
    have := hr2.ev hg1 (.tmp 32)
    refine this.symm.trans ?_
    show (a.tmps.setIfInBounds 32 _).getD 32 undef = _
    simp [Array.getD, hlen]
  have hr3 := hr2.put (some 7) (v := .sl 27) (by simp only [wf]) (by simp only [SV.ids]; rfl)
  rw [hv] at hr3
  have hreach : T.Reach (round8 n r k b (foldB (compV constL) s0 t pre) m N t x.1) (st8 n r k b (compV constL (foldB (compV constL) s0 t pre) (sub t (x.1 * 128 * 1) (128 * 1))) m N t) := by
    rw [round8_eq]; exact .need rfl (.ret _)
  unfold round8 at hreach
  rw [T.reach_bind] at hreach
  obtain ⟨S1, hs1, hif⟩ := hreach
  obtain ⟨hok, hbring⟩ := ifT_reach hif
  refine wpIn_block (wpIn_region_list (runOpsIn_sound (Γ := Γ.round ρ (st8 n r k b (foldB (compV constL) s0 t pre) m N t) W) hcx hg1 h0 ops8.toList notD8 (S := en8 n r k b (foldB (compV constL) s0 t pre) m N t x.1) hr3 hs1 fun ρ2 a2 W2 hr4 => ?_))
  obtain ⟨hr5, hag, hkeep, hsz⟩ := leaveRound hr hr4 hok
  obtain ⟨ρ3, hr6, b1, b2, b3⟩ := bring_sound2 hn0 hr5 rfl hbring
  have hfold : foldB (compV constL) s0 t (pre ++ [x]) = compV constL (foldB (compV constL) s0 t pre) (sub t (x.1 * 128 * 1) (128 * 1)) := by
    unfold foldB; rw [List.foldl_append]; rfl
  have hI2 : Inv8 Γ n r k b m N t s0 a B Bs bo (.slice (some ⟨g, 0, none⟩) N c) (pre ++ [x]) W2 := by
    refine ⟨ρ3, by rw [hfold]; exact hr6, fun i bl g' hl hph => ?_, ?_, ?_, ?_⟩
    · obtain ⟨bl', hl', hq⟩ := look8 (s' := foldB (compV constL) s0 t pre) hl
      obtain ⟨f1, f2, f3⟩ := hag i (by simp only [St.has, hl']; rfl)
      refine hp i bl' g' hl' ?_
      rw [← hq ρ, ← hph]
      exact (phys_congr bl (by rw [b1]; exact f1) (by rw [b3]; exact f3)).symm
    · rw [b1, (hag 26 has8.2).1, e1]
    · rw [b2, (hag 26 has8.2).2.1, e2]
    · rw [b3, (hag 23 has8.1).2.2, e3]
  refine ⟨⟨hsz, fun q o hB hq ho => hkeep q o ⟨hq, fun i bl hl hph => by have := hp i bl q hl hph; omega⟩⟩, fun v hv' => ?_, hI2⟩
  rw [hbox] at hv'
  cases hv'
  exact hI2.box rfl rfl

theorem rule8 (hcx : CxOk Tryd.prog Γ.G cxV) (h0 : Γ.G Γ.w0) (hg : GlobOk Γ) (hn0 : Γ.n0 = 0) {s0 : List Int} (hN : N ≤ 5000) : ∀ ρ a w, Rel Γ ρ (st8 n r k b s0 m N t) a w →
    (Code.block 0 rf8).wp Tryd.prog (fun x a' w' => x = Ex.normal.to ∧ ∃ ρ', Rel Γ ρ' (st8 n r k b (runB (compV constL) s0 t (N / 128)) m N t) a' w') a w := by
  intro ρ0 a w hrel
  have hph0 : ∀ i bl g, Sx.look (st8 n r k b s0 m N t).mem i = some bl → phys ρ0 i bl = some g → g < w.heap.size := fun i bl g hl hp => ((hrel.mem i bl hl).1.phys_lt hp).2
  obtain ⟨hkB, hdB⟩ := hrel.marks_lt
  have hbase := hrel.below.size
  have hvec : VecOwn w Γ.w0.heap.size 5 1 (ρ0.vec 23) N (t.map (Value.int .u8)) := VecOwm.strip (hrel.mem 23 (.vec true 5 .u8 1 N t) rfl).1.vec rfl
  obtain ⟨ao, c, htv, ha⟩ : ∃ ao c, ρ0.vec 23 = .slice ao N c ∧ (N = 0 ∨ ∃ g, ao = some ⟨g, 0, none⟩ ∧ N ≤ c) := by
    rcases hvec with ⟨ao, e, rfl, -⟩ | ⟨g, c, hc, e, ho⟩
    · exact ⟨ao, 0, e, .inl rfl⟩
    · refine ⟨_, c, e, .inr ⟨g, rfl, ?_⟩⟩
      rcases ho.2 with ⟨hz, -⟩ | ⟨g', cap, cur, hz, -, -, h1, -⟩
      · rw [e] at hz; cases hz
      · rw [e] at hz; cases hz; exact h1
  have hI0 : Inv8 Γ n r k b m N t s0 a w.heap.size (ρ0.blk 26) (ρ0.off 26) (.slice ao N c) [] w := ⟨ρ0, hrel, hph0, rfl, rfl, htv⟩
  have hbox := hI0.box rfl rfl
  have heval : a.eval (.tmp 31) = .func (.func 25) #[] #[.pointer (some ⟨ρ0.blk 26, ρ0.off 26, none⟩)] := by
    have := hrel.ev hg (.tmp 31)
    rw [this]
    show (SV.fn 25 [.ptr 26 0 (.lit 0)]).den ρ0 = _
    simp [SV.den, denL, SN.den]
  refine (wpIn_wide (n := 3)).1 (wpIn_block ?_)
  rw [rf8_eq]
  refine wpIn_rangeFunc_ownG (F := Fence.wide) rfl (by decide) (gf := 25) (lb := #[.pointer (some ⟨ρ0.blk 26, ρ0.off 26, none⟩)]) heval trivial (enters_of Tryd.func25 (c := body Tryd.f25) (by kernel_rfl) (by kernel_rfl))
    (blocks_stops Fence.wide 2 trivial rfl (by decide) (ρ0.blk 26) (ρ0.off 26) ao N c hN ha w (cell_lt hbox) hbox) kpB_t (fun W l o o' _ h ho _ => kpB_b W l o o' h ho) (Below.refl _ _) (fun _ => rfl)
    (Inv8 Γ n r k b m N t s0 a w.heap.size (ρ0.blk 26) (ρ0.off 26) (.slice ao N c)) (fun _ _ _ => False)
    (fun pre W W' row ⟨ρ, hr, hp, hh⟩ hgr hrow => ⟨ρ, hr.other hgr hbase (fun q e => (hrow q e).1) hp hkB hdB, hp, hh⟩)
    (fun _ _ _ _ _ h _ _ => h) hI0
    (fun x => ({ a with defers := [] } : Act).put (some 32) (blkV ao c x.1) |>.put (some 7) (blkV ao c x.1)) ?assign ?body ?done ?stop
  case assign =>
    intro l x W K hK
    refine asg_in ?_
    have hlen : a.tmps.size = 54 := by rw [hrel.tm, List.size_toArray, denL_eq, List.length_map]; rfl
    have he : (⟨a.tmps.setIfInBounds 32 (blkV ao c x.1), []⟩ : Act).eval (.tmp 32) = blkV ao c x.1 := by
      show (a.tmps.setIfInBounds 32 _).getD 32 undef = _
      simp [Array.getD, hlen]
    generalize hA : Array.foldl _ a.tmps (Array.zip #[32] #[blkV ao c x.1]) = A
    have hA2 : A = a.tmps.setIfInBounds 32 (blkV ao c x.1) := by rw [← hA]; simp
    subst hA2
    show K (Act.put ⟨a.tmps.setIfInBounds 32 (blkV ao c x.1), []⟩ (some 7) ((⟨a.tmps.setIfInBounds 32 (blkV ao c x.1), []⟩ : Act).eval (.tmp 32))) W
    rw [he]; exact hK
  case body =>
    intro l pre x W hI hlt
    exact body8 hcx h0 hg hn0 ha pre x W hI
  case done =>
    rintro D xs W hD rfl ⟨ρ, hr, hp, -⟩ hK
    rw [foldB_upto _ _ _ (Nat.le_refl _)] at hr hp
    exact ⟨rfl, ρ, hr.mark hbase hD hK hp hkB hdB⟩
  case stop =>
    rintro D c pre W _ _ h _
    exact h.elim
end
end Go.Proofs.YtdlhklnpnpmibaaDoor

/- More. -/
namespace Go.Proofs.YtdlhklnpnpmibaaDoor
open Go Go.Sx Go.Sh
set_option maxRecDepth 100000
section
variable (s : List Int) (n : Nat) (r : List Int) (m : Int) (k : Nat) (b : List Int) (zs : Nat → Bool)
noncomputable abbrev r8 (bl : Blocks) : T (List MV) := runM cxV bl 100 Tryd.f8 (body Tryd.f8) [hK, sK] [.x [.l s, .s n r, .l [m]], .s k b] zs [hK, iK] gmW
noncomputable def bl8 (t : List Int) (N : Nat) (s' : List Int) : Blocks := blOne 0 (loopV ks8 (st8 n r k b s m N t) true (.normal, st8 n r k b s' m N t) (.normal, st8 n r k b s' m N t))
noncomputable def bl8n : Blocks := blOne 0 fun _ => .fail "not reached"
abbrev lo8 (N : Nat) : Int := IntKind.i64.wrap (IntKind.i64.wrap ((N : Int).tdiv 128) * 128)
theorem run8a : prune (r8 s n r m k b zs bl8n) [true] = needs [True, (!(fitsV n m)) = true, n ≤ 3000] (.ret [.x [.l s, .s n r, .l [m]], .p (.n 1)]) := by kernel_rfl
theorem run8b (s' : List Int) : prune (r8 s n r m k b zs (bl8 s n r m k b (r ++ b) (addO n k) s')) [false, true] = needs [True, (!(fitsV n m)) = false,
     (0:Int) ≤ 0 ∧ 0 ≤ IntKind.i64.wrap ((n : Int) + (k : Int)) ∧ 1 * IntKind.i64.wrap ((n : Int) + (k : Int)) ≤ 281474976710656 ∧ IntKind.i64.wrap ((n : Int) + (k : Int)) ≤ 9223372036854775807, n ≤ bigB, addO n k ≤ bigB,
     st8 n r k b s m (addO n k) (r ++ b) = st8 n r k b s m (addO n k) (r ++ b), true = true, 0 ≤ lo8 (addO n k) ∧ lo8 (addO n k) ≤ (addO n k : Int) ∧ (addO n k : Int) ≤ (addO n k : Int), ((addO n k : Int).toNat - (lo8 (addO n k)).toNat) ≤ 3000]
    (.ret [.x [.l s', .s ((addO n k : Int).toNat - (lo8 (addO n k)).toNat) (sub (r ++ b) ((lo8 (addO n k)).toNat * 1) (((addO n k : Int).toNat - (lo8 (addO n k)).toNat) * 1)), .l [m9' m k]], .p (.n 0)]) := by kernel_rfl
end
theorem lo8_eq {N : Nat} (h : N ≤ 5000) : lo8 N = ((128 * (N / 128) : Nat) : Int) := by
  have e : (N : Int).tdiv 128 = ((N / 128 : Nat) : Int) := by rw [Int.tdiv_eq_ediv_of_nonneg (by omega)]; omega
  unfold lo8
  rw [e, wrap_i64 (x := ((N / 128 : Nat) : Int)) (by omega) (by omega), wrap_i64 (by omega) (by omega)]
  omega

theorem blOne_any {P : Program} {Γ : Gam} {c d : Code} {i : Nat} {f : St → T (Ex × St)} (hc : blksL c i = [d]) (h : ∀ (S : St) (e : Ex) (S' : St), T.Reach (f S) (e, S') → Go.Sx.Comes P Γ (.block i d) S e S') : BlocksIn P Γ (blOne i f) c := by
  refine blocksIn_of c fun id g hg b hb S e S' hr => ?_
  unfold blOne at hg
  split at hg
  · rename_i hid
    have hid := Nat.eq_of_beq_eq_true hid
    subst hid
    cases hg
    rw [hc] at hb
    simp at hb
    subst hb
    exact h S e S' hr
  · cases hg

theorem bl8_in {Γ : Gam} (hcx : CxOk Tryd.prog Γ.G cxV) (h0 : Γ.G Γ.w0) (hg : GlobOk Γ) (hn0 : Γ.n0 = 0) {s : List Int} {n : Nat} {r : List Int} {m : Int} {k : Nat} {b : List Int} {t : List Int} {N : Nat} (hN : N ≤ 5000) :
    BlocksIn Tryd.prog Γ (bl8 s n r m k b t N (runB (compV constL) s t (N / 128))) (body Tryd.f8) := by
  refine blOne_any blks8 fun S e S' hreach ρ a w hrel => ?_
  unfold loopV at hreach
  rw [T.reach_bind] at hreach
  obtain ⟨S1, hb, hreach⟩ := hreach
  rw [T.reach_need] at hreach
  obtain ⟨hs, hreach⟩ := hreach
  have hout : (e, S') = (Ex.normal, st8 n r k b (runB (compV constL) s t (N / 128)) m N t) := by
    rw [T.reach_ite] at hreach
    rcases hreach with ⟨-, hr⟩ | ⟨-, hr⟩
    · rw [T.reach_ret] at hr; exact hr
    · rw [T.reach_ret] at hr; exact hr
  obtain ⟨ρ2, hr2⟩ := bring_sound hn0 hrel hb
  rw [hs] at hr2
  cases hout
  exact rule8 hcx h0 hg hn0 hN ρ2 a w hr2

theorem fn8 : FnmS Tryd.prog GW 8 (moreC (compV constL)) :=
  fnm_run cxV_ok gW Tryd.func8 rfl (Go.Sx.enters_of Tryd.func8 (by kernel_rfl) (by kernel_rfl)) (fuel := 100) (by decide) fun xs zs hfit hp _ => by
    obtain ⟨s, n, r, m, k, b, rfl, hs, hr, hb⟩ := fit_hs hfit
    have hp : n ≤ 1000 ∧ k ≤ 1000 := hp
    have h1 : n ≤ bigB := by show n ≤ 140737488355328; omega
    have h2 : addO n k ≤ bigB := by rw [addO_eq]; show n + k ≤ 140737488355328; omega
    cases hf : fitsV n m with
    | false =>
      refine ⟨bl8n, fun Γ _ _ _ _ => blOne_any blks8 fun _ _ _ h => (T.reach_fail h).elim, Gd.of_run (run8a s n r m k b zs) ⟨trivial, by rw [hf]; rfl, by omega, ?_⟩⟩
      show _ = moreP _ _ _ _ _ _ _
      rw [more_no _ hf]
    | true =>
      have hnf : (!(fitsV n m)) = false := by rw [hf]; rfl
      have hN : addO n k = n + k := addO_eq _ _
      have hN5 : addO n k ≤ 5000 := by rw [hN]; omega
      have hlo := lo8_eq hN5
      have hw : IntKind.i64.wrap ((n : Int) + (k : Int)) = ((n + k : Nat) : Int) := by rw [wrap_i64 (by omega) (by omega)]; omega
      refine ⟨_, fun Γ hG h0 hg hn => bl8_in (hG ▸ cxV_ok) h0 hg hn hN5, Gd.of_run (run8b s n r m k b zs _) ⟨trivial, hnf, by rw [hw]; omega, h1, h2, rfl, rfl, by rw [hlo]; omega, by rw [hlo]; omega, ?_⟩⟩
      show _ = moreP _ _ _ _ _ _ _
      rw [more_yes _ hf, hlo, hN, Int.toNat_natCast, Int.toNat_natCast, Nat.mul_one, Nat.mul_one]
end Go.Proofs.YtdlhklnpnpmibaaDoor

/- Sixty-four bits by sixty-four: high and low. -/
namespace Go.Proofs.YtdlhklnpnpmibaaDoor
open Go Go.Sx Go.Sh
set_option maxRecDepth 100000

abbrev hiV (x y : Int) : Int := x * y / 18446744073709551616
abbrev mulC : List SV → T SV := ct [.num .u64, .num .u64] (fun | [.n x, .n y] => (0 ≤ x ∧ x < 18446744073709551616) ∧ 0 ≤ y ∧ y < 18446744073709551616 | _ => False) [.num .u64, .num .u64] (fun | [.n x, .n y] => [.n (hiV x y), .n (W (x * y))] | _ => [])
theorem run23 (x y : Int) : runX (cxW [] []) no 100 Tryd.f23 (body Tryd.f23) (can [.num .u64, .num .u64] [.n x, .n y]) gmW = .ret (.tup [.int .u64 (IntKind.u64.wrap (IntKind.u64.wrap (IntKind.u64.wrap (shrI .u64 x 32 * shrI .u64 y 32) + shrI .u64 (IntKind.u64.wrap (IntKind.u64.wrap (shrI .u64 x 32 * bitsI .and .u64 y 4294967295) + shrI .u64 (IntKind.u64.wrap (bitsI .and .u64 x 4294967295 * bitsI .and .u64 y 4294967295)) 32)) 32) +
      shrI .u64 (IntKind.u64.wrap (bitsI .and .u64 (IntKind.u64.wrap (IntKind.u64.wrap (shrI .u64 x 32 * bitsI .and .u64 y 4294967295) + shrI .u64 (IntKind.u64.wrap (bitsI .and .u64 x 4294967295 * bitsI .and .u64 y 4294967295)) 32)) 4294967295 + IntKind.u64.wrap (bitsI .and .u64 x 4294967295 * shrI .u64 y 32))) 32)), .int .u64 (IntKind.u64.wrap (x * y))]) := by kernel_rfl
theorem fn23 : FnOk Tryd.prog GW 23 mulC := by
  refine fnOk_gd (cxW_ok (fns := []) (fms := []) trivial trivial) gW Tryd.func23 (c := body Tryd.f23) (by kernel_rfl) (Go.Sx.enters_of Tryd.func23 (by kernel_rfl) (by kernel_rfl)) (fuel := 100) fun xs hfit hp => ?_
  obtain ⟨x, y, rfl⟩ := fit_2 hfit
  have hp : (0 ≤ x ∧ x < 18446744073709551616) ∧ 0 ≤ y ∧ y < 18446744073709551616 := hp
  refine ⟨no, noBl, ⟨trivial, trivial, trivial⟩, Gd.of_eq (run23 x y) ⟨fun ρ => ?_⟩⟩
  rw [mul64_hi x y hp.1 hp.2]
  rfl
end Go.Proofs.YtdlhklnpnpmibaaDoor

/- End. -/
namespace Go.Proofs.YtdlhklnpnpmibaaDoor
open Go Go.Sx Go.Sh
set_option maxRecDepth 100000

noncomputable def lp10 : Code := unloop (Code.blk (body Tryd.f10) 0)
theorem blks10 : blksL (body Tryd.f10) 0 = [.loop lp10] := by kernel_rfl
noncomputable abbrev cxE : Cx := cxW [(23, mulC)] [(8, moreC (compV constL)), (17, fitsC), (24, putC)]
theorem cxE_ok : CxOk Tryd.prog GW cxE := cxW_ok (fns := [(23, mulC)]) (fms := [(8, moreC (compV constL)), (17, fitsC), (24, putC)]) ⟨fn23, trivial⟩ ⟨fn8, fn17, fn24, trivial⟩
def z64 : List Int := List.replicate 64 0
def kk10 : List Kp := [.junk, .junk, .keep, .keep, .keep] ++ List.replicate 47 .junk
def ks10 : Fh := ⟨[], kk10 ++ [.keep, .keep] ++ List.replicate 15 .junk, [2, 4], 53⟩
def js10 : Fh := ⟨[], kk10 ++ List.replicate 17 .junk, [2, 4], 53⟩
def sl10 : List SV := junks 0 2 ++ [.ptr 2 0 (.lit 0), .lit .i64 0, .ptr 4 0 (.lit 0)] ++ junks 5 47
def mm10 (o : List Int) : Mem := [(2, .st true [.ints .u8 64 z64]), (4, .st true [.ints .u8 64 o])]
def inv10 (s : List Int) (o : List Int) (i : Int) : St := ⟨sl10 ++ [.ints .u64 8 s, .lit .i64 i] ++ junks 54 15, mm10 o ++ gmW, 53⟩
def out10 (o : List Int) : St := ⟨sl10 ++ junks 52 17, mm10 o ++ gmW, 53⟩
noncomputable abbrev rd10 (s o : List Int) (i : Int) : T (Ex × St) := endV ks10 js10 js10 (exec cxE (drawS cxE) no 100 lp10 (inv10 s o i))
theorem round10_0 (s o : List Int) : rd10 s o 0 = needs [(0:Nat) ≤ 3000 ∧ (8:Int) = 8, (8:Nat) ≤ 8] (.ret (.normal, inv10 s (splice o 0 (be8 (s.getD 0 0))) 1)) := by kernel_rfl
theorem round10_1 (s o : List Int) : rd10 s o 1 = needs [(0:Nat) ≤ 3000 ∧ (8:Int) = 8, (8:Nat) ≤ 8] (.ret (.normal, inv10 s (splice o 8 (be8 (s.getD 1 0))) 2)) := by kernel_rfl
theorem round10_2 (s o : List Int) : rd10 s o 2 = needs [(0:Nat) ≤ 3000 ∧ (8:Int) = 8, (8:Nat) ≤ 8] (.ret (.normal, inv10 s (splice o 16 (be8 (s.getD 2 0))) 3)) := by kernel_rfl
theorem round10_3 (s o : List Int) : rd10 s o 3 = needs [(0:Nat) ≤ 3000 ∧ (8:Int) = 8, (8:Nat) ≤ 8] (.ret (.normal, inv10 s (splice o 24 (be8 (s.getD 3 0))) 4)) := by kernel_rfl
theorem round10_4 (s o : List Int) : rd10 s o 4 = needs [(0:Nat) ≤ 3000 ∧ (8:Int) = 8, (8:Nat) ≤ 8] (.ret (.normal, inv10 s (splice o 32 (be8 (s.getD 4 0))) 5)) := by kernel_rfl
theorem round10_5 (s o : List Int) : rd10 s o 5 = needs [(0:Nat) ≤ 3000 ∧ (8:Int) = 8, (8:Nat) ≤ 8] (.ret (.normal, inv10 s (splice o 40 (be8 (s.getD 5 0))) 6)) := by kernel_rfl
theorem round10_6 (s o : List Int) : rd10 s o 6 = needs [(0:Nat) ≤ 3000 ∧ (8:Int) = 8, (8:Nat) ≤ 8] (.ret (.normal, inv10 s (splice o 48 (be8 (s.getD 6 0))) 7)) := by kernel_rfl
theorem round10_7 (s o : List Int) : rd10 s o 7 = needs [(0:Nat) ≤ 3000 ∧ (8:Int) = 8, (8:Nat) ≤ 8] (.ret (.normal, inv10 s (splice o 56 (be8 (s.getD 7 0))) 8)) := by kernel_rfl
theorem round10_8 (s o : List Int) : rd10 s o 8 = .ret (.exit 0, out10 o) := by kernel_rfl
end Go.Proofs.YtdlhklnpnpmibaaDoor

/- End: the contract. -/
namespace Go.Proofs.YtdlhklnpnpmibaaDoor
open Go Go.Sx Go.Sh
set_option maxRecDepth 100000

abbrev tl10 (n : Nat) : Int := IntKind.i64.wrap (1 + (IntKind.i64.wrap (239 - (n : Int))).tmod 128)
abbrev tail10 (n : Nat) (m : Int) : List Int := (List.replicate (tl10 n).toNat 0).set 0 128 ++ be8 (hiV m 8) ++ be8 (W (m * 8))
def oIt (s : List Int) : Nat → List Int
  | 0 => z64
  | k + 1 => splice (oIt s k) (8 * k) (be8 (s.getD k 0))
section
variable (s : List Int) (n : Nat) (r : List Int) (m : Int) (zs : Nat → Bool)
noncomputable abbrev r10 (bl : Blocks) : T (List MV) := runM cxE bl 100 Tryd.f10 (body Tryd.f10) [hK] [.x [.l s, .s n r, .l [m]]] zs [.p (.ints .u8 64), iK] gmW
noncomputable def bl10 (st o : List Int) : Blocks := blOne 0 (loopV ks10 (inv10 st z64 0) true (.normal, out10 o) (.normal, out10 o))
theorem run10a : prune (r10 s n r m zs (blNone 0)) [true] = needs [True, (!(fitsV n m)) = true] (.ret [.p (.l z64), .p (.n 1)]) := by kernel_rfl
abbrev st10 : List Int := mrS (compV constL) s n r m ((tl10 n).toNat + 8 + 8) (tail10 n m)
theorem run10b (o : List Int) : prune (r10 s n r m zs (bl10 (st10 s n r m) o)) [false, true] =
    needs [True, (!(fitsV n m)) = false, 0 ≤ tl10 n ∧ tl10 n ≤ tl10 n ∧ 1 * tl10 n ≤ 281474976710656 ∧ tl10 n ≤ 9223372036854775807, (0:Int) ≤ 0 ∧ 0 < ((tl10 n).toNat : Int), 0 + 1 ≤ (tl10 n).toNat, (0 ≤ m ∧ m < 18446744073709551616) ∧ 0 ≤ (8:Int) ∧ (8:Int) < 18446744073709551616,
      (tl10 n).toNat ≤ 3000 ∧ (8:Int) = 8, (tl10 n).toNat + 8 ≤ 3000 ∧ (8:Int) = 8, n ≤ 1000 ∧ (tl10 n).toNat + 8 + 8 ≤ 1000, inv10 (st10 s n r m) z64 0 = inv10 (st10 s n r m) z64 0, true = true] (.ret [.p (.l o), .p (.n 0)]) := by kernel_rfl
end

/-- What is put behind a text: how much, and what. -/
def tlN (n : Nat) : Nat := 1 + (239 - n) % 128
def tailV (n : Nat) (m : Int) : List Int := (128 :: List.replicate ((239 - n) % 128) 0) ++ be8 (hiV m 8) ++ be8 (W (m * 8))
/-- The sum that a state tells. -/
def digV (s : List Int) : List Int := oIt s 8
def endL (c : List Int → List Int → List Int) (s : List Int) (n : Nat) (r : List Int) (m : Int) : List Int := cond (fitsV n m) (digV (mrS c s n r m (tlN n + 16) (tailV n m))) z64
abbrev endP (c : List Int → List Int → List Int) (s : List Int) (n : Nat) (r : List Int) (m : Int) : List MV := [.p (.l (endL c s n r m)), .p (.n (mrE n m))]
abbrev preE : List MV → Prop := fun | [.x [.l _, .s n _, .l [m]]] => n ≤ 1000 ∧ 0 ≤ m ∧ m < 18446744073709551616 | _ => False
abbrev endC (c : List Int → List Int → List Int) : MSpec := ctM [hK] preE [.p (.ints .u8 64), iK] (fun | [.x [.l s, .s n r, .l [m]]] => endP c s n r m | _ => [])

theorem fits_lt {n : Nat} {m : Int} (h : fitsV n m = true) : n < 128 := by
  unfold fitsV at h
  simp only [Bool.and_eq_true, decide_eq_true_eq] at h
  omega
theorem tl10_eq {n : Nat} (h : n < 128) : tl10 n = ((tlN n : Nat) : Int) := by
  have e : (239 - (n : Int)).tmod 128 = (((239 - n) % 128 : Nat) : Int) := by rw [Int.tmod_eq_emod_of_nonneg (by omega)]; omega
  unfold tl10 tlN
  rw [wrap_i64 (x := 239 - (n : Int)) (by omega) (by omega), e, wrap_i64 (by omega) (by omega)]
  omega
theorem tail10_eq {n : Nat} {m : Int} (h : n < 128) : tail10 n m = tailV n m := by
  unfold tail10 tailV
  rw [tl10_eq h, Int.toNat_natCast, tlN, Nat.add_comm, List.replicate_succ]
  rfl
theorem tlN_le (n : Nat) : tlN n ≤ 128 := by unfold tlN; omega

theorem bl10_in {Γ : Gam} (hcx : CxOk Tryd.prog Γ.G cxE) (h0 : Γ.G Γ.w0) (hg : GlobOk Γ) (hn0 : Γ.n0 = 0) (s : List Int) : BlocksIn Tryd.prog Γ (bl10 s (oIt s 8)) (body Tryd.f10) := by
  unfold bl10
  refine blOne_in blks10 (loop_ruleW hcx hg h0 hn0 (drawS_sound hcx hg h0) (bl := no) (blocksIn_none _) (fun k : Nat => inv10 s (oIt s k) (k : Int)) (fun k => 8 - k) (fun k => k ≤ 8) true _ _ 100 ks10 ks10 js10 js10 (fun k hk => ?_) 0 (Nat.zero_le _))
  have go : ∀ j : Nat, j < 8 → rd10 s (oIt s j) (j : Int) = needs [(0:Nat) ≤ 3000 ∧ (8:Int) = 8, (8:Nat) ≤ 8] (.ret (.normal, inv10 s (oIt s (j + 1)) ((j + 1 : Nat) : Int))) := by
    intro j hj
    match j, hj with
    | 0, _ => exact round10_0 s _
    | 1, _ => exact round10_1 s _
    | 2, _ => exact round10_2 s _
    | 3, _ => exact round10_3 s _
    | 4, _ => exact round10_4 s _
    | 5, _ => exact round10_5 s _
    | 6, _ => exact round10_6 s _
    | 7, _ => exact round10_7 s _
  by_cases h8 : k < 8
  · show (rd10 s (oIt s k) (k : Int)).good _
    rw [go k h8]
    exact ⟨⟨by omega, rfl⟩, Nat.le_refl _, k + 1, h8, rfl, by omega⟩
  · obtain rfl : k = 8 := by omega
    show (rd10 s (oIt s 8) 8).good _
    rw [round10_8]
    rfl

theorem fn10 : FnmS Tryd.prog GW 10 (endC (compV constL)) :=
  fnm_run cxE_ok gW Tryd.func10 rfl (Go.Sx.enters_of Tryd.func10 (by kernel_rfl) (by kernel_rfl)) (fuel := 100) (by decide) fun xs zs hfit hp _ => by
    obtain ⟨s, n, r, m, rfl, hs, hr⟩ := fit_h hfit
    have hp : n ≤ 1000 ∧ 0 ≤ m ∧ m < 18446744073709551616 := hp
    cases hf : fitsV n m with
    | false =>
      refine ⟨blNone 0, fun Γ _ _ _ _ => blNone_in blks10, Gd.of_run (run10a s n r m zs) ⟨trivial, by rw [hf]; rfl, ?_⟩⟩
      show _ = endP _ _ _ _ _
      unfold endP endL mrE; rw [hf]; rfl
    | true =>
      have hnf : (!(fitsV n m)) = false := by rw [hf]; rfl
      have hlt := fits_lt hf
      have ht := tl10_eq hlt
      have hle := tlN_le n
      have h1 : 1 ≤ tlN n := by unfold tlN; omega
      have hN : (tl10 n).toNat = tlN n := by rw [ht, Int.toNat_natCast]
      refine ⟨_, fun Γ hG h0 hg hn => bl10_in (hG ▸ cxE_ok) h0 hg hn _, Gd.of_run (run10b s n r m zs _) ⟨trivial, hnf, by rw [ht]; omega, by rw [hN]; omega, by rw [hN]; omega, by omega, by rw [hN]; exact ⟨by omega, rfl⟩, by rw [hN]; exact ⟨by omega, rfl⟩, by rw [hN]; omega, rfl, rfl, ?_⟩⟩
      show [MV.p (AV.l (oIt (st10 s n r m) 8)), MV.p (AV.n 0)] = endP _ _ _ _ _
      unfold endP endL mrE digV; rw [hf]
      unfold st10
      rw [tail10_eq hlt, hN]; rfl
end Go.Proofs.YtdlhklnpnpmibaaDoor

/- The reference's End: four loops. -/
namespace Go.Proofs.YtdlhklnpnpmibaaDoor
open Go Go.Sx Go.Sh
set_option maxRecDepth 100000
noncomputable def lp11 (i : Nat) : Code := unloop (Code.blk (body Tryd.f11) i)
theorem blks11a : blksL (body Tryd.f11) 0 = [.loop (lp11 0)] := by kernel_rfl
theorem blks11b : blksL (body Tryd.f11) 2 = [.loop (lp11 2)] := by kernel_rfl
theorem blks11c : blksL (body Tryd.f11) 4 = [.loop (lp11 4)] := by kernel_rfl
theorem blks11d : blksL (body Tryd.f11) 6 = [.loop (lp11 6)] := by kernel_rfl
noncomputable abbrev cxF : Cx := cxW [] [(9, moreC (compR constL)), (21, fitsC)]
theorem cxF_ok : CxOk Tryd.prog GW cxF := cxW_ok (fns := []) (fms := [(9, moreC (compR constL)), (21, fitsC)]) trivial ⟨fn9, fn21, trivial⟩
def kk11 : List Kp := [.junk, .keep, .keep, .keep, .keep, .junk, .keep]
def mm11 (s : List Int) (n : Nat) (r : List Int) (m : Int) (o : List Int) (N : Nat) (t : List Int) : Mem := [(0, .vec false 5 .u8 1 n r), (1, .st true [.ints .u64 8 s, .sl 0, .ints .u64 1 [m]]), (2, .st true [.ints .u8 64 z64]), (5, .st true [.ints .u8 64 o]), (12, .vec true 5 .u8 1 N t)]
def sl11 : List SV := [.junk 0, .ptr 1 0 (.lit 0), .ptr 2 0 (.lit 0), .lit .i64 0, .ptr 5 0 (.lit 0), .junk 5, .sl 12]
def ks11a : Fh := ⟨[⟨.tmp 6, 12, 5, .u8, 1⟩], kk11 ++ List.replicate 78 .junk, [0, 1, 2, 5, 12], 14⟩
def ks11b : Fh := ⟨[⟨.tmp 6, 12, 5, .u8, 1⟩], kk11 ++ [.soft] ++ List.replicate 77 .junk, [0, 1, 2, 5, 12], 15⟩
def js11b : Fh := ⟨[], kk11 ++ List.replicate 78 .junk, [0, 1, 2, 5, 12], 15⟩
def ks11c : Fh := ⟨[⟨.tmp 6, 12, 5, .u8, 1⟩], kk11 ++ [.junk, .soft] ++ List.replicate 76 .junk, [0, 1, 2, 5, 12], 16⟩
def js11c : Fh := ⟨[], kk11 ++ List.replicate 78 .junk, [0, 1, 2, 5, 12], 16⟩
def ks11d : Fh := ⟨[], [.junk, .junk, .keep, .keep, .keep, .junk, .junk, .junk, .junk, .keep, .junk, .soft] ++ List.replicate 73 .junk, [2, 5, 18, 22], 26⟩
def js11d : Fh := ⟨[], [.junk, .junk, .keep, .keep, .keep] ++ List.replicate 80 .junk, [2, 5], 26⟩
def sl11d : List SV := [.junk 0, .junk 1, .ptr 2 0 (.lit 0), .lit .i64 0, .ptr 5 0 (.lit 0)]
abbrev bh11 (m i : Int) : Int := IntKind.u8.wrap (shrI .u64 (shrI .u64 m 61) (IntKind.u64.wrap (IntKind.i64.wrap (8 * i))))
abbrev bl11 (m i : Int) : Int := IntKind.u8.wrap (shrI .u64 (IntKind.u64.wrap (m * 8)) (IntKind.u64.wrap (IntKind.i64.wrap (8 * i))))
abbrev ix11 (i : Int) : Int := IntKind.i64.wrap (i.tdiv 8)
abbrev sh11 (i : Int) : Int := IntKind.u64.wrap (IntKind.i64.wrap (8 * IntKind.i64.wrap (7 - i.tmod 8)))
section
variable (s : List Int) (n : Nat) (r : List Int) (m : Int) (N : Nat) (t : List Int) (i : Int) (o : List Int)
def inv11a : St := ⟨sl11 ++ junks 7 78, mm11 s n r m z64 N t ++ gmW, 14⟩
def inv11b : St := ⟨sl11 ++ [.int .i64 i] ++ junks 8 77, mm11 s n r m z64 N t ++ gmW, 15⟩
def out11b : St := ⟨sl11 ++ junks 7 78, mm11 s n r m z64 N t ++ gmW, 15⟩
def inv11c : St := ⟨sl11 ++ [.junk 7, .int .i64 i] ++ junks 9 76, mm11 s n r m z64 N t ++ gmW, 16⟩
def out11c : St := ⟨sl11 ++ junks 7 78, mm11 s n r m z64 N t ++ gmW, 16⟩
def inv11d : St := ⟨sl11d ++ junks 5 4 ++ [.ptr 22 0 (.lit 0), .junk 10, .int .i64 i] ++ junks 12 73, [(2, .st true [.ints .u8 64 z64]), (5, .st true [.ints .u8 64 o]), (18, .vec true 5 .u8 1 n r), (22, .st true [.ints .u64 8 s, .sl 18, .ints .u64 1 [m]])] ++ gmW, 26⟩
def out11d : St := ⟨sl11d ++ junks 5 80, [(2, .st true [.ints .u8 64 z64]), (5, .st true [.ints .u8 64 o])] ++ gmW, 26⟩
theorem round11a : endV ks11a ks11a ks11a (exec cxF (drawS cxF) no 100 (lp11 0) (inv11a s n r m N t)) =
    .ite ((IntKind.i64.wrap ((n : Int) + (N : Int))).tmod 128 != 112) (.need (addO N 1 ≤ bigB) (.ret (.normal, inv11a s n r m (addO N 1) (t ++ [0])))) (.ret (.exit 0, inv11a s n r m N t)) := by kernel_rfl
theorem round11b : endV ks11b js11b js11b (exec cxF (drawS cxF) no 100 (lp11 2) (inv11b s n r m N t i)) =
    .ite (decide (i ≥ 0)) (.need (0 ≤ IntKind.u64.wrap (IntKind.i64.wrap (8 * i))) (.need (addO N 1 ≤ bigB) (.ret (.normal, inv11b s n r m (addO N 1) (t ++ [bh11 m i]) (IntKind.i64.wrap (i - 1)))))) (.ret (.exit 2, out11b s n r m N t)) := by kernel_rfl
theorem round11c : endV ks11c js11c js11c (exec cxF (drawS cxF) no 100 (lp11 4) (inv11c s n r m N t i)) =
    .ite (decide (i ≥ 0)) (.need (0 ≤ IntKind.u64.wrap (IntKind.i64.wrap (8 * i))) (.need (addO N 1 ≤ bigB) (.ret (.normal, inv11c s n r m (addO N 1) (t ++ [bl11 m i]) (IntKind.i64.wrap (i - 1)))))) (.ret (.exit 4, out11c s n r m N t)) := by kernel_rfl
theorem round11d : endV ks11d js11d js11d (exec cxF (drawS cxF) no 100 (lp11 6) (inv11d s n r m i o)) =
    .ite (decide (i < 64)) (needs [0 ≤ ix11 i ∧ ix11 i < 8, (ix11 i).toNat + 1 ≤ 8, 0 ≤ sh11 i, 0 ≤ i ∧ i < 64, i.toNat + 1 ≤ 64]
      (.ret (.normal, inv11d s n r m (IntKind.i64.wrap (i + 1)) (o.set i.toNat (IntKind.u8.wrap (shrI .u64 (s.getD (ix11 i).toNat 0) (sh11 i))))))) (.ret (.exit 6, out11d o)) := by kernel_rfl
end
end Go.Proofs.YtdlhklnpnpmibaaDoor

/- The reference's End: the contract. -/
namespace Go.Proofs.YtdlhklnpnpmibaaDoor
open Go Go.Sx Go.Sh
set_option maxRecDepth 100000

/-! ### Rules for several blocks -/
def blC (i : Nat) (f : St → T (Ex × St)) (rest : Blocks) : Blocks := fun j => match Nat.beq j i with
  | true => some f
  | false => rest j
/-- What the rules say is so, block by block. -/
def AllIn (P : Program) (Γ : Gam) (bl : Blocks) (c : Code) : Prop := ∀ id g, bl id = some g → ∀ b ∈ blksL c id, ∀ S e S', T.Reach (g S) (e, S') → Go.Sx.Comes P Γ (.block id b) S e S'
theorem allIn_no {P : Program} {Γ : Gam} {c : Code} : AllIn P Γ no c := fun _ _ h => by cases h
theorem allIn_C {P : Program} {Γ : Gam} {c d : Code} {i : Nat} {f : St → T (Ex × St)} {rest : Blocks} (hc : blksL c i = [d]) (h : ∀ (S : St) (e : Ex) (S' : St), T.Reach (f S) (e, S') → Go.Sx.Comes P Γ (.block i d) S e S') (hr : AllIn P Γ rest c) : AllIn P Γ (blC i f rest) c := by
  intro id g hg b hb S e S' hreach
  unfold blC at hg
  split at hg
  · rename_i hid
    have hid := Nat.eq_of_beq_eq_true hid
    subst hid
    cases hg
    rw [hc] at hb
    simp at hb
    subst hb
    exact h S e S' hreach
  · exact hr id g hg b hb S e S' hreach
theorem AllIn.ok {P : Program} {Γ : Gam} {bl : Blocks} {c : Code} (h : AllIn P Γ bl c) : BlocksIn P Γ bl c := blocksIn_of c fun id g hg b hb S e S' hr => h id g hg b hb S e S' hr

section
variable (s : List Int) (n : Nat) (r : List Int) (m : Int) (zs : Nat → Bool)
noncomputable abbrev r11 (bl : Blocks) : T (List MV) := runM cxF bl 100 Tryd.f11 (body Tryd.f11) [hK] [.x [.l s, .s n r, .l [m]]] zs [.p (.ints .u8 64), iK] gmW
noncomputable def bl11n : Blocks := blC 0 (fun _ => .fail "") (blC 2 (fun _ => .fail "") (blC 4 (fun _ => .fail "") (blC 6 (fun _ => .fail "") no)))
noncomputable def bl11d (st : List Int) (qn : Nat) (q : List Int) (qm : Int) (o : List Int) : St → T (Ex × St) := loopV ks11d (inv11d st qn q qm 0 z64) true (.normal, out11d o) (.normal, out11d o)
noncomputable def bk11 (N1 : Nat) (t1 : List Int) (N2 : Nat) (t2 : List Int) (N3 : Nat) (t3 : List Int) (c : St → T (Ex × St)) : Blocks :=
  blC 0 (loopV ks11a (inv11a s n r m 1 [128]) true (.normal, inv11a s n r m N1 t1) (.normal, inv11a s n r m N1 t1))
    (blC 2 (loopV ks11b (inv11b s n r m N1 t1 7) true (.normal, out11b s n r m N2 t2) (.normal, out11b s n r m N2 t2))
      (blC 4 (loopV ks11c (inv11c s n r m N2 t2 7) true (.normal, out11c s n r m N3 t3) (.normal, out11c s n r m N3 t3))
        (blC 6 c no)))
theorem run11a : prune (r11 s n r m zs bl11n) [true] = needs [True, (!(fitsV n m)) = true] (.ret [.p (.l z64), .p (.n 1)]) := by kernel_rfl
theorem run11b (N1 : Nat) (t1 : List Int) (N2 : Nat) (t2 : List Int) (N3 : Nat) (t3 o : List Int) :
    prune (r11 s n r m zs (bk11 s n r m N1 t1 N2 t2 N3 t3 (bl11d (mrS (compR constL) s n r m N3 t3) (mrN n m N3) (mrR n r m N3 t3) (mrM n m N3) o))) [false, true, true, true, true] =
    needs [True, (!(fitsV n m)) = false, inv11a s n r m 1 [128] = inv11a s n r m 1 [128], true = true, inv11b s n r m N1 t1 7 = inv11b s n r m N1 t1 7, true = true, inv11c s n r m N2 t2 7 = inv11c s n r m N2 t2 7, true = true, n ≤ 1000 ∧ N3 ≤ 1000,
      inv11d (mrS (compR constL) s n r m N3 t3) (mrN n m N3) (mrR n r m N3 t3) (mrM n m N3) 0 z64 = inv11d (mrS (compR constL) s n r m N3 t3) (mrN n m N3) (mrR n r m N3 t3) (mrM n m N3) 0 z64, true = true] (.ret [.p (.l o), .p (.n 0)]) := by kernel_rfl
end

theorem sh_of {k : Nat} (h : k < 8) : IntKind.u64.wrap (IntKind.i64.wrap (8 * ((7 : Int) - (k : Int)))) = ((8 * (7 - k) : Nat) : Int) := by
  rw [wrap_i64 (by omega) (by omega), wrap_u64]; omega
theorem bh_of {m : Int} (_ : 0 ≤ m) (_ : m < 18446744073709551616) {k : Nat} (h : k < 8) : bh11 m (7 - (k : Int)) = by8 (hiV m 8) k := by
  unfold bh11 by8
  rw [sh_of h]
  congr 2
  rw [show (61 : Int) = ((61 : Nat) : Int) from rfl, shrI_u64 m 61 (by omega)]
  unfold hiV
  omega
theorem bl_of {m : Int} {k : Nat} (h : k < 8) : bl11 m (7 - (k : Int)) = by8 (W (m * 8)) k := by
  unfold bl11 by8
  rw [sh_of h]
theorem be8_all (x : Int) : (be8 x).take 8 = be8 x := by rw [List.take_of_length_le]; rw [be8_length]; exact Nat.le_refl _

/-- The sum's bytes, one by one. -/
def oR (s : List Int) : Nat → List Int
  | 0 => z64
  | k + 1 => (oR s k).set k (IntKind.u8.wrap (shrI .u64 (s.getD (k / 8) 0) ((8 * (7 - k % 8) : Nat) : Int)))
theorem oR_dig (s : List Int) : oR s 64 = digV s := by kernel_rfl

section
variable {Γ : Gam} {s : List Int} {n : Nat} {r : List Int} {m : Int}
abbrev t1L (n : Nat) : List Int := 128 :: List.replicate ((239 - n) % 128) 0
theorem bk11_in (hcx : CxOk Tryd.prog Γ.G cxF) (h0 : Γ.G Γ.w0) (hg : GlobOk Γ) (hn0 : Γ.n0 = 0) (hn : n < 128) (hm0 : 0 ≤ m) (hm1 : m < 18446744073709551616) (st : List Int) (qn : Nat) (q : List Int) (qm : Int) :
    BlocksIn Tryd.prog Γ (bk11 s n r m (tlN n) (t1L n) (tlN n + 8) (t1L n ++ be8 (hiV m 8)) (tlN n + 8 + 8) (t1L n ++ be8 (hiV m 8) ++ be8 (W (m * 8))) (bl11d st qn q qm (oR st 64))) (body Tryd.f11) := by
  refine AllIn.ok (allIn_C blks11a ?_ (allIn_C blks11b ?_ (allIn_C blks11c ?_ (allIn_C blks11d ?_ allIn_no))))
  · refine loop_ruleW hcx hg h0 hn0 (drawS_sound hcx hg h0) (bl := no) (blocksIn_none _) (fun j : Nat => inv11a s n r m (1 + j) (128 :: List.replicate j 0)) (fun j => (239 - n) % 128 - j) (fun j => j ≤ (239 - n) % 128) true _ _ 100 ks11a ks11a ks11a ks11a (fun j hj => ?_) 0 (Nat.zero_le _)
    rw [round11a]
    have hw : (IntKind.i64.wrap ((n : Int) + ((1 + j : Nat) : Int))).tmod 128 = (((n + 1 + j) % 128 : Nat) : Int) := by
      rw [wrap_i64 (by omega) (by omega), Int.tmod_eq_emod_of_nonneg (by omega)]; omega
    rw [hw]
    refine ⟨fun h => ?_, fun h => ?_⟩
    · have h : ¬ (((n + 1 + j) % 128 : Nat) : Int) = 112 := by simpa using h
      refine ⟨?_, j + 1, by omega, ?_, by omega⟩
      · rw [addO_eq]; show 1 + j + 1 ≤ 140737488355328; omega
      · show inv11a s n r m _ _ = inv11a s n r m _ _
        rw [addO_eq, List.replicate_succ', Nat.add_assoc]; rfl
    · have h : (((n + 1 + j) % 128 : Nat) : Int) = 112 := by simpa using h
      have hj : j = (239 - n) % 128 := by omega
      subst hj
      rfl
  · rw [show inv11b s n r m (tlN n) (t1L n) 7 = inv11b s n r m (tlN n + 0) (t1L n ++ (be8 (hiV m 8)).take 0) (7 - ((0 : Nat) : Int)) from by rw [List.take_zero, List.append_nil]; rfl]
    refine loop_ruleW hcx hg h0 hn0 (drawS_sound hcx hg h0) (bl := no) (blocksIn_none _) (fun k : Nat => inv11b s n r m (tlN n + k) (t1L n ++ (be8 (hiV m 8)).take k) (7 - (k : Int))) (fun k => 8 - k) (fun k => k ≤ 8) true _ _ 100 ks11b ks11b js11b js11b (fun k hk => ?_) 0 (Nat.zero_le _)
    rw [round11b]
    have hle := tlN_le n
    refine ⟨fun h => ?_, fun h => ?_⟩
    · have h := of_decide_eq_true h
      have h8 : k < 8 := by omega
      refine ⟨wrap_nn _, ?_, k + 1, h8, ?_, by omega⟩
      · rw [addO_eq]; show tlN n + k + 1 ≤ 140737488355328; omega
      · show inv11b s n r m _ _ _ = inv11b s n r m _ _ _
        rw [addO_eq, bh_of hm0 hm1 h8, be8_take _ h8, List.append_assoc, Nat.add_assoc, wrap_i64 (by omega) (by omega), show (7 : Int) - (k : Int) - 1 = 7 - ((k + 1 : Nat) : Int) from by omega]
    · have h := of_decide_eq_false h
      obtain rfl : k = 8 := by omega
      show (afterX 2 (.exit 2), _) = _
      rw [be8_all]; rfl
  · rw [show inv11c s n r m (tlN n + 8) (t1L n ++ be8 (hiV m 8)) 7 = inv11c s n r m (tlN n + 8 + 0) (t1L n ++ be8 (hiV m 8) ++ (be8 (W (m * 8))).take 0) (7 - ((0 : Nat) : Int)) from by rw [List.take_zero, List.append_nil]; rfl]
    refine loop_ruleW hcx hg h0 hn0 (drawS_sound hcx hg h0) (bl := no) (blocksIn_none _) (fun k : Nat => inv11c s n r m (tlN n + 8 + k) (t1L n ++ be8 (hiV m 8) ++ (be8 (W (m * 8))).take k) (7 - (k : Int))) (fun k => 8 - k) (fun k => k ≤ 8) true _ _ 100 ks11c ks11c js11c js11c (fun k hk => ?_) 0 (Nat.zero_le _)
    rw [round11c]
    have hle := tlN_le n
    refine ⟨fun h => ?_, fun h => ?_⟩
    · have h := of_decide_eq_true h
      have h8 : k < 8 := by omega
      refine ⟨wrap_nn _, ?_, k + 1, h8, ?_, by omega⟩
      · rw [addO_eq]; show tlN n + 8 + k + 1 ≤ 140737488355328; omega
      · show inv11c s n r m _ _ _ = inv11c s n r m _ _ _
        rw [addO_eq, bl_of h8, be8_take _ h8, List.append_assoc, Nat.add_assoc, wrap_i64 (by omega) (by omega), show (7 : Int) - (k : Int) - 1 = 7 - ((k + 1 : Nat) : Int) from by omega]
    · have h := of_decide_eq_false h
      obtain rfl : k = 8 := by omega
      show (afterX 4 (.exit 4), _) = _
      rw [be8_all]; rfl
  · refine loop_ruleW hcx hg h0 hn0 (drawS_sound hcx hg h0) (bl := no) (blocksIn_none _) (fun k : Nat => inv11d st qn q qm (k : Int) (oR st k)) (fun k => 64 - k) (fun k => k ≤ 64) true _ _ 100 ks11d ks11d js11d js11d (fun k hk => ?_) 0 (Nat.zero_le _)
    rw [round11d]
    refine ⟨fun h => ?_, fun h => ?_⟩
    · have h := of_decide_eq_true h
      have e1 : ix11 (k : Int) = ((k / 8 : Nat) : Int) := by
        unfold ix11; rw [Int.tdiv_eq_ediv_of_nonneg (by omega), wrap_i64 (by omega) (by omega)]; omega
      have e2 : (k : Int).tmod 8 = ((k % 8 : Nat) : Int) := by rw [Int.tmod_eq_emod_of_nonneg (by omega)]; omega
      have e3 : sh11 (k : Int) = ((8 * (7 - k % 8) : Nat) : Int) := by
        unfold sh11; rw [e2, wrap_i64 (x := 7 - _) (by omega) (by omega), wrap_i64 (by omega) (by omega), wrap_u64]; omega
      rw [e1, e3, wrap_i64 (by omega) (by omega)]
      exact ⟨by omega, by omega, by omega, by omega, by omega, k + 1, by omega, rfl, by omega⟩
    · have h := of_decide_eq_false h
      obtain rfl : k = 64 := by omega
      rfl
end

theorem fn11 : FnmS Tryd.prog GW 11 (endC (compR constL)) :=
  fnm_run cxF_ok gW Tryd.func11 rfl (Go.Sx.enters_of Tryd.func11 (by kernel_rfl) (by kernel_rfl)) (fuel := 100) (by decide) fun xs zs hfit hp _ => by
    obtain ⟨s, n, r, m, rfl, hs, hr⟩ := fit_h hfit
    have hp : n ≤ 1000 ∧ 0 ≤ m ∧ m < 18446744073709551616 := hp
    cases hf : fitsV n m with
    | false =>
      refine ⟨bl11n, fun Γ _ _ _ _ => AllIn.ok (allIn_C blks11a (fun _ _ _ h => (T.reach_fail h).elim) (allIn_C blks11b (fun _ _ _ h => (T.reach_fail h).elim) (allIn_C blks11c (fun _ _ _ h => (T.reach_fail h).elim) (allIn_C blks11d (fun _ _ _ h => (T.reach_fail h).elim) allIn_no)))), Gd.of_run (run11a s n r m zs) ⟨trivial, by rw [hf]; rfl, ?_⟩⟩
      show _ = endP _ _ _ _ _
      unfold endP endL mrE; rw [hf]; rfl
    | true =>
      have hnf : (!(fitsV n m)) = false := by rw [hf]; rfl
      have hlt := fits_lt hf
      have hle := tlN_le n
      refine ⟨_, fun Γ hG h0 hg hn => bk11_in (hG ▸ cxF_ok) h0 hg hn hlt hp.2.1 hp.2.2 _ _ _ _, Gd.of_run (run11b s n r m zs _ _ _ _ _ _ _) ⟨trivial, hnf, rfl, rfl, rfl, rfl, rfl, rfl, by omega, rfl, rfl, ?_⟩⟩
      show [MV.p (AV.l (oR _ 64)), MV.p (AV.n 0)] = endP _ _ _ _ _
      unfold endP endL mrE; rw [hf, oR_dig]; rfl
end Go.Proofs.YtdlhklnpnpmibaaDoor

/- Sum. -/
namespace Go.Proofs.YtdlhklnpnpmibaaDoor
open Go Go.Sx Go.Sh
set_option maxRecDepth 100000

def sumV (c : List Int → List Int → List Int) (k : Nat) (b : List Int) : List Int := endL c (mrS c firstL 0 [] 0 k b) (mrN 0 0 k) (mrR 0 [] 0 k b) (mrM 0 0 k)
abbrev preS : List MV → Prop := fun | [.s k _] => k ≤ 1000 | _ => False
abbrev sumC (c : List Int → List Int → List Int) : MSpec := ctM [sK] preS [.p (.ints .u8 64)] (fun | [.s k b] => [.p (.l (sumV c k b))] | _ => [])
noncomputable abbrev cxS15 : Cx := cxW [] [(8, moreC (compV constL)), (10, endC (compV constL)), (13, beginC)]
theorem cxS15_ok : CxOk Tryd.prog GW cxS15 := cxW_ok (fns := []) (fms := [(8, moreC (compV constL)), (10, endC (compV constL)), (13, beginC)]) trivial ⟨fn8, fn10, fn13, trivial⟩
noncomputable abbrev cxS16 : Cx := cxW [] [(9, moreC (compR constL)), (11, endC (compR constL)), (14, beginC)]
theorem cxS16_ok : CxOk Tryd.prog GW cxS16 := cxW_ok (fns := []) (fms := [(9, moreC (compR constL)), (11, endC (compR constL)), (14, beginC)]) trivial ⟨fn9, fn11, fn14, trivial⟩
section
variable (k : Nat) (b : List Int) (zs : Nat → Bool)
theorem run15 : runM cxS15 no 100 Tryd.f15 (body Tryd.f15) [sK] [.s k b] zs [.p (.ints .u8 64)] gmW =
    needs [True, (0:Nat) ≤ 1000 ∧ k ≤ 1000, mrN 0 0 k ≤ 1000 ∧ 0 ≤ mrM 0 0 k ∧ mrM 0 0 k < 18446744073709551616] (.ret [.p (.l (sumV (compV constL) k b))]) := by kernel_rfl
theorem run16 : runM cxS16 no 100 Tryd.f16 (body Tryd.f16) [sK] [.s k b] zs [.p (.ints .u8 64)] gmW =
    needs [True, (0:Nat) ≤ 1000 ∧ k ≤ 1000, mrN 0 0 k ≤ 1000 ∧ 0 ≤ mrM 0 0 k ∧ mrM 0 0 k < 18446744073709551616] (.ret [.p (.l (sumV (compR constL) k b))]) := by kernel_rfl
end
theorem fits0 : fitsV 0 0 = true := by kernel_rfl
theorem mrN_le {n : Nat} {m : Int} {k : Nat} (hn : n ≤ 1000) (_ : k ≤ 1000) : mrN n m k ≤ 1000 := by
  unfold mrN; cases fitsV n m <;> simp only [cond] <;> omega
theorem mrM_r {n : Nat} {m : Int} {k : Nat} (h0 : 0 ≤ m) (h1 : m < 18446744073709551616) : 0 ≤ mrM n m k ∧ mrM n m k < 18446744073709551616 := by
  unfold mrM; cases fitsV n m <;> simp only [cond]
  · exact ⟨h0, h1⟩
  · show 0 ≤ IntKind.u64.wrap _ ∧ IntKind.u64.wrap _ < 18446744073709551616
    rw [wrap_u64]; omega
theorem fn15 : FnmS Tryd.prog GW 15 (sumC (compV constL)) :=
  fnm_run cxS15_ok gW Tryd.func15 rfl (Go.Sx.enters_of Tryd.func15 (by kernel_rfl) (by kernel_rfl)) (fuel := 100) (by decide) fun xs zs hfit hp _ => by
    obtain ⟨k, b, rfl, -⟩ := fit_s hfit
    have hp : k ≤ 1000 := hp
    exact ⟨no, noBl, Gd.of_eq (run15 k b zs) ⟨trivial, ⟨by omega, hp⟩, ⟨mrN_le (by omega) hp, mrM_r (by omega) (by omega)⟩, rfl⟩⟩
theorem fn16 : FnmS Tryd.prog GW 16 (sumC (compR constL)) :=
  fnm_run cxS16_ok gW Tryd.func16 rfl (Go.Sx.enters_of Tryd.func16 (by kernel_rfl) (by kernel_rfl)) (fuel := 100) (by decide) fun xs zs hfit hp _ => by
    obtain ⟨k, b, rfl, -⟩ := fit_s hfit
    have hp : k ≤ 1000 := hp
    exact ⟨no, noBl, Gd.of_eq (run16 k b zs) ⟨trivial, ⟨by omega, hp⟩, ⟨mrN_le (by omega) hp, mrM_r (by omega) (by omega)⟩, rfl⟩⟩
end Go.Proofs.YtdlhklnpnpmibaaDoor

/- What abc's sum is. -/
namespace Go.Proofs.YtdlhklnpnpmibaaDoor
open Go Go.Sx Go.Sh
set_option maxRecDepth 100000
def dA : List Int := [221, 175, 53, 161, 147, 97, 122, 186, 204, 65, 115, 73, 174, 32, 65, 49, 18, 230, 250, 78, 137, 169, 126, 162, 10, 158, 238, 230, 75, 85, 211, 154, 33, 146, 153, 42, 39, 79, 193, 168, 54, 186, 60, 35, 163, 254, 235, 189, 69, 77, 68, 35, 100, 60, 232, 14, 42, 154, 201, 79, 165, 76, 164, 159]
theorem sumA : sumV (compV constL) 3 [97, 98, 99] = dA := by kernel_rfl
theorem endA : endL (compV constL) (mrS (compV constL) (mrS (compV constL) firstL 0 [] 0 2 [97, 98]) (mrN 0 0 2) (mrR 0 [] 0 2 [97, 98]) (mrM 0 0 2) 1 [99]) (mrN (mrN 0 0 2) (mrM 0 0 2) 1) (mrR (mrN 0 0 2) (mrR 0 [] 0 2 [97, 98]) (mrM 0 0 2) 1 [99]) (mrM (mrN 0 0 2) (mrM 0 0 2) 1) = dA := by kernel_rfl
end Go.Proofs.YtdlhklnpnpmibaaDoor

/- awake. -/
namespace Go.Proofs.YtdlhklnpnpmibaaDoor
open Go Go.Sx Go.Sh
set_option maxRecDepth 100000
noncomputable abbrev cxA (c : List Int → List Int → List Int) : Cx := cxW [] [(8, moreC c), (10, endC c), (13, beginC), (15, sumC c)]
theorem cxA_ok : CxOk Tryd.prog GW (cxA (compV constL)) := cxW_ok (fns := []) (fms := [(8, moreC (compV constL)), (10, endC (compV constL)), (13, beginC), (15, sumC (compV constL))]) trivial ⟨fn8, fn10, fn13, fn15, trivial⟩
abbrev hS (c : List Int → List Int → List Int) : List Int := mrS c firstL 0 [] 0 2 [97, 98]
abbrev hN : Nat := mrN 0 0 2
abbrev hR : List Int := mrR 0 [] 0 2 [97, 98]
abbrev hM : Int := mrM 0 0 2
abbrev endB (c : List Int → List Int → List Int) : List Int := endL c (mrS c (hS c) hN hR hM 1 [99]) (mrN hN hM 1) (mrR hN hR hM 1 [99]) (mrM hN hM 1)
theorem run7 (c : List Int → List Int → List Int) (zs : Nat → Bool) : prune (runM (cxA c) no 200 Tryd.f7 (body Tryd.f7) [] [] zs [bK] gmW) [true, true, true, true, true, true, true, true] =
    needs [(0:Nat) < 3, (3:Nat) ≤ 1000, True, (0:Nat) < 2, (0:Nat) ≤ 1000 ∧ (2:Nat) ≤ 1000, (0:Nat) < 1, hN ≤ 1000 ∧ (1:Nat) ≤ 1000, mrN hN hM 1 ≤ 1000 ∧ 0 ≤ mrM hN hM 1 ∧ mrM hN hM 1 < 18446744073709551616, (0:Nat) ≤ 1000 ∧ (0:Int) ≤ 1 ∧ (1:Int) < 18446744073709551616,
      ((sumV c 3 [97, 98, 99]).getD 0 0 == 221) = true, ((sumV c 3 [97, 98, 99]).getD 1 0 == 175) = true, ((sumV c 3 [97, 98, 99]).getD 63 0 == 159) = true, ((0:Int) == 0) = true, ((0:Int) == 0) = true,
      (sumV c 3 [97, 98, 99] == endB c) = true, ((0:Int) == 0) = true, (mrM hN hM 1 == 3) = true] (.ret [.p (.b true)]) := by kernel_rfl
abbrev awakeC : MSpec := ctM [] (fun _ => True) [bK] (fun _ => [.p (.b true)])
theorem fn7 : FnmS Tryd.prog GW 7 awakeC :=
  fnm_run cxA_ok gW Tryd.func7 rfl (Go.Sx.enters_of Tryd.func7 (by kernel_rfl) (by kernel_rfl)) (fuel := 200) (by decide) fun xs zs hfit _ _ => by
    obtain rfl := fit_0 hfit
    refine ⟨no, noBl, Gd.of_run (run7 (compV constL) zs) ⟨by omega, by omega, trivial, by omega, by omega, by omega, ⟨mrN_le (by omega) (by omega), by omega⟩, ⟨mrN_le (mrN_le (by omega) (by omega)) (by omega), mrM_r (mrM_r (by omega) (by omega)).1 (mrM_r (by omega) (by omega)).2⟩, by omega, ?_, ?_, ?_, rfl, rfl, ?_, rfl, ?_, rfl⟩⟩
    · rw [sumA]; rfl
    · rw [sumA]; rfl
    · rw [sumA]; rfl
    · rw [sumA, show endB (compV constL) = dA from endA]; rfl
    · kernel_rfl
end Go.Proofs.YtdlhklnpnpmibaaDoor

/- Texts that go on: the state of a whole text; no program in sight. -/
namespace Go.Sh
open Go Go.Sx

section
variable (c : List Int → List Int → List Int) (s0 : List Int)
/-- The state of a whole text. -/
def tS (a : List Int) : List Int := runB c s0 a (a.length / 128)
def tN (a : List Int) : Nat := a.length - 128 * (a.length / 128)
def tR (a : List Int) : List Int := sub a (128 * (a.length / 128)) (tN a)
def tM (a : List Int) : Int := (a.length : Int)
end
theorem W_nat {n : Nat} (h : n < 18446744073709551616) : W (n : Int) = (n : Int) := by
  show IntKind.u64.wrap _ = _
  rw [wrap_u64]; omega
theorem tR_eq (a : List Int) : tR a = a.drop (128 * (a.length / 128)) := by
  unfold tR tN sub
  rw [List.take_of_length_le]; rw [List.length_drop]; omega
theorem tR_length (a : List Int) : (tR a).length = tN a := by rw [tR_eq, List.length_drop]; rfl
theorem sub_in {a b : List Int} {p l : Nat} (h : p + l ≤ a.length) : sub (a ++ b) p l = sub a p l := by
  unfold sub
  rw [List.drop_append_of_le_length (by omega), List.take_append_of_le_length (by rw [List.length_drop]; omega)]
theorem sub_drop (a : List Int) (p q l : Nat) : sub (a.drop p) q l = sub a (p + q) l := by
  unfold sub; rw [List.drop_drop]
theorem runB_in (c : List Int → List Int → List Int) (s a b : List Int) : ∀ i, 128 * i ≤ a.length → runB c s (a ++ b) i = runB c s a i
  | 0, _ => rfl
  | i + 1, h => by
    unfold runB
    rw [runB_in c s a b i (by omega), sub_in (by omega)]
theorem runB_add (c : List Int → List Int → List Int) (s a : List Int) (i : Nat) : ∀ j, runB c (runB c s a i) (a.drop (128 * i)) j = runB c s a (i + j)
  | 0 => rfl
  | j + 1 => by
    rw [← Nat.add_assoc]
    unfold runB
    rw [runB_add c s a i j, sub_drop, ← Nat.mul_add]
theorem fits_t {a : List Int} (h : a.length < 9223372036854775808) : fitsV (tN a) (tM a) = true := by
  unfold fitsV tM tN
  have e : ((a.length : Nat) : Int).tmod 128 = ((a.length - 128 * (a.length / 128) : Nat) : Int) := by rw [Int.tmod_eq_emod_of_nonneg (by omega)]; omega
  rw [e, show IntKind.u64.wrap ((a.length - 128 * (a.length / 128) : Nat) : Int) = ((a.length - 128 * (a.length / 128) : Nat) : Int) from W_nat (by omega)]
  simp only [beq_self_eq_true, Bool.and_true, decide_eq_true_eq]
  omega
section
variable (c : List Int → List Int → List Int) (s0 : List Int) {a b : List Int}
/-- A text that goes on. -/
theorem more_S (h : a.length + b.length < 1000000) : mrS c (tS c s0 a) (tN a) (tR a) (tM a) b.length b = tS c s0 (a ++ b) := by
  unfold mrS
  rw [fits_t (by omega)]
  simp only [cond]
  unfold tS
  have e1 : (a ++ b).drop (128 * (a.length / 128)) = tR a ++ b := by rw [tR_eq, List.drop_append_of_le_length (by omega)]
  rw [← runB_in c s0 a b (a.length / 128) (by omega), ← e1, runB_add, List.length_append]
  congr 1
  unfold tN; omega
theorem more_N (h : a.length + b.length < 1000000) : mrN (tN a) (tM a) b.length = tN (a ++ b) := by
  unfold mrN
  rw [fits_t (by omega)]
  simp only [cond]
  unfold tN
  rw [List.length_append]; omega
theorem more_R (h : a.length + b.length < 1000000) : mrR (tN a) (tR a) (tM a) b.length b = tR (a ++ b) := by
  unfold mrR
  rw [fits_t (by omega)]
  simp only [cond]
  have e1 : (a ++ b).drop (128 * (a.length / 128)) = tR a ++ b := by rw [tR_eq, List.drop_append_of_le_length (by omega)]
  rw [← e1, sub_drop]
  unfold tR tN
  rw [List.length_append]
  congr 1 <;> omega
theorem more_M (h : a.length + b.length < 1000000) : mrM (tN a) (tM a) b.length = tM (a ++ b) := by
  unfold mrM
  rw [fits_t (by omega)]
  simp only [cond]
  unfold tM
  rw [W_nat (n := b.length) (by omega), ← Int.natCast_add, W_nat (by omega), List.length_append]
theorem more_E (h : a.length < 1000000) : mrE (tN a) (tM a) = 0 := by
  unfold mrE; rw [fits_t (by omega)]; rfl
theorem tN_nil : tN [] = 0 := rfl
theorem tR_nil : tR [] = [] := rfl
theorem tM_nil : tM [] = 0 := rfl
theorem tS_nil : tS c s0 [] = s0 := rfl
theorem tN_lt (a : List Int) : tN a < 128 := by unfold tN; omega
end
end Go.Sh

/- WideBlocks: the law's run, and why it holds. -/
namespace Go.Proofs.YtdlhklnpnpmibaaDoor
open Go Go.Sx Go.Sh
set_option maxRecDepth 100000
noncomputable abbrev cxL (c : List Int → List Int → List Int) : Cx := cxW [] [(7, awakeC), (8, moreC c), (10, endC c), (12, sameC), (13, beginC), (15, sumC c)]
theorem cxL_ok : CxOk Tryd.prog GW (cxL (compV constL)) := cxW_ok (fns := []) (fms := [(7, awakeC), (8, moreC (compV constL)), (10, endC (compV constL)), (12, sameC), (13, beginC), (15, sumC (compV constL))]) trivial ⟨fn7, fn8, fn10, fn12, fn13, fn15, trivial⟩
abbrev lo5 (k : Nat) : Int := IntKind.i64.wrap ((k : Int) - (k : Int).tmod 128)
section
variable (c : List Int → List Int → List Int) (k : Nat) (a : List Int) (l : Nat) (b : List Int) (zs : Nat → Bool)
noncomputable abbrev r5 : T (List MV) := runM (cxL c) no 200 Tryd.f5 (body Tryd.f5) [sK, sK] [.s k a, .s l b] zs [bK] gmW
theorem run5a : prune (r5 c k a l b zs) [true] = needs [True, decide ((k : Int) > 500) = true] (.ret [.p (.b true)]) := by kernel_rfl
theorem run5b : prune (r5 c k a l b zs) [false, true] = needs [True, decide ((k : Int) > 500) = false, decide ((l : Int) > 500) = true] (.ret [.p (.b true)]) := by kernel_rfl
abbrev S1 : List Int := mrS c firstL 0 [] 0 k a
abbrev N1 : Nat := mrN 0 0 k
abbrev R1 : List Int := mrR 0 [] 0 k a
abbrev M1 : Int := mrM 0 0 k
theorem run5c : prune (r5 c k a l b zs) [false, false, true, true, true, true, true] = needs [True, decide ((k : Int) > 500) = false, decide ((l : Int) > 500) = false, True, (0:Nat) ≤ 1000 ∧ k ≤ 1000, N1 k ≤ 1000 ∧ l ≤ 1000, True, k ≤ bigB, addO k l ≤ bigB, (0:Nat) ≤ 1000 ∧ addO k l ≤ 1000,
    true = true, (mrE 0 0 == 0) = true, (mrE (N1 k) (M1 k) == 0) = true, (mrE 0 0 == 0) = true, 0 ≤ lo5 k ∧ lo5 k ≤ (k : Int) ∧ (k : Int) ≤ (k : Int), (strEq (R1 k a) (sub a ((lo5 k).toNat * 1) (((k : Int).toNat - (lo5 k).toNat) * 1)) == true) = true, True]
    (.ret [.p (.b (sameV (mrS c (S1 c k a) (N1 k) (R1 k a) (M1 k) l b) (mrN (N1 k) (M1 k) l) (mrR (N1 k) (R1 k a) (M1 k) l b) (mrM (N1 k) (M1 k) l) (mrS c firstL 0 [] 0 (addO k l) (a ++ b)) (mrN 0 0 (addO k l)) (mrR 0 [] 0 (addO k l) (a ++ b)) (mrM 0 0 (addO k l))))]) := by kernel_rfl
end

theorem strEq_refl (r : List Int) : strEq r r = true := by unfold strEq; exact beq_self_eq_true _
theorem sameV_refl (s : List Int) (n : Nat) (r : List Int) (m : Int) : sameV s n r m s n r m = true := by
  unfold sameV; rw [strEq_refl]; simp
section
variable (c : List Int → List Int → List Int) {a b : List Int}
theorem first_S (h : a.length < 1000000) : mrS c firstL 0 [] 0 a.length a = tS c firstL a := more_S c firstL (a := []) (b := a) (by simpa using h)
theorem first_N (h : a.length < 1000000) : mrN 0 0 a.length = tN a := more_N (a := []) (b := a) (by simpa using h)
theorem first_R (h : a.length < 1000000) : mrR 0 [] 0 a.length a = tR a := more_R (a := []) (b := a) (by simpa using h)
theorem first_M (h : a.length < 1000000) : mrM 0 0 a.length = tM a := more_M (a := []) (b := a) (by simpa using h)
end
theorem fit_ss {xs : List MV} (h : fitM [sK, sK] xs) : ∃ a b : List Int, xs = [.s a.length a, .s b.length b] := by
  match xs, h with
  | [.s k a, .s l b], h =>
    have h1 : a.length = k * 1 := h.1
    have h2 : b.length = l * 1 := h.2.1
    exact ⟨a, b, by rw [h1, h2, Nat.mul_one, Nat.mul_one]⟩
  | [.s _ _, .p _], h => exact h.2.elim
  | [.s _ _, .x _], h => exact h.2.elim
  | [.s _ _], h => exact h.2.elim
  | .s _ _ :: .s _ _ :: _ :: _, h => exact h.2.2.elim
  | .s _ _ :: .p _ :: _ :: _, h => exact h.2.elim
  | .s _ _ :: .x _ :: _ :: _, h => exact h.2.elim
  | .p _ :: _, h => exact h.elim
  | .x _ :: _, h => exact h.elim
  | [], h => exact h.elim
theorem lo5_eq {k : Nat} (h : k ≤ 500) : lo5 k = ((128 * (k / 128) : Nat) : Int) := by
  unfold lo5
  rw [Int.tmod_eq_emod_of_nonneg (by omega), wrap_i64 (by omega) (by omega)]; omega
abbrev lawC2 : MSpec := ctM [sK, sK] (fun _ => True) [bK] (fun _ => [.p (.b true)])
theorem fn5 : FnmS Tryd.prog GW 5 lawC2 :=
  fnm_run cxL_ok gW Tryd.func5 rfl (Go.Sx.enters_of Tryd.func5 (by kernel_rfl) (by kernel_rfl)) (fuel := 200) (by decide) fun xs zs hfit _ _ => by
    obtain ⟨a, b, rfl⟩ := fit_ss hfit
    by_cases hk : a.length ≤ 500
    · have hk' : decide ((a.length : Int) > 500) = false := by simp; omega
      by_cases hl : b.length ≤ 500
      · have hl' : decide ((b.length : Int) > 500) = false := by simp; omega
        have e : addO a.length b.length = (a ++ b).length := by rw [addO_eq, List.length_append]
        have hab : (a ++ b).length ≤ 1000 := by rw [List.length_append]; omega
        refine ⟨no, noBl, Gd.of_run (run5c (compV constL) a.length a b.length b zs) ⟨trivial, hk', hl', trivial, ⟨by omega, by omega⟩, ?_, trivial, ?_, ?_, ?_, rfl, rfl, ?_, rfl, ?_, ?_, trivial, ?_⟩⟩
        · rw [N1, first_N (by omega)]; have := tN_lt a; omega
        · show _ ≤ 140737488355328; omega
        · rw [e]; show _ ≤ 140737488355328; omega
        · rw [e]; omega
        · rw [N1, M1, first_N (by omega), first_M (by omega), more_E (by omega)]; rfl
        · rw [lo5_eq hk]; omega
        · rw [lo5_eq hk, R1, first_R (by omega), Int.toNat_natCast, Int.toNat_natCast, Nat.mul_one, Nat.mul_one, show sub a (128 * (a.length / 128)) (a.length - 128 * (a.length / 128)) = tR a from rfl, strEq_refl]; rfl
        · rw [e, S1, N1, R1, M1, first_S _ (by omega), first_N (by omega), first_R (by omega), first_M (by omega), more_S _ _ (by omega), more_N (by omega), more_R (by omega), more_M (by omega), first_S _ (by omega), first_N (by omega), first_R (by omega), first_M (by omega), sameV_refl]
          rfl
      · exact ⟨no, noBl, Gd.of_run (run5b (compV constL) a.length a b.length b zs) ⟨trivial, hk', by simp; omega, rfl⟩⟩
    · exact ⟨no, noBl, Gd.of_run (run5a (compV constL) a.length a b.length b zs) ⟨trivial, by simp; omega, rfl⟩⟩
end Go.Proofs.YtdlhklnpnpmibaaDoor

/- WideNothing: the law's run, and why it holds. -/
namespace Go.Proofs.YtdlhklnpnpmibaaDoor
open Go Go.Sx Go.Sh
set_option maxRecDepth 100000
section
variable (c : List Int → List Int → List Int) (k : Nat) (a : List Int) (l : Nat) (b : List Int) (zs : Nat → Bool)
noncomputable abbrev r6 : T (List MV) := runM (cxL c) no 200 Tryd.f6 (body Tryd.f6) [sK, sK] [.s k a, .s l b] zs [bK] gmW
theorem run6a : prune (r6 c k a l b zs) [true] = needs [True, decide ((k : Int) > 500) = true] (.ret [.p (.b true)]) := by kernel_rfl
theorem run6b : prune (r6 c k a l b zs) [false, true] = needs [True, decide ((k : Int) > 500) = false, decide ((l : Int) > 500) = true] (.ret [.p (.b true)]) := by kernel_rfl
abbrev S2 : List Int := mrS c (S1 c k a) (N1 k) (R1 k a) (M1 k) l b
abbrev N2 : Nat := mrN (N1 k) (M1 k) l
abbrev R2 : List Int := mrR (N1 k) (R1 k a) (M1 k) l b
abbrev M2 : Int := mrM (N1 k) (M1 k) l
abbrev E1 : List Int := endL c (S1 c k a) (N1 k) (R1 k a) (M1 k)
abbrev E2 : List Int := endL c (S2 c k a l b) (N2 k l) (R2 k a l b) (M2 k l)
theorem run6c : prune (r6 c k a l b zs) [false, false, true, true, true, true, true, true, true, true] = needs [True, decide ((k : Int) > 500) = false, decide ((l : Int) > 500) = false, True, (0:Nat) ≤ 1000 ∧ k ≤ 1000, N1 k ≤ 1000 ∧ 0 ≤ M1 k ∧ M1 k < 18446744073709551616, N1 k ≤ 1000 ∧ (0:Nat) ≤ 1000, N1 k ≤ 1000 ∧ l ≤ 1000,
    N2 k l ≤ 1000 ∧ 0 ≤ M2 k l ∧ M2 k l < 18446744073709551616, True, true = true, (mrE 0 0 == 0) = true, (mrE (N1 k) (M1 k) == 0) = true, (mrE (N1 k) (M1 k) == 0) = true, (mrE (N1 k) (M1 k) == 0) = true, (mrE (N2 k l) (M2 k l) == 0) = true,
    sameV (S1 c k a) (N1 k) (R1 k a) (M1 k) (mrS c (S1 c k a) (N1 k) (R1 k a) (M1 k) 0 []) (mrN (N1 k) (M1 k) 0) (mrR (N1 k) (R1 k a) (M1 k) 0 []) (mrM (N1 k) (M1 k) 0) = true,
    k ≤ 1000, (E1 c k a == sumV c k a) = true, k ≤ bigB, addO k l ≤ bigB, addO k l ≤ 1000]
    (.ret [.p (.b (E2 c k a l b == sumV c (addO k l) (a ++ b)))]) := by kernel_rfl
end
theorem sumV_t (c : List Int → List Int → List Int) {a : List Int} (h : a.length < 1000000) : sumV c a.length a = endL c (tS c firstL a) (tN a) (tR a) (tM a) := by
  unfold sumV; rw [first_S c h, first_N h, first_R h, first_M h]
theorem fn6 : FnmS Tryd.prog GW 6 lawC2 :=
  fnm_run cxL_ok gW Tryd.func6 rfl (Go.Sx.enters_of Tryd.func6 (by kernel_rfl) (by kernel_rfl)) (fuel := 200) (by decide) fun xs zs hfit _ _ => by
    obtain ⟨a, b, rfl⟩ := fit_ss hfit
    by_cases hk : a.length ≤ 500
    · have hk' : decide ((a.length : Int) > 500) = false := by simp; omega
      by_cases hl : b.length ≤ 500
      · have hl' : decide ((b.length : Int) > 500) = false := by simp; omega
        have e : addO a.length b.length = (a ++ b).length := by rw [addO_eq, List.length_append]
        have hab : (a ++ b).length ≤ 1000 := by rw [List.length_append]; omega
        have eS := first_S (compV constL) (a := a) (by omega)
        have eN := first_N (a := a) (by omega)
        have eR := first_R (a := a) (by omega)
        have eM := first_M (a := a) (by omega)
        have fS : S2 (compV constL) a.length a b.length b = tS (compV constL) firstL (a ++ b) := by rw [S2, S1, N1, R1, M1, eS, eN, eR, eM, more_S _ _ (by omega)]
        have fN : N2 a.length b.length = tN (a ++ b) := by rw [N2, N1, M1, eN, eM, more_N (by omega)]
        have fR : R2 a.length a b.length b = tR (a ++ b) := by rw [R2, N1, R1, M1, eN, eR, eM, more_R (by omega)]
        have fM : M2 a.length b.length = tM (a ++ b) := by rw [M2, N1, M1, eN, eM, more_M (by omega)]
        have ha := tN_lt a
        have hb := tN_lt (a ++ b)
        have r1 : 0 ≤ tM a ∧ tM a < 18446744073709551616 := by unfold tM; omega
        have r2 : 0 ≤ tM (a ++ b) ∧ tM (a ++ b) < 18446744073709551616 := by unfold tM; omega
        refine ⟨no, noBl, Gd.of_run (run6c (compV constL) a.length a b.length b zs) ⟨trivial, hk', hl', trivial, ⟨by omega, by omega⟩, ?_, ?_, ?_, ?_, trivial, rfl, rfl, ?_, ?_, ?_, ?_, ?_, by omega, ?_, ?_, ?_, ?_, ?_⟩⟩
        · rw [N1, M1, eN, eM]; exact ⟨by omega, r1⟩
        · rw [N1, eN]; omega
        · rw [N1, eN]; omega
        · rw [fN, fM]; exact ⟨by omega, r2⟩
        · rw [N1, M1, eN, eM, more_E (by omega)]; rfl
        · rw [N1, M1, eN, eM, more_E (by omega)]; rfl
        · rw [N1, M1, eN, eM, more_E (by omega)]; rfl
        · rw [fN, fM, more_E (by omega)]; rfl
        · rw [S1, N1, R1, M1, eS, eN, eR, eM, show mrS (compV constL) (tS (compV constL) firstL a) (tN a) (tR a) (tM a) 0 [] = tS (compV constL) firstL (a ++ []) from more_S _ _ (b := []) (by simp; omega), show mrN (tN a) (tM a) 0 = tN (a ++ []) from more_N (b := []) (by simp; omega),
            show mrR (tN a) (tR a) (tM a) 0 [] = tR (a ++ []) from more_R (b := []) (by simp; omega), show mrM (tN a) (tM a) 0 = tM (a ++ []) from more_M (b := []) (by simp; omega), List.append_nil, sameV_refl]
        · rw [E1, S1, N1, R1, M1, eS, eN, eR, eM, sumV_t _ (by omega)]; exact beq_self_eq_true _
        · show _ ≤ 140737488355328; omega
        · rw [e]; show _ ≤ 140737488355328; omega
        · rw [e]; omega
        · rw [e, E2, fS, fN, fR, fM, sumV_t _ (by omega)]
          show [MV.p (AV.b _)] = _
          rw [beq_self_eq_true]
      · exact ⟨no, noBl, Gd.of_run (run6b (compV constL) a.length a b.length b zs) ⟨trivial, hk', by simp; omega, rfl⟩⟩
    · exact ⟨no, noBl, Gd.of_run (run6a (compV constL) a.length a b.length b zs) ⟨trivial, by simp; omega, rfl⟩⟩
end Go.Proofs.YtdlhklnpnpmibaaDoor

/- What the listed variables give; the world in which the door has laid them. -/
namespace Go.Proofs.YtdlhklnpnpmibaaDoor
open Go Go.Sx
open Go.ChangeShapes Go.WideShapes Go.RowKit
set_option maxRecDepth 100000

noncomputable abbrev laidW : List (String × DataW Unit) := [("yashmak/wide.first", Rows.laid_yashmak_wide_first), ("yashmak/wide.constants", Rows.laid_yashmak_wide_constants)]
theorem door_metW (os : Os) (args : Array Value) : laidMetH Tryd.prog laidW ((World.doorLaid Tryd.prog 400 os).forCall (fun _ _ => 0) ⟨#[], args, []⟩).memory :=
  laidMetH_of_parts3 (fuel := 8) (laidMet_of_run' 8 (by kernel_rfl) (by kernel_rfl)) (by kernel_rfl) (by kernel_rfl)
theorem GW_of_laid {W : World} (h : laidMetH Tryd.prog laidW W) : GW W := by
  rw [MakeChecks.laidMetH_plain _ _ _ (by kernel_rfl)] at h
  obtain ⟨ps, ⟨g0, t0, cs0, f0, p0, q0, hg0, ht0, hv0, hd0, ⟨g1, t1, cs1, f1, p1, q1, hg1, ht1, hv1, hd1, _, _⟩, _⟩, _, _⟩ := h
  obtain rfl := Option.some.inj ((show (Tryd.prog.globals[g0]?).map (·.type) = some 23 by rw [Option.some.inj (hg0.symm.trans (show Tryd.prog.globalNamed "yashmak/wide.first" = some 0 by kernel_rfl))]; kernel_rfl).symm.trans ht0)
  obtain rfl := Option.some.inj ((show (Tryd.prog.globals[g1]?).map (·.type) = some 54 by rw [Option.some.inj (hg1.symm.trans (show Tryd.prog.globalNamed "yashmak/wide.constants" = some 1 by kernel_rfl))]; kernel_rfl).symm.trans ht1)
  have hu : Tryd.prog.underlying 23 = some (.array 8 22) := by kernel_rfl
  have hv : Tryd.prog.underlying 54 = some (.array 80 22) := by kernel_rfl
  have hu2 : Tryd.prog.underlying 22 = some (.int .u64) := by kernel_rfl
  have hc : Tryd.prog.cellsOf 22 = 1 := by kernel_rfl
  have a0 := gInts_of (l := firstL) hg0 hv0 hu hu2 hc (by kernel_rfl) hd0
  have a1 := gInts_of (l := constL) hg1 hv1 hv hu2 hc (by kernel_rfl) hd1
  rw [Option.some.inj (hg0.symm.trans (show Tryd.prog.globalNamed "yashmak/wide.first" = some 0 by kernel_rfl))] at a0
  rw [Option.some.inj (hg1.symm.trans (show Tryd.prog.globalNamed "yashmak/wide.constants" = some 1 by kernel_rfl))] at a1
  exact ⟨a0, a1, trivial⟩
theorem own : ownKnob Tryd.prog.godebug = none := by kernel_rfl
theorem laidOut : laidOutB Tryd.prog = true := by kernel_rfl
end Go.Proofs.YtdlhklnpnpmibaaDoor

/- WideParts: a part. -/
namespace Go.Proofs.YtdlhklnpnpmibaaDoor
open Go Go.Sx Go.Sh
set_option maxRecDepth 100000
noncomputable def lp4 : Code := unloop (Code.blk (body Tryd.f4) 0)
theorem blks4 : blksL (body Tryd.f4) 0 = [.loop lp4] := by kernel_rfl
abbrev cK : MK := .s 39 .u16 1
def kk4 : List Kp := [.keep, .keep, .junk, .junk, .keep, .keep, .keep, .keep, .soft, .soft] ++ List.replicate 109 .junk
def ks4 : Fh := ⟨[⟨.cell 12 1, 11, 5, .u8, 1⟩], kk4, [0, 1, 11, 12], 16⟩
def js4 : Fh := ⟨[], kk4, [0, 1, 11, 12], 16⟩
def inv4 (k : Nat) (b : List Int) (q : Nat) (u : List Int) (s : List Int) (n : Nat) (r : List Int) (m : Int) (t i : Int) : St :=
  ⟨[.sl 0, .sl 1, .junk 2, .junk 3, .ff, .bool true, .str b, .ptr 12 0 (.lit 0), .int .i64 t, .int .i64 i] ++ junks 10 109, [(0, .vec false 5 .u8 1 k b), (1, .vec false 39 .u16 1 q u), (11, .vec true 5 .u8 1 n r), (12, .st true [.ints .u64 8 s, .sl 11, .ints .u64 1 [m]])] ++ gmW, 16⟩
abbrev to4 (k : Nat) (u : List Int) (t i : Int) : Int := IntKind.i64.wrap (t + (IntKind.i64.wrap (u.getD i.toNat 0)).tmod (IntKind.i64.wrap (IntKind.i64.wrap ((k : Int) - t) + 1)))
section
variable (c : List Int → List Int → List Int) (k : Nat) (b : List Int) (q : Nat) (u s : List Int) (n : Nat) (r : List Int) (m t i : Int)
abbrev len4 : Nat := (to4 k u t i).toNat - t.toNat
abbrev part4 : List Int := sub b (t.toNat * 1) (len4 k u t i * 1)
theorem round4 : prune (endV ks4 js4 js4 (exec (cxL c) (drawS (cxL c)) no 100 lp4 (inv4 k b q u s n r m t i))) [true, true, false] =
    needs [decide (i < (q : Int)) = true, decide (i < 8) = true, 0 ≤ i ∧ i < (q : Int), i.toNat + 1 ≤ q, ¬ IntKind.i64.wrap (IntKind.i64.wrap ((k : Int) - t) + 1) = 0, 0 ≤ t ∧ t ≤ to4 k u t i ∧ to4 k u t i ≤ (k : Int), n ≤ 1000 ∧ len4 k u t i ≤ 1000, (mrE n m != 0) = false]
      (.ret (.normal, inv4 k b q u (mrS c s n r m (len4 k u t i) (part4 k b u t i)) (mrN n m (len4 k u t i)) (mrR n r m (len4 k u t i) (part4 k b u t i)) (mrM n m (len4 k u t i)) (to4 k u t i) (IntKind.i64.wrap (i + 1)))) := by kernel_rfl
end
end Go.Proofs.YtdlhklnpnpmibaaDoor

/- WideParts: the law's run, and why it holds. -/
namespace Go.Proofs.YtdlhklnpnpmibaaDoor
open Go Go.Sx Go.Sh
set_option maxRecDepth 100000
section
variable (c : List Int → List Int → List Int) (k : Nat) (b : List Int) (q : Nat) (u s : List Int) (n : Nat) (r : List Int) (m t i : Int) (zs : Nat → Bool)
theorem round4x : prune (endV ks4 js4 js4 (exec (cxL c) (drawS (cxL c)) no 100 lp4 (inv4 k b q u s n r m t i))) [false] =
    needs [decide (i < (q : Int)) = false] (.ret (.exit 0, inv4 k b q u s n r m t i)) := by kernel_rfl
theorem round4y : prune (endV ks4 js4 js4 (exec (cxL c) (drawS (cxL c)) no 100 lp4 (inv4 k b q u s n r m t i))) [true, false] =
    needs [decide (i < (q : Int)) = true, decide (i < 8) = false] (.ret (.exit 0, inv4 k b q u s n r m t i)) := by kernel_rfl
noncomputable def bl4 : Blocks := blOne 0 (loopV ks4 (inv4 k b q u firstL 0 [] 0 0 0) true (.normal, inv4 k b q u s n r m t i) (.normal, inv4 k b q u s n r m t i))
noncomputable abbrev r4 (bl : Blocks) : T (List MV) := runM (cxL c) bl 200 Tryd.f4 (body Tryd.f4) [sK, cK] [.s k b, .s q u] zs [bK] gmW
theorem run4a : prune (r4 c k b q u zs (blNone 0)) [true] = needs [True, decide ((k : Int) > 500) = true] (.ret [.p (.b true)]) := by kernel_rfl
abbrev lz4 : Nat := (k : Int).toNat - t.toNat
abbrev pz4 : List Int := sub b (t.toNat * 1) (lz4 k t * 1)
abbrev Sz : List Int := mrS c s n r m (lz4 k t) (pz4 k b t)
abbrev Nz : Nat := mrN n m (lz4 k t)
abbrev Rz : List Int := mrR n r m (lz4 k t) (pz4 k b t)
abbrev Mz : Int := mrM n m (lz4 k t)
theorem run4b : prune (r4 c k b q u zs (bl4 k b q u s n r m t i)) [false, true, true, true, true, true, true, true, true, true, true, true] =
    needs [True, decide ((k : Int) > 500) = false, True, inv4 k b q u firstL 0 [] 0 0 0 = inv4 k b q u firstL 0 [] 0 0 0, true = true, 0 ≤ t ∧ t ≤ (k : Int) ∧ (k : Int) ≤ (k : Int), n ≤ 1000 ∧ lz4 k t ≤ 1000,
      Nz k n m t ≤ 1000 ∧ 0 ≤ Mz k n m t ∧ Mz k n m t < 18446744073709551616, Nz k n m t ≤ 1000 ∧ 0 ≤ Mz k n m t ∧ Mz k n m t < 18446744073709551616, true = true,
      (mrE n m == 0) = true, (mrE (Nz k n m t) (Mz k n m t) == 0) = true, (mrE (Nz k n m t) (Mz k n m t) == 0) = true, k ≤ 1000,
      (endL c (Sz c k b s n r m t) (Nz k n m t) (Rz k b n r m t) (Mz k n m t) == sumV c k b) = true,
      (endL c (Sz c k b s n r m t) (Nz k n m t) (Rz k b n r m t) (Mz k n m t) == endL c (Sz c k b s n r m t) (Nz k n m t) (Rz k b n r m t) (Mz k n m t)) = true, (strEq b b == true) = true]
    (.ret [.p (.b (Mz k n m t == W (k : Int)))]) := by kernel_rfl
end

/-- Where the parts end. -/
def tt (k : Nat) (u : List Int) : Nat → Nat
  | 0 => 0
  | i + 1 => tt k u i + (u.getD i 0).toNat % (k - tt k u i + 1)
theorem tt_le (k : Nat) (u : List Int) : ∀ i, tt k u i ≤ k
  | 0 => Nat.zero_le _
  | i + 1 => by
    have h := tt_le k u i
    have := Nat.mod_lt (u.getD i 0).toNat (show 0 < k - tt k u i + 1 by omega)
    unfold tt; omega
def U16L (l : List Int) : Prop := ∀ x ∈ l, 0 ≤ x ∧ x < 65536
theorem U16L.getD {l : List Int} (h : U16L l) (i : Nat) : 0 ≤ l.getD i 0 ∧ l.getD i 0 < 65536 := by
  rw [List.getD_eq_getElem?_getD]
  cases e : l[i]? with
  | none => exact ⟨by simp, by simp⟩
  | some x => exact h x (List.mem_of_getElem? e)
theorem to4_eq {k : Nat} {u : List Int} (hu : U16L u) (hk : k ≤ 500) (i : Nat) : to4 k u (tt k u i : Nat) (i : Nat) = (tt k u (i + 1) : Nat) := by
  have h := tt_le k u i
  have h1 := tt_le k u (i + 1)
  have hg := hu.getD i
  obtain ⟨g, hg'⟩ := Int.eq_ofNat_of_zero_le hg.1
  unfold to4
  rw [Int.toNat_natCast, hg', wrap_i64 (x := (g : Int)) (by omega) (by omega), wrap_i64 (x := (k : Int) - _) (by omega) (by omega), wrap_i64 (x := (k : Int) - _ + 1) (by omega) (by omega),
    Int.tmod_eq_emod_of_nonneg (by omega)]
  have e : ((tt k u i : Nat) : Int) + (g : Int) % ((k : Int) - (tt k u i : Nat) + 1) = (tt k u (i + 1) : Nat) := by
    show _ = ((tt k u i + (u.getD i 0).toNat % (k - tt k u i + 1) : Nat) : Int)
    rw [hg', Int.toNat_natCast, Int.natCast_add, Int.natCast_emod]
    congr 2; omega
  rw [e, wrap_i64 (by omega) (by omega)]
theorem take_part (b : List Int) {s t : Nat} (h : s ≤ t) : b.take s ++ sub b s (t - s) = b.take t := by
  unfold sub
  rw [show t = s + (t - s) from by omega, List.take_add]
  congr 2; omega
theorem sub_len {b : List Int} {s t : Nat} (h : s ≤ t) (ht : t ≤ b.length) : (sub b s (t - s)).length = t - s := by
  unfold sub; rw [List.length_take, List.length_drop]; omega
abbrev St4 (c : List Int → List Int → List Int) (b : List Int) (u : List Int) (i : Nat) : St :=
  inv4 b.length b u.length u (tS c firstL (b.take (tt b.length u i))) (tN (b.take (tt b.length u i))) (tR (b.take (tt b.length u i))) (tM (b.take (tt b.length u i))) (tt b.length u i : Nat) (i : Nat)
theorem fit_sc {xs : List MV} (h : fitM [sK, cK] xs) : ∃ a b : List Int, xs = [.s a.length a, .s b.length b] := by
  match xs, h with
  | [.s k a, .s l b], h =>
    have h1 : a.length = k * 1 := h.1
    have h2 : b.length = l * 1 := h.2.1
    exact ⟨a, b, by rw [h1, h2, Nat.mul_one, Nat.mul_one]⟩
  | [.s _ _, .p _], h => exact h.2.elim
  | [.s _ _, .x _], h => exact h.2.elim
  | [.s _ _], h => exact h.2.elim
  | .s _ _ :: .s _ _ :: _ :: _, h => exact h.2.2.elim
  | .s _ _ :: .p _ :: _ :: _, h => exact h.2.elim
  | .s _ _ :: .x _ :: _ :: _, h => exact h.2.elim
  | .p _ :: _, h => exact h.elim
  | .x _ :: _, h => exact h.elim
  | [], h => exact h.elim
def roundQ {ι : Type} (Inv : ι → St) (μ : ι → Nat) (ok : ι → Prop) (id : Nat) (b : Bool) (out out' : Ex × St) (i : ι) : Ex × St → Prop := fun r => match r.1 with
  | .normal => ∃ i', ok i' ∧ r.2 = Inv i' ∧ μ i' < μ i
  | .exit j => (afterX id (.exit j), r.2) = cond b out out'
  | .ret => (Ex.ret, r.2) = cond b out out'
theorem loop_ruleG {P : Program} {Γ : Gam} {cx : Cx} {draw : Array Oper → St → T St} {bl : Blocks} (hc : CxOk P Γ.G cx) (hg : GlobOk Γ) (h0 : Γ.G Γ.w0) (hn0 : Γ.n0 = 0) (hd : DrawOk P Γ draw) {id : Nat} {body : Code} (hbl : BlocksIn P Γ bl body) {ι : Type} (Inv : ι → St) (μ : ι → Nat) (ok : ι → Prop) (b : Bool) (out out' : Ex × St) (fuel : Nat) (ks js rs : Fh)
    (round : ∀ i, ok i → Gd (endV ks js rs (exec cx draw bl fuel body (Inv i))) (roundQ Inv μ ok id b out out' i)) (i : ι) (hi : ok i) :
    ∀ S e S', T.Reach (loopV ks (Inv i) b out out' S) (e, S') → Go.Sx.Comes P Γ (.block id (.loop body)) S e S' :=
  loop_ruleV hc hg h0 hn0 hd hbl Inv μ ok b out out' fuel ks js rs (fun i hi => (round i hi).good) i hi
section
variable (c : List Int → List Int → List Int) {b u : List Int}
/-- A round of the loop over the cuts. -/
theorem good4 (hu : U16L u) (hb : b.length ≤ 500) (i : Nat) (hi : i ≤ min u.length 8) : Gd (endV ks4 js4 js4 (exec (cxL c) (drawS (cxL c)) no 100 lp4 (St4 c b u i))) (roundQ (St4 c b u) (fun i => 8 - i) (fun i => i ≤ min u.length 8) 0 true (.normal, St4 c b u (min u.length 8)) (.normal, St4 c b u (min u.length 8)) i) := by
  by_cases hq : i < u.length
  · by_cases h8 : i < 8
    · have ht := tt_le b.length u i
      have ht1 := tt_le b.length u (i + 1)
      have hm : tt b.length u i ≤ tt b.length u (i + 1) := Nat.le_add_right _ _
      have e := to4_eq (k := b.length) hu hb i
      have hla : (b.take (tt b.length u i)).length = tt b.length u i := by rw [List.length_take]; omega
      have hn := tN_lt (b.take (tt b.length u i))
      have el : len4 b.length u (tt b.length u i : Nat) (i : Nat) = tt b.length u (i + 1) - tt b.length u i := by unfold len4; rw [e]; rfl
      have ep : part4 b.length b u (tt b.length u i : Nat) (i : Nat) = sub b (tt b.length u i) (tt b.length u (i + 1) - tt b.length u i) := by
        unfold part4; rw [el, Int.toNat_natCast, Nat.mul_one, Nat.mul_one]
      have hpl := sub_len hm ht1
      have hlt : (b.take (tt b.length u i)).length + (sub b (tt b.length u i) (tt b.length u (i + 1) - tt b.length u i)).length < 1000000 := by rw [hla, hpl]; omega
      have eS := more_S c firstL hlt
      have eN := more_N hlt
      have eR := more_R hlt
      have eM := more_M hlt
      rw [hpl, take_part b hm] at eS eN eR eM
      refine Gd.of_run (round4 c b.length b u.length u _ _ _ _ _ _) ⟨by simpa using hq, by simp; omega, ⟨by omega, by omega⟩, by omega, ?_, ?_, ?_, ?_, i + 1, show i + 1 ≤ _ by omega, ?_, show 8 - (i + 1) < 8 - i by omega⟩
      · rw [wrap_i64 (x := ((b.length : Nat) : Int) - _) (by omega) (by omega), wrap_i64 (by omega) (by omega)]; omega
      · rw [e]; omega
      · rw [el]; omega
      · rw [more_E (by rw [hla]; omega)]; rfl
      · rw [el, ep, e, eS, eN, eR, eM, wrap_i64 (by omega) (by omega)]; rfl
    · obtain rfl : i = 8 := by omega
      refine Gd.of_run (round4y c b.length b u.length u _ _ _ _ _ _) ⟨by simp; omega, by simp, ?_⟩
      show (afterX 0 (.exit 0), _) = _
      rw [show min u.length 8 = 8 from by omega]; rfl
  · obtain rfl : i = u.length := by omega
    refine Gd.of_run (round4x c b.length b u.length u _ _ _ _ _ _) ⟨by simp, ?_⟩
    show (afterX 0 (.exit 0), _) = _
    rw [show min u.length 8 = u.length from by omega]; rfl
end
section
variable (c : List Int → List Int → List Int) (b u : List Int)
theorem start4 : inv4 b.length b u.length u firstL 0 [] 0 0 0 = St4 c b u 0 := by
  unfold St4
  rw [show b.take (tt b.length u 0) = [] from rfl, tS_nil, tN_nil, tR_nil, tM_nil]
  rfl
noncomputable abbrev b4 (e : Nat) : Blocks := bl4 b.length b u.length u (tS c firstL (b.take (tt b.length u e))) (tN (b.take (tt b.length u e))) (tR (b.take (tt b.length u e))) (tM (b.take (tt b.length u e))) (tt b.length u e : Nat) (e : Nat)
variable {Γ : Gam}
theorem bl4_in (hcx : CxOk Tryd.prog Γ.G (cxL c)) (h0 : Γ.G Γ.w0) (hg : GlobOk Γ) (hn0 : Γ.n0 = 0) (hu : U16L u) (hb : b.length ≤ 500) : BlocksIn Tryd.prog Γ (b4 c b u (min u.length 8)) (body Tryd.f4) := by
  unfold b4 bl4
  rw [start4 c b u]
  exact blOne_in blks4 (loop_ruleG hcx hg h0 hn0 (drawS_sound hcx hg h0) (bl := no) (blocksIn_none _) (St4 c b u) (fun i => 8 - i) (fun i => i ≤ min u.length 8) true (.normal, St4 c b u (min u.length 8)) (.normal, St4 c b u (min u.length 8)) 100 ks4 js4 js4 (good4 c hu hb) 0 (Nat.zero_le _))
end
abbrev pre4 : List MV → Prop := fun | [.s _ _, .s _ u] => U16L u | _ => False
abbrev lawC4 : MSpec := ctM [sK, cK] pre4 [bK] (fun _ => [.p (.b true)])
theorem fn4 : FnmS Tryd.prog GW 4 lawC4 :=
  fnm_run cxL_ok gW Tryd.func4 rfl (Go.Sx.enters_of Tryd.func4 (by kernel_rfl) (by kernel_rfl)) (fuel := 200) (by decide) fun xs zs hfit hp _ => by
    obtain ⟨b, u, rfl⟩ := fit_sc hfit
    have hu : U16L u := hp
    by_cases hb : b.length ≤ 500
    · have hb' : decide ((b.length : Int) > 500) = false := by simp; omega
      have ht := tt_le b.length u (min u.length 8)
      have hla : (b.take (tt b.length u (min u.length 8))).length = tt b.length u (min u.length 8) := by rw [List.length_take]; omega
      have hn := tN_lt (b.take (tt b.length u (min u.length 8)))
      have hnb := tN_lt b
      have rb : 0 ≤ tM b ∧ tM b < 18446744073709551616 := by unfold tM; omega
      have el : lz4 b.length (tt b.length u (min u.length 8) : Nat) = b.length - tt b.length u (min u.length 8) := rfl
      have ep : pz4 b.length b (tt b.length u (min u.length 8) : Nat) = sub b (tt b.length u (min u.length 8)) (b.length - tt b.length u (min u.length 8)) := by
        unfold pz4; rw [el, Int.toNat_natCast, Nat.mul_one, Nat.mul_one]
      have hpl := sub_len (b := b) ht (Nat.le_refl _)
      have hlt : (b.take (tt b.length u (min u.length 8))).length + (sub b (tt b.length u (min u.length 8)) (b.length - tt b.length u (min u.length 8))).length < 1000000 := by rw [hla, hpl]; omega
      have eS := more_S (compV constL) firstL hlt
      have eN := more_N hlt
      have eR := more_R hlt
      have eM := more_M hlt
      rw [hpl, take_part b ht, List.take_length] at eS eN eR eM
      refine ⟨b4 (compV constL) b u (min u.length 8), fun Γ hG h0 hg hn0 => bl4_in (compV constL) b u (hG ▸ cxL_ok) h0 hg hn0 hu hb,
        Gd.of_run (run4b (compV constL) b.length b u.length u _ _ _ _ _ _ zs) ⟨trivial, hb', trivial, rfl, rfl, by omega, by rw [el]; omega, ?_, ?_, rfl, ?_, ?_, ?_, by omega, ?_, beq_self_eq_true _, ?_, ?_⟩⟩
      · rw [Nz, Mz, el, eN, eM]; exact ⟨by omega, rb⟩
      · rw [Nz, Mz, el, eN, eM]; exact ⟨by omega, rb⟩
      · rw [more_E (by rw [hla]; omega)]; rfl
      · rw [Nz, Mz, el, eN, eM, more_E (by omega)]; rfl
      · rw [Nz, Mz, el, eN, eM, more_E (by omega)]; rfl
      · rw [Sz, Nz, Rz, Mz, ep, el, eS, eN, eR, eM, sumV_t _ (by omega)]; exact beq_self_eq_true _
      · rw [strEq_refl]; rfl
      · rw [Mz, el, eM, W_nat (by omega)]
        show [MV.p (AV.b _)] = _
        rw [show (tM b == ((b.length : Nat) : Int)) = true from beq_self_eq_true _]
    · exact ⟨blNone 0, fun Γ _ _ _ _ => blNone_in blks4, Gd.of_run (run4a (compV constL) b.length b u.length u zs) ⟨trivial, by simp; omega, rfl⟩⟩
end Go.Proofs.YtdlhklnpnpmibaaDoor

/- WideParts: what the row's own data tell of the numbers. -/
namespace Go.Proofs.YtdlhklnpnpmibaaDoor
open Go Go.Sx Go.Sh
theorem u16_has {l : List Int} (h : hasL .u16 l) : U16L l := fun x hx => by
  have := h x hx
  simp only [IntKind.has, IntKind.min, IntKind.max, IntKind.signed, IntKind.bits] at this
  simp at this
  omega
theorem pre4_of {xs : List MV} (hfit : fitM [sK, cK] xs) (h : hasM [sK, cK] xs) : pre4 xs := by
  obtain ⟨b, u, rfl⟩ := fit_sc hfit
  have h1 : hasL .u16 u := h.2.1
  exact u16_has h1
end Go.Proofs.YtdlhklnpnpmibaaDoor
