/- What the symbolic layer is told of the types of this translation: made by program. -/
import Derived.Test.YtdmphnfpcblfnaaDoorChecked
import Derived.Test.YtdmphnfpcblfnaaDoorSxN
import Derived.KernelRfl
namespace Go.Proofs.YtdmphnfpcblfnaaDoor
open Go.Sx
set_option maxRecDepth 100000
noncomputable def ty2 : TyI := ⟨(.int .i64), 1, 8, (.lit .i64 0), false⟩
noncomputable def ty3 : TyI := ⟨(.int .i64), 1, 8, (.lit .i64 0), false⟩
noncomputable def ty4 : TyI := ⟨.bool, 1, 1, .ff, false⟩
noncomputable def ty5 : TyI := ⟨(.int .u8), 1, 1, (.lit .u8 0), false⟩
noncomputable def ty9 : TyI := ⟨.string, 1, 16, (.raw (.string ByteArray.empty)), false⟩
noncomputable def ty12 : TyI := ⟨(.int .u64), 1, 8, (.lit .u64 0), false⟩
noncomputable def ty13 : TyI := ⟨(undD Tryd.prog 13), 2, 24, (.agg [.raw (.string ByteArray.empty), .ints .u64 1 [0]]), false⟩
noncomputable def ty21 : TyI := ⟨(.int .i32), 1, 4, (.lit .i32 0), false⟩
noncomputable def ty22 : TyI := ⟨(.int .u64), 1, 8, (.lit .u64 0), false⟩
noncomputable def ty23 : TyI := ⟨(.array 4 22), 4, 32, (.ints .u64 4 [0, 0, 0, 0]), true⟩
noncomputable def ty24 : TyI := ⟨(.array 4 22), 4, 32, (.ints .u64 4 [0, 0, 0, 0]), true⟩
noncomputable def ty25 : TyI := ⟨(.array 32 5), 32, 32, (.ints .u8 32 [0, 0, 0, 0, 0, 0, 0, 0, 0, 0, 0, 0, 0, 0, 0, 0, 0, 0, 0, 0, 0, 0, 0, 0, 0, 0, 0, 0, 0, 0, 0, 0]), true⟩
noncomputable def ty38 : TyI := ⟨(.array 4 22), 4, 32, (.ints .u64 4 [0, 0, 0, 0]), true⟩
noncomputable def ty39 : TyI := ⟨(.array 64 5), 64, 64, (.ints .u8 64 [0, 0, 0, 0, 0, 0, 0, 0, 0, 0, 0, 0, 0, 0, 0, 0, 0, 0, 0, 0, 0, 0, 0, 0, 0, 0, 0, 0, 0, 0, 0, 0, 0, 0, 0, 0, 0, 0, 0, 0, 0, 0, 0, 0, 0, 0, 0, 0, 0, 0, 0, 0, 0, 0, 0, 0, 0, 0, 0, 0, 0, 0, 0, 0]), true⟩
noncomputable def ty54 : TyI := ⟨(.array 8 22), 8, 64, (.ints .u64 8 [0, 0, 0, 0, 0, 0, 0, 0]), true⟩
noncomputable def ty56 : TyI := ⟨(.array 16 22), 16, 128, (.ints .u64 16 [0, 0, 0, 0, 0, 0, 0, 0, 0, 0, 0, 0, 0, 0, 0, 0]), true⟩
noncomputable def ty58 : TyI := ⟨(.array 32 22), 32, 256, (.ints .u64 32 [0, 0, 0, 0, 0, 0, 0, 0, 0, 0, 0, 0, 0, 0, 0, 0, 0, 0, 0, 0, 0, 0, 0, 0, 0, 0, 0, 0, 0, 0, 0, 0]), true⟩
noncomputable def ty59 : TyI := ⟨(.int .u64), 1, 8, (.lit .u64 0), false⟩
noncomputable def ty69 : TyI := ⟨(.slice 5), 1, 24, (.raw (.slice none 0 0)), false⟩
noncomputable def ty70 : TyI := ⟨(.array 8 5), 8, 8, (.ints .u8 8 [0, 0, 0, 0, 0, 0, 0, 0]), true⟩
noncomputable def ty73 : TyI := ⟨(.slice 22), 1, 24, (.raw (.slice none 0 0)), false⟩
noncomputable def ty81 : TyI := ⟨(.int .u32), 1, 4, (.lit .u32 0), false⟩
noncomputable def ty85 : TyI := ⟨(.pointer 5), 1, 8, (.raw (.pointer none)), false⟩
noncomputable def tabL : List (Nat × TyI) := [(2, ty2), (3, ty3), (4, ty4), (5, ty5), (9, ty9), (12, ty12), (13, ty13), (21, ty21), (22, ty22), (23, ty23), (24, ty24), (25, ty25), (38, ty38), (39, ty39), (54, ty54), (56, ty56), (58, ty58), (59, ty59), (69, ty69), (70, ty70), (73, ty73), (81, ty81), (85, ty85)]
theorem ty2_ok : TyOk Tryd.prog 2 ty2 := tyOk_of (by kernel_rfl) (by kernel_rfl) (fun ρ => by kernel_rfl) (by simp [ty2, wf]) (fun p => by simp [ty2, SV.ids]) (fun h => by cases h)
theorem ty3_ok : TyOk Tryd.prog 3 ty3 := tyOk_of (by kernel_rfl) (by kernel_rfl) (fun ρ => by kernel_rfl) (by simp [ty3, wf]) (fun p => by simp [ty3, SV.ids]) (fun h => by cases h)
theorem ty4_ok : TyOk Tryd.prog 4 ty4 := tyOk_of (by kernel_rfl) (by kernel_rfl) (fun ρ => by kernel_rfl) (by simp [ty4, wf]) (fun p => by simp [ty4, SV.ids]) (fun h => by cases h)
theorem ty5_ok : TyOk Tryd.prog 5 ty5 := tyOk_of (by kernel_rfl) (by kernel_rfl) (fun ρ => by kernel_rfl) (by simp [ty5, wf]) (fun p => by simp [ty5, SV.ids]) (fun h => by cases h)
theorem ty9_ok : TyOk Tryd.prog 9 ty9 := tyOk_of (by kernel_rfl) (by kernel_rfl) (fun ρ => by kernel_rfl) (by simp [ty9, wf]) (fun p => by simp [ty9, SV.ids]) (fun h => by cases h)
theorem ty12_ok : TyOk Tryd.prog 12 ty12 := tyOk_of (by kernel_rfl) (by kernel_rfl) (fun ρ => by kernel_rfl) (by simp [ty12, wf]) (fun p => by simp [ty12, SV.ids]) (fun h => by cases h)
theorem ty13_ok : TyOk Tryd.prog 13 ty13 := tyOk_of (by kernel_rfl) (by kernel_rfl) (fun ρ => by kernel_rfl) (by simp [ty13, wf, isAtom, atomsL, one]) (fun p => by simp [ty13, SV.ids, idsL]) (fun h => by cases h)
theorem ty21_ok : TyOk Tryd.prog 21 ty21 := tyOk_of (by kernel_rfl) (by kernel_rfl) (fun ρ => by kernel_rfl) (by simp [ty21, wf]) (fun p => by simp [ty21, SV.ids]) (fun h => by cases h)
theorem ty22_ok : TyOk Tryd.prog 22 ty22 := tyOk_of (by kernel_rfl) (by kernel_rfl) (fun ρ => by kernel_rfl) (by simp [ty22, wf]) (fun p => by simp [ty22, SV.ids]) (fun h => by cases h)
theorem ty23_ok : TyOk Tryd.prog 23 ty23 := tyOk_of (by kernel_rfl) (by kernel_rfl) (fun ρ => by kernel_rfl) (by simp [ty23, wf]) (fun p => by simp [ty23, SV.ids]) (fun _ => ⟨by kernel_rfl, by kernel_rfl, fun fs h => by cases h⟩)
theorem ty24_ok : TyOk Tryd.prog 24 ty24 := tyOk_of (by kernel_rfl) (by kernel_rfl) (fun ρ => by kernel_rfl) (by simp [ty24, wf]) (fun p => by simp [ty24, SV.ids]) (fun _ => ⟨by kernel_rfl, by kernel_rfl, fun fs h => by cases h⟩)
theorem ty25_ok : TyOk Tryd.prog 25 ty25 := tyOk_of (by kernel_rfl) (by kernel_rfl) (fun ρ => by kernel_rfl) (by simp [ty25, wf]) (fun p => by simp [ty25, SV.ids]) (fun _ => ⟨by kernel_rfl, by kernel_rfl, fun fs h => by cases h⟩)
theorem ty38_ok : TyOk Tryd.prog 38 ty38 := tyOk_of (by kernel_rfl) (by kernel_rfl) (fun ρ => by kernel_rfl) (by simp [ty38, wf]) (fun p => by simp [ty38, SV.ids]) (fun _ => ⟨by kernel_rfl, by kernel_rfl, fun fs h => by cases h⟩)
theorem ty39_ok : TyOk Tryd.prog 39 ty39 := tyOk_of (by kernel_rfl) (by kernel_rfl) (fun ρ => by kernel_rfl) (by simp [ty39, wf]) (fun p => by simp [ty39, SV.ids]) (fun _ => ⟨by kernel_rfl, by kernel_rfl, fun fs h => by cases h⟩)
theorem ty54_ok : TyOk Tryd.prog 54 ty54 := tyOk_of (by kernel_rfl) (by kernel_rfl) (fun ρ => by kernel_rfl) (by simp [ty54, wf]) (fun p => by simp [ty54, SV.ids]) (fun _ => ⟨by kernel_rfl, by kernel_rfl, fun fs h => by cases h⟩)
theorem ty56_ok : TyOk Tryd.prog 56 ty56 := tyOk_of (by kernel_rfl) (by kernel_rfl) (fun ρ => by kernel_rfl) (by simp [ty56, wf]) (fun p => by simp [ty56, SV.ids]) (fun _ => ⟨by kernel_rfl, by kernel_rfl, fun fs h => by cases h⟩)
theorem ty58_ok : TyOk Tryd.prog 58 ty58 := tyOk_of (by kernel_rfl) (by kernel_rfl) (fun ρ => by kernel_rfl) (by simp [ty58, wf]) (fun p => by simp [ty58, SV.ids]) (fun _ => ⟨by kernel_rfl, by kernel_rfl, fun fs h => by cases h⟩)
theorem ty59_ok : TyOk Tryd.prog 59 ty59 := tyOk_of (by kernel_rfl) (by kernel_rfl) (fun ρ => by kernel_rfl) (by simp [ty59, wf]) (fun p => by simp [ty59, SV.ids]) (fun h => by cases h)
theorem ty69_ok : TyOk Tryd.prog 69 ty69 := tyOk_of (by kernel_rfl) (by kernel_rfl) (fun ρ => by kernel_rfl) (by simp [ty69, wf]) (fun p => by simp [ty69, SV.ids]) (fun h => by cases h)
theorem ty70_ok : TyOk Tryd.prog 70 ty70 := tyOk_of (by kernel_rfl) (by kernel_rfl) (fun ρ => by kernel_rfl) (by simp [ty70, wf]) (fun p => by simp [ty70, SV.ids]) (fun _ => ⟨by kernel_rfl, by kernel_rfl, fun fs h => by cases h⟩)
theorem ty73_ok : TyOk Tryd.prog 73 ty73 := tyOk_of (by kernel_rfl) (by kernel_rfl) (fun ρ => by kernel_rfl) (by simp [ty73, wf]) (fun p => by simp [ty73, SV.ids]) (fun h => by cases h)
theorem ty81_ok : TyOk Tryd.prog 81 ty81 := tyOk_of (by kernel_rfl) (by kernel_rfl) (fun ρ => by kernel_rfl) (by simp [ty81, wf]) (fun p => by simp [ty81, SV.ids]) (fun h => by cases h)
theorem ty85_ok : TyOk Tryd.prog 85 ty85 := tyOk_of (by kernel_rfl) (by kernel_rfl) (fun ρ => by kernel_rfl) (by simp [ty85, wf]) (fun p => by simp [ty85, SV.ids]) (fun h => by cases h)
theorem tab_ok : TabOk Tryd.prog (tabOf tabL) := tabOk_of (by
  intro x hx
  simp only [tabL, List.mem_cons, List.mem_nil_iff, or_false] at hx
  rcases hx with rfl | rfl | rfl | rfl | rfl | rfl | rfl | rfl | rfl | rfl | rfl | rfl | rfl | rfl | rfl | rfl | rfl | rfl | rfl | rfl | rfl | rfl | rfl
  · exact ty2_ok
  · exact ty3_ok
  · exact ty4_ok
  · exact ty5_ok
  · exact ty9_ok
  · exact ty12_ok
  · exact ty13_ok
  · exact ty21_ok
  · exact ty22_ok
  · exact ty23_ok
  · exact ty24_ok
  · exact ty25_ok
  · exact ty38_ok
  · exact ty39_ok
  · exact ty54_ok
  · exact ty56_ok
  · exact ty58_ok
  · exact ty59_ok
  · exact ty69_ok
  · exact ty70_ok
  · exact ty73_ok
  · exact ty81_ok
  · exact ty85_ok)
end Go.Proofs.YtdmphnfpcblfnaaDoor
