import Derived.Test.YtkhooaaidmoogaaDoorChecked
import Derived.Test.YtkhooaaidmoogaaDoorMb
import Derived.KernelRfl
/- What the symbolic layer is told of the types of this translation: made by program. -/
namespace Go.Proofs.YtkhooaaidmoogaaDoor
open Go.Sx
set_option maxRecDepth 100000
noncomputable def ty2 : TyI := ⟨(.int .i64), 1, 8, (.lit .i64 0), false⟩
noncomputable def ty3 : TyI := ⟨(.int .i64), 1, 8, (.lit .i64 0), false⟩
noncomputable def ty4 : TyI := ⟨.bool, 1, 1, .ff, false⟩
noncomputable def ty5 : TyI := ⟨(.int .u8), 1, 1, (.lit .u8 0), false⟩
noncomputable def ty9 : TyI := ⟨.string, 1, 16, (.raw (.string ByteArray.empty)), false⟩
noncomputable def ty12 : TyI := ⟨(.int .u64), 1, 8, (.lit .u64 0), false⟩
noncomputable def ty13 : TyI := ⟨(undD Tryd.prog 13), 2, 24, (.agg [.raw (.string ByteArray.empty), .ints .u64 1 [0]]), false⟩
noncomputable def ty21 : TyI := ⟨(.int .i32), 1, 4, (.lit .i32 0), false⟩
noncomputable def ty22 : TyI := ⟨(.int .u64), 1, 8, (.lit .u64 0), false⟩
noncomputable def ty23 : TyI := ⟨(.array 4 22), 4, 32, (.ints .u64 4 [0, 0, 0, 0]), true⟩
noncomputable def ty24 : TyI := ⟨(.array 4 22), 4, 32, (.ints .u64 4 [0, 0, 0, 0]), true⟩
noncomputable def ty25 : TyI := ⟨(undD Tryd.prog 25), 8, 64, (.agg [.ints .u64 4 [0, 0, 0, 0], .ints .u64 4 [0, 0, 0, 0]]), true⟩
noncomputable def ty26 : TyI := ⟨(undD Tryd.prog 26), 8, 64, (.agg [.ints .u64 4 [0, 0, 0, 0], .ints .u64 4 [0, 0, 0, 0]]), true⟩
noncomputable def ty32 : TyI := ⟨(.array 4 22), 4, 32, (.ints .u64 4 [0, 0, 0, 0]), true⟩
noncomputable def ty45 : TyI := ⟨(undD Tryd.prog 45), 12, 96, (.agg [.ints .u64 4 [0, 0, 0, 0], .ints .u64 4 [0, 0, 0, 0], .ints .u64 4 [0, 0, 0, 0]]), true⟩
noncomputable def ty46 : TyI := ⟨(undD Tryd.prog 46), 12, 96, (.agg [.ints .u64 4 [0, 0, 0, 0], .ints .u64 4 [0, 0, 0, 0], .ints .u64 4 [0, 0, 0, 0]]), true⟩
noncomputable def ty47 : TyI := ⟨(undD Tryd.prog 47), 16, 128, (.agg [.ints .u64 4 [0, 0, 0, 0], .ints .u64 4 [0, 0, 0, 0], .ints .u64 4 [0, 0, 0, 0], .ints .u64 4 [0, 0, 0, 0]]), true⟩
noncomputable def ty48 : TyI := ⟨(undD Tryd.prog 48), 16, 128, (.agg [.ints .u64 4 [0, 0, 0, 0], .ints .u64 4 [0, 0, 0, 0], .ints .u64 4 [0, 0, 0, 0], .ints .u64 4 [0, 0, 0, 0]]), true⟩
noncomputable def ty52 : TyI := ⟨(.array 32 5), 32, 32, (.ints .u8 32 [0, 0, 0, 0, 0, 0, 0, 0, 0, 0, 0, 0, 0, 0, 0, 0, 0, 0, 0, 0, 0, 0, 0, 0, 0, 0, 0, 0, 0, 0, 0, 0]), true⟩
noncomputable def ty55 : TyI := ⟨(undD Tryd.prog 55), 12, 96, (.agg [.ints .u64 4 [0, 0, 0, 0], .ints .u64 4 [0, 0, 0, 0], .ints .u64 4 [0, 0, 0, 0]]), true⟩
noncomputable def ty56 : TyI := ⟨(undD Tryd.prog 56), 12, 96, (.agg [.ints .u64 4 [0, 0, 0, 0], .ints .u64 4 [0, 0, 0, 0], .ints .u64 4 [0, 0, 0, 0]]), true⟩
noncomputable def ty58 : TyI := ⟨(.int .u64), 1, 8, (.lit .u64 0), false⟩
noncomputable def ty63 : TyI := ⟨(.array 8 22), 8, 64, (.ints .u64 8 [0, 0, 0, 0, 0, 0, 0, 0]), true⟩
noncomputable def ty72 : TyI := ⟨(.array 16 22), 16, 128, (.ints .u64 16 [0, 0, 0, 0, 0, 0, 0, 0, 0, 0, 0, 0, 0, 0, 0, 0]), true⟩
noncomputable def ty74 : TyI := ⟨(.array 32 22), 32, 256, (.ints .u64 32 [0, 0, 0, 0, 0, 0, 0, 0, 0, 0, 0, 0, 0, 0, 0, 0, 0, 0, 0, 0, 0, 0, 0, 0, 0, 0, 0, 0, 0, 0, 0, 0]), true⟩
noncomputable def ty76 : TyI := ⟨(.array 8 5), 8, 8, (.ints .u8 8 [0, 0, 0, 0, 0, 0, 0, 0]), true⟩
noncomputable def ty77 : TyI := ⟨(.slice 5), 1, 24, (.raw (.slice none 0 0)), false⟩
noncomputable def ty80 : TyI := ⟨(.slice 22), 1, 24, (.raw (.slice none 0 0)), false⟩
noncomputable def ty91 : TyI := ⟨(.int .u32), 1, 4, (.lit .u32 0), false⟩
noncomputable def ty95 : TyI := ⟨(.pointer 5), 1, 8, (.raw (.pointer none)), false⟩
noncomputable def tabL : List (Nat × TyI) := [(2, ty2), (3, ty3), (4, ty4), (5, ty5), (9, ty9), (12, ty12), (13, ty13), (21, ty21), (22, ty22), (23, ty23), (24, ty24), (25, ty25), (26, ty26), (32, ty32), (45, ty45), (46, ty46), (47, ty47), (48, ty48), (52, ty52), (55, ty55), (56, ty56), (58, ty58), (63, ty63), (72, ty72), (74, ty74), (76, ty76), (77, ty77), (80, ty80), (91, ty91), (95, ty95)]
theorem ty2_ok : TyOk Tryd.prog 2 ty2 := tyOk_of (by kernel_rfl) (by kernel_rfl) (fun ρ => by kernel_rfl) (by simp [ty2, wf, isAtom, atomsL, one]) (fun p => by simp [ty2, SV.ids, idsL]) (fun h => by cases h)
theorem ty3_ok : TyOk Tryd.prog 3 ty3 := tyOk_of (by kernel_rfl) (by kernel_rfl) (fun ρ => by kernel_rfl) (by simp [ty3, wf, isAtom, atomsL, one]) (fun p => by simp [ty3, SV.ids, idsL]) (fun h => by cases h)
theorem ty4_ok : TyOk Tryd.prog 4 ty4 := tyOk_of (by kernel_rfl) (by kernel_rfl) (fun ρ => by kernel_rfl) (by simp [ty4, wf, isAtom, atomsL, one]) (fun p => by simp [ty4, SV.ids, idsL]) (fun h => by cases h)
theorem ty5_ok : TyOk Tryd.prog 5 ty5 := tyOk_of (by kernel_rfl) (by kernel_rfl) (fun ρ => by kernel_rfl) (by simp [ty5, wf, isAtom, atomsL, one]) (fun p => by simp [ty5, SV.ids, idsL]) (fun h => by cases h)
theorem ty9_ok : TyOk Tryd.prog 9 ty9 := tyOk_of (by kernel_rfl) (by kernel_rfl) (fun ρ => by kernel_rfl) (by simp [ty9, wf, isAtom, atomsL, one]) (fun p => by simp [ty9, SV.ids, idsL]) (fun h => by cases h)
theorem ty12_ok : TyOk Tryd.prog 12 ty12 := tyOk_of (by kernel_rfl) (by kernel_rfl) (fun ρ => by kernel_rfl) (by simp [ty12, wf, isAtom, atomsL, one]) (fun p => by simp [ty12, SV.ids, idsL]) (fun h => by cases h)
theorem ty13_ok : TyOk Tryd.prog 13 ty13 := tyOk_of (by kernel_rfl) (by kernel_rfl) (fun ρ => by kernel_rfl) (by simp [ty13, wf, isAtom, atomsL, one]) (fun p => by simp [ty13, SV.ids, idsL]) (fun h => by cases h)
theorem ty21_ok : TyOk Tryd.prog 21 ty21 := tyOk_of (by kernel_rfl) (by kernel_rfl) (fun ρ => by kernel_rfl) (by simp [ty21, wf, isAtom, atomsL, one]) (fun p => by simp [ty21, SV.ids, idsL]) (fun h => by cases h)
theorem ty22_ok : TyOk Tryd.prog 22 ty22 := tyOk_of (by kernel_rfl) (by kernel_rfl) (fun ρ => by kernel_rfl) (by simp [ty22, wf, isAtom, atomsL, one]) (fun p => by simp [ty22, SV.ids, idsL]) (fun h => by cases h)
theorem ty23_ok : TyOk Tryd.prog 23 ty23 := tyOk_of (by kernel_rfl) (by kernel_rfl) (fun ρ => by kernel_rfl) (by simp [ty23, wf, isAtom, atomsL, one]) (fun p => by simp [ty23, SV.ids, idsL]) (fun _ => ⟨by kernel_rfl, by kernel_rfl, fun fs h => by cases h⟩)
theorem ty24_ok : TyOk Tryd.prog 24 ty24 := tyOk_of (by kernel_rfl) (by kernel_rfl) (fun ρ => by kernel_rfl) (by simp [ty24, wf, isAtom, atomsL, one]) (fun p => by simp [ty24, SV.ids, idsL]) (fun _ => ⟨by kernel_rfl, by kernel_rfl, fun fs h => by cases h⟩)
theorem ty25_ok : TyOk Tryd.prog 25 ty25 := tyOk_of (by kernel_rfl) (by kernel_rfl) (fun ρ => by kernel_rfl) (by simp [ty25, wf, isAtom, atomsL, one]) (fun p => by simp [ty25, SV.ids, idsL]) (fun _ => ⟨by kernel_rfl, by kernel_rfl, names_of (fs := fieldsD Tryd.prog 25) rfl (by kernel_rfl)⟩)
theorem ty26_ok : TyOk Tryd.prog 26 ty26 := tyOk_of (by kernel_rfl) (by kernel_rfl) (fun ρ => by kernel_rfl) (by simp [ty26, wf, isAtom, atomsL, one]) (fun p => by simp [ty26, SV.ids, idsL]) (fun _ => ⟨by kernel_rfl, by kernel_rfl, names_of (fs := fieldsD Tryd.prog 26) rfl (by kernel_rfl)⟩)
theorem ty32_ok : TyOk Tryd.prog 32 ty32 := tyOk_of (by kernel_rfl) (by kernel_rfl) (fun ρ => by kernel_rfl) (by simp [ty32, wf, isAtom, atomsL, one]) (fun p => by simp [ty32, SV.ids, idsL]) (fun _ => ⟨by kernel_rfl, by kernel_rfl, fun fs h => by cases h⟩)
theorem ty45_ok : TyOk Tryd.prog 45 ty45 := tyOk_of (by kernel_rfl) (by kernel_rfl) (fun ρ => by kernel_rfl) (by simp [ty45, wf, isAtom, atomsL, one]) (fun p => by simp [ty45, SV.ids, idsL]) (fun _ => ⟨by kernel_rfl, by kernel_rfl, names_of (fs := fieldsD Tryd.prog 45) rfl (by kernel_rfl)⟩)
theorem ty46_ok : TyOk Tryd.prog 46 ty46 := tyOk_of (by kernel_rfl) (by kernel_rfl) (fun ρ => by kernel_rfl) (by simp [ty46, wf, isAtom, atomsL, one]) (fun p => by simp [ty46, SV.ids, idsL]) (fun _ => ⟨by kernel_rfl, by kernel_rfl, names_of (fs := fieldsD Tryd.prog 46) rfl (by kernel_rfl)⟩)
theorem ty47_ok : TyOk Tryd.prog 47 ty47 := tyOk_of (by kernel_rfl) (by kernel_rfl) (fun ρ => by kernel_rfl) (by simp [ty47, wf, isAtom, atomsL, one]) (fun p => by simp [ty47, SV.ids, idsL]) (fun _ => ⟨by kernel_rfl, by kernel_rfl, names_of (fs := fieldsD Tryd.prog 47) rfl (by kernel_rfl)⟩)
theorem ty48_ok : TyOk Tryd.prog 48 ty48 := tyOk_of (by kernel_rfl) (by kernel_rfl) (fun ρ => by kernel_rfl) (by simp [ty48, wf, isAtom, atomsL, one]) (fun p => by simp [ty48, SV.ids, idsL]) (fun _ => ⟨by kernel_rfl, by kernel_rfl, names_of (fs := fieldsD Tryd.prog 48) rfl (by kernel_rfl)⟩)
theorem ty52_ok : TyOk Tryd.prog 52 ty52 := tyOk_of (by kernel_rfl) (by kernel_rfl) (fun ρ => by kernel_rfl) (by simp [ty52, wf, isAtom, atomsL, one]) (fun p => by simp [ty52, SV.ids, idsL]) (fun _ => ⟨by kernel_rfl, by kernel_rfl, fun fs h => by cases h⟩)
theorem ty55_ok : TyOk Tryd.prog 55 ty55 := tyOk_of (by kernel_rfl) (by kernel_rfl) (fun ρ => by kernel_rfl) (by simp [ty55, wf, isAtom, atomsL, one]) (fun p => by simp [ty55, SV.ids, idsL]) (fun _ => ⟨by kernel_rfl, by kernel_rfl, names_of (fs := fieldsD Tryd.prog 55) rfl (by kernel_rfl)⟩)
theorem ty56_ok : TyOk Tryd.prog 56 ty56 := tyOk_of (by kernel_rfl) (by kernel_rfl) (fun ρ => by kernel_rfl) (by simp [ty56, wf, isAtom, atomsL, one]) (fun p => by simp [ty56, SV.ids, idsL]) (fun _ => ⟨by kernel_rfl, by kernel_rfl, names_of (fs := fieldsD Tryd.prog 56) rfl (by kernel_rfl)⟩)
theorem ty58_ok : TyOk Tryd.prog 58 ty58 := tyOk_of (by kernel_rfl) (by kernel_rfl) (fun ρ => by kernel_rfl) (by simp [ty58, wf, isAtom, atomsL, one]) (fun p => by simp [ty58, SV.ids, idsL]) (fun h => by cases h)
theorem ty63_ok : TyOk Tryd.prog 63 ty63 := tyOk_of (by kernel_rfl) (by kernel_rfl) (fun ρ => by kernel_rfl) (by simp [ty63, wf, isAtom, atomsL, one]) (fun p => by simp [ty63, SV.ids, idsL]) (fun _ => ⟨by kernel_rfl, by kernel_rfl, fun fs h => by cases h⟩)
theorem ty72_ok : TyOk Tryd.prog 72 ty72 := tyOk_of (by kernel_rfl) (by kernel_rfl) (fun ρ => by kernel_rfl) (by simp [ty72, wf, isAtom, atomsL, one]) (fun p => by simp [ty72, SV.ids, idsL]) (fun _ => ⟨by kernel_rfl, by kernel_rfl, fun fs h => by cases h⟩)
theorem ty74_ok : TyOk Tryd.prog 74 ty74 := tyOk_of (by kernel_rfl) (by kernel_rfl) (fun ρ => by kernel_rfl) (by simp [ty74, wf, isAtom, atomsL, one]) (fun p => by simp [ty74, SV.ids, idsL]) (fun _ => ⟨by kernel_rfl, by kernel_rfl, fun fs h => by cases h⟩)
theorem ty76_ok : TyOk Tryd.prog 76 ty76 := tyOk_of (by kernel_rfl) (by kernel_rfl) (fun ρ => by kernel_rfl) (by simp [ty76, wf, isAtom, atomsL, one]) (fun p => by simp [ty76, SV.ids, idsL]) (fun _ => ⟨by kernel_rfl, by kernel_rfl, fun fs h => by cases h⟩)
theorem ty77_ok : TyOk Tryd.prog 77 ty77 := tyOk_of (by kernel_rfl) (by kernel_rfl) (fun ρ => by kernel_rfl) (by simp [ty77, wf, isAtom, atomsL, one]) (fun p => by simp [ty77, SV.ids, idsL]) (fun h => by cases h)
theorem ty80_ok : TyOk Tryd.prog 80 ty80 := tyOk_of (by kernel_rfl) (by kernel_rfl) (fun ρ => by kernel_rfl) (by simp [ty80, wf, isAtom, atomsL, one]) (fun p => by simp [ty80, SV.ids, idsL]) (fun h => by cases h)
theorem ty91_ok : TyOk Tryd.prog 91 ty91 := tyOk_of (by kernel_rfl) (by kernel_rfl) (fun ρ => by kernel_rfl) (by simp [ty91, wf, isAtom, atomsL, one]) (fun p => by simp [ty91, SV.ids, idsL]) (fun h => by cases h)
theorem ty95_ok : TyOk Tryd.prog 95 ty95 := tyOk_of (by kernel_rfl) (by kernel_rfl) (fun ρ => by kernel_rfl) (by simp [ty95, wf, isAtom, atomsL, one]) (fun p => by simp [ty95, SV.ids, idsL]) (fun h => by cases h)
theorem tab_ok : TabOk Tryd.prog (tabOf tabL) := tabOk_of (by
  intro x hx
  simp only [tabL, List.mem_cons, List.mem_nil_iff, or_false] at hx
  rcases hx with rfl | rfl | rfl | rfl | rfl | rfl | rfl | rfl | rfl | rfl | rfl | rfl | rfl | rfl | rfl | rfl | rfl | rfl | rfl | rfl | rfl | rfl | rfl | rfl | rfl | rfl | rfl | rfl | rfl | rfl
  · exact ty2_ok
  · exact ty3_ok
  · exact ty4_ok
  · exact ty5_ok
  · exact ty9_ok
  · exact ty12_ok
  · exact ty13_ok
  · exact ty21_ok
  · exact ty22_ok
  · exact ty23_ok
  · exact ty24_ok
  · exact ty25_ok
  · exact ty26_ok
  · exact ty32_ok
  · exact ty45_ok
  · exact ty46_ok
  · exact ty47_ok
  · exact ty48_ok
  · exact ty52_ok
  · exact ty55_ok
  · exact ty56_ok
  · exact ty58_ok
  · exact ty63_ok
  · exact ty72_ok
  · exact ty74_ok
  · exact ty76_ok
  · exact ty77_ok
  · exact ty80_ok
  · exact ty91_ok
  · exact ty95_ok)
end Go.Proofs.YtkhooaaidmoogaaDoor
