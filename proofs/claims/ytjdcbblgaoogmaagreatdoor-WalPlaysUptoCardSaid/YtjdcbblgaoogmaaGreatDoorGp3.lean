/-
  TEXTS FOR walPlays_card: Tab FormsA FormsB FormsC FormsD FormsF FormsG FormsI FormsJ FormsK FormsL.
-/
import Derived.Test.YtjdcbblgaoogmaaGreatDoorGp2
namespace Go.Proofs.YtjdcbblgaoogmaaGreatDoor.W
open Go Go.Proofs Go.Proofs.YtjdcbblgaoogmaaGreatDoor.Wx
def z1 : List Value := [.nilFunc]
def ti1 : TI := ⟨true, .fn, 1, 8, z1, []⟩
def z3 : List Value := [.int .i64 0]
def ti3 : TI := ⟨true, .int .i64, 1, 8, z3, []⟩
def z4 : List Value := [.bool false]
def ti4 : TI := ⟨true, .bool, 1, 1, z4, []⟩
def z5 : List Value := [.int .u8 0]
def ti5 : TI := ⟨true, .int .u8, 1, 1, z5, []⟩
def z9 : List Value := [.string (mkStr [])]
def ti9 : TI := ⟨true, .str, 1, 16, z9, []⟩
def z22 : List Value := [.slice none 0 0]
def ti22 : TI := ⟨true, .slice 46, 1, 24, z22, []⟩
def z25 : List Value := [.pointer none]
def ti25 : TI := ⟨true, .ptr 112, 1, 8, z25, []⟩
def z26 : List Value := [.int .i64 0]
def ti26 : TI := ⟨true, .int .i64, 1, 8, z26, []⟩
def z29 : List Value := [.pointer none]
def ti29 : TI := ⟨true, .ptr 41, 1, 8, z29, []⟩
def z33 : List Value := [.slice none 0 0]
def ti33 : TI := ⟨true, .slice 37, 1, 24, z33, []⟩
def z34 : List Value := [.slice none 0 0]
def ti34 : TI := ⟨true, .slice 9, 1, 24, z34, []⟩
def z36 : List Value := [.pointer none, .pointer none, .slice none 0 0, .slice none 0 0]
def ti36 : TI := ⟨true, .struct [(0, 25), (1, 29), (2, 33), (3, 34)], 4, 64, z36, []⟩
def z37 : List Value := [.slice none 0 0]
def ti37 : TI := ⟨true, .slice 5, 1, 24, z37, []⟩
def z38 : List Value := [.slice none 0 0]
def ti38 : TI := ⟨true, .slice 122, 1, 24, z38, []⟩
def z39 : List Value := [.slice none 0 0]
def ti39 : TI := ⟨true, .slice 4, 1, 24, z39, []⟩
def z41 : List Value := [.slice none 0 0, .slice none 0 0, .slice none 0 0, .int .i64 0, .bool false, .int .i64 0, .int .i64 0]
def ti41 : TI := ⟨true, .struct [(0, 37), (1, 38), (2, 39), (3, 3), (4, 4), (5, 3), (6, 3)], 7, 104, z41, []⟩
def z42 : List Value := [.slice none 0 0]
def ti42 : TI := ⟨true, .slice 103, 1, 24, z42, []⟩
def z44 : List Value := [.int .i64 0, .slice none 0 0]
def ti44 : TI := ⟨true, .struct [(0, 3), (1, 39)], 2, 32, z44, []⟩
def z46 : List Value := [.int .i64 0, .slice none 0 0, .int .i64 0, .int .u8 0, .slice none 0 0, .int .i64 0, .slice none 0 0]
def ti46 : TI := ⟨true, .struct [(0, 3), (1, 42), (2, 3), (3, 5), (4, 37), (5, 44)], 7, 104, z46, []⟩
def z55 : List Value := [.slice none 0 0]
def ti55 : TI := ⟨true, .slice 67, 1, 24, z55, []⟩
def z57 : List Value := [.pointer none]
def ti57 : TI := ⟨true, .ptr 135, 1, 8, z57, []⟩
def z58 : List Value := [.pointer none]
def ti58 : TI := ⟨true, .ptr 71, 1, 8, z58, []⟩
def z60 : List Value := [.pointer none, .pointer none, .pointer none, .pointer none]
def ti60 : TI := ⟨true, .struct [(0, 25), (1, 29), (2, 57), (3, 58)], 4, 32, z60, []⟩
def z62 : List Value := [.slice none 0 0]
def ti62 : TI := ⟨true, .slice 142, 1, 24, z62, []⟩
def z63 : List Value := [.slice none 0 0]
def ti63 : TI := ⟨true, .slice 137, 1, 24, z63, []⟩
def z65 : List Value := [.slice none 0 0, .slice none 0 0, .slice none 0 0]
def ti65 : TI := ⟨true, .struct [(0, 62), (1, 63), (2, 63)], 3, 72, z65, []⟩
def z67 : List Value := [.int .i64 0, .int .i64 0, .int .u8 0, .slice none 0 0, .slice none 0 0]
def ti67 : TI := ⟨true, .struct [(0, 3), (1, 3), (2, 5), (3, 37), (4, 39)], 5, 72, z67, []⟩
def z69 : List Value := [.slice none 0 0]
def ti69 : TI := ⟨true, .slice 190, 1, 24, z69, []⟩
def z71 : List Value := [.pointer none, .slice none 0 0, .bool false]
def ti71 : TI := ⟨true, .struct [(0, 29), (1, 69), (2, 4)], 3, 40, z71, []⟩
def z73 : List Value := [.slice none 0 0]
def ti73 : TI := ⟨true, .slice 87, 1, 24, z73, []⟩
def z75 : List Value := [.int .i64 0, .slice none 0 0, .int .u8 0, .slice none 0 0]
def ti75 : TI := ⟨true, .struct [(0, 3), (1, 37), (2, 5), (3, 73)], 4, 64, z75, []⟩
def z80 : List Value := [.int .i64 0, .int .i64 0, .int .i64 0, .int .i64 0, .int .i64 0]
def ti80 : TI := ⟨true, .struct [(0, 3), (1, 3), (2, 3), (3, 3), (4, 3)], 5, 40, z80, []⟩
def z84 : List Value := [.pointer none, .pointer none, .pointer none, .pointer none, .int .i64 0, .int .i64 0, .int .i64 0, .int .i64 0, .int .i64 0]
def ti84 : TI := ⟨true, .struct [(0, 25), (1, 29), (2, 57), (3, 58), (4, 80)], 9, 72, z84, []⟩
def z87 : List Value := [.int .i64 0, .int .i64 0, .int .u8 0]
def ti87 : TI := ⟨true, .struct [(0, 3), (1, 3), (2, 5)], 3, 24, z87, []⟩
def z89 : List Value := [.slice none 0 0]
def ti89 : TI := ⟨true, .slice 155, 1, 24, z89, []⟩
def z90 : List Value := [.slice none 0 0]
def ti90 : TI := ⟨true, .slice 97, 1, 24, z90, []⟩
def z92 : List Value := [.int .i64 0, .slice none 0 0, .slice none 0 0]
def ti92 : TI := ⟨true, .struct [(0, 3), (1, 89), (2, 90)], 3, 56, z92, []⟩
def z95 : List Value := [.pointer none, .pointer none, .pointer none, .pointer none, .int .i64 0, .int .i64 0, .int .i64 0, .int .i64 0, .int .i64 0]
def ti95 : TI := ⟨true, .struct [(0, 25), (1, 29), (2, 57), (3, 58), (4, 80)], 9, 72, z95, []⟩
def z97 : List Value := [.int .i64 0, .int .i64 0, .int .i64 0, .int .i64 0, .string (mkStr [])]
def ti97 : TI := ⟨true, .struct [(0, 3), (1, 3), (2, 3), (3, 3), (4, 9)], 5, 48, z97, []⟩
def z103 : List Value := [.int .i64 0, .slice none 0 0]
def ti103 : TI := ⟨true, .struct [(0, 3), (1, 37)], 2, 32, z103, []⟩
def z109 : List Value := [.slice none 0 0]
def ti109 : TI := ⟨true, .slice 125, 1, 24, z109, []⟩
def z110 : List Value := [.slice none 0 0]
def ti110 : TI := ⟨true, .slice 174, 1, 24, z110, []⟩
def z112 : List Value := [.slice none 0 0, .slice none 0 0, .int .i64 0, .slice none 0 0, .bool false, .int .i64 0, .int .i64 0, .slice none 0 0]
def ti112 : TI := ⟨true, .struct [(0, 109), (1, 110), (2, 3), (3, 39), (4, 4), (5, 3), (6, 3), (7, 38)], 8, 128, z112, []⟩
def z122 : List Value := [.int .i64 0, .int .i64 0, .slice none 0 0]
def ti122 : TI := ⟨true, .struct [(0, 3), (1, 3), (2, 37)], 3, 40, z122, []⟩
def z125 : List Value := List.replicate 512 (.int .u8 0)
def ti125 : TI := ⟨true, .arr 512 5, 512, 512, z125, []⟩
def z132 : List Value := [.map none]
def ti132 : TI := ⟨true, .map 3 37, 1, 8, z132, []⟩
def z133 : List Value := [.slice none 0 0]
def ti133 : TI := ⟨true, .slice 1, 1, 24, z133, []⟩
def z135 : List Value := [.pointer none, .map none, .slice none 0 0, .bool false]
def ti135 : TI := ⟨true, .struct [(0, 25), (1, 132), (2, 133), (3, 4)], 4, 48, z135, []⟩
def z137 : List Value := [.slice none 0 0]
def ti137 : TI := ⟨true, .slice 3, 1, 24, z137, []⟩
def z142 : List Value := [.slice none 0 0, .int .i64 0, .int .u8 0, .string (mkStr []), .bool false]
def ti142 : TI := ⟨true, .struct [(0, 37), (1, 3), (2, 5), (3, 9), (4, 4)], 5, 64, z142, []⟩
def z153 : List Value := [.int .i64 0, .int .i64 0, .int .i64 0, .int .i64 0, .int .i64 0, .int .i64 0, .int .i64 0, .int .i64 0, .int .i64 0, .int .i64 0]
def ti153 : TI := ⟨true, .arr 10 3, 10, 80, z153, []⟩
def z155 : List Value := List.replicate 15 (.int .i64 0)
def ti155 : TI := ⟨true, .struct [(0, 3), (1, 3), (2, 3), (3, 153), (13, 3), (14, 3)], 15, 120, z155, [(.int .i64), (.int .i64), (.int .i64), (.int .i64), (.int .i64), (.int .i64), (.int .i64), (.int .i64), (.int .i64), (.int .i64), (.int .i64), (.int .i64), (.int .i64), (.int .i64), (.int .i64)]⟩
def z169 : List Value := [.slice none 0 0]
def ti169 : TI := ⟨true, .slice 172, 1, 24, z169, []⟩
def z172 : List Value := [.nilFunc]
def ti172 : TI := ⟨true, .fn, 1, 8, z172, []⟩
def z174 : List Value := (.int .i64 0) :: List.replicate 512 (.int .u8 0)
def ti174 : TI := ⟨true, .struct [(0, 3), (1, 125)], 513, 520, z174, []⟩
def z190 : List Value := [.int .i64 0, .string (mkStr [])]
def ti190 : TI := ⟨true, .struct [(0, 3), (1, 9)], 2, 24, z190, []⟩
def z199 : List Value := [.nilFunc]
def ti199 : TI := ⟨true, .fn, 1, 8, z199, []⟩
def z202 : List Value := [.pointer none]
def ti202 : TI := ⟨true, .ptr 26, 1, 8, z202, []⟩
def z213 : List Value := [.pointer none, .slice none 0 0]
def ti213 : TI := ⟨true, .struct [(0, 211), (1, 37)], 2, 32, z213, []⟩
def z218 : List Value := [.int .i64 0, .int .i64 0, .int .i64 0, .int .i64 0]
def ti218 : TI := ⟨true, .struct [(0, 3), (1, 3), (2, 3), (3, 3)], 4, 32, z218, []⟩
def z235 : List Value := [.slice none 0 0]
def ti235 : TI := ⟨true, .slice 291, 1, 24, z235, []⟩
def z243 : List Value := [.int .u64 0]
def ti243 : TI := ⟨true, .int .u64, 1, 8, z243, []⟩
def z244 : List Value := [.int .u32 0]
def ti244 : TI := ⟨true, .int .u32, 1, 4, z244, []⟩
def z275 : List Value := [.nilFunc]
def ti275 : TI := ⟨true, .fn, 1, 8, z275, []⟩
def z277 : List Value := [.pointer none]
def ti277 : TI := ⟨true, .ptr 279, 1, 8, z277, []⟩
def z279 : List Value := (.pointer none) :: List.replicate 20 (.int .i64 0)
def ti279 : TI := ⟨true, .struct [(0, 57), (1, 80), (6, 155)], 21, 168, z279, []⟩
def z282 : List Value := [.int .i64 0, .int .i64 0]
def ti282 : TI := ⟨true, .struct [(0, 3), (1, 3)], 2, 16, z282, []⟩
def z291 : List Value := [.int .i64 0, .int .i64 0]
def ti291 : TI := ⟨true, .arr 2 3, 2, 16, z291, []⟩
def z292 : List Value := [.nilFunc]
def ti292 : TI := ⟨true, .fn, 1, 8, z292, []⟩
def z295 : List Value := [.nilFunc]
def ti295 : TI := ⟨true, .fn, 1, 8, z295, []⟩
def z298 : List Value := [.pointer none, .int .i64 0, .int .i64 0, .int .i64 0, .int .i64 0, .int .i64 0, .slice none 0 0, .slice none 0 0, .int .i64 0, .int .i64 0]
def ti298 : TI := ⟨true, .struct [(0, 58), (1, 80), (6, 235), (7, 137), (8, 3), (9, 26)], 10, 112, z298, []⟩
def z320 : List Value := [.slice none 0 0]
def ti320 : TI := ⟨true, .slice 282, 1, 24, z320, []⟩
def z326 : List Value := [.int .i64 0, .int .i64 0, .int .i64 0, .int .i64 0, .int .i64 0, .int .i64 0, .int .i64 0, .int .i64 0, .int .i64 0, .int .i64 0, .int .i64 0, .int .i64 0]
def ti326 : TI := ⟨true, .arr 12 3, 12, 96, z326, []⟩
def z328 : List Value := [.bool false, .bool false, .bool false, .bool false, .bool false, .bool false, .bool false, .bool false, .bool false]
def ti328 : TI := ⟨true, .arr 9 4, 9, 9, z328, []⟩
def z346 : List Value := List.replicate 16 (.int .u32 0)
def ti346 : TI := ⟨true, .arr 16 244, 16, 64, z346, []⟩
def z348 : List Value := List.replicate 32 (.int .u32 0)
def ti348 : TI := ⟨true, .arr 32 244, 32, 128, z348, []⟩
def tiTab : List (Nat × TI) := [(1, ti1), (3, ti3), (4, ti4), (5, ti5), (9, ti9), (22, ti22), (25, ti25), (26, ti26), (29, ti29), (33, ti33), (34, ti34), (36, ti36), (37, ti37), (38, ti38), (39, ti39), (41, ti41), (42, ti42), (44, ti44), (46, ti46), (55, ti55), (57, ti57), (58, ti58), (60, ti60), (62, ti62), (63, ti63), (65, ti65), (67, ti67), (69, ti69), (71, ti71), (73, ti73), (75, ti75), (80, ti80), (84, ti84), (87, ti87), (89, ti89), (90, ti90), (92, ti92), (95, ti95), (97, ti97), (103, ti103), (109, ti109), (110, ti110), (112, ti112), (122, ti122), (125, ti125), (132, ti132), (133, ti133), (135, ti135), (137, ti137), (142, ti142), (153, ti153), (155, ti155), (169, ti169), (172, ti172), (174, ti174), (190, ti190), (199, ti199), (202, ti202), (213, ti213), (218, ti218), (235, ti235), (243, ti243), (244, ti244), (275, ti275), (277, ti277), (279, ti279), (282, ti282), (291, ti291), (292, ti292), (295, ti295), (298, ti298), (320, ti320), (326, ti326), (328, ti328), (346, ti346), (348, ti348)]
def sigTab : List (Nat × List Ty) := [(0, []), (1, [.clo]), (3, [.int .i64]), (4, [.bool]), (9, [.str]), (26, [.int .i64]), (27, [.ptr, .int .i64]), (30, [.ptr, .int .i64]), (37, [.slice]), (38, [.slice]), (39, [.slice]), (42, [.slice]), (48, [.int .i64, .int .i64]), (57, [.ptr]), (58, [.ptr]), (80, [.agg]), (104, [.slice, .int .i64]), (106, [.int .i64, .int .i64]), (122, [.agg]), (137, [.slice]), (142, [.agg]), (149, [.bool, .int .i64]), (155, [.agg]), (157, [.str, .int .i64]), (181, [.slice, .slice, .int .i64]), (195, [.any]), (204, [.int .i64, .slice, .int .i64, .int .i64]), (209, [.agg, .int .i64]), (215, [.any]), (222, [.int .i64, .any]), (228, [.agg, .int .i64, .int .i64]), (236, [.slice, .slice, .int .i64]), (244, [.int .u32]), (249, [.slice, .int .i64]), (252, [.slice, .slice]), (259, [.any]), (262, [.int .i64, .int .i64, .int .i64]), (270, [.int .i64, .slice]), (275, [.clo]), (293, [.slice, .slice, .int .i64]), (304, [.int .u32, .int .i64]), (307, [.int .u64, .int .i64]), (320, [.slice]), (322, [.int .i64, .slice, .int .i64]), (324, [.ptr]), (326, [.agg]), (348, [.agg])]
def natTab : List Nat := []
def panTab : List Nat := [117, 119, 183]
noncomputable def cx (loops : Nat → List Nat × List (Nat × Ty)) (orders : Nat → Od) : Ctx := ⟨Tryz.prog, tiOf tiTab, sigOf sigTab, loops, orders, natTab, panTab⟩
theorem natTab_ok : ∀ g ∈ natTab, NatOk Tryz.prog g := by
  simp only [natTab, List.forall_mem_cons]
  exact fun _ h => absurd h List.not_mem_nil
theorem tiok1 : TIok Tryz.prog 1 ti1 := ⟨by kernel_rfl, by kernel_rfl, by kernel_rfl, by kernel_rfl, by kernel_rfl⟩
theorem tiok3 : TIok Tryz.prog 3 ti3 := ⟨by kernel_rfl, by kernel_rfl, by kernel_rfl, by kernel_rfl, by kernel_rfl⟩
theorem tiok4 : TIok Tryz.prog 4 ti4 := ⟨by kernel_rfl, by kernel_rfl, by kernel_rfl, by kernel_rfl, by kernel_rfl⟩
theorem tiok5 : TIok Tryz.prog 5 ti5 := ⟨by kernel_rfl, by kernel_rfl, by kernel_rfl, by kernel_rfl, by kernel_rfl⟩
theorem tiok9 : TIok Tryz.prog 9 ti9 := ⟨by kernel_rfl, by kernel_rfl, by kernel_rfl, by kernel_rfl, by kernel_rfl⟩
theorem tiok22 : TIok Tryz.prog 22 ti22 := ⟨by kernel_rfl, by kernel_rfl, by kernel_rfl, by kernel_rfl, by kernel_rfl⟩
theorem tiok25 : TIok Tryz.prog 25 ti25 := ⟨by kernel_rfl, by kernel_rfl, by kernel_rfl, by kernel_rfl, by kernel_rfl⟩
theorem tiok26 : TIok Tryz.prog 26 ti26 := ⟨by kernel_rfl, by kernel_rfl, by kernel_rfl, by kernel_rfl, by kernel_rfl⟩
theorem tiok29 : TIok Tryz.prog 29 ti29 := ⟨by kernel_rfl, by kernel_rfl, by kernel_rfl, by kernel_rfl, by kernel_rfl⟩
theorem tiok33 : TIok Tryz.prog 33 ti33 := ⟨by kernel_rfl, by kernel_rfl, by kernel_rfl, by kernel_rfl, by kernel_rfl⟩
theorem tiok34 : TIok Tryz.prog 34 ti34 := ⟨by kernel_rfl, by kernel_rfl, by kernel_rfl, by kernel_rfl, by kernel_rfl⟩
theorem tiok36 : TIok Tryz.prog 36 ti36 := ⟨by kernel_rfl, by kernel_rfl, by kernel_rfl, by kernel_rfl, by kernel_rfl⟩
theorem tiok37 : TIok Tryz.prog 37 ti37 := ⟨by kernel_rfl, by kernel_rfl, by kernel_rfl, by kernel_rfl, by kernel_rfl⟩
theorem tiok38 : TIok Tryz.prog 38 ti38 := ⟨by kernel_rfl, by kernel_rfl, by kernel_rfl, by kernel_rfl, by kernel_rfl⟩
theorem tiok39 : TIok Tryz.prog 39 ti39 := ⟨by kernel_rfl, by kernel_rfl, by kernel_rfl, by kernel_rfl, by kernel_rfl⟩
theorem tiok41 : TIok Tryz.prog 41 ti41 := ⟨by kernel_rfl, by kernel_rfl, by kernel_rfl, by kernel_rfl, by kernel_rfl⟩
theorem tiok42 : TIok Tryz.prog 42 ti42 := ⟨by kernel_rfl, by kernel_rfl, by kernel_rfl, by kernel_rfl, by kernel_rfl⟩
theorem tiok44 : TIok Tryz.prog 44 ti44 := ⟨by kernel_rfl, by kernel_rfl, by kernel_rfl, by kernel_rfl, by kernel_rfl⟩
theorem tiok46 : TIok Tryz.prog 46 ti46 := ⟨by kernel_rfl, by kernel_rfl, by kernel_rfl, by kernel_rfl, by kernel_rfl⟩
theorem tiok55 : TIok Tryz.prog 55 ti55 := ⟨by kernel_rfl, by kernel_rfl, by kernel_rfl, by kernel_rfl, by kernel_rfl⟩
theorem tiok57 : TIok Tryz.prog 57 ti57 := ⟨by kernel_rfl, by kernel_rfl, by kernel_rfl, by kernel_rfl, by kernel_rfl⟩
theorem tiok58 : TIok Tryz.prog 58 ti58 := ⟨by kernel_rfl, by kernel_rfl, by kernel_rfl, by kernel_rfl, by kernel_rfl⟩
theorem tiok60 : TIok Tryz.prog 60 ti60 := ⟨by kernel_rfl, by kernel_rfl, by kernel_rfl, by kernel_rfl, by kernel_rfl⟩
theorem tiok62 : TIok Tryz.prog 62 ti62 := ⟨by kernel_rfl, by kernel_rfl, by kernel_rfl, by kernel_rfl, by kernel_rfl⟩
theorem tiok63 : TIok Tryz.prog 63 ti63 := ⟨by kernel_rfl, by kernel_rfl, by kernel_rfl, by kernel_rfl, by kernel_rfl⟩
theorem tiok65 : TIok Tryz.prog 65 ti65 := ⟨by kernel_rfl, by kernel_rfl, by kernel_rfl, by kernel_rfl, by kernel_rfl⟩
theorem tiok67 : TIok Tryz.prog 67 ti67 := ⟨by kernel_rfl, by kernel_rfl, by kernel_rfl, by kernel_rfl, by kernel_rfl⟩
theorem tiok69 : TIok Tryz.prog 69 ti69 := ⟨by kernel_rfl, by kernel_rfl, by kernel_rfl, by kernel_rfl, by kernel_rfl⟩
theorem tiok71 : TIok Tryz.prog 71 ti71 := ⟨by kernel_rfl, by kernel_rfl, by kernel_rfl, by kernel_rfl, by kernel_rfl⟩
theorem tiok73 : TIok Tryz.prog 73 ti73 := ⟨by kernel_rfl, by kernel_rfl, by kernel_rfl, by kernel_rfl, by kernel_rfl⟩
theorem tiok75 : TIok Tryz.prog 75 ti75 := ⟨by kernel_rfl, by kernel_rfl, by kernel_rfl, by kernel_rfl, by kernel_rfl⟩
theorem tiok80 : TIok Tryz.prog 80 ti80 := ⟨by kernel_rfl, by kernel_rfl, by kernel_rfl, by kernel_rfl, by kernel_rfl⟩
theorem tiok84 : TIok Tryz.prog 84 ti84 := ⟨by kernel_rfl, by kernel_rfl, by kernel_rfl, by kernel_rfl, by kernel_rfl⟩
theorem tiok87 : TIok Tryz.prog 87 ti87 := ⟨by kernel_rfl, by kernel_rfl, by kernel_rfl, by kernel_rfl, by kernel_rfl⟩
theorem tiok89 : TIok Tryz.prog 89 ti89 := ⟨by kernel_rfl, by kernel_rfl, by kernel_rfl, by kernel_rfl, by kernel_rfl⟩
theorem tiok90 : TIok Tryz.prog 90 ti90 := ⟨by kernel_rfl, by kernel_rfl, by kernel_rfl, by kernel_rfl, by kernel_rfl⟩
theorem tiok92 : TIok Tryz.prog 92 ti92 := ⟨by kernel_rfl, by kernel_rfl, by kernel_rfl, by kernel_rfl, by kernel_rfl⟩
theorem tiok95 : TIok Tryz.prog 95 ti95 := ⟨by kernel_rfl, by kernel_rfl, by kernel_rfl, by kernel_rfl, by kernel_rfl⟩
theorem tiok97 : TIok Tryz.prog 97 ti97 := ⟨by kernel_rfl, by kernel_rfl, by kernel_rfl, by kernel_rfl, by kernel_rfl⟩
theorem tiok103 : TIok Tryz.prog 103 ti103 := ⟨by kernel_rfl, by kernel_rfl, by kernel_rfl, by kernel_rfl, by kernel_rfl⟩
theorem tiok109 : TIok Tryz.prog 109 ti109 := ⟨by kernel_rfl, by kernel_rfl, by kernel_rfl, by kernel_rfl, by kernel_rfl⟩
theorem tiok110 : TIok Tryz.prog 110 ti110 := ⟨by kernel_rfl, by kernel_rfl, by kernel_rfl, by kernel_rfl, by kernel_rfl⟩
theorem tiok112 : TIok Tryz.prog 112 ti112 := ⟨by kernel_rfl, by kernel_rfl, by kernel_rfl, by kernel_rfl, by kernel_rfl⟩
theorem tiok122 : TIok Tryz.prog 122 ti122 := ⟨by kernel_rfl, by kernel_rfl, by kernel_rfl, by kernel_rfl, by kernel_rfl⟩
theorem tiok125 : TIok Tryz.prog 125 ti125 := ⟨by kernel_rfl, by kernel_rfl, by kernel_rfl, by kernel_rfl, by kernel_rfl⟩
theorem tiok132 : TIok Tryz.prog 132 ti132 := ⟨by kernel_rfl, by kernel_rfl, by kernel_rfl, by kernel_rfl, by kernel_rfl⟩
theorem tiok133 : TIok Tryz.prog 133 ti133 := ⟨by kernel_rfl, by kernel_rfl, by kernel_rfl, by kernel_rfl, by kernel_rfl⟩
theorem tiok135 : TIok Tryz.prog 135 ti135 := ⟨by kernel_rfl, by kernel_rfl, by kernel_rfl, by kernel_rfl, by kernel_rfl⟩
theorem tiok137 : TIok Tryz.prog 137 ti137 := ⟨by kernel_rfl, by kernel_rfl, by kernel_rfl, by kernel_rfl, by kernel_rfl⟩
theorem tiok142 : TIok Tryz.prog 142 ti142 := ⟨by kernel_rfl, by kernel_rfl, by kernel_rfl, by kernel_rfl, by kernel_rfl⟩
theorem tiok153 : TIok Tryz.prog 153 ti153 := ⟨by kernel_rfl, by kernel_rfl, by kernel_rfl, by kernel_rfl, by kernel_rfl⟩
theorem tiok155 : TIok Tryz.prog 155 ti155 := ⟨by kernel_rfl, by kernel_rfl, by kernel_rfl, by kernel_rfl, by kernel_rfl⟩
theorem tiok169 : TIok Tryz.prog 169 ti169 := ⟨by kernel_rfl, by kernel_rfl, by kernel_rfl, by kernel_rfl, by kernel_rfl⟩
theorem tiok172 : TIok Tryz.prog 172 ti172 := ⟨by kernel_rfl, by kernel_rfl, by kernel_rfl, by kernel_rfl, by kernel_rfl⟩
theorem tiok174 : TIok Tryz.prog 174 ti174 := ⟨by kernel_rfl, by kernel_rfl, by kernel_rfl, by kernel_rfl, by kernel_rfl⟩
theorem tiok190 : TIok Tryz.prog 190 ti190 := ⟨by kernel_rfl, by kernel_rfl, by kernel_rfl, by kernel_rfl, by kernel_rfl⟩
theorem tiok199 : TIok Tryz.prog 199 ti199 := ⟨by kernel_rfl, by kernel_rfl, by kernel_rfl, by kernel_rfl, by kernel_rfl⟩
theorem tiok202 : TIok Tryz.prog 202 ti202 := ⟨by kernel_rfl, by kernel_rfl, by kernel_rfl, by kernel_rfl, by kernel_rfl⟩
theorem tiok213 : TIok Tryz.prog 213 ti213 := ⟨by kernel_rfl, by kernel_rfl, by kernel_rfl, by kernel_rfl, by kernel_rfl⟩
theorem tiok218 : TIok Tryz.prog 218 ti218 := ⟨by kernel_rfl, by kernel_rfl, by kernel_rfl, by kernel_rfl, by kernel_rfl⟩
theorem tiok235 : TIok Tryz.prog 235 ti235 := ⟨by kernel_rfl, by kernel_rfl, by kernel_rfl, by kernel_rfl, by kernel_rfl⟩
theorem tiok243 : TIok Tryz.prog 243 ti243 := ⟨by kernel_rfl, by kernel_rfl, by kernel_rfl, by kernel_rfl, by kernel_rfl⟩
theorem tiok244 : TIok Tryz.prog 244 ti244 := ⟨by kernel_rfl, by kernel_rfl, by kernel_rfl, by kernel_rfl, by kernel_rfl⟩
theorem tiok275 : TIok Tryz.prog 275 ti275 := ⟨by kernel_rfl, by kernel_rfl, by kernel_rfl, by kernel_rfl, by kernel_rfl⟩
theorem tiok277 : TIok Tryz.prog 277 ti277 := ⟨by kernel_rfl, by kernel_rfl, by kernel_rfl, by kernel_rfl, by kernel_rfl⟩
theorem tiok279 : TIok Tryz.prog 279 ti279 := ⟨by kernel_rfl, by kernel_rfl, by kernel_rfl, by kernel_rfl, by kernel_rfl⟩
theorem tiok282 : TIok Tryz.prog 282 ti282 := ⟨by kernel_rfl, by kernel_rfl, by kernel_rfl, by kernel_rfl, by kernel_rfl⟩
theorem tiok291 : TIok Tryz.prog 291 ti291 := ⟨by kernel_rfl, by kernel_rfl, by kernel_rfl, by kernel_rfl, by kernel_rfl⟩
theorem tiok292 : TIok Tryz.prog 292 ti292 := ⟨by kernel_rfl, by kernel_rfl, by kernel_rfl, by kernel_rfl, by kernel_rfl⟩
theorem tiok295 : TIok Tryz.prog 295 ti295 := ⟨by kernel_rfl, by kernel_rfl, by kernel_rfl, by kernel_rfl, by kernel_rfl⟩
theorem tiok298 : TIok Tryz.prog 298 ti298 := ⟨by kernel_rfl, by kernel_rfl, by kernel_rfl, by kernel_rfl, by kernel_rfl⟩
theorem tiok320 : TIok Tryz.prog 320 ti320 := ⟨by kernel_rfl, by kernel_rfl, by kernel_rfl, by kernel_rfl, by kernel_rfl⟩
theorem tiok326 : TIok Tryz.prog 326 ti326 := ⟨by kernel_rfl, by kernel_rfl, by kernel_rfl, by kernel_rfl, by kernel_rfl⟩
theorem tiok328 : TIok Tryz.prog 328 ti328 := ⟨by kernel_rfl, by kernel_rfl, by kernel_rfl, by kernel_rfl, by kernel_rfl⟩
theorem tiok346 : TIok Tryz.prog 346 ti346 := ⟨by kernel_rfl, by kernel_rfl, by kernel_rfl, by kernel_rfl, by kernel_rfl⟩
theorem tiok348 : TIok Tryz.prog 348 ti348 := ⟨by kernel_rfl, by kernel_rfl, by kernel_rfl, by kernel_rfl, by kernel_rfl⟩
theorem tiTab_ok : ∀ x ∈ tiTab, TIok Tryz.prog x.1 x.2 := by
  simp only [tiTab, List.forall_mem_cons]
  exact ⟨tiok1, tiok3, tiok4, tiok5, tiok9, tiok22, tiok25, tiok26, tiok29, tiok33, tiok34, tiok36, tiok37, tiok38, tiok39, tiok41, tiok42, tiok44, tiok46, tiok55, tiok57, tiok58, tiok60, tiok62, tiok63, tiok65, tiok67, tiok69, tiok71, tiok73, tiok75, tiok80, tiok84, tiok87, tiok89, tiok90, tiok92, tiok95, tiok97, tiok103, tiok109, tiok110, tiok112, tiok122, tiok125, tiok132, tiok133, tiok135, tiok137, tiok142, tiok153, tiok155, tiok169, tiok172, tiok174, tiok190, tiok199, tiok202, tiok213, tiok218, tiok235, tiok243, tiok244, tiok275, tiok277, tiok279, tiok282, tiok291, tiok292, tiok295, tiok298, tiok320, tiok326, tiok328, tiok346, tiok348, fun _ h => absurd h List.not_mem_nil⟩
theorem cxOk (loops : Nat → List Nat × List (Nat × Ty)) (orders : Nat → Od) : CtxOk (cx loops orders) := ⟨natTab_ok, tiOf_ok tiTab tiTab_ok, by kernel_rfl⟩
def C.bolelaw05_WalPlays (n1 : Int) (scriptA1 : Option Addr) (scriptL1 : Nat) (scriptC1 : Nat) (h : Heap) (k : Value → Heap → Prop) : Prop := HCalls Tryz.prog 3 [.int .i64 n1, .slice scriptA1 scriptL1 scriptC1] h k
def C.bolelaw05_fixed  (h : Heap) (k : Value → Heap → Prop) : Prop := HCalls Tryz.prog 7 [] h k
def C.bolelaw05_mod (k1 : Int) (n1 : Int) (h : Heap) (k : Value → Heap → Prop) : Prop := HCalls Tryz.prog 8 [.int .i64 k1, .int .i64 n1] h k
def C.adisk_New (n1 : Int) (h : Heap) (k : Value → Heap → Prop) : Prop := HCalls Tryz.prog 9 [.int .i64 n1] h k
def C.boleref03_New (n1 : Int) (h : Heap) (k : Value → Heap → Prop) : Prop := HCalls Tryz.prog 10 [.int .i64 n1] h k
def C.bolelaw05_play_step (p1 : Option Addr) (o1 : List Value) (h : Heap) (k : Value → Heap → Prop) : Prop := HCalls Tryz.prog 11 [.pointer p1, .agg ⟨o1⟩] h k
def C.adisk_Disk_Down (d1 : Option Addr) (h : Heap) (k : Value → Heap → Prop) : Prop := HCalls Tryz.prog 12 [.pointer d1] h k
def C.adisk_Disk_Steps (d1 : Option Addr) (h : Heap) (k : Value → Heap → Prop) : Prop := HCalls Tryz.prog 13 [.pointer d1] h k
def C.bolelaw05_sameActs (aA1 : Option Addr) (aL1 : Nat) (aC1 : Nat) (bA1 : Option Addr) (bL1 : Nat) (bC1 : Nat) (h : Heap) (k : Value → Heap → Prop) : Prop := HCalls Tryz.prog 14 [.slice aA1 aL1 aC1, .slice bA1 bL1 bC1] h k
def C.adisk_Disk_Tape (d1 : Option Addr) (from1 : Int) (h : Heap) (k : Value → Heap → Prop) : Prop := HCalls Tryz.prog 15 [.pointer d1, .int .i64 from1] h k
def C.boleref03_Disk_Tape (d1 : Option Addr) (from1 : Int) (h : Heap) (k : Value → Heap → Prop) : Prop := HCalls Tryz.prog 16 [.pointer d1, .int .i64 from1] h k
def C.bolelaw05_sameBytes (aA1 : Option Addr) (aL1 : Nat) (aC1 : Nat) (bA1 : Option Addr) (bL1 : Nat) (bC1 : Nat) (h : Heap) (k : Value → Heap → Prop) : Prop := HCalls Tryz.prog 17 [.slice aA1 aL1 aC1, .slice bA1 bL1 bC1] h k
def C.adisk_Disk_Image (d1 : Option Addr) (h : Heap) (k : Value → Heap → Prop) : Prop := HCalls Tryz.prog 18 [.pointer d1] h k
def C.boleref03_Disk_Image (d1 : Option Addr) (h : Heap) (k : Value → Heap → Prop) : Prop := HCalls Tryz.prog 19 [.pointer d1] h k
def C.bolelaw05_play_whole (p1 : Option Addr) (h : Heap) (k : Value → Heap → Prop) : Prop := HCalls Tryz.prog 20 [.pointer p1] h k
def C.adisk_Open (imageA1 : Option Addr) (imageL1 : Nat) (imageC1 : Nat) (h : Heap) (k : Value → Heap → Prop) : Prop := HCalls Tryz.prog 28 [.slice imageA1 imageL1 imageC1] h k
def C.boleref03_Of (imageA1 : Option Addr) (imageL1 : Nat) (imageC1 : Nat) (h : Heap) (k : Value → Heap → Prop) : Prop := HCalls Tryz.prog 29 [.slice imageA1 imageL1 imageC1] h k
def C.bolelaw05_block (ofA1 : Option Addr) (ofL1 : Nat) (ofC1 : Nat) (by1 : Int) (h : Heap) (k : Value → Heap → Prop) : Prop := HCalls Tryz.prog 39 [.slice ofA1 ofL1 ofC1, .int .u8 by1] h k
def C.wal_Commit (d1 : Option Addr) (lA1 : Option Addr) (lL1 : Nat) (lC1 : Nat) (h : Heap) (k : Value → Heap → Prop) : Prop := HCalls Tryz.prog 40 [.pointer d1, .slice lA1 lL1 lC1] h k
def C.adisk_Disk_Read (d1 : Option Addr) (i1 : Int) (h : Heap) (k : Value → Heap → Prop) : Prop := HCalls Tryz.prog 41 [.pointer d1, .int .i64 i1] h k
def C.wal_Recover (d1 : Option Addr) (h : Heap) (k : Value → Heap → Prop) : Prop := HCalls Tryz.prog 42 [.pointer d1] h k
def C.wal_Behind (d1 : Option Addr) (h : Heap) (k : Value → Heap → Prop) : Prop := HCalls Tryz.prog 43 [.pointer d1] h k
def C.bolelaw05_lent (lA1 : Option Addr) (lL1 : Nat) (lC1 : Nat) (h : Heap) (k : Value → Heap → Prop) : Prop := HCalls Tryz.prog 44 [.slice lA1 lL1 lC1] h k
def C.boleref05_Commit (d1 : Option Addr) (lA1 : Option Addr) (lL1 : Nat) (lC1 : Nat) (h : Heap) (k : Value → Heap → Prop) : Prop := HCalls Tryz.prog 45 [.pointer d1, .slice lA1 lL1 lC1] h k
def C.bolelaw05_kept (ownA1 : Option Addr) (ownL1 : Nat) (ownC1 : Nat) (lA1 : Option Addr) (lL1 : Nat) (lC1 : Nat) (h : Heap) (k : Value → Heap → Prop) : Prop := HCalls Tryz.prog 46 [.slice ownA1 ownL1 ownC1, .slice lA1 lL1 lC1] h k
def C.boleref05_Recover (d1 : Option Addr) (h : Heap) (k : Value → Heap → Prop) : Prop := HCalls Tryz.prog 47 [.pointer d1] h k
def C.bolelaw05_play_behind (p1 : Option Addr) (h : Heap) (k : Value → Heap → Prop) : Prop := HCalls Tryz.prog 48 [.pointer p1] h k
def C.boleref03_Disk_Write (d1 : Option Addr) (i1 : Int) (bA1 : Option Addr) (bL1 : Nat) (bC1 : Nat) (h : Heap) (k : Value → Heap → Prop) : Prop := HCalls Tryz.prog 49 [.pointer d1, .int .i64 i1, .slice bA1 bL1 bC1] h k
def C.adisk_Disk_Write (d1 : Option Addr) (i1 : Int) (bA1 : Option Addr) (bL1 : Nat) (bC1 : Nat) (h : Heap) (k : Value → Heap → Prop) : Prop := HCalls Tryz.prog 50 [.pointer d1, .int .i64 i1, .slice bA1 bL1 bC1] h k
def C.boleref03_Disk_Flush (d1 : Option Addr) (h : Heap) (k : Value → Heap → Prop) : Prop := HCalls Tryz.prog 51 [.pointer d1] h k
def C.adisk_Disk_Flush (d1 : Option Addr) (h : Heap) (k : Value → Heap → Prop) : Prop := HCalls Tryz.prog 52 [.pointer d1] h k
def C.boleref03_Disk_Arm (d1 : Option Addr) (c1 : List Value) (h : Heap) (k : Value → Heap → Prop) : Prop := HCalls Tryz.prog 53 [.pointer d1, .agg ⟨c1⟩] h k
def C.adisk_Disk_Arm (d1 : Option Addr) (c1 : List Value) (h : Heap) (k : Value → Heap → Prop) : Prop := HCalls Tryz.prog 54 [.pointer d1, .agg ⟨c1⟩] h k
def C.boleref03_Disk_Crash (d1 : Option Addr) (keepA1 : Option Addr) (keepL1 : Nat) (keepC1 : Nat) (h : Heap) (k : Value → Heap → Prop) : Prop := HCalls Tryz.prog 55 [.pointer d1, .slice keepA1 keepL1 keepC1] h k
def C.adisk_Disk_Crash (d1 : Option Addr) (keepA1 : Option Addr) (keepL1 : Nat) (keepC1 : Nat) (h : Heap) (k : Value → Heap → Prop) : Prop := HCalls Tryz.prog 56 [.pointer d1, .slice keepA1 keepL1 keepC1] h k
def C.bolelaw05_play_again (p1 : Option Addr) (h : Heap) (k : Value → Heap → Prop) : Prop := HCalls Tryz.prog 57 [.pointer p1] h k
def C.slices_Clone_byte_byte (sA1 : Option Addr) (sL1 : Nat) (sC1 : Nat) (h : Heap) (k : Value → Heap → Prop) : Prop := HCalls Tryz.prog 58 [.slice sA1 sL1 sC1] h k
def C.boleref03_copied (bA1 : Option Addr) (bL1 : Nat) (bC1 : Nat) (h : Heap) (k : Value → Heap → Prop) : Prop := HCalls Tryz.prog 59 [.slice bA1 bL1 bC1] h k
def C.boleref03_left (imageA1 : Option Addr) (imageL1 : Nat) (imageC1 : Nat) (actsA1 : Option Addr) (actsL1 : Nat) (actsC1 : Nat) (keepA1 : Option Addr) (keepL1 : Nat) (keepC1 : Nat) (h : Heap) (k : Value → Heap → Prop) : Prop := HCalls Tryz.prog 60 [.slice imageA1 imageL1 imageC1, .slice actsA1 actsL1 actsC1, .slice keepA1 keepL1 keepC1] h k
def C.wal_may (lA1 : Option Addr) (lL1 : Nat) (lC1 : Nat) (n1 : Int) (h : Heap) (k : Value → Heap → Prop) : Prop := HCalls Tryz.prog 107 [.slice lA1 lL1 lC1, .int .i64 n1] h k
def C.adisk_Disk_Blocks (d1 : Option Addr) (h : Heap) (k : Value → Heap → Prop) : Prop := HCalls Tryz.prog 108 [.pointer d1] h k
def C.head_Make (numsA1 : Option Addr) (numsL1 : Nat) (numsC1 : Nat) (dataA1 : Option Addr) (dataL1 : Nat) (dataC1 : Nat) (h : Heap) (k : Value → Heap → Prop) : Prop := HCalls Tryz.prog 109 [.slice numsA1 numsL1 numsC1, .slice dataA1 dataL1 dataC1] h k
def C.wal_steps_write (s1 : Option Addr) (i1 : Int) (bA1 : Option Addr) (bL1 : Nat) (bC1 : Nat) (h : Heap) (k : Value → Heap → Prop) : Prop := HCalls Tryz.prog 110 [.pointer s1, .int .i64 i1, .slice bA1 bL1 bC1] h k
def C.wal_steps_flush (s1 : Option Addr) (h : Heap) (k : Value → Heap → Prop) : Prop := HCalls Tryz.prog 111 [.pointer s1] h k
def C.wal_steps_home (s1 : Option Addr) (lA1 : Option Addr) (lL1 : Nat) (lC1 : Nat) (h : Heap) (k : Value → Heap → Prop) : Prop := HCalls Tryz.prog 112 [.pointer s1, .slice lA1 lL1 lC1] h k
def C.wal_steps_do (sA1 : Option Addr) (sL1 : Nat) (sC1 : Nat) (d1 : Option Addr) (h : Heap) (k : Value → Heap → Prop) : Prop := HCalls Tryz.prog 113 [.slice sA1 sL1 sC1, .pointer d1] h k
def C.adisk_Disk_has (d1 : Option Addr) (i1 : Int) (h : Heap) (k : Value → Heap → Prop) : Prop := HCalls Tryz.prog 114 [.pointer d1, .int .i64 i1] h k
def C.wal_held (d1 : Option Addr) (h : Heap) (k kp : Value → Heap → Prop) : Prop := PCalls Tryz.prog 117 [.pointer d1] h k kp
def C.wal_read (d1 : Option Addr) (i1 : Int) (h : Heap) (k kp : Value → Heap → Prop) : Prop := PCalls Tryz.prog 119 [.pointer d1, .int .i64 i1] h k kp
def C.head_Empty  (h : Heap) (k : Value → Heap → Prop) : Prop := HCalls Tryz.prog 120 [] h k
def C.boleref03_Disk_Blocks (d1 : Option Addr) (h : Heap) (k : Value → Heap → Prop) : Prop := HCalls Tryz.prog 121 [.pointer d1] h k
def C.boleref05_Fault (lA1 : Option Addr) (lL1 : Nat) (lC1 : Nat) (n1 : Int) (h : Heap) (k : Value → Heap → Prop) : Prop := HCalls Tryz.prog 122 [.slice lA1 lL1 lC1, .int .i64 n1] h k
def C.boleref05_Acts (lA1 : Option Addr) (lL1 : Nat) (lC1 : Nat) (h : Heap) (k : Value → Heap → Prop) : Prop := HCalls Tryz.prog 123 [.slice lA1 lL1 lC1] h k
def C.boleref05_take (d1 : Option Addr) (lA1 : Option Addr) (lL1 : Nat) (lC1 : Nat) (h : Heap) (k : Value → Heap → Prop) : Prop := HCalls Tryz.prog 124 [.pointer d1, .slice lA1 lL1 lC1] h k
def C.boleref05_log (d1 : Option Addr) (h : Heap) (k : Value → Heap → Prop) : Prop := HCalls Tryz.prog 125 [.pointer d1] h k
def C.boleref05_home (numsA1 : Option Addr) (numsL1 : Nat) (numsC1 : Nat) (dataA1 : Option Addr) (dataL1 : Nat) (dataC1 : Nat) (h : Heap) (k : Value → Heap → Prop) : Prop := HCalls Tryz.prog 126 [.slice numsA1 numsL1 numsC1, .slice dataA1 dataL1 dataC1] h k
def C.boleref05_Behind (d1 : Option Addr) (h : Heap) (k : Value → Heap → Prop) : Prop := HCalls Tryz.prog 127 [.pointer d1] h k
def C.boleref03_fault (blocks1 : Int) (a1 : List Value) (h : Heap) (k : Value → Heap → Prop) : Prop := HCalls Tryz.prog 128 [.int .i64 blocks1, .agg ⟨a1⟩] h k
def C.boleref03_Disk_goes (d1 : Option Addr) (h : Heap) (k : Value → Heap → Prop) : Prop := HCalls Tryz.prog 129 [.pointer d1] h k
def C.adisk_Disk_step (d1 : Option Addr) (done1 : Value) (h : Heap) (k : Value → Heap → Prop) : Prop := HCalls Tryz.prog 130 [.pointer d1, done1] h k
def C.adisk_Disk_Flush_c1 (x1 : Option Addr) (h : Heap) (k : Value → Heap → Prop) : Prop := HCalls Tryz.prog 131 [.pointer x1] h k
def C.boleref03_marks (lA1 : Option Addr) (lL1 : Nat) (lC1 : Nat) (h : Heap) (k : Value → Heap → Prop) : Prop := HCalls Tryz.prog 132 [.slice lA1 lL1 lC1] h k
def C.slices_Clone_bool_bool (sA1 : Option Addr) (sL1 : Nat) (sC1 : Nat) (h : Heap) (k : Value → Heap → Prop) : Prop := HCalls Tryz.prog 133 [.slice sA1 sL1 sC1] h k
def C.adisk_Disk_cut (d1 : Option Addr) (keepA1 : Option Addr) (keepL1 : Nat) (keepC1 : Nat) (h : Heap) (k : Value → Heap → Prop) : Prop := HCalls Tryz.prog 134 [.pointer d1, .slice keepA1 keepL1 keepC1] h k
def C.boleref03_lasts (actsA1 : Option Addr) (actsL1 : Nat) (actsC1 : Nat) (i1 : Int) (keepA1 : Option Addr) (keepL1 : Nat) (keepC1 : Nat) (h : Heap) (k : Value → Heap → Prop) : Prop := HCalls Tryz.prog 135 [.slice actsA1 actsL1 actsC1, .int .i64 i1, .slice keepA1 keepL1 keepC1] h k
def C.boleref03_Disk_Read (d1 : Option Addr) (i1 : Int) (h : Heap) (k : Value → Heap → Prop) : Prop := HCalls Tryz.prog 141 [.pointer d1, .int .i64 i1] h k
def C.head_may (numsA1 : Option Addr) (numsL1 : Nat) (numsC1 : Nat) (n1 : Int) (h : Heap) (k : Value → Heap → Prop) : Prop := HCalls Tryz.prog 176 [.slice numsA1 numsL1 numsC1, .int .i64 n1] h k
def C.head_areBlocks (dataA1 : Option Addr) (dataL1 : Nat) (dataC1 : Nat) (n1 : Int) (h : Heap) (k : Value → Heap → Prop) : Prop := HCalls Tryz.prog 177 [.slice dataA1 dataL1 dataC1, .int .i64 n1] h k
def C.rec_PutText (bA1 : Option Addr) (bL1 : Nat) (bC1 : Nat) (at1 : Int) (n1 : Int) (s1 : ByteArray) (h : Heap) (k : Value → Heap → Prop) : Prop := HCalls Tryz.prog 178 [.slice bA1 bL1 bC1, .int .i64 at1, .int .i64 n1, .string s1] h k
def C.rec_Put (bA1 : Option Addr) (bL1 : Nat) (bC1 : Nat) (at1 : Int) (n1 : Int) (v1 : Int) (h : Heap) (k : Value → Heap → Prop) : Prop := HCalls Tryz.prog 179 [.slice bA1 bL1 bC1, .int .i64 at1, .int .i64 n1, .int .u64 v1] h k
def C.head_sumOf (headA1 : Option Addr) (headL1 : Nat) (headC1 : Nat) (piecesA1 : Option Addr) (piecesL1 : Nat) (piecesC1 : Nat) (h : Heap) (k : Value → Heap → Prop) : Prop := HCalls Tryz.prog 180 [.slice headA1 headL1 headC1, .slice piecesA1 piecesL1 piecesC1] h k
def C.wal_steps_write_c1 (d1 : Option Addr) (x1 : Option Addr) (x2 : Option Addr) (h : Heap) (k : Value → Heap → Prop) : Prop := HCalls Tryz.prog 181 [.pointer d1, .pointer x1, .pointer x2] h k
def C.wal_steps_flush_c1 (d1 : Option Addr) (h : Heap) (k : Value → Heap → Prop) : Prop := HCalls Tryz.prog 182 [.pointer d1] h k
def C.wal_must (ok1 : Bool) (e1 : Int) (h : Heap) (k kp : Value → Heap → Prop) : Prop := PCalls Tryz.prog 183 [.bool ok1, .int .i64 e1] h k kp
def C.head_Nums (headA1 : Option Addr) (headL1 : Nat) (headC1 : Nat) (n1 : Int) (h : Heap) (k : Value → Heap → Prop) : Prop := HCalls Tryz.prog 184 [.slice headA1 headL1 headC1, .int .i64 n1] h k
def C.head_Good (headA1 : Option Addr) (headL1 : Nat) (headC1 : Nat) (n1 : Int) (dataA1 : Option Addr) (dataL1 : Nat) (dataC1 : Nat) (h : Heap) (k : Value → Heap → Prop) : Prop := HCalls Tryz.prog 185 [.slice headA1 headL1 headC1, .int .i64 n1, .slice dataA1 dataL1 dataC1] h k
def C.boleref05_split (lA1 : Option Addr) (lL1 : Nat) (lC1 : Nat) (h : Heap) (k : Value → Heap → Prop) : Prop := HCalls Tryz.prog 186 [.slice lA1 lL1 lC1] h k
def C.boleref05_may (numsA1 : Option Addr) (numsL1 : Nat) (numsC1 : Nat) (n1 : Int) (h : Heap) (k : Value → Heap → Prop) : Prop := HCalls Tryz.prog 187 [.slice numsA1 numsL1 numsC1, .int .i64 n1] h k
def C.boleref04_Make (numsA1 : Option Addr) (numsL1 : Nat) (numsC1 : Nat) (dataA1 : Option Addr) (dataL1 : Nat) (dataC1 : Nat) (h : Heap) (k : Value → Heap → Prop) : Prop := HCalls Tryz.prog 188 [.slice numsA1 numsL1 numsC1, .slice dataA1 dataL1 dataC1] h k
def C.boleref05_write (i1 : Int) (bA1 : Option Addr) (bL1 : Nat) (bC1 : Nat) (h : Heap) (k : Value → Heap → Prop) : Prop := HCalls Tryz.prog 189 [.int .i64 i1, .slice bA1 bL1 bC1] h k
def C.boleref05_flush  (h : Heap) (k : Value → Heap → Prop) : Prop := HCalls Tryz.prog 190 [] h k
def C.boleref04_Nums (headA1 : Option Addr) (headL1 : Nat) (headC1 : Nat) (n1 : Int) (h : Heap) (k : Value → Heap → Prop) : Prop := HCalls Tryz.prog 191 [.slice headA1 headL1 headC1, .int .i64 n1] h k
def C.boleref04_Good (headA1 : Option Addr) (headL1 : Nat) (headC1 : Nat) (n1 : Int) (dataA1 : Option Addr) (dataL1 : Nat) (dataC1 : Nat) (h : Heap) (k : Value → Heap → Prop) : Prop := HCalls Tryz.prog 192 [.slice headA1 headL1 headC1, .int .i64 n1, .slice dataA1 dataL1 dataC1] h k
def C.boleref04_Empty  (h : Heap) (k : Value → Heap → Prop) : Prop := HCalls Tryz.prog 193 [] h k
def C.head_may_c1 (i1 : Int) (x1 : Option Addr) (x2 : Option Addr) (h : Heap) (k : Value → Heap → Prop) : Prop := HCalls Tryz.prog 242 [.int .i64 i1, .pointer x1, .pointer x2] h k
def C.rec_ahead (bA1 : Option Addr) (bL1 : Nat) (bC1 : Nat) (h : Heap) (k : Value → Heap → Prop) : Prop := HCalls Tryz.prog 243 [.slice bA1 bL1 bC1] h k
def C.rec_lie (bA1 : Option Addr) (bL1 : Nat) (bC1 : Nat) (at1 : Int) (n1 : Int) (h : Heap) (k : Value → Heap → Prop) : Prop := HCalls Tryz.prog 244 [.slice bA1 bL1 bC1, .int .i64 at1, .int .i64 n1] h k
def C.rec_isWidth (n1 : Int) (h : Heap) (k : Value → Heap → Prop) : Prop := HCalls Tryz.prog 245 [.int .i64 n1] h k
def C.bytes_Clone (bA1 : Option Addr) (bL1 : Nat) (bC1 : Nat) (h : Heap) (k : Value → Heap → Prop) : Prop := HCalls Tryz.prog 246 [.slice bA1 bL1 bC1] h k
def C.sum_Of (bA1 : Option Addr) (bL1 : Nat) (bC1 : Nat) (h : Heap) (k : Value → Heap → Prop) : Prop := HCalls Tryz.prog 247 [.slice bA1 bL1 bC1] h k
def C.sum_Join (a1 : Int) (b1 : Int) (n1 : Int) (h : Heap) (k : Value → Heap → Prop) : Prop := HCalls Tryz.prog 248 [.int .u32 a1, .int .u32 b1, .int .i64 n1] h k
def C.rec_Zero (bA1 : Option Addr) (bL1 : Nat) (bC1 : Nat) (at1 : Int) (n1 : Int) (h : Heap) (k : Value → Heap → Prop) : Prop := HCalls Tryz.prog 249 [.slice bA1 bL1 bC1, .int .i64 at1, .int .i64 n1] h k
def C.rec_Get (bA1 : Option Addr) (bL1 : Nat) (bC1 : Nat) (at1 : Int) (n1 : Int) (h : Heap) (k : Value → Heap → Prop) : Prop := HCalls Tryz.prog 250 [.slice bA1 bL1 bC1, .int .i64 at1, .int .i64 n1] h k
def C.boleref04_may (numsA1 : Option Addr) (numsL1 : Nat) (numsC1 : Nat) (n1 : Int) (h : Heap) (k : Value → Heap → Prop) : Prop := HCalls Tryz.prog 251 [.slice numsA1 numsL1 numsC1, .int .i64 n1] h k
def C.boleref04_blocks (dataA1 : Option Addr) (dataL1 : Nat) (dataC1 : Nat) (n1 : Int) (h : Heap) (k : Value → Heap → Prop) : Prop := HCalls Tryz.prog 252 [.slice dataA1 dataL1 dataC1, .int .i64 n1] h k
def C.boleref04_laid (numsA1 : Option Addr) (numsL1 : Nat) (numsC1 : Nat) (sum1 : Int) (h : Heap) (k : Value → Heap → Prop) : Prop := HCalls Tryz.prog 253 [.slice numsA1 numsL1 numsC1, .int .u32 sum1] h k
def C.boleref04_SumOf (numsA1 : Option Addr) (numsL1 : Nat) (numsC1 : Nat) (dataA1 : Option Addr) (dataL1 : Nat) (dataC1 : Nat) (h : Heap) (k : Value → Heap → Prop) : Prop := HCalls Tryz.prog 254 [.slice numsA1 numsL1 numsC1, .slice dataA1 dataL1 dataC1] h k
def C.boleref04_number (bA1 : Option Addr) (bL1 : Nat) (bC1 : Nat) (at1 : Int) (h : Heap) (k : Value → Heap → Prop) : Prop := HCalls Tryz.prog 255 [.slice bA1 bL1 bC1, .int .i64 at1] h k
def C.sum_step (v1 : Int) (b1 : Int) (h : Heap) (k : Value → Heap → Prop) : Prop := HCalls Tryz.prog 278 [.int .u32 v1, .int .u8 b1] h k
def C.sum_behind (v1 : Int) (n1 : Int) (h : Heap) (k : Value → Heap → Prop) : Prop := HCalls Tryz.prog 279 [.int .u32 v1, .int .i64 n1] h k
def C.rec_zeros (bA1 : Option Addr) (bL1 : Nat) (bC1 : Nat) (h : Heap) (k : Value → Heap → Prop) : Prop := HCalls Tryz.prog 280 [.slice bA1 bL1 bC1] h k
def C.boleref01_Of (bA1 : Option Addr) (bL1 : Nat) (bC1 : Nat) (h : Heap) (k : Value → Heap → Prop) : Prop := HCalls Tryz.prog 281 [.slice bA1 bL1 bC1] h k
def C.sum_matrix_times (m1 : Option Addr) (v1 : Int) (h : Heap) (k : Value → Heap → Prop) : Prop := HCalls Tryz.prog 300 [.pointer m1, .int .u32 v1] h k
def C.sum_matrix_square (m1 : Option Addr) (h : Heap) (k : Value → Heap → Prop) : Prop := HCalls Tryz.prog 301 [.pointer m1] h k
def C.boleref01_one (w1 : Int) (h : Heap) (k : Value → Heap → Prop) : Prop := HCalls Tryz.prog 302 [.int .u32 w1] h k
def D.wal_Recover_c1 (x1 : Option Addr) (h : Heap) (k : Heap → Prop) : Prop := DCalls Tryz.prog 115 [.pointer x1] h k
def D.wal_Behind_c1 (x1 : Option Addr) (h : Heap) (k : Heap → Prop) : Prop := DCalls Tryz.prog 118 [.pointer x1] h k
def PD.wal_Recover_c1 (x1 : Option Addr) (v : Value) (h : Heap) (k : Heap → Prop) : Prop := PDCalls Tryz.prog 115 [.pointer x1] v h k
def PD.wal_Behind_c1 (x1 : Option Addr) (v : Value) (h : Heap) (k : Heap → Prop) : Prop := PDCalls Tryz.prog 118 [.pointer x1] v h k
end Go.Proofs.YtjdcbblgaoogmaaGreatDoor.W
namespace Go.Proofs.YtjdcbblgaoogmaaGreatDoor.W
open Go Go.Proofs Go.Proofs.YtjdcbblgaoogmaaGreatDoor.Wx
def bolelaw05_WalPlays.k4 (h5 : Heap) (i1 : Int) (h7 : Heap) (I1 : Int → Heap → Prop) (M1 : Int → Heap → Nat) (was1 : Int) (h12 : Heap) (K : Value → Heap → Prop) : Prop :=
  ∃ (q6 : Option Addr), cellOf h12 (Addr.add ⟨h5.size, 0, none⟩ 0) = some (.pointer q6) ∧
  C.adisk_Disk_Steps q6 h12 fun r7 h13 =>
  ∃ (n6 : Int) (n7 : Int), r7 = .tuple #[.int .i64 n6, .int .i64 n7] ∧
  ∃ (q7 : Option Addr), cellOf h13 (Addr.add ⟨h5.size, 0, none⟩ 1) = some (.pointer q7) ∧
  onSome q7 fun p4 =>
  ∃ (n8 : Int), cellOf h13 (Addr.add p4 5) = some (.int .i64 n8) ∧
  bif (n6 != n8) then (
  K (.bool false) h13) else (
  ∃ (q8 : Option Addr), cellOf h13 (Addr.add ⟨h5.size, 0, none⟩ 1) = some (.pointer q8) ∧
  onSome q8 fun p5 =>
  ∃ (n9 : Int), cellOf h13 (Addr.add p5 6) = some (.int .i64 n9) ∧
  bif (n7 != n9) then (
  K (.bool false) h13) else (
  ∃ (q9 : Option Addr), cellOf h13 (Addr.add ⟨h5.size, 0, none⟩ 0) = some (.pointer q9) ∧
  ∃ (q10 : Option Addr), cellOf h13 (Addr.add ⟨h5.size, 0, none⟩ 1) = some (.pointer q10) ∧
  C.adisk_Disk_Tape q9 was1 h13 fun r8 h14 =>
  ∃ (sA2 : Option Addr) (sL2 : Nat) (sC2 : Nat), r8 = .slice sA2 sL2 sC2 ∧
  (cellOf h14 (Addr.add ⟨h5.size, 0, none⟩ 1) = some (.pointer q10)) ∧
  C.boleref03_Disk_Tape q10 was1 h14 fun r9 h15 =>
  ∃ (sA3 : Option Addr) (sL3 : Nat) (sC3 : Nat), r9 = .slice sA3 sL3 sC3 ∧
  C.bolelaw05_sameActs sA2 sL2 sC2 sA3 sL3 sC3 h15 fun r10 h16 =>
  ∃ (b5 : Bool), r10 = .bool b5 ∧
  bif (!b5) then (
  K (.bool false) h16) else (
  I1 (IntKind.wrap .i64 (i1 + 1)) h16 ∧ M1 (IntKind.wrap .i64 (i1 + 1)) h16 < M1 i1 h7)))
def bolelaw05_WalPlays.k3 (h5 : Heap) (i1 : Int) (h7 : Heap) (I1 : Int → Heap → Prop) (M1 : Int → Heap → Nat) (h9 : Heap) (was1 : Int) (K : Value → Heap → Prop) : Prop :=
  ∃ cs2 : List Value, List.length cs2 = 7 ∧ Cells h9 ⟨h7.size, 0, none⟩ cs2 ∧
  C.bolelaw05_play_step (some ⟨h5.size, 0, none⟩) cs2 h9 fun r5 h10 =>
  ∃ (b2 : Bool), r5 = .bool b2 ∧
  bif (!b2) then (
  K (.bool false) h10) else (
  ∃ (q4 : Option Addr), cellOf h10 (Addr.add ⟨h5.size, 0, none⟩ 0) = some (.pointer q4) ∧
  ∃ (q5 : Option Addr), cellOf h10 (Addr.add ⟨h5.size, 0, none⟩ 1) = some (.pointer q5) ∧
  onSome q5 fun p3 =>
  ∃ (b3 : Bool), cellOf h10 (Addr.add p3 4) = some (.bool b3) ∧
  C.adisk_Disk_Down q4 h10 fun r6 h11 =>
  ∃ (b4 : Bool), r6 = .bool b4 ∧
  (cellOf h11 (Addr.add ⟨h5.size, 0, none⟩ 1) = some (.pointer q5)) ∧
  (cellOf h11 (Addr.add p3 4) = some (.bool b3)) ∧
  bif (!(b4 == b3)) then (
  K (.bool false) h11) else (
  bolelaw05_WalPlays.k4 h5 i1 h7 I1 M1 was1 h11 K))
def bolelaw05_WalPlays.k2 (scriptA1 : Option Addr) (scriptL1 : Nat) (h5 : Heap) (i1 : Int) (h7 : Heap) (I1 : Int → Heap → Prop) (M1 : Int → Heap → Nat) (K : Value → Heap → Prop) : Prop :=
  ∃ (q3 : Option Addr), cellOf h7 (Addr.add ⟨h5.size, 0, none⟩ 1) = some (.pointer q3) ∧
  onSome q3 fun p1 =>
  ∃ (sA1 : Option Addr) (sL1 : Nat) (sC1 : Nat), cellOf h7 (Addr.add p1 1) = some (.slice sA1 sL1 sC1) ∧
  (0 ≤ i1 ∧ i1 < (scriptL1 : Int)) ∧
  onSome scriptA1 fun p2 =>
  ∃ cs1 : List Value, List.length cs1 = 7 ∧ Cells h7 (Addr.add p2 ((Int.toNat i1) * 7)) cs1 ∧
  NewRow z46 46 cs1 7 h7 fun h9 =>
  ∃ (n5 : Int), cellOf h9 (Addr.add ⟨h7.size, 0, none⟩ 0) = some (.int .i64 n5) ∧
  bif (n5 == 7) then (
  bolelaw05_WalPlays.k3 h5 i1 h7 I1 M1 h9 0 K) else (
  bolelaw05_WalPlays.k3 h5 i1 h7 I1 M1 h9 (sL1 : Int) K)
def bolelaw05_WalPlays.k5 (h5 : Heap) (h17 : Heap) (K : Value → Heap → Prop) : Prop :=
  ∃ (q11 : Option Addr), cellOf h17 (Addr.add ⟨h5.size, 0, none⟩ 0) = some (.pointer q11) ∧
  ∃ (q12 : Option Addr), cellOf h17 (Addr.add ⟨h5.size, 0, none⟩ 1) = some (.pointer q12) ∧
  C.adisk_Disk_Image q11 h17 fun r11 h18 =>
  ∃ (sA4 : Option Addr) (sL4 : Nat) (sC4 : Nat), r11 = .slice sA4 sL4 sC4 ∧
  (cellOf h18 (Addr.add ⟨h5.size, 0, none⟩ 1) = some (.pointer q12)) ∧
  C.boleref03_Disk_Image q12 h18 fun r12 h19 =>
  ∃ (sA5 : Option Addr) (sL5 : Nat) (sC5 : Nat), r12 = .slice sA5 sL5 sC5 ∧
  C.bolelaw05_sameBytes sA4 sL4 sC4 sA5 sL5 sC5 h19 fun r13 h20 =>
  ∃ (b6 : Bool), r13 = .bool b6 ∧
  bif b6 then (
  C.bolelaw05_play_whole (some ⟨h5.size, 0, none⟩) h20 fun r14 h21 =>
  ∃ (b7 : Bool), r14 = .bool b7 ∧
  K (.bool b7) h21) else (
  K (.bool false) h20)
def bolelaw05_WalPlays.k1 (scriptA1 : Option Addr) (scriptL1 : Nat) (q1 : Option Addr) (h5 : Heap) (q2 : Option Addr) (K : Value → Heap → Prop) : Prop :=
  New [.pointer q1, .pointer q2, .slice none 0 0, .slice none 0 0] 36 h5 fun h6 =>
  ∃ (I1 : Int → Heap → Prop) (M1 : Int → Heap → Nat), I1 0 h6 ∧
  ∀ (i1 : Int), ∀ h7 : Heap, I1 i1 h7 →
  bif (decide (i1 < (scriptL1 : Int))) then (
  bif (decide (i1 < 40)) then (
  bolelaw05_WalPlays.k2 scriptA1 scriptL1 h5 i1 h7 I1 M1 K) else (
  bolelaw05_WalPlays.k5 h5 h7 K)) else (
  bolelaw05_WalPlays.k5 h5 h7 K)
def bolelaw05_WalPlays (n1 : Int) (scriptA1 : Option Addr) (scriptL1 : Nat) (scriptC1 : Nat) (K : Value → Heap → Prop) (h1 : Heap) : Prop :=
  C.bolelaw05_fixed  h1 fun r1 h2 =>
  ∃ (b1 : Bool), r1 = .bool b1 ∧
  bif (!b1) then (
  K (.bool false) h2) else (
  C.bolelaw05_mod n1 50 h2 fun r2 h3 =>
  ∃ (n2 : Int), r2 = .int .i64 n2 ∧
  C.adisk_New (IntKind.wrap .i64 (90 + n2)) h3 fun r3 h4 =>
  ∃ (q1 : Option Addr) (n3 : Int), r3 = .tuple #[.pointer q1, .int .i64 n3] ∧
  C.boleref03_New (IntKind.wrap .i64 (90 + n2)) h4 fun r4 h5 =>
  ∃ (q2 : Option Addr) (n4 : Int), r4 = .tuple #[.pointer q2, .int .i64 n4] ∧
  bif (n3 != 0) then (
  K (.bool false) h5) else (
  bif (n4 != 0) then (
  K (.bool false) h5) else (
  bif (Option.isNone q1) then (
  K (.bool false) h5) else (
  bolelaw05_WalPlays.k1 scriptA1 scriptL1 q1 h5 q2 K))))
def bolelaw05_WalPlays.lo : Nat → List Nat × List (Nat × Ty) := fun n => match n with | 10 => ([1, 10], [(11, .int .i64)]) | _ => ([], [])
set_option maxRecDepth 100000 in
def bolelaw05_WalPlays.od : Nat → Od := fun n => match n with | 16 => (.op 0 [] (.op 1 [] (.op 2 [] (.op 3 [] (.op 4 [] (.op 5 [] (.op 6 [] (.op 7 [] (.op 8 [] (.op 10 [] (.op 11 [] (.op 12 [] (.op 13 [] (.op 14 [] (.op 15 [] (.op 16 [] (.op 9 [13, 16] (.op 17 [] (.op 18 [] .nil))))))))))))))))))) | 19 => (.op 0 [] (.op 1 [] (.op 2 [] (.op 3 [] (.op 4 [] (.op 5 [] (.op 6 [] (.op 7 [] (.op 8 [] (.op 9 [] (.op 10 [] (.op 11 [] (.op 12 [] (.op 13 [] (.op 14 [] (.op 15 [] (.op 16 [] (.op 17 [] (.op 18 [] (.op 19 [] (.op 20 [] (.op 21 [] (.op 22 [] (.op 23 [] (.op 24 [] (.op 25 [] (.op 27 [] (.op 28 [] (.op 29 [] (.op 30 [] (.op 31 [] (.op 26 [30] (.op 32 [] (.op 33 [] (.op 34 [] (.op 35 [] .nil)))))))))))))))))))))))))))))))))))) | 21 => (.op 0 [] (.op 1 [] (.op 2 [] (.op 3 [] (.op 5 [] (.op 6 [] (.op 7 [] (.op 8 [] (.op 4 [8] (.op 9 [] (.op 10 [] (.op 11 [] (.op 12 [] (.op 13 [] (.op 14 [] (.op 15 [] .nil)))))))))))))))) | _ => .nil
set_option maxRecDepth 100000 in
theorem bolelaw05_WalPlays.eq (n1 : Int) (scriptA1 : Option Addr) (scriptL1 : Nat) (scriptC1 : Nat) (K : Value → Heap → Prop) (h : Heap) : fnX (cx bolelaw05_WalPlays.lo bolelaw05_WalPlays.od) Tryz.f3 (Tryz.f3.body.getD .skip) [.int .i64 n1, .slice scriptA1 scriptL1 scriptC1] K h = bolelaw05_WalPlays n1 scriptA1 scriptL1 scriptC1 K h := by kernel_rfl
theorem bolelaw05_WalPlays.chk : fnOk (cx bolelaw05_WalPlays.lo bolelaw05_WalPlays.od) Tryz.f3 (Tryz.f3.body.getD .skip) 2 = true := by kernel_rfl
set_option maxRecDepth 100000 in
theorem bolelaw05_WalPlays.ok {n1 : Int} {scriptA1 : Option Addr} {scriptL1 : Nat} {scriptC1 : Nat} {K : Value → Heap → Prop} {h : Heap} (hx : bolelaw05_WalPlays n1 scriptA1 scriptL1 scriptC1 K h) : C.bolelaw05_WalPlays n1 scriptA1 scriptL1 scriptC1 h K :=
  fn_to (cxOk _ _) Tryz.func3 (by kernel_rfl) bolelaw05_WalPlays.chk (by rw [bolelaw05_WalPlays.eq]; exact hx)
def bolelaw05_fixed.k1 (h2 : Heap) (q1 : Option Addr) (K : Value → Heap → Prop) : Prop :=
  C.bolelaw05_block none 0 0 65 h2 fun r2 h3 =>
  ∃ (sA1 : Option Addr) (sL1 : Nat) (sC1 : Nat), r2 = .slice sA1 sL1 sC1 ∧
  C.bolelaw05_block none 0 0 66 h3 fun r3 h4 =>
  ∃ (sA2 : Option Addr) (sL2 : Nat) (sC2 : Nat), r3 = .slice sA2 sL2 sC2 ∧
  List.length ([.int .i64 98, .slice sA1 sL1 sC1] : List Value) = 2 ∧
  List.length ([.int .i64 99, .slice sA2 sL2 sC2] : List Value) = 2 ∧
  New [.int .i64 98, .slice sA1 sL1 sC1, .int .i64 99, .slice sA2 sL2 sC2] 103 h4 fun h5 =>
  C.wal_Commit q1 (some ⟨h4.size, 0, none⟩) 2 2 h5 fun r4 h6 =>
  ∃ (n2 : Int), r4 = .int .i64 n2 ∧
  C.adisk_Disk_Steps q1 h6 fun r5 h7 =>
  ∃ (n3 : Int) (n4 : Int), r5 = .tuple #[.int .i64 n3, .int .i64 n4] ∧
  C.adisk_Disk_Read q1 98 h7 fun r6 h8 =>
  ∃ (sA3 : Option Addr) (sL3 : Nat) (sC3 : Nat) (n5 : Int), r6 = .tuple #[.slice sA3 sL3 sC3, .int .i64 n5] ∧
  C.adisk_Disk_Read q1 3 h8 fun r7 h9 =>
  ∃ (sA4 : Option Addr) (sL4 : Nat) (sC4 : Nat) (n6 : Int), r7 = .tuple #[.slice sA4 sL4 sC4, .int .i64 n6] ∧
  C.wal_Recover q1 h9 fun r8 h10 =>
  ∃ (n7 : Int) (n8 : Int), r8 = .tuple #[.int .i64 n7, .int .i64 n8] ∧
  C.wal_Behind q1 h10 fun r9 h11 =>
  ∃ (sA5 : Option Addr) (sL5 : Nat) (sC5 : Nat) (n9 : Int), r9 = .tuple #[.slice sA5 sL5 sC5, .int .i64 n9] ∧
  bif (n2 == 0) then (
  bif (n3 == 6) then (
  bif (n4 == 4) then (
  bif (n5 == 0) then (
  C.bolelaw05_sameBytes sA3 sL3 sC3 sA1 sL1 sC1 h11 fun r10 h12 =>
  ∃ (b1 : Bool), r10 = .bool b1 ∧
  bif b1 then (
  bif (n6 == 0) then (
  C.bolelaw05_sameBytes sA4 sL4 sC4 sA2 sL2 sC2 h12 fun r11 h13 =>
  ∃ (b2 : Bool), r11 = .bool b2 ∧
  bif b2 then (
  bif (n8 == 0) then (
  bif (n7 == 0) then (
  bif (n9 == 0) then (
  bif ((sL5 : Int) == 51200) then (
  (0 ≤ (50176 : Int) ∧ 50176 < (sL5 : Int)) ∧
  onSome sA5 fun p1 =>
  ∃ (n10 : Int), cellOf h13 (Addr.add p1 (Int.toNat 50176)) = some (.int .u8 n10) ∧
  bif (n10 == 65) then (
  (0 ≤ (512 : Int) ∧ 512 < (sL5 : Int)) ∧
  onSome sA5 fun p2 =>
  ∃ (n11 : Int), cellOf h13 (Addr.add p2 (Int.toNat 512)) = some (.int .u8 n11) ∧
  K (.bool (n11 == 0)) h13) else (
  K (.bool false) h13)) else (
  K (.bool false) h13)) else (
  K (.bool false) h13)) else (
  K (.bool false) h13)) else (
  K (.bool false) h13)) else (
  K (.bool false) h13)) else (
  K (.bool false) h12)) else (
  K (.bool false) h12)) else (
  K (.bool false) h11)) else (
  K (.bool false) h11)) else (
  K (.bool false) h11)) else (
  K (.bool false) h11)
def bolelaw05_fixed  (K : Value → Heap → Prop) (h1 : Heap) : Prop :=
  C.adisk_New 100 h1 fun r1 h2 =>
  ∃ (q1 : Option Addr) (n1 : Int), r1 = .tuple #[.pointer q1, .int .i64 n1] ∧
  bif (n1 != 0) then (
  K (.bool false) h2) else (
  bif (Option.isNone q1) then (
  K (.bool false) h2) else (
  bolelaw05_fixed.k1 h2 q1 K))
def bolelaw05_fixed.lo : Nat → List Nat × List (Nat × Ty) := fun n => match n with | _ => ([], [])
def bolelaw05_fixed.od : Nat → Od := fun n => match n with | _ => .nil
theorem bolelaw05_fixed.eq  (K : Value → Heap → Prop) (h : Heap) : fnX (cx bolelaw05_fixed.lo bolelaw05_fixed.od) Tryz.f7 (Tryz.f7.body.getD .skip) [] K h = bolelaw05_fixed  K h := by kernel_rfl
theorem bolelaw05_fixed.chk : fnOk (cx bolelaw05_fixed.lo bolelaw05_fixed.od) Tryz.f7 (Tryz.f7.body.getD .skip) 0 = true := by kernel_rfl
theorem bolelaw05_fixed.ok  {K : Value → Heap → Prop} {h : Heap} (hx : bolelaw05_fixed  K h) : C.bolelaw05_fixed  h K :=
  fn_to (cxOk _ _) Tryz.func7 (by kernel_rfl) bolelaw05_fixed.chk (by rw [bolelaw05_fixed.eq]; exact hx)
def bolelaw05_mod (k1 : Int) (n1 : Int) (K : Value → Heap → Prop) (h1 : Heap) : Prop :=
  if n1 = 0 then False else
  bif (decide ((Int.tmod k1 n1) < 0)) then (
  K (.int .i64 (IntKind.wrap .i64 ((Int.tmod k1 n1) + n1))) h1) else (
  K (.int .i64 (Int.tmod k1 n1)) h1)
def bolelaw05_mod.lo : Nat → List Nat × List (Nat × Ty) := fun n => match n with | _ => ([], [])
def bolelaw05_mod.od : Nat → Od := fun n => match n with | _ => .nil
theorem bolelaw05_mod.eq (k1 : Int) (n1 : Int) (K : Value → Heap → Prop) (h : Heap) : fnX (cx bolelaw05_mod.lo bolelaw05_mod.od) Tryz.f8 (Tryz.f8.body.getD .skip) [.int .i64 k1, .int .i64 n1] K h = bolelaw05_mod k1 n1 K h := by kernel_rfl
theorem bolelaw05_mod.chk : fnOk (cx bolelaw05_mod.lo bolelaw05_mod.od) Tryz.f8 (Tryz.f8.body.getD .skip) 2 = true := by kernel_rfl
theorem bolelaw05_mod.ok {k1 : Int} {n1 : Int} {K : Value → Heap → Prop} {h : Heap} (hx : bolelaw05_mod k1 n1 K h) : C.bolelaw05_mod k1 n1 h K :=
  fn_to (cxOk _ _) Tryz.func8 (by kernel_rfl) bolelaw05_mod.chk (by rw [bolelaw05_mod.eq]; exact hx)
def adisk_New (n1 : Int) (K : Value → Heap → Prop) (h1 : Heap) : Prop :=
  bif (decide (n1 < 1)) then (
  K (.tuple #[.pointer none, .int .i64 32]) h1) else (
  bif (decide (n1 > 16384)) then (
  K (.tuple #[.pointer none, .int .i64 32]) h1) else (
  (0 ≤ n1 ∧ n1 ≤ n1 ∧ (512 : Int) * n1 ≤ 281474976710656 ∧ n1 ≤ 281474976710656) ∧
  New (repCells z125 (Int.toNat n1)) 125 h1 fun h2 =>
  New [.slice (some ⟨h1.size, 0, none⟩) (Int.toNat n1) (Int.toNat n1), .slice none 0 0, .int .i64 0, .slice none 0 0, .bool false, .int .i64 0, .int .i64 0, .slice none 0 0] 112 h2 fun h3 =>
  K (.tuple #[.pointer (some ⟨h2.size, 0, none⟩), .int .i64 0]) h3))
def adisk_New.lo : Nat → List Nat × List (Nat × Ty) := fun n => match n with | _ => ([], [])
def adisk_New.od : Nat → Od := fun n => match n with | _ => .nil
set_option maxRecDepth 1000000 in
theorem adisk_New.eq (n1 : Int) (K : Value → Heap → Prop) (h : Heap) : fnX (cx adisk_New.lo adisk_New.od) Tryz.f9 (Tryz.f9.body.getD .skip) [.int .i64 n1] K h = adisk_New n1 K h := by kernel_rfl
theorem adisk_New.chk : fnOk (cx adisk_New.lo adisk_New.od) Tryz.f9 (Tryz.f9.body.getD .skip) 1 = true := by kernel_rfl
set_option maxRecDepth 1000000 in
theorem adisk_New.ok {n1 : Int} {K : Value → Heap → Prop} {h : Heap} (hx : adisk_New n1 K h) : C.adisk_New n1 h K :=
  fn_to (cxOk _ _) Tryz.func9 (by kernel_rfl) adisk_New.chk (by rw [adisk_New.eq]; exact hx)
def boleref03_New.k1 (n1 : Int) (h1 : Heap) (K : Value → Heap → Prop) : Prop :=
  (0 ≤ (IntKind.wrap .i64 (n1 * 512)) ∧ (IntKind.wrap .i64 (n1 * 512)) ≤ (IntKind.wrap .i64 (n1 * 512)) ∧ (1 : Int) * (IntKind.wrap .i64 (n1 * 512)) ≤ 281474976710656 ∧ (IntKind.wrap .i64 (n1 * 512)) ≤ 281474976710656) ∧
  New (repCells z5 (Int.toNat (IntKind.wrap .i64 (n1 * 512)))) 5 h1 fun h2 =>
  New [.slice (some ⟨h1.size, 0, none⟩) (Int.toNat (IntKind.wrap .i64 (n1 * 512))) (Int.toNat (IntKind.wrap .i64 (n1 * 512))), .slice none 0 0, .slice none 0 0, .int .i64 0, .bool false, .int .i64 0, .int .i64 0] 41 h2 fun h3 =>
  K (.tuple #[.pointer (some ⟨h2.size, 0, none⟩), .int .i64 0]) h3
def boleref03_New (n1 : Int) (K : Value → Heap → Prop) (h1 : Heap) : Prop :=
  bif (decide (n1 < 1)) then (
  K (.tuple #[.pointer none, .int .i64 32]) h1) else (
  bif (decide (n1 > 16384)) then (
  K (.tuple #[.pointer none, .int .i64 32]) h1) else (
  boleref03_New.k1 n1 h1 K))
def boleref03_New.lo : Nat → List Nat × List (Nat × Ty) := fun n => match n with | _ => ([], [])
def boleref03_New.od : Nat → Od := fun n => match n with | _ => .nil
set_option maxRecDepth 1000000 in
theorem boleref03_New.eq (n1 : Int) (K : Value → Heap → Prop) (h : Heap) : fnX (cx boleref03_New.lo boleref03_New.od) Tryz.f10 (Tryz.f10.body.getD .skip) [.int .i64 n1] K h = boleref03_New n1 K h := by kernel_rfl
theorem boleref03_New.chk : fnOk (cx boleref03_New.lo boleref03_New.od) Tryz.f10 (Tryz.f10.body.getD .skip) 1 = true := by kernel_rfl
set_option maxRecDepth 1000000 in
theorem boleref03_New.ok {n1 : Int} {K : Value → Heap → Prop} {h : Heap} (hx : boleref03_New n1 K h) : C.boleref03_New n1 h K :=
  fn_to (cxOk _ _) Tryz.func10 (by kernel_rfl) boleref03_New.chk (by rw [boleref03_New.eq]; exact hx)
def bolelaw05_play_step.k1 (sA2 : Option Addr) (sL2 : Nat) (ok1 : Bool) (h7 : Heap) (K : Value → Heap → Prop) : Prop :=
  ∃ (I1 : Int → Heap → Prop) (M1 : Int → Heap → Nat), I1 0 h7 ∧
  ∀ (i1 : Int), ∀ h8 : Heap, I1 i1 h8 →
  bif (decide (i1 < (sL2 : Int))) then (
  ∃ (I2 : Int → Heap → Prop) (M2 : Int → Heap → Nat), I2 0 h8 ∧
  ∀ (k1 : Int), ∀ h9 : Heap, I2 k1 h9 →
  (0 ≤ i1 ∧ i1 < (sL2 : Int)) ∧
  onSome sA2 fun p4 =>
  ∃ (sA5 : Option Addr) (sL5 : Nat) (sC5 : Nat), cellOf h9 (Addr.add (Addr.add p4 ((Int.toNat i1) * 2)) 1) = some (.slice sA5 sL5 sC5) ∧
  bif (decide (k1 < (sL5 : Int))) then (
  (0 ≤ i1 ∧ i1 < (sL2 : Int)) ∧
  onSome sA2 fun p5 =>
  ∃ (sA6 : Option Addr) (sL6 : Nat) (sC6 : Nat), cellOf h9 (Addr.add (Addr.add p5 ((Int.toNat i1) * 2)) 1) = some (.slice sA6 sL6 sC6) ∧
  (0 ≤ k1 ∧ k1 < (sL6 : Int)) ∧
  onSome sA6 fun p6 =>
  Put (Addr.add p6 (Int.toNat k1)) (.int .u8 98) h9 fun h10 =>
  I2 (IntKind.wrap .i64 (k1 + 1)) h10 ∧ M2 (IntKind.wrap .i64 (k1 + 1)) h10 < M2 k1 h9) else (
  (0 ≤ i1 ∧ i1 < (sL2 : Int)) ∧
  onSome sA2 fun p7 =>
  Put (Addr.add (Addr.add p7 ((Int.toNat i1) * 2)) 0) (.int .i64 0) h9 fun h11 =>
  I1 (IntKind.wrap .i64 (i1 + 1)) h11 ∧ M1 (IntKind.wrap .i64 (i1 + 1)) h11 < M1 i1 h8)) else (
  K (.bool ok1) h8)
def bolelaw05_play_step (p1 : Option Addr) (o1 : List Value) (K : Value → Heap → Prop) (h1 : Heap) : Prop :=
  New o1 46 h1 fun h2 =>
  ∃ (n1 : Int), cellOf h2 (Addr.add ⟨h1.size, 0, none⟩ 0) = some (.int .i64 n1) ∧
  bif (n1 == 0) then (
  ∃ (sA1 : Option Addr) (sL1 : Nat) (sC1 : Nat), cellOf h2 (Addr.add ⟨h1.size, 0, none⟩ 1) = some (.slice sA1 sL1 sC1) ∧
  C.bolelaw05_lent sA1 sL1 sC1 h2 fun r1 h3 =>
  ∃ (sA2 : Option Addr) (sL2 : Nat) (sC2 : Nat), r1 = .slice sA2 sL2 sC2 ∧
  onSome p1 fun p2 =>
  ∃ (q1 : Option Addr), cellOf h3 (Addr.add p2 1) = some (.pointer q1) ∧
  ∃ (sA3 : Option Addr) (sL3 : Nat) (sC3 : Nat), cellOf h3 (Addr.add ⟨h1.size, 0, none⟩ 1) = some (.slice sA3 sL3 sC3) ∧
  C.boleref05_Commit q1 sA3 sL3 sC3 h3 fun r2 h4 =>
  ∃ (n2 : Int), r2 = .int .i64 n2 ∧
  onSome p1 fun p3 =>
  ∃ (q2 : Option Addr), cellOf h4 (Addr.add p3 0) = some (.pointer q2) ∧
  C.wal_Commit q2 sA2 sL2 sC2 h4 fun r3 h5 =>
  ∃ (n3 : Int), r3 = .int .i64 n3 ∧
  bif (n3 == n2) then (
  ∃ (sA4 : Option Addr) (sL4 : Nat) (sC4 : Nat), cellOf h5 (Addr.add ⟨h1.size, 0, none⟩ 1) = some (.slice sA4 sL4 sC4) ∧
  C.bolelaw05_kept sA2 sL2 sC2 sA4 sL4 sC4 h5 fun r4 h6 =>
  ∃ (b1 : Bool), r4 = .bool b1 ∧
  bolelaw05_play_step.k1 sA2 sL2 b1 h6 K) else (
  bolelaw05_play_step.k1 sA2 sL2 false h5 K)) else (
  bif (n1 == 1) then (
  onSome p1 fun p8 =>
  ∃ (q3 : Option Addr), cellOf h2 (Addr.add p8 1) = some (.pointer q3) ∧
  C.boleref05_Recover q3 h2 fun r5 h12 =>
  ∃ (n4 : Int) (n5 : Int), r5 = .tuple #[.int .i64 n4, .int .i64 n5] ∧
  onSome p1 fun p9 =>
  ∃ (q4 : Option Addr), cellOf h12 (Addr.add p9 0) = some (.pointer q4) ∧
  C.wal_Recover q4 h12 fun r6 h13 =>
  ∃ (n6 : Int) (n7 : Int), r6 = .tuple #[.int .i64 n6, .int .i64 n7] ∧
  bif (n6 == n4) then (
  K (.bool (n7 == n5)) h13) else (
  K (.bool false) h13)) else (
  bif (n1 == 2) then (
  C.bolelaw05_play_behind p1 h2 fun r7 h14 =>
  ∃ (b2 : Bool), r7 = .bool b2 ∧
  K (.bool b2) h14) else (
  bif (n1 == 3) then (
  ∃ (sA7 : Option Addr) (sL7 : Nat) (sC7 : Nat), cellOf h2 (Addr.add ⟨h1.size, 0, none⟩ 4) = some (.slice sA7 sL7 sC7) ∧
  ∃ (n8 : Int), cellOf h2 (Addr.add ⟨h1.size, 0, none⟩ 3) = some (.int .u8 n8) ∧
  C.bolelaw05_block sA7 sL7 sC7 n8 h2 fun r8 h15 =>
  ∃ (sA8 : Option Addr) (sL8 : Nat) (sC8 : Nat), r8 = .slice sA8 sL8 sC8 ∧
  onSome p1 fun p10 =>
  ∃ (q5 : Option Addr), cellOf h15 (Addr.add p10 1) = some (.pointer q5) ∧
  ∃ (n9 : Int), cellOf h15 (Addr.add ⟨h1.size, 0, none⟩ 2) = some (.int .i64 n9) ∧
  C.boleref03_Disk_Write q5 n9 sA8 sL8 sC8 h15 fun r9 h16 =>
  ∃ (n10 : Int), r9 = .int .i64 n10 ∧
  onSome p1 fun p11 =>
  ∃ (q6 : Option Addr), cellOf h16 (Addr.add p11 0) = some (.pointer q6) ∧
  ∃ (n11 : Int), cellOf h16 (Addr.add ⟨h1.size, 0, none⟩ 2) = some (.int .i64 n11) ∧
  C.adisk_Disk_Write q6 n11 sA8 sL8 sC8 h16 fun r10 h17 =>
  ∃ (n12 : Int), r10 = .int .i64 n12 ∧
  K (.bool (n12 == n10)) h17) else (
  bif (n1 == 4) then (
  onSome p1 fun p12 =>
  ∃ (q7 : Option Addr), cellOf h2 (Addr.add p12 1) = some (.pointer q7) ∧
  C.boleref03_Disk_Flush q7 h2 fun r11 h18 =>
  ∃ (n13 : Int), r11 = .int .i64 n13 ∧
  onSome p1 fun p13 =>
  ∃ (q8 : Option Addr), cellOf h18 (Addr.add p13 0) = some (.pointer q8) ∧
  C.adisk_Disk_Flush q8 h18 fun r12 h19 =>
  ∃ (n14 : Int), r12 = .int .i64 n14 ∧
  K (.bool (n14 == n13)) h19) else (
  bif (n1 == 5) then (
  onSome p1 fun p14 =>
  ∃ (q9 : Option Addr), cellOf h2 (Addr.add p14 1) = some (.pointer q9) ∧
  ∃ cs1 : List Value, List.length cs1 = 2 ∧ Cells h2 (Addr.add ⟨h1.size, 0, none⟩ 5) cs1 ∧
  C.boleref03_Disk_Arm q9 cs1 h2 fun r13 h20 =>
  ∃ (n15 : Int), r13 = .int .i64 n15 ∧
  onSome p1 fun p15 =>
  ∃ (q10 : Option Addr), cellOf h20 (Addr.add p15 0) = some (.pointer q10) ∧
  ∃ cs2 : List Value, List.length cs2 = 2 ∧ Cells h20 (Addr.add ⟨h1.size, 0, none⟩ 5) cs2 ∧
  C.adisk_Disk_Arm q10 cs2 h20 fun r14 h21 =>
  ∃ (n16 : Int), r14 = .int .i64 n16 ∧
  K (.bool (n16 == n15)) h21) else (
  bif (n1 == 6) then (
  onSome p1 fun p16 =>
  ∃ (q11 : Option Addr), cellOf h2 (Addr.add p16 1) = some (.pointer q11) ∧
  ∃ (sA9 : Option Addr) (sL9 : Nat) (sC9 : Nat), cellOf h2 (Addr.add (Addr.add ⟨h1.size, 0, none⟩ 5) 1) = some (.slice sA9 sL9 sC9) ∧
  C.boleref03_Disk_Crash q11 sA9 sL9 sC9 h2 fun r15 h22 =>
  r15 = .tuple #[] ∧
  onSome p1 fun p17 =>
  ∃ (q12 : Option Addr), cellOf h22 (Addr.add p17 0) = some (.pointer q12) ∧
  ∃ (sA10 : Option Addr) (sL10 : Nat) (sC10 : Nat), cellOf h22 (Addr.add (Addr.add ⟨h1.size, 0, none⟩ 5) 1) = some (.slice sA10 sL10 sC10) ∧
  C.adisk_Disk_Crash q12 sA10 sL10 sC10 h22 fun r16 h23 =>
  r16 = .tuple #[] ∧
  K (.bool true) h23) else (
  bif (n1 == 7) then (
  C.bolelaw05_play_again p1 h2 fun r17 h24 =>
  ∃ (b3 : Bool), r17 = .bool b3 ∧
  K (.bool b3) h24) else (
  K (.bool true) h2))))))))
def bolelaw05_play_step.lo : Nat → List Nat × List (Nat × Ty) := fun n => match n with | 8 => ([5, 8], [(9, .int .i64)]) | 11 => ([5, 8, 9], [(10, .int .i64)]) | _ => ([], [])
set_option maxRecDepth 100000 in
def bolelaw05_play_step.od : Nat → Od := fun n => match n with | 4 => (.op 0 [] (.op 1 [] (.op 2 [] (.op 3 [] (.op 4 [] (.op 5 [] (.op 6 [] (.op 7 [] .nil)))))))) | 24 => (.op 0 [] (.op 1 [] (.op 2 [] (.op 3 [] (.op 4 [] (.op 5 [] (.op 6 [] (.op 7 [] (.op 8 [] .nil))))))))) | 25 => (.op 0 [] (.op 1 [] (.op 2 [] (.op 3 [] (.op 4 [] (.op 5 [] (.op 6 [] (.op 8 [] (.op 7 [] (.op 9 [] (.op 10 [] .nil))))))))))) | 30 => (.op 0 [] (.op 1 [] (.op 2 [] (.op 3 [] (.op 4 [] (.op 5 [] (.op 6 [] (.op 7 [] .nil)))))))) | 31 => (.op 0 [] (.op 1 [] (.op 2 [] (.op 3 [] (.op 4 [] (.op 5 [] (.op 7 [] (.op 6 [] (.op 8 [] (.op 9 [] .nil)))))))))) | 33 => (.op 0 [] (.op 1 [] (.op 2 [] (.op 3 [] (.op 4 [] (.op 5 [] (.op 6 [] (.op 7 [] .nil)))))))) | 34 => (.op 0 [] (.op 1 [] (.op 2 [] (.op 3 [] (.op 4 [] (.op 5 [] (.op 6 [] (.op 7 [] .nil)))))))) | _ => .nil
set_option maxRecDepth 100000 in
theorem bolelaw05_play_step.eq (p1 : Option Addr) (o1 : List Value) (K : Value → Heap → Prop) (h : Heap) : fnX (cx bolelaw05_play_step.lo bolelaw05_play_step.od) Tryz.f11 (Tryz.f11.body.getD .skip) [.pointer p1, .agg ⟨o1⟩] K h = bolelaw05_play_step p1 o1 K h := by kernel_rfl
theorem bolelaw05_play_step.chk : fnOk (cx bolelaw05_play_step.lo bolelaw05_play_step.od) Tryz.f11 (Tryz.f11.body.getD .skip) 2 = true := by kernel_rfl
set_option maxRecDepth 100000 in
theorem bolelaw05_play_step.ok {p1 : Option Addr} {o1 : List Value} {K : Value → Heap → Prop} {h : Heap} (hx : bolelaw05_play_step p1 o1 K h) : C.bolelaw05_play_step p1 o1 h K :=
  fn_to (cxOk _ _) Tryz.func11 (by kernel_rfl) bolelaw05_play_step.chk (by rw [bolelaw05_play_step.eq]; exact hx)
def adisk_Disk_Down (d1 : Option Addr) (K : Value → Heap → Prop) (h1 : Heap) : Prop :=
  onSome d1 fun p1 =>
  ∃ (b1 : Bool), cellOf h1 (Addr.add p1 4) = some (.bool b1) ∧
  K (.bool b1) h1
def adisk_Disk_Down.lo : Nat → List Nat × List (Nat × Ty) := fun n => match n with | _ => ([], [])
def adisk_Disk_Down.od : Nat → Od := fun n => match n with | _ => .nil
theorem adisk_Disk_Down.eq (d1 : Option Addr) (K : Value → Heap → Prop) (h : Heap) : fnX (cx adisk_Disk_Down.lo adisk_Disk_Down.od) Tryz.f12 (Tryz.f12.body.getD .skip) [.pointer d1] K h = adisk_Disk_Down d1 K h := by kernel_rfl
theorem adisk_Disk_Down.chk : fnOk (cx adisk_Disk_Down.lo adisk_Disk_Down.od) Tryz.f12 (Tryz.f12.body.getD .skip) 1 = true := by kernel_rfl
theorem adisk_Disk_Down.ok {d1 : Option Addr} {K : Value → Heap → Prop} {h : Heap} (hx : adisk_Disk_Down d1 K h) : C.adisk_Disk_Down d1 h K :=
  fn_to (cxOk _ _) Tryz.func12 (by kernel_rfl) adisk_Disk_Down.chk (by rw [adisk_Disk_Down.eq]; exact hx)
def adisk_Disk_Steps (d1 : Option Addr) (K : Value → Heap → Prop) (h1 : Heap) : Prop :=
  onSome d1 fun p1 =>
  ∃ (n1 : Int), cellOf h1 (Addr.add p1 5) = some (.int .i64 n1) ∧
  onSome d1 fun p2 =>
  ∃ (n2 : Int), cellOf h1 (Addr.add p2 6) = some (.int .i64 n2) ∧
  K (.tuple #[.int .i64 n1, .int .i64 n2]) h1
def adisk_Disk_Steps.lo : Nat → List Nat × List (Nat × Ty) := fun n => match n with | _ => ([], [])
def adisk_Disk_Steps.od : Nat → Od := fun n => match n with | 1 => (.op 0 [] (.op 1 [] (.op 2 [] (.op 3 [] (.op 4 [] (.op 5 [] (.op 6 [] (.op 7 [] (.op 8 [] (.op 9 [] .nil)))))))))) | _ => .nil
theorem adisk_Disk_Steps.eq (d1 : Option Addr) (K : Value → Heap → Prop) (h : Heap) : fnX (cx adisk_Disk_Steps.lo adisk_Disk_Steps.od) Tryz.f13 (Tryz.f13.body.getD .skip) [.pointer d1] K h = adisk_Disk_Steps d1 K h := by kernel_rfl
theorem adisk_Disk_Steps.chk : fnOk (cx adisk_Disk_Steps.lo adisk_Disk_Steps.od) Tryz.f13 (Tryz.f13.body.getD .skip) 1 = true := by kernel_rfl
theorem adisk_Disk_Steps.ok {d1 : Option Addr} {K : Value → Heap → Prop} {h : Heap} (hx : adisk_Disk_Steps d1 K h) : C.adisk_Disk_Steps d1 h K :=
  fn_to (cxOk _ _) Tryz.func13 (by kernel_rfl) adisk_Disk_Steps.chk (by rw [adisk_Disk_Steps.eq]; exact hx)
def bolelaw05_sameActs (aA1 : Option Addr) (aL1 : Nat) (aC1 : Nat) (bA1 : Option Addr) (bL1 : Nat) (bC1 : Nat) (K : Value → Heap → Prop) (h1 : Heap) : Prop :=
  bif ((aL1 : Int) != (bL1 : Int)) then (
  K (.bool false) h1) else (
  ∃ (I1 : Int → Heap → Prop) (M1 : Int → Heap → Nat), I1 0 h1 ∧
  ∀ (i1 : Int), ∀ h2 : Heap, I1 i1 h2 →
  bif (decide (i1 < (aL1 : Int))) then (
  (0 ≤ i1 ∧ i1 < (aL1 : Int)) ∧
  onSome aA1 fun p1 =>
  ∃ (n1 : Int), cellOf h2 (Addr.add (Addr.add p1 ((Int.toNat i1) * 3)) 0) = some (.int .i64 n1) ∧
  (0 ≤ i1 ∧ i1 < (bL1 : Int)) ∧
  onSome bA1 fun p2 =>
  ∃ (n2 : Int), cellOf h2 (Addr.add (Addr.add p2 ((Int.toNat i1) * 3)) 0) = some (.int .i64 n2) ∧
  bif (n1 != n2) then (
  K (.bool false) h2) else (
  (0 ≤ i1 ∧ i1 < (aL1 : Int)) ∧
  onSome aA1 fun p3 =>
  ∃ (n3 : Int), cellOf h2 (Addr.add (Addr.add p3 ((Int.toNat i1) * 3)) 1) = some (.int .i64 n3) ∧
  (0 ≤ i1 ∧ i1 < (bL1 : Int)) ∧
  onSome bA1 fun p4 =>
  ∃ (n4 : Int), cellOf h2 (Addr.add (Addr.add p4 ((Int.toNat i1) * 3)) 1) = some (.int .i64 n4) ∧
  bif (n3 != n4) then (
  K (.bool false) h2) else (
  (0 ≤ i1 ∧ i1 < (aL1 : Int)) ∧
  onSome aA1 fun p5 =>
  ∃ (sA1 : Option Addr) (sL1 : Nat) (sC1 : Nat), cellOf h2 (Addr.add (Addr.add p5 ((Int.toNat i1) * 3)) 2) = some (.slice sA1 sL1 sC1) ∧
  (0 ≤ i1 ∧ i1 < (bL1 : Int)) ∧
  onSome bA1 fun p6 =>
  ∃ (sA2 : Option Addr) (sL2 : Nat) (sC2 : Nat), cellOf h2 (Addr.add (Addr.add p6 ((Int.toNat i1) * 3)) 2) = some (.slice sA2 sL2 sC2) ∧
  C.bolelaw05_sameBytes sA1 sL1 sC1 sA2 sL2 sC2 h2 fun r1 h3 =>
  ∃ (b1 : Bool), r1 = .bool b1 ∧
  bif (!b1) then (
  K (.bool false) h3) else (
  I1 (IntKind.wrap .i64 (i1 + 1)) h3 ∧ M1 (IntKind.wrap .i64 (i1 + 1)) h3 < M1 i1 h2)))) else (
  K (.bool true) h2))
def bolelaw05_sameActs.lo : Nat → List Nat × List (Nat × Ty) := fun n => match n with | 4 => ([0, 1], [(5, .int .i64)]) | _ => ([], [])
def bolelaw05_sameActs.od : Nat → Od := fun n => match n with | 6 => (.op 0 [] (.op 1 [] (.op 2 [] (.op 3 [] (.op 4 [] (.op 5 [] (.op 6 [] (.op 7 [] (.op 8 [] (.op 9 [] (.op 10 [] (.op 11 [] (.op 12 [] (.op 13 [] (.op 14 [] (.op 15 [] (.op 16 [] (.op 17 [] (.op 18 [] (.op 19 [] (.op 20 [] (.op 21 [] (.op 22 [] (.op 23 [] (.op 24 [] (.op 25 [] (.op 26 [] (.op 27 [] (.op 28 [] (.op 29 [] (.op 30 [] (.op 31 [] (.op 32 [] (.op 33 [] (.op 34 [] (.op 35 [] (.op 36 [] (.op 37 [] .nil)))))))))))))))))))))))))))))))))))))) | _ => .nil
theorem bolelaw05_sameActs.eq (aA1 : Option Addr) (aL1 : Nat) (aC1 : Nat) (bA1 : Option Addr) (bL1 : Nat) (bC1 : Nat) (K : Value → Heap → Prop) (h : Heap) : fnX (cx bolelaw05_sameActs.lo bolelaw05_sameActs.od) Tryz.f14 (Tryz.f14.body.getD .skip) [.slice aA1 aL1 aC1, .slice bA1 bL1 bC1] K h = bolelaw05_sameActs aA1 aL1 aC1 bA1 bL1 bC1 K h := by kernel_rfl
theorem bolelaw05_sameActs.chk : fnOk (cx bolelaw05_sameActs.lo bolelaw05_sameActs.od) Tryz.f14 (Tryz.f14.body.getD .skip) 2 = true := by kernel_rfl
theorem bolelaw05_sameActs.ok {aA1 : Option Addr} {aL1 : Nat} {aC1 : Nat} {bA1 : Option Addr} {bL1 : Nat} {bC1 : Nat} {K : Value → Heap → Prop} {h : Heap} (hx : bolelaw05_sameActs aA1 aL1 aC1 bA1 bL1 bC1 K h) : C.bolelaw05_sameActs aA1 aL1 aC1 bA1 bL1 bC1 h K :=
  fn_to (cxOk _ _) Tryz.func14 (by kernel_rfl) bolelaw05_sameActs.chk (by rw [bolelaw05_sameActs.eq]; exact hx)
def adisk_Disk_Tape (d1 : Option Addr) (from1 : Int) (K : Value → Heap → Prop) (h1 : Heap) : Prop :=
  ∃ (I1 : Option Addr → Nat → Nat → Int → Heap → Prop) (M1 : Option Addr → Nat → Nat → Int → Heap → Nat), I1 none 0 0 (if (0 : Int) > from1 then 0 else from1) h1 ∧
  ∀ (lA1 : Option Addr) (lL1 : Nat) (lC1 : Nat) (k1 : Int), ∀ h2 : Heap, I1 lA1 lL1 lC1 k1 h2 →
  onSome d1 fun p1 =>
  ∃ (sA1 : Option Addr) (sL1 : Nat) (sC1 : Nat), cellOf h2 (Addr.add p1 7) = some (.slice sA1 sL1 sC1) ∧
  bif (decide (k1 < (sL1 : Int))) then (
  onSome d1 fun p2 =>
  ∃ (sA2 : Option Addr) (sL2 : Nat) (sC2 : Nat), cellOf h2 (Addr.add p2 7) = some (.slice sA2 sL2 sC2) ∧
  (0 ≤ k1 ∧ k1 < (sL2 : Int)) ∧
  onSome sA2 fun p3 =>
  ∃ cs1 : List Value, List.length cs1 = 3 ∧ Cells h2 (Addr.add p3 ((Int.toNat k1) * 3)) cs1 ∧
  NewRow z122 122 cs1 3 h2 fun h4 =>
  ∃ (sA3 : Option Addr) (sL3 : Nat) (sC3 : Nat), cellOf h4 (Addr.add ⟨h2.size, 0, none⟩ 2) = some (.slice sA3 sL3 sC3) ∧
  C.slices_Clone_byte_byte sA3 sL3 sC3 h4 fun r1 h5 =>
  ∃ (sA4 : Option Addr) (sL4 : Nat) (sC4 : Nat), r1 = .slice sA4 sL4 sC4 ∧
  Put (Addr.add ⟨h2.size, 0, none⟩ 2) (.slice sA4 sL4 sC4) h5 fun h6 =>
  ∃ cs2 : List Value, List.length cs2 = 3 ∧ Cells h6 ⟨h2.size, 0, none⟩ cs2 ∧
  List.length (cs2 : List Value) = 3 ∧
  New cs2 122 h6 fun h7 =>
  ∃ new1 : List Value, List.length new1 = 1 * 3 ∧ SlCells h7 (some ⟨h6.size, 0, none⟩) new1 ∧ (∀ v ∈ new1, v.oneCell' = true) ∧
  AppendP ti122 122 lA1 lL1 lC1 1 new1 h7 fun sA5 sL5 sC5 h8 =>
  I1 sA5 sL5 sC5 (IntKind.wrap .i64 (k1 + 1)) h8 ∧ M1 sA5 sL5 sC5 (IntKind.wrap .i64 (k1 + 1)) h8 < M1 lA1 lL1 lC1 k1 h2) else (
  K (.slice lA1 lL1 lC1) h2)
def adisk_Disk_Tape.lo : Nat → List Nat × List (Nat × Ty) := fun n => match n with | 3 => ([0], [(5, .slice), (6, .int .i64)]) | _ => ([], [])
def adisk_Disk_Tape.od : Nat → Od := fun n => match n with | _ => .nil
theorem adisk_Disk_Tape.eq (d1 : Option Addr) (from1 : Int) (K : Value → Heap → Prop) (h : Heap) : fnX (cx adisk_Disk_Tape.lo adisk_Disk_Tape.od) Tryz.f15 (Tryz.f15.body.getD .skip) [.pointer d1, .int .i64 from1] K h = adisk_Disk_Tape d1 from1 K h := by kernel_rfl
theorem adisk_Disk_Tape.chk : fnOk (cx adisk_Disk_Tape.lo adisk_Disk_Tape.od) Tryz.f15 (Tryz.f15.body.getD .skip) 2 = true := by kernel_rfl
theorem adisk_Disk_Tape.ok {d1 : Option Addr} {from1 : Int} {K : Value → Heap → Prop} {h : Heap} (hx : adisk_Disk_Tape d1 from1 K h) : C.adisk_Disk_Tape d1 from1 h K :=
  fn_to (cxOk _ _) Tryz.func15 (by kernel_rfl) adisk_Disk_Tape.chk (by rw [adisk_Disk_Tape.eq]; exact hx)
def boleref03_Disk_Tape (d1 : Option Addr) (from1 : Int) (K : Value → Heap → Prop) (h1 : Heap) : Prop :=
  ∃ (I1 : Option Addr → Nat → Nat → Int → Heap → Prop) (M1 : Option Addr → Nat → Nat → Int → Heap → Nat), I1 none 0 0 0 h1 ∧
  ∀ (lA1 : Option Addr) (lL1 : Nat) (lC1 : Nat) (i1 : Int), ∀ h2 : Heap, I1 lA1 lL1 lC1 i1 h2 →
  onSome d1 fun p1 =>
  ∃ (sA1 : Option Addr) (sL1 : Nat) (sC1 : Nat), cellOf h2 (Addr.add p1 1) = some (.slice sA1 sL1 sC1) ∧
  bif (decide (i1 < (sL1 : Int))) then (
  bif (decide (i1 ≥ from1)) then (
  onSome d1 fun p2 =>
  ∃ (sA2 : Option Addr) (sL2 : Nat) (sC2 : Nat), cellOf h2 (Addr.add p2 1) = some (.slice sA2 sL2 sC2) ∧
  (0 ≤ i1 ∧ i1 < (sL2 : Int)) ∧
  onSome sA2 fun p3 =>
  ∃ (n1 : Int), cellOf h2 (Addr.add (Addr.add p3 ((Int.toNat i1) * 3)) 0) = some (.int .i64 n1) ∧
  onSome d1 fun p4 =>
  ∃ (sA3 : Option Addr) (sL3 : Nat) (sC3 : Nat), cellOf h2 (Addr.add p4 1) = some (.slice sA3 sL3 sC3) ∧
  (0 ≤ i1 ∧ i1 < (sL3 : Int)) ∧
  onSome sA3 fun p5 =>
  ∃ (n2 : Int), cellOf h2 (Addr.add (Addr.add p5 ((Int.toNat i1) * 3)) 1) = some (.int .i64 n2) ∧
  onSome d1 fun p6 =>
  ∃ (sA4 : Option Addr) (sL4 : Nat) (sC4 : Nat), cellOf h2 (Addr.add p6 1) = some (.slice sA4 sL4 sC4) ∧
  (0 ≤ i1 ∧ i1 < (sL4 : Int)) ∧
  onSome sA4 fun p7 =>
  ∃ (sA5 : Option Addr) (sL5 : Nat) (sC5 : Nat), cellOf h2 (Addr.add (Addr.add p7 ((Int.toNat i1) * 3)) 2) = some (.slice sA5 sL5 sC5) ∧
  C.boleref03_copied sA5 sL5 sC5 h2 fun r1 h3 =>
  ∃ (sA6 : Option Addr) (sL6 : Nat) (sC6 : Nat), r1 = .slice sA6 sL6 sC6 ∧
  (cellOf h3 (Addr.add p2 1) = some (.slice sA2 sL2 sC2)) ∧
  (cellOf h3 (Addr.add (Addr.add p3 ((Int.toNat i1) * 3)) 0) = some (.int .i64 n1)) ∧
  (cellOf h3 (Addr.add p4 1) = some (.slice sA3 sL3 sC3)) ∧
  (cellOf h3 (Addr.add (Addr.add p5 ((Int.toNat i1) * 3)) 1) = some (.int .i64 n2)) ∧
  List.length ([.int .i64 n1, .int .i64 n2, .slice sA6 sL6 sC6] : List Value) = 3 ∧
  New [.int .i64 n1, .int .i64 n2, .slice sA6 sL6 sC6] 122 h3 fun h4 =>
  ∃ new1 : List Value, List.length new1 = 1 * 3 ∧ SlCells h4 (some ⟨h3.size, 0, none⟩) new1 ∧ (∀ v ∈ new1, v.oneCell' = true) ∧
  AppendP ti122 122 lA1 lL1 lC1 1 new1 h4 fun sA7 sL7 sC7 h5 =>
  I1 sA7 sL7 sC7 (IntKind.wrap .i64 (i1 + 1)) h5 ∧ M1 sA7 sL7 sC7 (IntKind.wrap .i64 (i1 + 1)) h5 < M1 lA1 lL1 lC1 i1 h2) else (
  I1 lA1 lL1 lC1 (IntKind.wrap .i64 (i1 + 1)) h2 ∧ M1 lA1 lL1 lC1 (IntKind.wrap .i64 (i1 + 1)) h2 < M1 lA1 lL1 lC1 i1 h2)) else (
  K (.slice lA1 lL1 lC1) h2)
def boleref03_Disk_Tape.lo : Nat → List Nat × List (Nat × Ty) := fun n => match n with | 3 => ([0, 1], [(5, .slice), (6, .int .i64)]) | _ => ([], [])
def boleref03_Disk_Tape.od : Nat → Od := fun n => match n with | 6 => (.op 0 [] (.op 1 [] (.op 2 [] (.op 3 [] (.op 4 [] (.op 5 [] (.op 6 [] (.op 7 [] (.op 8 [] (.op 9 [] (.op 10 [] (.op 11 [] (.op 12 [] (.op 13 [] (.op 14 [] (.op 15 [] (.op 16 [] (.op 17 [] (.op 18 [] (.op 19 [] (.op 20 [] (.op 21 [] (.op 22 [] (.op 23 [] (.op 24 [] (.op 25 [4, 8, 12, 16] (.op 26 [] (.op 27 [] (.op 28 [] (.op 29 [] .nil)))))))))))))))))))))))))))))) | _ => .nil
theorem boleref03_Disk_Tape.eq (d1 : Option Addr) (from1 : Int) (K : Value → Heap → Prop) (h : Heap) : fnX (cx boleref03_Disk_Tape.lo boleref03_Disk_Tape.od) Tryz.f16 (Tryz.f16.body.getD .skip) [.pointer d1, .int .i64 from1] K h = boleref03_Disk_Tape d1 from1 K h := by kernel_rfl
theorem boleref03_Disk_Tape.chk : fnOk (cx boleref03_Disk_Tape.lo boleref03_Disk_Tape.od) Tryz.f16 (Tryz.f16.body.getD .skip) 2 = true := by kernel_rfl
theorem boleref03_Disk_Tape.ok {d1 : Option Addr} {from1 : Int} {K : Value → Heap → Prop} {h : Heap} (hx : boleref03_Disk_Tape d1 from1 K h) : C.boleref03_Disk_Tape d1 from1 h K :=
  fn_to (cxOk _ _) Tryz.func16 (by kernel_rfl) boleref03_Disk_Tape.chk (by rw [boleref03_Disk_Tape.eq]; exact hx)
def bolelaw05_sameBytes (aA1 : Option Addr) (aL1 : Nat) (aC1 : Nat) (bA1 : Option Addr) (bL1 : Nat) (bC1 : Nat) (K : Value → Heap → Prop) (h1 : Heap) : Prop :=
  ∃ bs1 : List UInt8, StrAt h1 aA1 aL1 bs1 ∧
  ∃ bs2 : List UInt8, StrAt h1 bA1 bL1 bs2 ∧
  K (.bool ((mkStr bs1).toList == (mkStr bs2).toList)) h1
def bolelaw05_sameBytes.lo : Nat → List Nat × List (Nat × Ty) := fun n => match n with | _ => ([], [])
def bolelaw05_sameBytes.od : Nat → Od := fun n => match n with | _ => .nil
theorem bolelaw05_sameBytes.eq (aA1 : Option Addr) (aL1 : Nat) (aC1 : Nat) (bA1 : Option Addr) (bL1 : Nat) (bC1 : Nat) (K : Value → Heap → Prop) (h : Heap) : fnX (cx bolelaw05_sameBytes.lo bolelaw05_sameBytes.od) Tryz.f17 (Tryz.f17.body.getD .skip) [.slice aA1 aL1 aC1, .slice bA1 bL1 bC1] K h = bolelaw05_sameBytes aA1 aL1 aC1 bA1 bL1 bC1 K h := by kernel_rfl
theorem bolelaw05_sameBytes.chk : fnOk (cx bolelaw05_sameBytes.lo bolelaw05_sameBytes.od) Tryz.f17 (Tryz.f17.body.getD .skip) 2 = true := by kernel_rfl
theorem bolelaw05_sameBytes.ok {aA1 : Option Addr} {aL1 : Nat} {aC1 : Nat} {bA1 : Option Addr} {bL1 : Nat} {bC1 : Nat} {K : Value → Heap → Prop} {h : Heap} (hx : bolelaw05_sameBytes aA1 aL1 aC1 bA1 bL1 bC1 K h) : C.bolelaw05_sameBytes aA1 aL1 aC1 bA1 bL1 bC1 h K :=
  fn_to (cxOk _ _) Tryz.func17 (by kernel_rfl) bolelaw05_sameBytes.chk (by rw [bolelaw05_sameBytes.eq]; exact hx)
def adisk_Disk_Image (d1 : Option Addr) (K : Value → Heap → Prop) (h1 : Heap) : Prop :=
  onSome d1 fun p1 =>
  ∃ (sA1 : Option Addr) (sL1 : Nat) (sC1 : Nat), cellOf h1 (Addr.add p1 0) = some (.slice sA1 sL1 sC1) ∧
  (0 ≤ (0 : Int) ∧ (0 : Int) ≤ (IntKind.wrap .i64 ((sL1 : Int) * 512)) ∧ (1 : Int) * (IntKind.wrap .i64 ((sL1 : Int) * 512)) ≤ 281474976710656 ∧ (IntKind.wrap .i64 ((sL1 : Int) * 512)) ≤ 281474976710656) ∧
  New (repCells z5 (Int.toNat (IntKind.wrap .i64 ((sL1 : Int) * 512)))) 5 h1 fun h2 =>
  onSome d1 fun p2 =>
  ∃ (sA2 : Option Addr) (sL2 : Nat) (sC2 : Nat), cellOf h2 (Addr.add p2 0) = some (.slice sA2 sL2 sC2) ∧
  ∃ (I1 : Option Addr → Nat → Nat → Int → Heap → Prop) (M1 : Option Addr → Nat → Nat → Int → Heap → Nat), I1 (some ⟨h1.size, 0, none⟩) (Int.toNat 0) (Int.toNat (IntKind.wrap .i64 ((sL1 : Int) * 512))) 0 h2 ∧
  ∀ (imageA1 : Option Addr) (imageL1 : Nat) (imageC1 : Nat) (n1 : Int), ∀ h3 : Heap, I1 imageA1 imageL1 imageC1 n1 h3 →
  bif (decide (n1 < (sL2 : Int))) then (
  (0 ≤ n1 ∧ n1 < (sL2 : Int)) ∧
  onSome sA2 fun p3 =>
  ∃ cs1 : List Value, List.length cs1 = 512 ∧ Cells h3 (Addr.add p3 ((Int.toNat n1) * 512)) cs1 ∧
  NewRow z125 125 cs1 512 h3 fun h5 =>
  ∃ new1 : List Value, List.length new1 = 512 * 1 ∧ SlCells h5 (some ⟨h3.size, 0, none⟩) new1 ∧ (∀ v ∈ new1, v.oneCell' = true) ∧
  AppendP ti5 5 imageA1 imageL1 imageC1 512 new1 h5 fun sA3 sL3 sC3 h6 =>
  I1 sA3 sL3 sC3 (IntKind.wrap .i64 (n1 + 1)) h6 ∧ M1 sA3 sL3 sC3 (IntKind.wrap .i64 (n1 + 1)) h6 < M1 imageA1 imageL1 imageC1 n1 h3) else (
  K (.slice imageA1 imageL1 imageC1) h3)
def adisk_Disk_Image.lo : Nat → List Nat × List (Nat × Ty) := fun n => match n with | 3 => ([16, 17], [(3, .slice), (18, .int .i64)]) | _ => ([], [])
def adisk_Disk_Image.od : Nat → Od := fun n => match n with | _ => .nil
theorem adisk_Disk_Image.eq (d1 : Option Addr) (K : Value → Heap → Prop) (h : Heap) : fnX (cx adisk_Disk_Image.lo adisk_Disk_Image.od) Tryz.f18 (Tryz.f18.body.getD .skip) [.pointer d1] K h = adisk_Disk_Image d1 K h := by kernel_rfl
theorem adisk_Disk_Image.chk : fnOk (cx adisk_Disk_Image.lo adisk_Disk_Image.od) Tryz.f18 (Tryz.f18.body.getD .skip) 1 = true := by kernel_rfl
theorem adisk_Disk_Image.ok {d1 : Option Addr} {K : Value → Heap → Prop} {h : Heap} (hx : adisk_Disk_Image d1 K h) : C.adisk_Disk_Image d1 h K :=
  fn_to (cxOk _ _) Tryz.func18 (by kernel_rfl) adisk_Disk_Image.chk (by rw [adisk_Disk_Image.eq]; exact hx)
def boleref03_Disk_Image (d1 : Option Addr) (K : Value → Heap → Prop) (h1 : Heap) : Prop :=
  onSome d1 fun p1 =>
  ∃ (b1 : Bool), cellOf h1 (Addr.add p1 4) = some (.bool b1) ∧
  bif b1 then (
  onSome d1 fun p2 =>
  ∃ (sA1 : Option Addr) (sL1 : Nat) (sC1 : Nat), cellOf h1 (Addr.add p2 0) = some (.slice sA1 sL1 sC1) ∧
  onSome d1 fun p3 =>
  ∃ (sA2 : Option Addr) (sL2 : Nat) (sC2 : Nat), cellOf h1 (Addr.add p3 1) = some (.slice sA2 sL2 sC2) ∧
  onSome d1 fun p4 =>
  ∃ (sA3 : Option Addr) (sL3 : Nat) (sC3 : Nat), cellOf h1 (Addr.add p4 2) = some (.slice sA3 sL3 sC3) ∧
  C.boleref03_left sA1 sL1 sC1 sA2 sL2 sC2 sA3 sL3 sC3 h1 fun r1 h2 =>
  ∃ (sA4 : Option Addr) (sL4 : Nat) (sC4 : Nat), r1 = .slice sA4 sL4 sC4 ∧
  K (.slice sA4 sL4 sC4) h2) else (
  onSome d1 fun p5 =>
  ∃ (sA5 : Option Addr) (sL5 : Nat) (sC5 : Nat), cellOf h1 (Addr.add p5 0) = some (.slice sA5 sL5 sC5) ∧
  onSome d1 fun p6 =>
  ∃ (sA6 : Option Addr) (sL6 : Nat) (sC6 : Nat), cellOf h1 (Addr.add p6 1) = some (.slice sA6 sL6 sC6) ∧
  C.boleref03_left sA5 sL5 sC5 sA6 sL6 sC6 none 0 0 h1 fun r2 h3 =>
  ∃ (sA7 : Option Addr) (sL7 : Nat) (sC7 : Nat), r2 = .slice sA7 sL7 sC7 ∧
  K (.slice sA7 sL7 sC7) h3)
def boleref03_Disk_Image.lo : Nat → List Nat × List (Nat × Ty) := fun n => match n with | _ => ([], [])
def boleref03_Disk_Image.od : Nat → Od := fun n => match n with | 2 => (.op 0 [] (.op 1 [] (.op 2 [] (.op 3 [] (.op 4 [] (.op 5 [] (.op 6 [] (.op 7 [] (.op 8 [] (.op 9 [] (.op 10 [] (.op 11 [] (.op 12 [] (.op 13 [] .nil)))))))))))))) | 3 => (.op 0 [] (.op 1 [] (.op 2 [] (.op 3 [] (.op 4 [] (.op 5 [] (.op 6 [] (.op 7 [] (.op 8 [] (.op 9 [] .nil)))))))))) | _ => .nil
theorem boleref03_Disk_Image.eq (d1 : Option Addr) (K : Value → Heap → Prop) (h : Heap) : fnX (cx boleref03_Disk_Image.lo boleref03_Disk_Image.od) Tryz.f19 (Tryz.f19.body.getD .skip) [.pointer d1] K h = boleref03_Disk_Image d1 K h := by kernel_rfl
theorem boleref03_Disk_Image.chk : fnOk (cx boleref03_Disk_Image.lo boleref03_Disk_Image.od) Tryz.f19 (Tryz.f19.body.getD .skip) 1 = true := by kernel_rfl
theorem boleref03_Disk_Image.ok {d1 : Option Addr} {K : Value → Heap → Prop} {h : Heap} (hx : boleref03_Disk_Image d1 K h) : C.boleref03_Disk_Image d1 h K :=
  fn_to (cxOk _ _) Tryz.func19 (by kernel_rfl) boleref03_Disk_Image.chk (by rw [boleref03_Disk_Image.eq]; exact hx)
end Go.Proofs.YtjdcbblgaoogmaaGreatDoor.W
namespace Go.Proofs.YtjdcbblgaoogmaaGreatDoor.W
open Go Go.Proofs Go.Proofs.YtjdcbblgaoogmaaGreatDoor.Wx
def bolelaw05_play_whole (p1 : Option Addr) (K : Value → Heap → Prop) (h1 : Heap) : Prop :=
  ∃ (I1 : Int → Heap → Prop) (M1 : Int → Heap → Nat), I1 0 h1 ∧
  ∀ (i1 : Int), ∀ h2 : Heap, I1 i1 h2 →
  onSome p1 fun p2 =>
  ∃ (sA1 : Option Addr) (sL1 : Nat) (sC1 : Nat), cellOf h2 (Addr.add p2 2) = some (.slice sA1 sL1 sC1) ∧
  bif (decide (i1 < (sL1 : Int))) then (
  onSome p1 fun p3 =>
  ∃ (sA2 : Option Addr) (sL2 : Nat) (sC2 : Nat), cellOf h2 (Addr.add p3 2) = some (.slice sA2 sL2 sC2) ∧
  (0 ≤ i1 ∧ i1 < (sL2 : Int)) ∧
  onSome sA2 fun p4 =>
  ∃ (sA3 : Option Addr) (sL3 : Nat) (sC3 : Nat), cellOf h2 (Addr.add p4 (Int.toNat i1)) = some (.slice sA3 sL3 sC3) ∧
  ∃ bs1 : List UInt8, StrAt h2 sA3 sL3 bs1 ∧
  onSome p1 fun p5 =>
  ∃ (sA4 : Option Addr) (sL4 : Nat) (sC4 : Nat), cellOf h2 (Addr.add p5 3) = some (.slice sA4 sL4 sC4) ∧
  (0 ≤ i1 ∧ i1 < (sL4 : Int)) ∧
  onSome sA4 fun p6 =>
  ∃ (s1 : ByteArray), cellOf h2 (Addr.add p6 (Int.toNat i1)) = some (.string s1) ∧
  bif (!((mkStr bs1).toList == s1.toList)) then (
  K (.bool false) h2) else (
  I1 (IntKind.wrap .i64 (i1 + 1)) h2 ∧ M1 (IntKind.wrap .i64 (i1 + 1)) h2 < M1 i1 h2)) else (
  K (.bool true) h2)
def bolelaw05_play_whole.lo : Nat → List Nat × List (Nat × Ty) := fun n => match n with | 2 => ([0], [(3, .int .i64)]) | _ => ([], [])
def bolelaw05_play_whole.od : Nat → Od := fun n => match n with | 4 => (.op 0 [] (.op 1 [] (.op 2 [] (.op 3 [] (.op 4 [] (.op 5 [] (.op 6 [] (.op 7 [] (.op 8 [] (.op 9 [] (.op 10 [] (.op 11 [] (.op 12 [] (.op 13 [] (.op 14 [] (.op 15 [] .nil)))))))))))))))) | _ => .nil
theorem bolelaw05_play_whole.eq (p1 : Option Addr) (K : Value → Heap → Prop) (h : Heap) : fnX (cx bolelaw05_play_whole.lo bolelaw05_play_whole.od) Tryz.f20 (Tryz.f20.body.getD .skip) [.pointer p1] K h = bolelaw05_play_whole p1 K h := by kernel_rfl
theorem bolelaw05_play_whole.chk : fnOk (cx bolelaw05_play_whole.lo bolelaw05_play_whole.od) Tryz.f20 (Tryz.f20.body.getD .skip) 1 = true := by kernel_rfl
theorem bolelaw05_play_whole.ok {p1 : Option Addr} {K : Value → Heap → Prop} {h : Heap} (hx : bolelaw05_play_whole p1 K h) : C.bolelaw05_play_whole p1 h K :=
  fn_to (cxOk _ _) Tryz.func20 (by kernel_rfl) bolelaw05_play_whole.chk (by rw [bolelaw05_play_whole.eq]; exact hx)
def adisk_Open (imageA1 : Option Addr) (imageL1 : Nat) (imageC1 : Nat) (K : Value → Heap → Prop) (h1 : Heap) : Prop :=
  bif ((Int.tmod (imageL1 : Int) 512) != 0) then (
  K (.tuple #[.pointer none, .int .i64 32]) h1) else (
  C.adisk_New (IntKind.wrap .i64 (Int.tdiv (imageL1 : Int) 512)) h1 fun r1 h2 =>
  ∃ (q1 : Option Addr) (n1 : Int), r1 = .tuple #[.pointer q1, .int .i64 n1] ∧
  bif (n1 != 0) then (
  K (.tuple #[.pointer none, .int .i64 n1]) h2) else (
  onSome q1 fun p1 =>
  ∃ (sA1 : Option Addr) (sL1 : Nat) (sC1 : Nat), cellOf h2 (Addr.add p1 0) = some (.slice sA1 sL1 sC1) ∧
  ∃ (I1 : Int → Heap → Prop) (M1 : Int → Heap → Nat), I1 0 h2 ∧
  ∀ (n2 : Int), ∀ h3 : Heap, I1 n2 h3 →
  bif (decide (n2 < (sL1 : Int))) then (
  onSome q1 fun p2 =>
  ∃ (sA2 : Option Addr) (sL2 : Nat) (sC2 : Nat), cellOf h3 (Addr.add p2 0) = some (.slice sA2 sL2 sC2) ∧
  (0 ≤ n2 ∧ n2 < (sL2 : Int)) ∧
  onSome sA2 fun p3 =>
  (0 ≤ (IntKind.wrap .i64 (n2 * 512)) ∧ (IntKind.wrap .i64 (n2 * 512)) ≤ (imageL1 : Int)) ∧
  CopyP ti5 (some (Addr.add p3 ((Int.toNat n2) * 512))) 512 (.slice (if imageC1 = (Int.toNat (IntKind.wrap .i64 (n2 * 512))) then imageA1 else Option.map (Addr.add · (Int.toNat (IntKind.wrap .i64 (n2 * 512)))) imageA1) (imageL1 - (Int.toNat (IntKind.wrap .i64 (n2 * 512)))) (imageC1 - (Int.toNat (IntKind.wrap .i64 (n2 * 512))))) h3 fun n3 h4 =>
  I1 (IntKind.wrap .i64 (n2 + 1)) h4 ∧ M1 (IntKind.wrap .i64 (n2 + 1)) h4 < M1 n2 h3) else (
  K (.tuple #[.pointer q1, .int .i64 0]) h3)))
def adisk_Open.lo : Nat → List Nat × List (Nat × Ty) := fun n => match n with | 7 => ([0, 4, 25], [(26, .int .i64)]) | _ => ([], [])
def adisk_Open.od : Nat → Od := fun n => match n with | 9 => (.op 0 [] (.op 1 [] (.op 2 [] (.op 3 [] (.op 4 [] (.op 5 [] (.op 6 [] (.op 7 [] (.op 8 [] (.op 9 [] (.op 10 [] (.op 11 [] .nil)))))))))))) | _ => .nil
theorem adisk_Open.eq (imageA1 : Option Addr) (imageL1 : Nat) (imageC1 : Nat) (K : Value → Heap → Prop) (h : Heap) : fnX (cx adisk_Open.lo adisk_Open.od) Tryz.f28 (Tryz.f28.body.getD .skip) [.slice imageA1 imageL1 imageC1] K h = adisk_Open imageA1 imageL1 imageC1 K h := by kernel_rfl
theorem adisk_Open.chk : fnOk (cx adisk_Open.lo adisk_Open.od) Tryz.f28 (Tryz.f28.body.getD .skip) 1 = true := by kernel_rfl
theorem adisk_Open.ok {imageA1 : Option Addr} {imageL1 : Nat} {imageC1 : Nat} {K : Value → Heap → Prop} {h : Heap} (hx : adisk_Open imageA1 imageL1 imageC1 K h) : C.adisk_Open imageA1 imageL1 imageC1 h K :=
  fn_to (cxOk _ _) Tryz.func28 (by kernel_rfl) adisk_Open.chk (by rw [adisk_Open.eq]; exact hx)
def boleref03_Of (imageA1 : Option Addr) (imageL1 : Nat) (imageC1 : Nat) (K : Value → Heap → Prop) (h1 : Heap) : Prop :=
  bif ((imageL1 : Int) == 0) then (
  K (.tuple #[.pointer none, .int .i64 32]) h1) else (
  bif ((Int.tmod (imageL1 : Int) 512) != 0) then (
  K (.tuple #[.pointer none, .int .i64 32]) h1) else (
  bif (decide ((IntKind.wrap .i64 (Int.tdiv (imageL1 : Int) 512)) > 16384)) then (
  K (.tuple #[.pointer none, .int .i64 32]) h1) else (
  C.boleref03_copied imageA1 imageL1 imageC1 h1 fun r1 h2 =>
  ∃ (sA1 : Option Addr) (sL1 : Nat) (sC1 : Nat), r1 = .slice sA1 sL1 sC1 ∧
  New [.slice sA1 sL1 sC1, .slice none 0 0, .slice none 0 0, .int .i64 0, .bool false, .int .i64 0, .int .i64 0] 41 h2 fun h3 =>
  K (.tuple #[.pointer (some ⟨h2.size, 0, none⟩), .int .i64 0]) h3)))
def boleref03_Of.lo : Nat → List Nat × List (Nat × Ty) := fun n => match n with | _ => ([], [])
def boleref03_Of.od : Nat → Od := fun n => match n with | _ => .nil
set_option maxRecDepth 1000000 in
theorem boleref03_Of.eq (imageA1 : Option Addr) (imageL1 : Nat) (imageC1 : Nat) (K : Value → Heap → Prop) (h : Heap) : fnX (cx boleref03_Of.lo boleref03_Of.od) Tryz.f29 (Tryz.f29.body.getD .skip) [.slice imageA1 imageL1 imageC1] K h = boleref03_Of imageA1 imageL1 imageC1 K h := by kernel_rfl
theorem boleref03_Of.chk : fnOk (cx boleref03_Of.lo boleref03_Of.od) Tryz.f29 (Tryz.f29.body.getD .skip) 1 = true := by kernel_rfl
set_option maxRecDepth 1000000 in
theorem boleref03_Of.ok {imageA1 : Option Addr} {imageL1 : Nat} {imageC1 : Nat} {K : Value → Heap → Prop} {h : Heap} (hx : boleref03_Of imageA1 imageL1 imageC1 K h) : C.boleref03_Of imageA1 imageL1 imageC1 h K :=
  fn_to (cxOk _ _) Tryz.func29 (by kernel_rfl) boleref03_Of.chk (by rw [boleref03_Of.eq]; exact hx)
end Go.Proofs.YtjdcbblgaoogmaaGreatDoor.W
namespace Go.Proofs.YtjdcbblgaoogmaaGreatDoor.W
open Go Go.Proofs Go.Proofs.YtjdcbblgaoogmaaGreatDoor.Wx
def bolelaw05_block (ofA1 : Option Addr) (ofL1 : Nat) (ofC1 : Nat) (by1 : Int) (K : Value → Heap → Prop) (h1 : Heap) : Prop :=
  ∃ (I1 : Option Addr → Nat → Nat → Int → Heap → Prop) (M1 : Option Addr → Nat → Nat → Int → Heap → Nat), I1 none 0 0 0 h1 ∧
  ∀ (bA1 : Option Addr) (bL1 : Nat) (bC1 : Nat) (i1 : Int), ∀ h2 : Heap, I1 bA1 bL1 bC1 i1 h2 →
  bif (decide (i1 < 512)) then (
  bif (decide (i1 < (ofL1 : Int))) then (
  (0 ≤ i1 ∧ i1 < (ofL1 : Int)) ∧
  onSome ofA1 fun p1 =>
  ∃ (n1 : Int), cellOf h2 (Addr.add p1 (Int.toNat i1)) = some (.int .u8 n1) ∧
  New [.int .u8 n1] 5 h2 fun h3 =>
  ∃ new1 : List Value, List.length new1 = 1 * 1 ∧ SlCells h3 (some ⟨h2.size, 0, none⟩) new1 ∧ (∀ v ∈ new1, v.oneCell' = true) ∧
  AppendP ti5 5 bA1 bL1 bC1 1 new1 h3 fun sA1 sL1 sC1 h4 =>
  I1 sA1 sL1 sC1 (IntKind.wrap .i64 (i1 + 1)) h4 ∧ M1 sA1 sL1 sC1 (IntKind.wrap .i64 (i1 + 1)) h4 < M1 bA1 bL1 bC1 i1 h2) else (
  New [.int .u8 by1] 5 h2 fun h5 =>
  ∃ new2 : List Value, List.length new2 = 1 * 1 ∧ SlCells h5 (some ⟨h2.size, 0, none⟩) new2 ∧ (∀ v ∈ new2, v.oneCell' = true) ∧
  AppendP ti5 5 bA1 bL1 bC1 1 new2 h5 fun sA2 sL2 sC2 h6 =>
  I1 sA2 sL2 sC2 (IntKind.wrap .i64 (i1 + 1)) h6 ∧ M1 sA2 sL2 sC2 (IntKind.wrap .i64 (i1 + 1)) h6 < M1 bA1 bL1 bC1 i1 h2)) else (
  K (.slice bA1 bL1 bC1) h2)
def bolelaw05_block.lo : Nat → List Nat × List (Nat × Ty) := fun n => match n with | 3 => ([0, 1], [(5, .slice), (6, .int .i64)]) | _ => ([], [])
def bolelaw05_block.od : Nat → Od := fun n => match n with | _ => .nil
theorem bolelaw05_block.eq (ofA1 : Option Addr) (ofL1 : Nat) (ofC1 : Nat) (by1 : Int) (K : Value → Heap → Prop) (h : Heap) : fnX (cx bolelaw05_block.lo bolelaw05_block.od) Tryz.f39 (Tryz.f39.body.getD .skip) [.slice ofA1 ofL1 ofC1, .int .u8 by1] K h = bolelaw05_block ofA1 ofL1 ofC1 by1 K h := by kernel_rfl
theorem bolelaw05_block.chk : fnOk (cx bolelaw05_block.lo bolelaw05_block.od) Tryz.f39 (Tryz.f39.body.getD .skip) 2 = true := by kernel_rfl
theorem bolelaw05_block.ok {ofA1 : Option Addr} {ofL1 : Nat} {ofC1 : Nat} {by1 : Int} {K : Value → Heap → Prop} {h : Heap} (hx : bolelaw05_block ofA1 ofL1 ofC1 by1 K h) : C.bolelaw05_block ofA1 ofL1 ofC1 by1 h K :=
  fn_to (cxOk _ _) Tryz.func39 (by kernel_rfl) bolelaw05_block.chk (by rw [bolelaw05_block.eq]; exact hx)
def wal_Commit (d1 : Option Addr) (lA1 : Option Addr) (lL1 : Nat) (lC1 : Nat) (K : Value → Heap → Prop) (h1 : Heap) : Prop :=
  bif ((lL1 : Int) == 0) then (
  K (.int .i64 0) h1) else (
  C.adisk_Disk_Blocks d1 h1 fun r1 h2 =>
  ∃ (n1 : Int), r1 = .int .i64 n1 ∧
  C.wal_may lA1 lL1 lC1 n1 h2 fun r2 h3 =>
  ∃ (b1 : Bool), r2 = .bool b1 ∧
  bif (!b1) then (
  K (.int .i64 40) h3) else (
  ∃ (I1 : Option Addr → Nat → Nat → Option Addr → Nat → Nat → Int → Heap → Prop) (M1 : Option Addr → Nat → Nat → Option Addr → Nat → Nat → Int → Heap → Nat), I1 none 0 0 none 0 0 0 h3 ∧
  ∀ (numsA1 : Option Addr) (numsL1 : Nat) (numsC1 : Nat) (dataA1 : Option Addr) (dataL1 : Nat) (dataC1 : Nat) (n2 : Int), ∀ h4 : Heap, I1 numsA1 numsL1 numsC1 dataA1 dataL1 dataC1 n2 h4 →
  bif (decide (n2 < (lL1 : Int))) then (
  (0 ≤ n2 ∧ n2 < (lL1 : Int)) ∧
  onSome lA1 fun p1 =>
  ∃ cs1 : List Value, List.length cs1 = 2 ∧ Cells h4 (Addr.add p1 ((Int.toNat n2) * 2)) cs1 ∧
  NewRow z103 103 cs1 2 h4 fun h6 =>
  ∃ (n3 : Int), cellOf h6 (Addr.add ⟨h4.size, 0, none⟩ 0) = some (.int .i64 n3) ∧
  New [.int .i64 n3] 3 h6 fun h7 =>
  ∃ new1 : List Value, List.length new1 = 1 * 1 ∧ SlCells h7 (some ⟨h6.size, 0, none⟩) new1 ∧ (∀ v ∈ new1, v.oneCell' = true) ∧
  AppendP ti3 3 numsA1 numsL1 numsC1 1 new1 h7 fun sA1 sL1 sC1 h8 =>
  ∃ (sA2 : Option Addr) (sL2 : Nat) (sC2 : Nat), cellOf h8 (Addr.add ⟨h4.size, 0, none⟩ 1) = some (.slice sA2 sL2 sC2) ∧
  New [.slice sA2 sL2 sC2] 37 h8 fun h9 =>
  ∃ new2 : List Value, List.length new2 = 1 * 1 ∧ SlCells h9 (some ⟨h8.size, 0, none⟩) new2 ∧ (∀ v ∈ new2, v.oneCell' = true) ∧
  AppendP ti37 37 dataA1 dataL1 dataC1 1 new2 h9 fun sA3 sL3 sC3 h10 =>
  I1 sA1 sL1 sC1 sA3 sL3 sC3 (IntKind.wrap .i64 (n2 + 1)) h10 ∧ M1 sA1 sL1 sC1 sA3 sL3 sC3 (IntKind.wrap .i64 (n2 + 1)) h10 < M1 numsA1 numsL1 numsC1 dataA1 dataL1 dataC1 n2 h4) else (
  C.head_Make numsA1 numsL1 numsC1 dataA1 dataL1 dataC1 h4 fun r3 h11 =>
  ∃ (sA4 : Option Addr) (sL4 : Nat) (sC4 : Nat) (n4 : Int), r3 = .tuple #[.slice sA4 sL4 sC4, .int .i64 n4] ∧
  bif (n4 != 0) then (
  K (.int .i64 n4) h11) else (
  C.adisk_Disk_Down d1 h11 fun r4 h12 =>
  ∃ (b2 : Bool), r4 = .bool b2 ∧
  bif b2 then (
  K (.int .i64 30) h12) else (
  New z169 169 h12 fun h13 =>
  ∃ (I2 : Int → Heap → Prop) (M2 : Int → Heap → Nat), I2 0 h13 ∧
  ∀ (n5 : Int), ∀ h14 : Heap, I2 n5 h14 →
  bif (decide (n5 < (lL1 : Int))) then (
  (0 ≤ n5 ∧ n5 < (lL1 : Int)) ∧
  onSome lA1 fun p2 =>
  ∃ cs2 : List Value, List.length cs2 = 2 ∧ Cells h14 (Addr.add p2 ((Int.toNat n5) * 2)) cs2 ∧
  NewRow z103 103 cs2 2 h14 fun h16 =>
  ∃ (sA5 : Option Addr) (sL5 : Nat) (sC5 : Nat), cellOf h16 (Addr.add ⟨h14.size, 0, none⟩ 1) = some (.slice sA5 sL5 sC5) ∧
  C.wal_steps_write (some ⟨h12.size, 0, none⟩) (IntKind.wrap .i64 (2 + n5)) sA5 sL5 sC5 h16 fun r5 h17 =>
  r5 = .tuple #[] ∧
  I2 (IntKind.wrap .i64 (n5 + 1)) h17 ∧ M2 (IntKind.wrap .i64 (n5 + 1)) h17 < M2 n5 h14) else (
  C.wal_steps_flush (some ⟨h12.size, 0, none⟩) h14 fun r6 h18 =>
  r6 = .tuple #[] ∧
  C.wal_steps_write (some ⟨h12.size, 0, none⟩) 1 sA4 sL4 sC4 h18 fun r7 h19 =>
  r7 = .tuple #[] ∧
  C.wal_steps_flush (some ⟨h12.size, 0, none⟩) h19 fun r8 h20 =>
  r8 = .tuple #[] ∧
  C.wal_steps_home (some ⟨h12.size, 0, none⟩) lA1 lL1 lC1 h20 fun r9 h21 =>
  r9 = .tuple #[] ∧
  ∃ (sA6 : Option Addr) (sL6 : Nat) (sC6 : Nat), cellOf h21 ⟨h12.size, 0, none⟩ = some (.slice sA6 sL6 sC6) ∧
  C.wal_steps_do sA6 sL6 sC6 d1 h21 fun r10 h22 =>
  ∃ (n6 : Int), r10 = .int .i64 n6 ∧
  K (.int .i64 n6) h22))))))
def wal_Commit.lo : Nat → List Nat × List (Nat × Ty) := fun n => match n with | 8 => ([0, 1, 22, 23], [(5, .slice), (6, .slice), (24, .int .i64)]) | 20 => ([0, 1, 9, 11, 50, 51], [(52, .int .i64)]) | _ => ([], [])
def wal_Commit.od : Nat → Od := fun n => match n with | _ => .nil
theorem wal_Commit.eq (d1 : Option Addr) (lA1 : Option Addr) (lL1 : Nat) (lC1 : Nat) (K : Value → Heap → Prop) (h : Heap) : fnX (cx wal_Commit.lo wal_Commit.od) Tryz.f40 (Tryz.f40.body.getD .skip) [.pointer d1, .slice lA1 lL1 lC1] K h = wal_Commit d1 lA1 lL1 lC1 K h := by kernel_rfl
theorem wal_Commit.chk : fnOk (cx wal_Commit.lo wal_Commit.od) Tryz.f40 (Tryz.f40.body.getD .skip) 2 = true := by kernel_rfl
theorem wal_Commit.ok {d1 : Option Addr} {lA1 : Option Addr} {lL1 : Nat} {lC1 : Nat} {K : Value → Heap → Prop} {h : Heap} (hx : wal_Commit d1 lA1 lL1 lC1 K h) : C.wal_Commit d1 lA1 lL1 lC1 h K :=
  fn_to (cxOk _ _) Tryz.func40 (by kernel_rfl) wal_Commit.chk (by rw [wal_Commit.eq]; exact hx)
def adisk_Disk_Read (d1 : Option Addr) (i1 : Int) (K : Value → Heap → Prop) (h1 : Heap) : Prop :=
  onSome d1 fun p1 =>
  ∃ (b1 : Bool), cellOf h1 (Addr.add p1 4) = some (.bool b1) ∧
  bif b1 then (
  K (.tuple #[.slice none 0 0, .int .i64 30]) h1) else (
  C.adisk_Disk_has d1 i1 h1 fun r1 h2 =>
  ∃ (b2 : Bool), r1 = .bool b2 ∧
  bif (!b2) then (
  K (.tuple #[.slice none 0 0, .int .i64 31]) h2) else (
  onSome d1 fun p2 =>
  ∃ (sA1 : Option Addr) (sL1 : Nat) (sC1 : Nat), cellOf h2 (Addr.add p2 0) = some (.slice sA1 sL1 sC1) ∧
  (0 ≤ i1 ∧ i1 < (sL1 : Int)) ∧
  onSome sA1 fun p3 =>
  ∃ cs1 : List Value, List.length cs1 = 512 ∧ Cells h2 (Addr.add p3 ((Int.toNat i1) * 512)) cs1 ∧
  NewRow z125 125 cs1 512 h2 fun h4 =>
  onSome d1 fun p4 =>
  ∃ (sA2 : Option Addr) (sL2 : Nat) (sC2 : Nat), cellOf h4 (Addr.add p4 1) = some (.slice sA2 sL2 sC2) ∧
  ∃ (I1 : Int → Heap → Prop) (M1 : Int → Heap → Nat), I1 0 h4 ∧
  ∀ (n1 : Int), ∀ h5 : Heap, I1 n1 h5 →
  bif (decide (n1 < (sL2 : Int))) then (
  (0 ≤ n1 ∧ n1 < (sL2 : Int)) ∧
  onSome sA2 fun p5 =>
  ∃ cs2 : List Value, List.length cs2 = 513 ∧ Cells h5 (Addr.add p5 ((Int.toNat n1) * 513)) cs2 ∧
  NewRow z174 174 cs2 513 h5 fun h7 =>
  ∃ (n2 : Int), cellOf h7 (Addr.add ⟨h5.size, 0, none⟩ 0) = some (.int .i64 n2) ∧
  bif (n2 == i1) then (
  ∃ cs3 : List Value, List.length cs3 = 512 ∧ Cells h7 (Addr.add ⟨h5.size, 0, none⟩ 1) cs3 ∧
  PutRow ⟨h2.size, 0, none⟩ cs3 512 h7 fun h8 =>
  I1 (IntKind.wrap .i64 (n1 + 1)) h8 ∧ M1 (IntKind.wrap .i64 (n1 + 1)) h8 < M1 n1 h5) else (
  I1 (IntKind.wrap .i64 (n1 + 1)) h7 ∧ M1 (IntKind.wrap .i64 (n1 + 1)) h7 < M1 n1 h5)) else (
  K (.tuple #[.slice (some ⟨h2.size, 0, none⟩) 512 512, .int .i64 0]) h5)))
def adisk_Disk_Read.lo : Nat → List Nat × List (Nat × Ty) := fun n => match n with | 7 => ([1, 6, 29, 30], [(31, .int .i64)]) | _ => ([], [])
def adisk_Disk_Read.od : Nat → Od := fun n => match n with | _ => .nil
theorem adisk_Disk_Read.eq (d1 : Option Addr) (i1 : Int) (K : Value → Heap → Prop) (h : Heap) : fnX (cx adisk_Disk_Read.lo adisk_Disk_Read.od) Tryz.f41 (Tryz.f41.body.getD .skip) [.pointer d1, .int .i64 i1] K h = adisk_Disk_Read d1 i1 K h := by kernel_rfl
theorem adisk_Disk_Read.chk : fnOk (cx adisk_Disk_Read.lo adisk_Disk_Read.od) Tryz.f41 (Tryz.f41.body.getD .skip) 2 = true := by kernel_rfl
theorem adisk_Disk_Read.ok {d1 : Option Addr} {i1 : Int} {K : Value → Heap → Prop} {h : Heap} (hx : adisk_Disk_Read d1 i1 K h) : C.adisk_Disk_Read d1 i1 h K :=
  fn_to (cxOk _ _) Tryz.func41 (by kernel_rfl) adisk_Disk_Read.chk (by rw [adisk_Disk_Read.eq]; exact hx)
def wal_Recover (d1 : Option Addr) (K : Value → Heap → Prop) (h1 : Heap) : Prop :=
  New z26 26 h1 fun h2 =>
  C.wal_held d1 h2 (fun r1 h3 =>
  ∃ (sA1 : Option Addr) (sL1 : Nat) (sC1 : Nat), r1 = .slice sA1 sL1 sC1 ∧
  bif ((sL1 : Int) == 0) then (
  Put ⟨h1.size, 0, none⟩ (.int .i64 0) h3 fun h4 =>
  D.wal_Recover_c1 (some ⟨h1.size, 0, none⟩) h4 fun h5 =>
  ∃ (res1 : Int), cellOf h5 ⟨h1.size, 0, none⟩ = some (.int .i64 res1) ∧
  K (.tuple #[.int .i64 0, .int .i64 res1]) h5) else (
  New z169 169 h3 fun h6 =>
  C.wal_steps_home (some ⟨h3.size, 0, none⟩) sA1 sL1 sC1 h6 fun r2 h7 =>
  r2 = .tuple #[] ∧
  ∃ (sA2 : Option Addr) (sL2 : Nat) (sC2 : Nat), cellOf h7 ⟨h3.size, 0, none⟩ = some (.slice sA2 sL2 sC2) ∧
  C.wal_steps_do sA2 sL2 sC2 d1 h7 fun r3 h8 =>
  ∃ (n1 : Int), r3 = .int .i64 n1 ∧
  bif (n1 != 0) then (
  Put ⟨h1.size, 0, none⟩ (.int .i64 n1) h8 fun h9 =>
  D.wal_Recover_c1 (some ⟨h1.size, 0, none⟩) h9 fun h10 =>
  ∃ (res2 : Int), cellOf h10 ⟨h1.size, 0, none⟩ = some (.int .i64 res2) ∧
  K (.tuple #[.int .i64 0, .int .i64 res2]) h10) else (
  Put ⟨h1.size, 0, none⟩ (.int .i64 0) h8 fun h11 =>
  D.wal_Recover_c1 (some ⟨h1.size, 0, none⟩) h11 fun h12 =>
  ∃ (res3 : Int), cellOf h12 ⟨h1.size, 0, none⟩ = some (.int .i64 res3) ∧
  K (.tuple #[.int .i64 (sL1 : Int), .int .i64 res3]) h12))) (fun x1 h13 =>
  PD.wal_Recover_c1 (some ⟨h1.size, 0, none⟩) x1 h13 fun h14 =>
  ∃ (res4 : Int), cellOf h14 ⟨h1.size, 0, none⟩ = some (.int .i64 res4) ∧
  K (.tuple #[.int .i64 0, .int .i64 res4]) h14)
def wal_Recover.lo : Nat → List Nat × List (Nat × Ty) := fun n => match n with | _ => ([], [])
def wal_Recover.od : Nat → Od := fun n => match n with | _ => .nil
theorem wal_Recover.eq (d1 : Option Addr) (K : Value → Heap → Prop) (h : Heap) : fnPX (cx wal_Recover.lo wal_Recover.od) Tryz.f42 (Tryz.f42.body.getD .skip) [.pointer d1] K (fun _ _ => False) h = wal_Recover d1 K h := by kernel_rfl
theorem wal_Recover.chk : fnOk (cx wal_Recover.lo wal_Recover.od) Tryz.f42 (Tryz.f42.body.getD .skip) 1 = true := by kernel_rfl
theorem wal_Recover.ok {d1 : Option Addr} {K : Value → Heap → Prop} {h : Heap} (hx : wal_Recover d1 K h) : C.wal_Recover d1 h K :=
  hcalls_of_p (fnP_to (cxOk _ _) Tryz.func42 (by kernel_rfl) wal_Recover.chk (by rw [wal_Recover.eq]; exact hx))
def wal_Behind (d1 : Option Addr) (K : Value → Heap → Prop) (h1 : Heap) : Prop :=
  New z26 26 h1 fun h2 =>
  C.wal_held d1 h2 (fun r1 h3 =>
  ∃ (sA1 : Option Addr) (sL1 : Nat) (sC1 : Nat), r1 = .slice sA1 sL1 sC1 ∧
  C.adisk_Disk_Blocks d1 h3 fun r2 h4 =>
  ∃ (n1 : Int), r2 = .int .i64 n1 ∧
  ∃ (I1 : Option Addr → Nat → Nat → Int → Heap → Prop) (M1 : Option Addr → Nat → Nat → Int → Heap → Nat), I1 none 0 0 0 h4 ∧
  ∀ (allA1 : Option Addr) (allL1 : Nat) (allC1 : Nat) (n2 : Int), ∀ h5 : Heap, I1 allA1 allL1 allC1 n2 h5 →
  bif (decide (n2 < n1)) then (
  C.wal_read d1 n2 h5 (fun r3 h6 =>
  ∃ (sA2 : Option Addr) (sL2 : Nat) (sC2 : Nat), r3 = .slice sA2 sL2 sC2 ∧
  ∃ new1 : List Value, List.length new1 = sL2 * 1 ∧ SlCells h6 sA2 new1 ∧ (∀ v ∈ new1, v.oneCell' = true) ∧
  AppendP ti5 5 allA1 allL1 allC1 sL2 new1 h6 fun sA3 sL3 sC3 h7 =>
  I1 sA3 sL3 sC3 (IntKind.wrap .i64 (n2 + 1)) h7 ∧ M1 sA3 sL3 sC3 (IntKind.wrap .i64 (n2 + 1)) h7 < M1 allA1 allL1 allC1 n2 h5) (fun x1 h8 =>
  PD.wal_Behind_c1 (some ⟨h1.size, 0, none⟩) x1 h8 fun h9 =>
  ∃ (res1 : Int), cellOf h9 ⟨h1.size, 0, none⟩ = some (.int .i64 res1) ∧
  K (.tuple #[.slice none 0 0, .int .i64 res1]) h9)) else (
  ∃ (I2 : Int → Heap → Prop) (M2 : Int → Heap → Nat), I2 0 h5 ∧
  ∀ (n3 : Int), ∀ h10 : Heap, I2 n3 h10 →
  bif (decide (n3 < (sL1 : Int))) then (
  (0 ≤ n3 ∧ n3 < (sL1 : Int)) ∧
  onSome sA1 fun p1 =>
  ∃ cs1 : List Value, List.length cs1 = 2 ∧ Cells h10 (Addr.add p1 ((Int.toNat n3) * 2)) cs1 ∧
  NewRow z103 103 cs1 2 h10 fun h12 =>
  ∃ (n4 : Int), cellOf h12 (Addr.add ⟨h10.size, 0, none⟩ 0) = some (.int .i64 n4) ∧
  (0 ≤ (IntKind.wrap .i64 (n4 * 512)) ∧ (IntKind.wrap .i64 (n4 * 512)) ≤ (allL1 : Int)) ∧
  ∃ (sA4 : Option Addr) (sL4 : Nat) (sC4 : Nat), cellOf h12 (Addr.add ⟨h10.size, 0, none⟩ 1) = some (.slice sA4 sL4 sC4) ∧
  CopyP ti5 (if allC1 = (Int.toNat (IntKind.wrap .i64 (n4 * 512))) then allA1 else Option.map (Addr.add · (Int.toNat (IntKind.wrap .i64 (n4 * 512)))) allA1) (allL1 - (Int.toNat (IntKind.wrap .i64 (n4 * 512)))) (.slice sA4 sL4 sC4) h12 fun n5 h13 =>
  I2 (IntKind.wrap .i64 (n3 + 1)) h13 ∧ M2 (IntKind.wrap .i64 (n3 + 1)) h13 < M2 n3 h10) else (
  (0 ≤ (512 : Int) ∧ 512 ≤ (allL1 : Int)) ∧
  C.head_Empty  h10 fun r4 h14 =>
  ∃ (sA5 : Option Addr) (sL5 : Nat) (sC5 : Nat), r4 = .slice sA5 sL5 sC5 ∧
  CopyP ti5 (if allC1 = (Int.toNat 512) then allA1 else Option.map (Addr.add · (Int.toNat 512)) allA1) (allL1 - (Int.toNat 512)) (.slice sA5 sL5 sC5) h14 fun n6 h15 =>
  Put ⟨h1.size, 0, none⟩ (.int .i64 0) h15 fun h16 =>
  D.wal_Behind_c1 (some ⟨h1.size, 0, none⟩) h16 fun h17 =>
  ∃ (res2 : Int), cellOf h17 ⟨h1.size, 0, none⟩ = some (.int .i64 res2) ∧
  K (.tuple #[.slice allA1 allL1 allC1, .int .i64 res2]) h17))) (fun x2 h18 =>
  PD.wal_Behind_c1 (some ⟨h1.size, 0, none⟩) x2 h18 fun h19 =>
  ∃ (res3 : Int), cellOf h19 ⟨h1.size, 0, none⟩ = some (.int .i64 res3) ∧
  K (.tuple #[.slice none 0 0, .int .i64 res3]) h19)
def wal_Behind.lo : Nat → List Nat × List (Nat × Ty) := fun n => match n with | 5 => ([0, 2, 3, 4, 13], [(5, .slice), (14, .int .i64)]) | 10 => ([3, 5, 23, 24], [(25, .int .i64)]) | _ => ([], [])
def wal_Behind.od : Nat → Od := fun n => match n with | 12 => (.op 0 [] (.op 1 [] (.op 2 [] (.op 3 [] (.op 4 [] (.op 5 [] (.op 6 [] (.op 7 [] .nil)))))))) | 14 => (.op 0 [] (.op 1 [] (.op 2 [] (.op 3 [] .nil)))) | _ => .nil
theorem wal_Behind.eq (d1 : Option Addr) (K : Value → Heap → Prop) (h : Heap) : fnPX (cx wal_Behind.lo wal_Behind.od) Tryz.f43 (Tryz.f43.body.getD .skip) [.pointer d1] K (fun _ _ => False) h = wal_Behind d1 K h := by kernel_rfl
theorem wal_Behind.chk : fnOk (cx wal_Behind.lo wal_Behind.od) Tryz.f43 (Tryz.f43.body.getD .skip) 1 = true := by kernel_rfl
theorem wal_Behind.ok {d1 : Option Addr} {K : Value → Heap → Prop} {h : Heap} (hx : wal_Behind d1 K h) : C.wal_Behind d1 h K :=
  hcalls_of_p (fnP_to (cxOk _ _) Tryz.func43 (by kernel_rfl) wal_Behind.chk (by rw [wal_Behind.eq]; exact hx))
def bolelaw05_lent (lA1 : Option Addr) (lL1 : Nat) (lC1 : Nat) (K : Value → Heap → Prop) (h1 : Heap) : Prop :=
  ∃ (I1 : Option Addr → Nat → Nat → Int → Heap → Prop) (M1 : Option Addr → Nat → Nat → Int → Heap → Nat), I1 none 0 0 0 h1 ∧
  ∀ (outA1 : Option Addr) (outL1 : Nat) (outC1 : Nat) (i1 : Int), ∀ h2 : Heap, I1 outA1 outL1 outC1 i1 h2 →
  bif (decide (i1 < (lL1 : Int))) then (
  New [] 5 h2 fun h3 =>
  (0 ≤ i1 ∧ i1 < (lL1 : Int)) ∧
  onSome lA1 fun p1 =>
  ∃ (sA1 : Option Addr) (sL1 : Nat) (sC1 : Nat), cellOf h3 (Addr.add (Addr.add p1 ((Int.toNat i1) * 2)) 1) = some (.slice sA1 sL1 sC1) ∧
  ∃ new1 : List Value, List.length new1 = sL1 * 1 ∧ SlCells h3 sA1 new1 ∧ (∀ v ∈ new1, v.oneCell' = true) ∧
  AppendP ti5 5 (some ⟨h2.size, 0, none⟩) 0 0 sL1 new1 h3 fun sA2 sL2 sC2 h4 =>
  New [.int .u8 77, .int .u8 78, .int .u8 79] 5 h4 fun h5 =>
  ∃ new2 : List Value, List.length new2 = 3 * 1 ∧ SlCells h5 (some ⟨h4.size, 0, none⟩) new2 ∧ (∀ v ∈ new2, v.oneCell' = true) ∧
  AppendP ti5 5 sA2 sL2 sC2 3 new2 h5 fun sA3 sL3 sC3 h6 =>
  (0 ≤ i1 ∧ i1 < (lL1 : Int)) ∧
  onSome lA1 fun p2 =>
  ∃ (n1 : Int), cellOf h6 (Addr.add (Addr.add p2 ((Int.toNat i1) * 2)) 0) = some (.int .i64 n1) ∧
  (0 ≤ i1 ∧ i1 < (lL1 : Int)) ∧
  onSome lA1 fun p3 =>
  ∃ (sA4 : Option Addr) (sL4 : Nat) (sC4 : Nat), cellOf h6 (Addr.add (Addr.add p3 ((Int.toNat i1) * 2)) 1) = some (.slice sA4 sL4 sC4) ∧
  (0 ≤ (sL4 : Int) ∧ (sL4 : Int) ≤ (sC3 : Int)) ∧
  List.length ([.int .i64 n1, .slice sA3 (Int.toNat (sL4 : Int)) sC3] : List Value) = 2 ∧
  New [.int .i64 n1, .slice sA3 (Int.toNat (sL4 : Int)) sC3] 103 h6 fun h7 =>
  ∃ new3 : List Value, List.length new3 = 1 * 2 ∧ SlCells h7 (some ⟨h6.size, 0, none⟩) new3 ∧ (∀ v ∈ new3, v.oneCell' = true) ∧
  AppendP ti103 103 outA1 outL1 outC1 1 new3 h7 fun sA5 sL5 sC5 h8 =>
  I1 sA5 sL5 sC5 (IntKind.wrap .i64 (i1 + 1)) h8 ∧ M1 sA5 sL5 sC5 (IntKind.wrap .i64 (i1 + 1)) h8 < M1 outA1 outL1 outC1 i1 h2) else (
  List.length ([.int .i64 (-7), .slice none 0 0] : List Value) = 2 ∧
  New [.int .i64 (-7), .slice none 0 0] 103 h2 fun h9 =>
  ∃ new4 : List Value, List.length new4 = 1 * 2 ∧ SlCells h9 (some ⟨h2.size, 0, none⟩) new4 ∧ (∀ v ∈ new4, v.oneCell' = true) ∧
  AppendP ti103 103 outA1 outL1 outC1 1 new4 h9 fun sA6 sL6 sC6 h10 =>
  (0 ≤ (lL1 : Int) ∧ (lL1 : Int) ≤ (sC6 : Int)) ∧
  K (.slice sA6 (Int.toNat (lL1 : Int)) sC6) h10)
def bolelaw05_lent.lo : Nat → List Nat × List (Nat × Ty) := fun n => match n with | 3 => ([0], [(3, .slice), (4, .int .i64)]) | _ => ([], [])
def bolelaw05_lent.od : Nat → Od := fun n => match n with | 6 => (.op 0 [] (.op 1 [] (.op 2 [] (.op 3 [] (.op 4 [] (.op 5 [] (.op 6 [] (.op 7 [] (.op 8 [] (.op 9 [] (.op 10 [] (.op 11 [] (.op 12 [] (.op 13 [] (.op 14 [] (.op 15 [] (.op 16 [] (.op 17 [] .nil)))))))))))))))))) | _ => .nil
theorem bolelaw05_lent.eq (lA1 : Option Addr) (lL1 : Nat) (lC1 : Nat) (K : Value → Heap → Prop) (h : Heap) : fnX (cx bolelaw05_lent.lo bolelaw05_lent.od) Tryz.f44 (Tryz.f44.body.getD .skip) [.slice lA1 lL1 lC1] K h = bolelaw05_lent lA1 lL1 lC1 K h := by kernel_rfl
theorem bolelaw05_lent.chk : fnOk (cx bolelaw05_lent.lo bolelaw05_lent.od) Tryz.f44 (Tryz.f44.body.getD .skip) 1 = true := by kernel_rfl
theorem bolelaw05_lent.ok {lA1 : Option Addr} {lL1 : Nat} {lC1 : Nat} {K : Value → Heap → Prop} {h : Heap} (hx : bolelaw05_lent lA1 lL1 lC1 K h) : C.bolelaw05_lent lA1 lL1 lC1 h K :=
  fn_to (cxOk _ _) Tryz.func44 (by kernel_rfl) bolelaw05_lent.chk (by rw [bolelaw05_lent.eq]; exact hx)
def boleref05_Commit (d1 : Option Addr) (lA1 : Option Addr) (lL1 : Nat) (lC1 : Nat) (K : Value → Heap → Prop) (h1 : Heap) : Prop :=
  bif ((lL1 : Int) == 0) then (
  K (.int .i64 0) h1) else (
  C.boleref03_Disk_Blocks d1 h1 fun r1 h2 =>
  ∃ (n1 : Int), r1 = .int .i64 n1 ∧
  C.boleref05_Fault lA1 lL1 lC1 n1 h2 fun r2 h3 =>
  ∃ (n2 : Int), r2 = .int .i64 n2 ∧
  bif (n2 != 0) then (
  K (.int .i64 n2) h3) else (
  C.boleref05_Acts lA1 lL1 lC1 h3 fun r3 h4 =>
  ∃ (sA1 : Option Addr) (sL1 : Nat) (sC1 : Nat), r3 = .slice sA1 sL1 sC1 ∧
  C.boleref05_take d1 sA1 sL1 sC1 h4 fun r4 h5 =>
  ∃ (n3 : Int), r4 = .int .i64 n3 ∧
  K (.int .i64 n3) h5))
def boleref05_Commit.lo : Nat → List Nat × List (Nat × Ty) := fun n => match n with | _ => ([], [])
def boleref05_Commit.od : Nat → Od := fun n => match n with | _ => .nil
theorem boleref05_Commit.eq (d1 : Option Addr) (lA1 : Option Addr) (lL1 : Nat) (lC1 : Nat) (K : Value → Heap → Prop) (h : Heap) : fnX (cx boleref05_Commit.lo boleref05_Commit.od) Tryz.f45 (Tryz.f45.body.getD .skip) [.pointer d1, .slice lA1 lL1 lC1] K h = boleref05_Commit d1 lA1 lL1 lC1 K h := by kernel_rfl
theorem boleref05_Commit.chk : fnOk (cx boleref05_Commit.lo boleref05_Commit.od) Tryz.f45 (Tryz.f45.body.getD .skip) 2 = true := by kernel_rfl
theorem boleref05_Commit.ok {d1 : Option Addr} {lA1 : Option Addr} {lL1 : Nat} {lC1 : Nat} {K : Value → Heap → Prop} {h : Heap} (hx : boleref05_Commit d1 lA1 lL1 lC1 K h) : C.boleref05_Commit d1 lA1 lL1 lC1 h K :=
  fn_to (cxOk _ _) Tryz.func45 (by kernel_rfl) boleref05_Commit.chk (by rw [boleref05_Commit.eq]; exact hx)
def bolelaw05_kept (ownA1 : Option Addr) (ownL1 : Nat) (ownC1 : Nat) (lA1 : Option Addr) (lL1 : Nat) (lC1 : Nat) (K : Value → Heap → Prop) (h1 : Heap) : Prop :=
  (0 ≤ (IntKind.wrap .i64 ((lL1 : Int) + 1)) ∧ (IntKind.wrap .i64 ((lL1 : Int) + 1)) ≤ (ownC1 : Int)) ∧
  ∃ (I1 : Int → Heap → Prop) (M1 : Int → Heap → Nat), I1 0 h1 ∧
  ∀ (i1 : Int), ∀ h2 : Heap, I1 i1 h2 →
  bif (decide (i1 < (lL1 : Int))) then (
  (0 ≤ i1 ∧ i1 < (lL1 : Int)) ∧
  onSome lA1 fun p1 =>
  ∃ (sA1 : Option Addr) (sL1 : Nat) (sC1 : Nat), cellOf h2 (Addr.add (Addr.add p1 ((Int.toNat i1) * 2)) 1) = some (.slice sA1 sL1 sC1) ∧
  (0 ≤ i1 ∧ i1 < (ownL1 : Int)) ∧
  onSome ownA1 fun p2 =>
  ∃ (sA2 : Option Addr) (sL2 : Nat) (sC2 : Nat), cellOf h2 (Addr.add (Addr.add p2 ((Int.toNat i1) * 2)) 1) = some (.slice sA2 sL2 sC2) ∧
  (0 ≤ (IntKind.wrap .i64 ((sL1 : Int) + 3)) ∧ (IntKind.wrap .i64 ((sL1 : Int) + 3)) ≤ (sC2 : Int)) ∧
  (0 ≤ i1 ∧ i1 < (ownL1 : Int)) ∧
  onSome ownA1 fun p3 =>
  ∃ (n1 : Int), cellOf h2 (Addr.add (Addr.add p3 ((Int.toNat i1) * 2)) 0) = some (.int .i64 n1) ∧
  (0 ≤ i1 ∧ i1 < (lL1 : Int)) ∧
  onSome lA1 fun p4 =>
  ∃ (n2 : Int), cellOf h2 (Addr.add (Addr.add p4 ((Int.toNat i1) * 2)) 0) = some (.int .i64 n2) ∧
  bif (n1 != n2) then (
  (
  (
  K (.bool false) h2) ∧
  K (.bool false) h2) ∧
  K (.bool false) h2) else (
  (0 ≤ i1 ∧ i1 < (ownL1 : Int)) ∧
  onSome ownA1 fun p5 =>
  ∃ (sA3 : Option Addr) (sL3 : Nat) (sC3 : Nat), cellOf h2 (Addr.add (Addr.add p5 ((Int.toNat i1) * 2)) 1) = some (.slice sA3 sL3 sC3) ∧
  bif ((sL3 : Int) != (sL1 : Int)) then (
  (
  (
  K (.bool false) h2) ∧
  K (.bool false) h2) ∧
  K (.bool false) h2) else (
  (0 ≤ i1 ∧ i1 < (lL1 : Int)) ∧
  onSome lA1 fun p6 =>
  ∃ (sA4 : Option Addr) (sL4 : Nat) (sC4 : Nat), cellOf h2 (Addr.add (Addr.add p6 ((Int.toNat i1) * 2)) 1) = some (.slice sA4 sL4 sC4) ∧
  (
  New [] 5 h2 fun h3 =>
  (cellOf h3 (Addr.add (Addr.add p6 ((Int.toNat i1) * 2)) 1) = some (.slice sA4 sL4 sC4)) ∧
  (
  ∃ new1 : List Value, List.length new1 = sL4 * 1 ∧ SlCells h3 sA4 new1 ∧ (∀ v ∈ new1, v.oneCell' = true) ∧
  AppendP ti5 5 (some ⟨h2.size, 0, none⟩) 0 0 sL4 new1 h3 fun sA5 sL5 sC5 h4 =>
  New [.int .u8 77, .int .u8 78, .int .u8 79] 5 h4 fun h5 =>
  (cellOf h5 (Addr.add (Addr.add p6 ((Int.toNat i1) * 2)) 1) = some (.slice sA4 sL4 sC4)) ∧
  ∃ new2 : List Value, List.length new2 = 3 * 1 ∧ SlCells h5 (some ⟨h4.size, 0, none⟩) new2 ∧ (∀ v ∈ new2, v.oneCell' = true) ∧
  AppendP ti5 5 sA5 sL5 sC5 3 new2 h5 fun sA6 sL6 sC6 h6 =>
  C.bolelaw05_sameBytes sA2 (Int.toNat (IntKind.wrap .i64 ((sL1 : Int) + 3))) sC2 sA6 sL6 sC6 h6 fun r1 h7 =>
  ∃ (b1 : Bool), r1 = .bool b1 ∧
  bif (!b1) then (
  K (.bool false) h7) else (
  I1 (IntKind.wrap .i64 (i1 + 1)) h7 ∧ M1 (IntKind.wrap .i64 (i1 + 1)) h7 < M1 i1 h2)) ∧
  New [.int .u8 77, .int .u8 78, .int .u8 79] 5 h3 fun h8 =>
  (cellOf h8 (Addr.add (Addr.add p6 ((Int.toNat i1) * 2)) 1) = some (.slice sA4 sL4 sC4)) ∧
  ∃ new3 : List Value, List.length new3 = sL4 * 1 ∧ SlCells h8 sA4 new3 ∧ (∀ v ∈ new3, v.oneCell' = true) ∧
  AppendP ti5 5 (some ⟨h2.size, 0, none⟩) 0 0 sL4 new3 h8 fun sA7 sL7 sC7 h9 =>
  ∃ new4 : List Value, List.length new4 = 3 * 1 ∧ SlCells h9 (some ⟨h3.size, 0, none⟩) new4 ∧ (∀ v ∈ new4, v.oneCell' = true) ∧
  AppendP ti5 5 sA7 sL7 sC7 3 new4 h9 fun sA8 sL8 sC8 h10 =>
  C.bolelaw05_sameBytes sA2 (Int.toNat (IntKind.wrap .i64 ((sL1 : Int) + 3))) sC2 sA8 sL8 sC8 h10 fun r2 h11 =>
  ∃ (b2 : Bool), r2 = .bool b2 ∧
  bif (!b2) then (
  K (.bool false) h11) else (
  I1 (IntKind.wrap .i64 (i1 + 1)) h11 ∧ M1 (IntKind.wrap .i64 (i1 + 1)) h11 < M1 i1 h2)) ∧
  New [.int .u8 77, .int .u8 78, .int .u8 79] 5 h2 fun h12 =>
  (cellOf h12 (Addr.add (Addr.add p6 ((Int.toNat i1) * 2)) 1) = some (.slice sA4 sL4 sC4)) ∧
  New [] 5 h12 fun h13 =>
  (cellOf h13 (Addr.add (Addr.add p6 ((Int.toNat i1) * 2)) 1) = some (.slice sA4 sL4 sC4)) ∧
  ∃ new5 : List Value, List.length new5 = sL4 * 1 ∧ SlCells h13 sA4 new5 ∧ (∀ v ∈ new5, v.oneCell' = true) ∧
  AppendP ti5 5 (some ⟨h12.size, 0, none⟩) 0 0 sL4 new5 h13 fun sA9 sL9 sC9 h14 =>
  ∃ new6 : List Value, List.length new6 = 3 * 1 ∧ SlCells h14 (some ⟨h2.size, 0, none⟩) new6 ∧ (∀ v ∈ new6, v.oneCell' = true) ∧
  AppendP ti5 5 sA9 sL9 sC9 3 new6 h14 fun sA10 sL10 sC10 h15 =>
  C.bolelaw05_sameBytes sA2 (Int.toNat (IntKind.wrap .i64 ((sL1 : Int) + 3))) sC2 sA10 sL10 sC10 h15 fun r3 h16 =>
  ∃ (b3 : Bool), r3 = .bool b3 ∧
  bif (!b3) then (
  K (.bool false) h16) else (
  I1 (IntKind.wrap .i64 (i1 + 1)) h16 ∧ M1 (IntKind.wrap .i64 (i1 + 1)) h16 < M1 i1 h2)))) else (
  (0 ≤ (lL1 : Int) ∧ (lL1 : Int) < ((Int.toNat (IntKind.wrap .i64 ((lL1 : Int) + 1))) : Int)) ∧
  onSome ownA1 fun p7 =>
  ∃ (n3 : Int), cellOf h2 (Addr.add (Addr.add p7 ((Int.toNat (lL1 : Int)) * 2)) 0) = some (.int .i64 n3) ∧
  K (.bool (n3 == (-7))) h2)
def bolelaw05_kept.lo : Nat → List Nat × List (Nat × Ty) := fun n => match n with | 3 => ([0, 1, 5], [(6, .int .i64)]) | _ => ([], [])
def bolelaw05_kept.od : Nat → Od := fun n => match n with | 7 => (.op 0 [] (.op 1 [] (.op 2 [] (.op 3 [] (.op 4 [] (.op 5 [] (.op 6 [] (.op 7 [] (.op 8 [] (.op 9 [] (.op 10 [] (.op 11 [] (.op 12 [] (.op 13 [] (.op 14 [] (.op 15 [] (.op 16 [] (.op 17 [] (.op 18 [] (.op 19 [] (.op 20 [] (.op 21 [] (.op 22 [] (.op 24 [] (.op 25 [] (.op 26 [] (.op 27 [] (.op 28 [] (.alt 23 [28] (.alt 29 [] (.op 30 [28] (.op 31 [] (.op 32 [] (.op 33 [] (.op 34 [] .nil))))) (.op 30 [28] (.op 29 [] (.op 31 [] (.op 32 [] (.op 33 [] (.op 34 [] .nil))))))) (.op 30 [28] (.op 23 [28] (.op 29 [] (.op 31 [] (.op 32 [] (.op 33 [] (.op 34 [] .nil)))))))))))))))))))))))))))))))))))) | _ => .nil
theorem bolelaw05_kept.eq (ownA1 : Option Addr) (ownL1 : Nat) (ownC1 : Nat) (lA1 : Option Addr) (lL1 : Nat) (lC1 : Nat) (K : Value → Heap → Prop) (h : Heap) : fnX (cx bolelaw05_kept.lo bolelaw05_kept.od) Tryz.f46 (Tryz.f46.body.getD .skip) [.slice ownA1 ownL1 ownC1, .slice lA1 lL1 lC1] K h = bolelaw05_kept ownA1 ownL1 ownC1 lA1 lL1 lC1 K h := by kernel_rfl
theorem bolelaw05_kept.chk : fnOk (cx bolelaw05_kept.lo bolelaw05_kept.od) Tryz.f46 (Tryz.f46.body.getD .skip) 2 = true := by kernel_rfl
theorem bolelaw05_kept.ok {ownA1 : Option Addr} {ownL1 : Nat} {ownC1 : Nat} {lA1 : Option Addr} {lL1 : Nat} {lC1 : Nat} {K : Value → Heap → Prop} {h : Heap} (hx : bolelaw05_kept ownA1 ownL1 ownC1 lA1 lL1 lC1 K h) : C.bolelaw05_kept ownA1 ownL1 ownC1 lA1 lL1 lC1 h K :=
  fn_to (cxOk _ _) Tryz.func46 (by kernel_rfl) bolelaw05_kept.chk (by rw [bolelaw05_kept.eq]; exact hx)
def boleref05_Recover.k1 (d1 : Option Addr) (h2 : Heap) (sA1 : Option Addr) (sL1 : Nat) (sC1 : Nat) (sA2 : Option Addr) (sL2 : Nat) (sC2 : Nat) (K : Value → Heap → Prop) : Prop :=
  C.boleref05_home sA1 sL1 sC1 sA2 sL2 sC2 h2 fun r2 h3 =>
  ∃ (sA3 : Option Addr) (sL3 : Nat) (sC3 : Nat), r2 = .slice sA3 sL3 sC3 ∧
  C.boleref05_take d1 sA3 sL3 sC3 h3 fun r3 h4 =>
  ∃ (n2 : Int), r3 = .int .i64 n2 ∧
  bif (n2 != 0) then (
  K (.tuple #[.int .i64 0, .int .i64 n2]) h4) else (
  K (.tuple #[.int .i64 (sL1 : Int), .int .i64 0]) h4)
def boleref05_Recover (d1 : Option Addr) (K : Value → Heap → Prop) (h1 : Heap) : Prop :=
  C.boleref05_log d1 h1 fun r1 h2 =>
  ∃ (sA1 : Option Addr) (sL1 : Nat) (sC1 : Nat) (sA2 : Option Addr) (sL2 : Nat) (sC2 : Nat) (n1 : Int), r1 = .tuple #[.slice sA1 sL1 sC1, .slice sA2 sL2 sC2, .int .i64 n1] ∧
  bif (n1 != 0) then (
  K (.tuple #[.int .i64 0, .int .i64 n1]) h2) else (
  bif ((sL1 : Int) == 0) then (
  K (.tuple #[.int .i64 0, .int .i64 n1]) h2) else (
  boleref05_Recover.k1 d1 h2 sA1 sL1 sC1 sA2 sL2 sC2 K))
def boleref05_Recover.lo : Nat → List Nat × List (Nat × Ty) := fun n => match n with | _ => ([], [])
def boleref05_Recover.od : Nat → Od := fun n => match n with | _ => .nil
theorem boleref05_Recover.eq (d1 : Option Addr) (K : Value → Heap → Prop) (h : Heap) : fnX (cx boleref05_Recover.lo boleref05_Recover.od) Tryz.f47 (Tryz.f47.body.getD .skip) [.pointer d1] K h = boleref05_Recover d1 K h := by kernel_rfl
theorem boleref05_Recover.chk : fnOk (cx boleref05_Recover.lo boleref05_Recover.od) Tryz.f47 (Tryz.f47.body.getD .skip) 1 = true := by kernel_rfl
theorem boleref05_Recover.ok {d1 : Option Addr} {K : Value → Heap → Prop} {h : Heap} (hx : boleref05_Recover d1 K h) : C.boleref05_Recover d1 h K :=
  fn_to (cxOk _ _) Tryz.func47 (by kernel_rfl) boleref05_Recover.chk (by rw [boleref05_Recover.eq]; exact hx)
def bolelaw05_play_behind.k1 (p1 : Option Addr) (sA1 : Option Addr) (sL1 : Nat) (sA2 : Option Addr) (sL2 : Nat) (sC2 : Nat) (sA3 : Option Addr) (sL3 : Nat) (sC3 : Nat) (h7 : Heap) (K : Value → Heap → Prop) : Prop :=
  ∃ (I1 : Int → Heap → Prop) (M1 : Int → Heap → Nat), I1 0 h7 ∧
  ∀ (i1 : Int), ∀ h8 : Heap, I1 i1 h8 →
  bif (decide (i1 < (sL3 : Int))) then (
  (0 ≤ i1 ∧ i1 < (sL3 : Int)) ∧
  onSome sA3 fun p5 =>
  Put (Addr.add p5 (Int.toNat i1)) (.int .u8 99) h8 fun h9 =>
  I1 (IntKind.wrap .i64 (i1 + 1)) h9 ∧ M1 (IntKind.wrap .i64 (i1 + 1)) h9 < M1 i1 h8) else (
  New [.int .u8 99] 5 h8 fun h10 =>
  ∃ new1 : List Value, List.length new1 = 1 * 1 ∧ SlCells h10 (some ⟨h8.size, 0, none⟩) new1 ∧ (∀ v ∈ new1, v.oneCell' = true) ∧
  AppendP ti5 5 sA3 sL3 sC3 1 new1 h10 fun sA4 sL4 sC4 h11 =>
  onSome p1 fun p6 =>
  ∃ (sA5 : Option Addr) (sL5 : Nat) (sC5 : Nat), cellOf h11 (Addr.add p6 2) = some (.slice sA5 sL5 sC5) ∧
  New [.slice sA2 sL2 sC2] 37 h11 fun h12 =>
  ∃ new2 : List Value, List.length new2 = 1 * 1 ∧ SlCells h12 (some ⟨h11.size, 0, none⟩) new2 ∧ (∀ v ∈ new2, v.oneCell' = true) ∧
  AppendP ti37 37 sA5 sL5 sC5 1 new2 h12 fun sA6 sL6 sC6 h13 =>
  onSome p1 fun p7 =>
  Put (Addr.add p7 2) (.slice sA6 sL6 sC6) h13 fun h14 =>
  onSome p1 fun p8 =>
  ∃ (sA7 : Option Addr) (sL7 : Nat) (sC7 : Nat), cellOf h14 (Addr.add p8 3) = some (.slice sA7 sL7 sC7) ∧
  ∃ bs1 : List UInt8, StrAt h14 sA1 sL1 bs1 ∧
  New [.string (mkStr bs1)] 9 h14 fun h15 =>
  (cellOf h15 (Addr.add p8 3) = some (.slice sA7 sL7 sC7)) ∧
  ∃ new3 : List Value, List.length new3 = 1 * 1 ∧ SlCells h15 (some ⟨h14.size, 0, none⟩) new3 ∧ (∀ v ∈ new3, v.oneCell' = true) ∧
  AppendP ti9 9 sA7 sL7 sC7 1 new3 h15 fun sA8 sL8 sC8 h16 =>
  onSome p1 fun p9 =>
  Put (Addr.add p9 3) (.slice sA8 sL8 sC8) h16 fun h17 =>
  K (.bool ((sL4 : Int) == (IntKind.wrap .i64 ((sL1 : Int) + 1)))) h17)
def bolelaw05_play_behind (p1 : Option Addr) (K : Value → Heap → Prop) (h1 : Heap) : Prop :=
  onSome p1 fun p2 =>
  ∃ (q1 : Option Addr), cellOf h1 (Addr.add p2 1) = some (.pointer q1) ∧
  C.boleref05_Behind q1 h1 fun r1 h2 =>
  ∃ (sA1 : Option Addr) (sL1 : Nat) (sC1 : Nat) (n1 : Int), r1 = .tuple #[.slice sA1 sL1 sC1, .int .i64 n1] ∧
  onSome p1 fun p3 =>
  ∃ (q2 : Option Addr), cellOf h2 (Addr.add p3 0) = some (.pointer q2) ∧
  C.wal_Behind q2 h2 fun r2 h3 =>
  ∃ (sA2 : Option Addr) (sL2 : Nat) (sC2 : Nat) (n2 : Int), r2 = .tuple #[.slice sA2 sL2 sC2, .int .i64 n2] ∧
  onSome p1 fun p4 =>
  ∃ (q3 : Option Addr), cellOf h3 (Addr.add p4 0) = some (.pointer q3) ∧
  C.wal_Behind q3 h3 fun r3 h4 =>
  ∃ (sA3 : Option Addr) (sL3 : Nat) (sC3 : Nat) (n3 : Int), r3 = .tuple #[.slice sA3 sL3 sC3, .int .i64 n3] ∧
  bif (n2 != n1) then (
  K (.bool false) h4) else (
  bif (n3 != n1) then (
  K (.bool false) h4) else (
  C.bolelaw05_sameBytes sA2 sL2 sC2 sA1 sL1 sC1 h4 fun r4 h5 =>
  ∃ (b1 : Bool), r4 = .bool b1 ∧
  bif (!b1) then (
  K (.bool false) h5) else (
  C.bolelaw05_sameBytes sA3 sL3 sC3 sA1 sL1 sC1 h5 fun r5 h6 =>
  ∃ (b2 : Bool), r5 = .bool b2 ∧
  bif (!b2) then (
  K (.bool false) h6) else (
  bolelaw05_play_behind.k1 p1 sA1 sL1 sA2 sL2 sC2 sA3 sL3 sC3 h6 K))))
def bolelaw05_play_behind.lo : Nat → List Nat × List (Nat × Ty) := fun n => match n with | 7 => ([0, 3, 5, 7], [(9, .int .i64)]) | _ => ([], [])
def bolelaw05_play_behind.od : Nat → Od := fun n => match n with | 12 => (.op 0 [] (.op 1 [] (.op 2 [] (.op 3 [] (.op 4 [] (.op 5 [] (.op 6 [] (.op 7 [4] (.op 8 [] (.op 9 [] (.op 10 [] (.op 11 [] .nil)))))))))))) | _ => .nil
theorem bolelaw05_play_behind.eq (p1 : Option Addr) (K : Value → Heap → Prop) (h : Heap) : fnX (cx bolelaw05_play_behind.lo bolelaw05_play_behind.od) Tryz.f48 (Tryz.f48.body.getD .skip) [.pointer p1] K h = bolelaw05_play_behind p1 K h := by kernel_rfl
theorem bolelaw05_play_behind.chk : fnOk (cx bolelaw05_play_behind.lo bolelaw05_play_behind.od) Tryz.f48 (Tryz.f48.body.getD .skip) 1 = true := by kernel_rfl
theorem bolelaw05_play_behind.ok {p1 : Option Addr} {K : Value → Heap → Prop} {h : Heap} (hx : bolelaw05_play_behind p1 K h) : C.bolelaw05_play_behind p1 h K :=
  fn_to (cxOk _ _) Tryz.func48 (by kernel_rfl) bolelaw05_play_behind.chk (by rw [bolelaw05_play_behind.eq]; exact hx)
end Go.Proofs.YtjdcbblgaoogmaaGreatDoor.W
namespace Go.Proofs.YtjdcbblgaoogmaaGreatDoor.W
open Go Go.Proofs Go.Proofs.YtjdcbblgaoogmaaGreatDoor.Wx
def boleref03_Disk_Write (d1 : Option Addr) (i1 : Int) (bA1 : Option Addr) (bL1 : Nat) (bC1 : Nat) (K : Value → Heap → Prop) (h1 : Heap) : Prop :=
  onSome d1 fun p1 =>
  ∃ (b1 : Bool), cellOf h1 (Addr.add p1 4) = some (.bool b1) ∧
  bif b1 then (
  K (.int .i64 30) h1) else (
  C.boleref03_copied bA1 bL1 bC1 h1 fun r1 h2 =>
  ∃ (sA1 : Option Addr) (sL1 : Nat) (sC1 : Nat), r1 = .slice sA1 sL1 sC1 ∧
  NewRow z122 122 [.int .i64 1, .int .i64 i1, .slice sA1 sL1 sC1] 3 h2 fun h4 =>
  ∃ cs1 : List Value, List.length cs1 = 3 ∧ Cells h4 ⟨h2.size, 0, none⟩ cs1 ∧
  C.boleref03_Disk_Blocks d1 h4 fun r2 h5 =>
  ∃ (n1 : Int), r2 = .int .i64 n1 ∧
  (List.length (cs1 : List Value) = 3 ∧ Cells h5 ⟨h2.size, 0, none⟩ cs1) ∧
  C.boleref03_fault n1 cs1 h5 fun r3 h6 =>
  ∃ (n2 : Int), r3 = .int .i64 n2 ∧
  bif (n2 != 0) then (
  K (.int .i64 n2) h6) else (
  onSome d1 fun p2 =>
  ∃ (n3 : Int), cellOf h6 (Addr.add p2 5) = some (.int .i64 n3) ∧
  onSome d1 fun p3 =>
  Put (Addr.add p3 5) (.int .i64 (IntKind.wrap .i64 (n3 + 1))) h6 fun h7 =>
  onSome d1 fun p4 =>
  ∃ (sA2 : Option Addr) (sL2 : Nat) (sC2 : Nat), cellOf h7 (Addr.add p4 1) = some (.slice sA2 sL2 sC2) ∧
  ∃ cs2 : List Value, List.length cs2 = 3 ∧ Cells h7 ⟨h2.size, 0, none⟩ cs2 ∧
  List.length (cs2 : List Value) = 3 ∧
  New cs2 122 h7 fun h8 =>
  (cellOf h8 (Addr.add p4 1) = some (.slice sA2 sL2 sC2)) ∧
  ∃ new1 : List Value, List.length new1 = 1 * 3 ∧ SlCells h8 (some ⟨h7.size, 0, none⟩) new1 ∧ (∀ v ∈ new1, v.oneCell' = true) ∧
  AppendP ti122 122 sA2 sL2 sC2 1 new1 h8 fun sA3 sL3 sC3 h9 =>
  onSome d1 fun p5 =>
  Put (Addr.add p5 1) (.slice sA3 sL3 sC3) h9 fun h10 =>
  C.boleref03_Disk_goes d1 h10 fun r4 h11 =>
  ∃ (b2 : Bool), r4 = .bool b2 ∧
  bif b2 then (
  K (.int .i64 30) h11) else (
  K (.int .i64 0) h11)))
def boleref03_Disk_Write.lo : Nat → List Nat × List (Nat × Ty) := fun n => match n with | _ => ([], [])
def boleref03_Disk_Write.od : Nat → Od := fun n => match n with | 4 => (.op 0 [] (.op 2 [] (.op 1 [2] (.op 3 [] (.op 4 [] .nil))))) | 8 => (.op 0 [] (.op 1 [] (.op 2 [] (.op 3 [] (.op 4 [] (.op 5 [] (.op 6 [4] (.op 7 [] (.op 8 [] (.op 9 [] (.op 10 [] .nil))))))))))) | _ => .nil
theorem boleref03_Disk_Write.eq (d1 : Option Addr) (i1 : Int) (bA1 : Option Addr) (bL1 : Nat) (bC1 : Nat) (K : Value → Heap → Prop) (h : Heap) : fnX (cx boleref03_Disk_Write.lo boleref03_Disk_Write.od) Tryz.f49 (Tryz.f49.body.getD .skip) [.pointer d1, .int .i64 i1, .slice bA1 bL1 bC1] K h = boleref03_Disk_Write d1 i1 bA1 bL1 bC1 K h := by kernel_rfl
theorem boleref03_Disk_Write.chk : fnOk (cx boleref03_Disk_Write.lo boleref03_Disk_Write.od) Tryz.f49 (Tryz.f49.body.getD .skip) 3 = true := by kernel_rfl
theorem boleref03_Disk_Write.ok {d1 : Option Addr} {i1 : Int} {bA1 : Option Addr} {bL1 : Nat} {bC1 : Nat} {K : Value → Heap → Prop} {h : Heap} (hx : boleref03_Disk_Write d1 i1 bA1 bL1 bC1 K h) : C.boleref03_Disk_Write d1 i1 bA1 bL1 bC1 h K :=
  fn_to (cxOk _ _) Tryz.func49 (by kernel_rfl) boleref03_Disk_Write.chk (by rw [boleref03_Disk_Write.eq]; exact hx)
def adisk_Disk_Write (d1 : Option Addr) (i1 : Int) (bA1 : Option Addr) (bL1 : Nat) (bC1 : Nat) (K : Value → Heap → Prop) (h1 : Heap) : Prop :=
  onSome d1 fun p1 =>
  ∃ (b1 : Bool), cellOf h1 (Addr.add p1 4) = some (.bool b1) ∧
  bif b1 then (
  K (.int .i64 30) h1) else (
  C.adisk_Disk_has d1 i1 h1 fun r1 h2 =>
  ∃ (b2 : Bool), r1 = .bool b2 ∧
  bif (!b2) then (
  K (.int .i64 31) h2) else (
  bif ((bL1 : Int) != 512) then (
  K (.int .i64 32) h2) else (
  onSome d1 fun p2 =>
  ∃ (sA1 : Option Addr) (sL1 : Nat) (sC1 : Nat), cellOf h2 (Addr.add p2 1) = some (.slice sA1 sL1 sC1) ∧
  512 ≤ bL1 ∧
  onSome bA1 fun p3 =>
  ∃ cs1 : List Value, List.length cs1 = 512 ∧ Cells h2 p3 cs1 ∧
  List.length (cs1 : List Value) = 512 ∧
  List.length (([.int .i64 i1] ++ cs1) : List Value) = 513 ∧
  New ([.int .i64 i1] ++ cs1) 174 h2 fun h3 =>
  (cellOf h3 (Addr.add p2 1) = some (.slice sA1 sL1 sC1)) ∧
  ∃ new1 : List Value, List.length new1 = 1 * 513 ∧ SlCells h3 (some ⟨h2.size, 0, none⟩) new1 ∧ (∀ v ∈ new1, v.oneCell' = true) ∧
  AppendP ti174 174 sA1 sL1 sC1 1 new1 h3 fun sA2 sL2 sC2 h4 =>
  onSome d1 fun p4 =>
  Put (Addr.add p4 1) (.slice sA2 sL2 sC2) h4 fun h5 =>
  onSome d1 fun p5 =>
  ∃ (sA3 : Option Addr) (sL3 : Nat) (sC3 : Nat), cellOf h5 (Addr.add p5 7) = some (.slice sA3 sL3 sC3) ∧
  C.slices_Clone_byte_byte bA1 bL1 bC1 h5 fun r2 h6 =>
  ∃ (sA4 : Option Addr) (sL4 : Nat) (sC4 : Nat), r2 = .slice sA4 sL4 sC4 ∧
  (cellOf h6 (Addr.add p5 7) = some (.slice sA3 sL3 sC3)) ∧
  List.length ([.int .i64 1, .int .i64 i1, .slice sA4 sL4 sC4] : List Value) = 3 ∧
  New [.int .i64 1, .int .i64 i1, .slice sA4 sL4 sC4] 122 h6 fun h7 =>
  (cellOf h7 (Addr.add p5 7) = some (.slice sA3 sL3 sC3)) ∧
  ∃ new2 : List Value, List.length new2 = 1 * 3 ∧ SlCells h7 (some ⟨h6.size, 0, none⟩) new2 ∧ (∀ v ∈ new2, v.oneCell' = true) ∧
  AppendP ti122 122 sA3 sL3 sC3 1 new2 h7 fun sA5 sL5 sC5 h8 =>
  onSome d1 fun p6 =>
  Put (Addr.add p6 7) (.slice sA5 sL5 sC5) h8 fun h9 =>
  onSome d1 fun p7 =>
  ∃ (n1 : Int), cellOf h9 (Addr.add p7 5) = some (.int .i64 n1) ∧
  onSome d1 fun p8 =>
  Put (Addr.add p8 5) (.int .i64 (IntKind.wrap .i64 (n1 + 1))) h9 fun h10 =>
  C.adisk_Disk_step d1 (Value.nilFunc) h10 fun r3 h11 =>
  ∃ (n2 : Int), r3 = .int .i64 n2 ∧
  K (.int .i64 n2) h11)))
def adisk_Disk_Write.lo : Nat → List Nat × List (Nat × Ty) := fun n => match n with | _ => ([], [])
def adisk_Disk_Write.od : Nat → Od := fun n => match n with | 7 => (.op 0 [] (.op 1 [] (.op 2 [] (.op 3 [] (.op 4 [] (.op 5 [] (.op 6 [] (.op 7 [] (.op 8 [] (.op 9 [] (.op 10 [4] (.op 11 [] (.op 12 [] (.op 13 [] (.op 14 [] .nil))))))))))))))) | 8 => (.op 0 [] (.op 1 [] (.op 2 [] (.op 3 [] (.op 4 [] (.op 5 [] (.op 6 [] (.op 7 [4] (.op 8 [] (.op 9 [4] (.op 10 [] (.op 11 [] (.op 12 [] (.op 13 [] .nil)))))))))))))) | _ => .nil
theorem adisk_Disk_Write.eq (d1 : Option Addr) (i1 : Int) (bA1 : Option Addr) (bL1 : Nat) (bC1 : Nat) (K : Value → Heap → Prop) (h : Heap) : fnX (cx adisk_Disk_Write.lo adisk_Disk_Write.od) Tryz.f50 (Tryz.f50.body.getD .skip) [.pointer d1, .int .i64 i1, .slice bA1 bL1 bC1] K h = adisk_Disk_Write d1 i1 bA1 bL1 bC1 K h := by kernel_rfl
theorem adisk_Disk_Write.chk : fnOk (cx adisk_Disk_Write.lo adisk_Disk_Write.od) Tryz.f50 (Tryz.f50.body.getD .skip) 3 = true := by kernel_rfl
theorem adisk_Disk_Write.ok {d1 : Option Addr} {i1 : Int} {bA1 : Option Addr} {bL1 : Nat} {bC1 : Nat} {K : Value → Heap → Prop} {h : Heap} (hx : adisk_Disk_Write d1 i1 bA1 bL1 bC1 K h) : C.adisk_Disk_Write d1 i1 bA1 bL1 bC1 h K :=
  fn_to (cxOk _ _) Tryz.func50 (by kernel_rfl) adisk_Disk_Write.chk (by rw [adisk_Disk_Write.eq]; exact hx)
def boleref03_Disk_Flush (d1 : Option Addr) (K : Value → Heap → Prop) (h1 : Heap) : Prop :=
  onSome d1 fun p1 =>
  ∃ (b1 : Bool), cellOf h1 (Addr.add p1 4) = some (.bool b1) ∧
  bif b1 then (
  K (.int .i64 30) h1) else (
  onSome d1 fun p2 =>
  ∃ (n1 : Int), cellOf h1 (Addr.add p2 6) = some (.int .i64 n1) ∧
  onSome d1 fun p3 =>
  Put (Addr.add p3 6) (.int .i64 (IntKind.wrap .i64 (n1 + 1))) h1 fun h2 =>
  C.boleref03_Disk_goes d1 h2 fun r1 h3 =>
  ∃ (b2 : Bool), r1 = .bool b2 ∧
  bif b2 then (
  K (.int .i64 30) h3) else (
  onSome d1 fun p4 =>
  ∃ (sA1 : Option Addr) (sL1 : Nat) (sC1 : Nat), cellOf h3 (Addr.add p4 1) = some (.slice sA1 sL1 sC1) ∧
  List.length ([.int .i64 2, .int .i64 0, .slice none 0 0] : List Value) = 3 ∧
  New [.int .i64 2, .int .i64 0, .slice none 0 0] 122 h3 fun h4 =>
  ∃ new1 : List Value, List.length new1 = 1 * 3 ∧ SlCells h4 (some ⟨h3.size, 0, none⟩) new1 ∧ (∀ v ∈ new1, v.oneCell' = true) ∧
  AppendP ti122 122 sA1 sL1 sC1 1 new1 h4 fun sA2 sL2 sC2 h5 =>
  onSome d1 fun p5 =>
  Put (Addr.add p5 1) (.slice sA2 sL2 sC2) h5 fun h6 =>
  K (.int .i64 0) h6))
def boleref03_Disk_Flush.lo : Nat → List Nat × List (Nat × Ty) := fun n => match n with | _ => ([], [])
def boleref03_Disk_Flush.od : Nat → Od := fun n => match n with | _ => .nil
theorem boleref03_Disk_Flush.eq (d1 : Option Addr) (K : Value → Heap → Prop) (h : Heap) : fnX (cx boleref03_Disk_Flush.lo boleref03_Disk_Flush.od) Tryz.f51 (Tryz.f51.body.getD .skip) [.pointer d1] K h = boleref03_Disk_Flush d1 K h := by kernel_rfl
theorem boleref03_Disk_Flush.chk : fnOk (cx boleref03_Disk_Flush.lo boleref03_Disk_Flush.od) Tryz.f51 (Tryz.f51.body.getD .skip) 1 = true := by kernel_rfl
theorem boleref03_Disk_Flush.ok {d1 : Option Addr} {K : Value → Heap → Prop} {h : Heap} (hx : boleref03_Disk_Flush d1 K h) : C.boleref03_Disk_Flush d1 h K :=
  fn_to (cxOk _ _) Tryz.func51 (by kernel_rfl) boleref03_Disk_Flush.chk (by rw [boleref03_Disk_Flush.eq]; exact hx)
def adisk_Disk_Flush (d1 : Option Addr) (K : Value → Heap → Prop) (h1 : Heap) : Prop :=
  New [.pointer d1] 25 h1 fun h2 =>
  ∃ (q1 : Option Addr), cellOf h2 ⟨h1.size, 0, none⟩ = some (.pointer q1) ∧
  onSome q1 fun p1 =>
  ∃ (b1 : Bool), cellOf h2 (Addr.add p1 4) = some (.bool b1) ∧
  bif b1 then (
  K (.int .i64 30) h2) else (
  ∃ (q2 : Option Addr), cellOf h2 ⟨h1.size, 0, none⟩ = some (.pointer q2) ∧
  onSome q2 fun p2 =>
  ∃ (n1 : Int), cellOf h2 (Addr.add p2 6) = some (.int .i64 n1) ∧
  onSome q2 fun p3 =>
  Put (Addr.add p3 6) (.int .i64 (IntKind.wrap .i64 (n1 + 1))) h2 fun h3 =>
  ∃ (q3 : Option Addr), cellOf h3 ⟨h1.size, 0, none⟩ = some (.pointer q3) ∧
  C.adisk_Disk_step q3 (Value.func (.func 131) #[] ⟨[.pointer (some ⟨h1.size, 0, none⟩)]⟩) h3 fun r1 h4 =>
  ∃ (n2 : Int), r1 = .int .i64 n2 ∧
  K (.int .i64 n2) h4)
def adisk_Disk_Flush.lo : Nat → List Nat × List (Nat × Ty) := fun n => match n with | _ => ([], [])
def adisk_Disk_Flush.od : Nat → Od := fun n => match n with | _ => .nil
theorem adisk_Disk_Flush.eq (d1 : Option Addr) (K : Value → Heap → Prop) (h : Heap) : fnX (cx adisk_Disk_Flush.lo adisk_Disk_Flush.od) Tryz.f52 (Tryz.f52.body.getD .skip) [.pointer d1] K h = adisk_Disk_Flush d1 K h := by kernel_rfl
theorem adisk_Disk_Flush.chk : fnOk (cx adisk_Disk_Flush.lo adisk_Disk_Flush.od) Tryz.f52 (Tryz.f52.body.getD .skip) 1 = true := by kernel_rfl
theorem adisk_Disk_Flush.ok {d1 : Option Addr} {K : Value → Heap → Prop} {h : Heap} (hx : adisk_Disk_Flush d1 K h) : C.adisk_Disk_Flush d1 h K :=
  fn_to (cxOk _ _) Tryz.func52 (by kernel_rfl) adisk_Disk_Flush.chk (by rw [adisk_Disk_Flush.eq]; exact hx)
def boleref03_Disk_Arm (d1 : Option Addr) (c1 : List Value) (K : Value → Heap → Prop) (h1 : Heap) : Prop :=
  New c1 44 h1 fun h2 =>
  onSome d1 fun p1 =>
  ∃ (b1 : Bool), cellOf h2 (Addr.add p1 4) = some (.bool b1) ∧
  bif b1 then (
  K (.int .i64 30) h2) else (
  onSome d1 fun p2 =>
  Put (Addr.add p2 3) (.int .i64 0) h2 fun h3 =>
  ∃ (n1 : Int), cellOf h3 (Addr.add ⟨h1.size, 0, none⟩ 0) = some (.int .i64 n1) ∧
  bif (decide (n1 > 0)) then (
  ∃ (n2 : Int), cellOf h3 (Addr.add ⟨h1.size, 0, none⟩ 0) = some (.int .i64 n2) ∧
  onSome d1 fun p3 =>
  Put (Addr.add p3 3) (.int .i64 n2) h3 fun h4 =>
  ∃ (sA1 : Option Addr) (sL1 : Nat) (sC1 : Nat), cellOf h4 (Addr.add ⟨h1.size, 0, none⟩ 1) = some (.slice sA1 sL1 sC1) ∧
  C.boleref03_marks sA1 sL1 sC1 h4 fun r1 h5 =>
  ∃ (sA2 : Option Addr) (sL2 : Nat) (sC2 : Nat), r1 = .slice sA2 sL2 sC2 ∧
  onSome d1 fun p4 =>
  Put (Addr.add p4 2) (.slice sA2 sL2 sC2) h5 fun h6 =>
  K (.int .i64 0) h6) else (
  K (.int .i64 0) h3))
def boleref03_Disk_Arm.lo : Nat → List Nat × List (Nat × Ty) := fun n => match n with | _ => ([], [])
def boleref03_Disk_Arm.od : Nat → Od := fun n => match n with | _ => .nil
theorem boleref03_Disk_Arm.eq (d1 : Option Addr) (c1 : List Value) (K : Value → Heap → Prop) (h : Heap) : fnX (cx boleref03_Disk_Arm.lo boleref03_Disk_Arm.od) Tryz.f53 (Tryz.f53.body.getD .skip) [.pointer d1, .agg ⟨c1⟩] K h = boleref03_Disk_Arm d1 c1 K h := by kernel_rfl
theorem boleref03_Disk_Arm.chk : fnOk (cx boleref03_Disk_Arm.lo boleref03_Disk_Arm.od) Tryz.f53 (Tryz.f53.body.getD .skip) 2 = true := by kernel_rfl
theorem boleref03_Disk_Arm.ok {d1 : Option Addr} {c1 : List Value} {K : Value → Heap → Prop} {h : Heap} (hx : boleref03_Disk_Arm d1 c1 K h) : C.boleref03_Disk_Arm d1 c1 h K :=
  fn_to (cxOk _ _) Tryz.func53 (by kernel_rfl) boleref03_Disk_Arm.chk (by rw [boleref03_Disk_Arm.eq]; exact hx)
def adisk_Disk_Arm (d1 : Option Addr) (c1 : List Value) (K : Value → Heap → Prop) (h1 : Heap) : Prop :=
  New c1 44 h1 fun h2 =>
  onSome d1 fun p1 =>
  ∃ (b1 : Bool), cellOf h2 (Addr.add p1 4) = some (.bool b1) ∧
  bif b1 then (
  K (.int .i64 30) h2) else (
  ∃ (n1 : Int), cellOf h2 (Addr.add ⟨h1.size, 0, none⟩ 0) = some (.int .i64 n1) ∧
  ∃ (sA1 : Option Addr) (sL1 : Nat) (sC1 : Nat), cellOf h2 (Addr.add ⟨h1.size, 0, none⟩ 1) = some (.slice sA1 sL1 sC1) ∧
  C.slices_Clone_bool_bool sA1 sL1 sC1 h2 fun r1 h3 =>
  ∃ (sA2 : Option Addr) (sL2 : Nat) (sC2 : Nat), r1 = .slice sA2 sL2 sC2 ∧
  (cellOf h3 (Addr.add ⟨h1.size, 0, none⟩ 0) = some (.int .i64 n1)) ∧
  onSome d1 fun p2 =>
  Put (Addr.add p2 2) (.int .i64 (if (0 : Int) > n1 then 0 else n1)) h3 fun h4 =>
  onSome d1 fun p3 =>
  Put (Addr.add p3 3) (.slice sA2 sL2 sC2) h4 fun h5 =>
  K (.int .i64 0) h5)
def adisk_Disk_Arm.lo : Nat → List Nat × List (Nat × Ty) := fun n => match n with | _ => ([], [])
def adisk_Disk_Arm.od : Nat → Od := fun n => match n with | 3 => (.op 0 [] (.op 1 [] (.op 2 [] (.op 3 [] (.op 4 [] (.op 5 [] (.op 6 [] (.op 7 [3] (.op 8 [] (.op 9 [] (.op 10 [] (.op 11 [] (.op 12 [] (.op 13 [] .nil)))))))))))))) | _ => .nil
theorem adisk_Disk_Arm.eq (d1 : Option Addr) (c1 : List Value) (K : Value → Heap → Prop) (h : Heap) : fnX (cx adisk_Disk_Arm.lo adisk_Disk_Arm.od) Tryz.f54 (Tryz.f54.body.getD .skip) [.pointer d1, .agg ⟨c1⟩] K h = adisk_Disk_Arm d1 c1 K h := by kernel_rfl
theorem adisk_Disk_Arm.chk : fnOk (cx adisk_Disk_Arm.lo adisk_Disk_Arm.od) Tryz.f54 (Tryz.f54.body.getD .skip) 2 = true := by kernel_rfl
theorem adisk_Disk_Arm.ok {d1 : Option Addr} {c1 : List Value} {K : Value → Heap → Prop} {h : Heap} (hx : adisk_Disk_Arm d1 c1 K h) : C.adisk_Disk_Arm d1 c1 h K :=
  fn_to (cxOk _ _) Tryz.func54 (by kernel_rfl) adisk_Disk_Arm.chk (by rw [adisk_Disk_Arm.eq]; exact hx)
def boleref03_Disk_Crash (d1 : Option Addr) (keepA1 : Option Addr) (keepL1 : Nat) (keepC1 : Nat) (K : Value → Heap → Prop) (h1 : Heap) : Prop :=
  onSome d1 fun p1 =>
  ∃ (b1 : Bool), cellOf h1 (Addr.add p1 4) = some (.bool b1) ∧
  bif b1 then (
  K (.tuple #[]) h1) else (
  onSome d1 fun p2 =>
  Put (Addr.add p2 4) (.bool true) h1 fun h2 =>
  C.boleref03_marks keepA1 keepL1 keepC1 h2 fun r1 h3 =>
  ∃ (sA1 : Option Addr) (sL1 : Nat) (sC1 : Nat), r1 = .slice sA1 sL1 sC1 ∧
  onSome d1 fun p3 =>
  Put (Addr.add p3 2) (.slice sA1 sL1 sC1) h3 fun h4 =>
  K (.tuple #[]) h4)
def boleref03_Disk_Crash.lo : Nat → List Nat × List (Nat × Ty) := fun n => match n with | _ => ([], [])
def boleref03_Disk_Crash.od : Nat → Od := fun n => match n with | _ => .nil
theorem boleref03_Disk_Crash.eq (d1 : Option Addr) (keepA1 : Option Addr) (keepL1 : Nat) (keepC1 : Nat) (K : Value → Heap → Prop) (h : Heap) : fnX (cx boleref03_Disk_Crash.lo boleref03_Disk_Crash.od) Tryz.f55 (Tryz.f55.body.getD .skip) [.pointer d1, .slice keepA1 keepL1 keepC1] K h = boleref03_Disk_Crash d1 keepA1 keepL1 keepC1 K h := by kernel_rfl
theorem boleref03_Disk_Crash.chk : fnOk (cx boleref03_Disk_Crash.lo boleref03_Disk_Crash.od) Tryz.f55 (Tryz.f55.body.getD .skip) 2 = true := by kernel_rfl
theorem boleref03_Disk_Crash.ok {d1 : Option Addr} {keepA1 : Option Addr} {keepL1 : Nat} {keepC1 : Nat} {K : Value → Heap → Prop} {h : Heap} (hx : boleref03_Disk_Crash d1 keepA1 keepL1 keepC1 K h) : C.boleref03_Disk_Crash d1 keepA1 keepL1 keepC1 h K :=
  fn_to (cxOk _ _) Tryz.func55 (by kernel_rfl) boleref03_Disk_Crash.chk (by rw [boleref03_Disk_Crash.eq]; exact hx)
def adisk_Disk_Crash (d1 : Option Addr) (keepA1 : Option Addr) (keepL1 : Nat) (keepC1 : Nat) (K : Value → Heap → Prop) (h1 : Heap) : Prop :=
  onSome d1 fun p1 =>
  ∃ (b1 : Bool), cellOf h1 (Addr.add p1 4) = some (.bool b1) ∧
  bif (!b1) then (
  C.adisk_Disk_cut d1 keepA1 keepL1 keepC1 h1 fun r1 h2 =>
  r1 = .tuple #[] ∧
  K (.tuple #[]) h2) else (
  K (.tuple #[]) h1)
def adisk_Disk_Crash.lo : Nat → List Nat × List (Nat × Ty) := fun n => match n with | _ => ([], [])
def adisk_Disk_Crash.od : Nat → Od := fun n => match n with | _ => .nil
theorem adisk_Disk_Crash.eq (d1 : Option Addr) (keepA1 : Option Addr) (keepL1 : Nat) (keepC1 : Nat) (K : Value → Heap → Prop) (h : Heap) : fnX (cx adisk_Disk_Crash.lo adisk_Disk_Crash.od) Tryz.f56 (Tryz.f56.body.getD .skip) [.pointer d1, .slice keepA1 keepL1 keepC1] K h = adisk_Disk_Crash d1 keepA1 keepL1 keepC1 K h := by kernel_rfl
theorem adisk_Disk_Crash.chk : fnOk (cx adisk_Disk_Crash.lo adisk_Disk_Crash.od) Tryz.f56 (Tryz.f56.body.getD .skip) 2 = true := by kernel_rfl
theorem adisk_Disk_Crash.ok {d1 : Option Addr} {keepA1 : Option Addr} {keepL1 : Nat} {keepC1 : Nat} {K : Value → Heap → Prop} {h : Heap} (hx : adisk_Disk_Crash d1 keepA1 keepL1 keepC1 K h) : C.adisk_Disk_Crash d1 keepA1 keepL1 keepC1 h K :=
  fn_to (cxOk _ _) Tryz.func56 (by kernel_rfl) adisk_Disk_Crash.chk (by rw [adisk_Disk_Crash.eq]; exact hx)
def bolelaw05_play_again.k1 (p1 : Option Addr) (q2 : Option Addr) (h5 : Heap) (q4 : Option Addr) (K : Value → Heap → Prop) : Prop :=
  onSome p1 fun p4 =>
  Put (Addr.add p4 0) (.pointer q2) h5 fun h6 =>
  onSome p1 fun p5 =>
  Put (Addr.add p5 1) (.pointer q4) h6 fun h7 =>
  K (.bool true) h7
def bolelaw05_play_again (p1 : Option Addr) (K : Value → Heap → Prop) (h1 : Heap) : Prop :=
  onSome p1 fun p2 =>
  ∃ (q1 : Option Addr), cellOf h1 (Addr.add p2 0) = some (.pointer q1) ∧
  C.adisk_Disk_Image q1 h1 fun r1 h2 =>
  ∃ (sA1 : Option Addr) (sL1 : Nat) (sC1 : Nat), r1 = .slice sA1 sL1 sC1 ∧
  C.adisk_Open sA1 sL1 sC1 h2 fun r2 h3 =>
  ∃ (q2 : Option Addr) (n1 : Int), r2 = .tuple #[.pointer q2, .int .i64 n1] ∧
  onSome p1 fun p3 =>
  ∃ (q3 : Option Addr), cellOf h3 (Addr.add p3 1) = some (.pointer q3) ∧
  C.boleref03_Disk_Image q3 h3 fun r3 h4 =>
  ∃ (sA2 : Option Addr) (sL2 : Nat) (sC2 : Nat), r3 = .slice sA2 sL2 sC2 ∧
  C.boleref03_Of sA2 sL2 sC2 h4 fun r4 h5 =>
  ∃ (q4 : Option Addr) (n2 : Int), r4 = .tuple #[.pointer q4, .int .i64 n2] ∧
  bif (n1 != 0) then (
  K (.bool false) h5) else (
  bif (n2 != 0) then (
  K (.bool false) h5) else (
  bif (Option.isNone q2) then (
  K (.bool false) h5) else (
  bolelaw05_play_again.k1 p1 q2 h5 q4 K)))
def bolelaw05_play_again.lo : Nat → List Nat × List (Nat × Ty) := fun n => match n with | _ => ([], [])
def bolelaw05_play_again.od : Nat → Od := fun n => match n with | _ => .nil
theorem bolelaw05_play_again.eq (p1 : Option Addr) (K : Value → Heap → Prop) (h : Heap) : fnX (cx bolelaw05_play_again.lo bolelaw05_play_again.od) Tryz.f57 (Tryz.f57.body.getD .skip) [.pointer p1] K h = bolelaw05_play_again p1 K h := by kernel_rfl
theorem bolelaw05_play_again.chk : fnOk (cx bolelaw05_play_again.lo bolelaw05_play_again.od) Tryz.f57 (Tryz.f57.body.getD .skip) 1 = true := by kernel_rfl
theorem bolelaw05_play_again.ok {p1 : Option Addr} {K : Value → Heap → Prop} {h : Heap} (hx : bolelaw05_play_again p1 K h) : C.bolelaw05_play_again p1 h K :=
  fn_to (cxOk _ _) Tryz.func57 (by kernel_rfl) bolelaw05_play_again.chk (by rw [bolelaw05_play_again.eq]; exact hx)
def slices_Clone_byte_byte (sA1 : Option Addr) (sL1 : Nat) (sC1 : Nat) (K : Value → Heap → Prop) (h1 : Heap) : Prop :=
  bif (Option.isNone sA1) then (
  K (.slice none 0 0) h1) else (
  New [] 5 h1 fun h2 =>
  ∃ new1 : List Value, List.length new1 = sL1 * 1 ∧ SlCells h2 sA1 new1 ∧ (∀ v ∈ new1, v.oneCell' = true) ∧
  AppendP ti5 5 (some ⟨h1.size, 0, none⟩) 0 0 sL1 new1 h2 fun sA2 sL2 sC2 h3 =>
  K (.slice sA2 sL2 sC2) h3)
def slices_Clone_byte_byte.lo : Nat → List Nat × List (Nat × Ty) := fun n => match n with | _ => ([], [])
def slices_Clone_byte_byte.od : Nat → Od := fun n => match n with | _ => .nil
theorem slices_Clone_byte_byte.eq (sA1 : Option Addr) (sL1 : Nat) (sC1 : Nat) (K : Value → Heap → Prop) (h : Heap) : fnX (cx slices_Clone_byte_byte.lo slices_Clone_byte_byte.od) Tryz.f58 (Tryz.f58.body.getD .skip) [.slice sA1 sL1 sC1] K h = slices_Clone_byte_byte sA1 sL1 sC1 K h := by kernel_rfl
theorem slices_Clone_byte_byte.chk : fnOk (cx slices_Clone_byte_byte.lo slices_Clone_byte_byte.od) Tryz.f58 (Tryz.f58.body.getD .skip) 1 = true := by kernel_rfl
theorem slices_Clone_byte_byte.ok {sA1 : Option Addr} {sL1 : Nat} {sC1 : Nat} {K : Value → Heap → Prop} {h : Heap} (hx : slices_Clone_byte_byte sA1 sL1 sC1 K h) : C.slices_Clone_byte_byte sA1 sL1 sC1 h K :=
  fn_to (cxOk _ _) Tryz.func58 (by kernel_rfl) slices_Clone_byte_byte.chk (by rw [slices_Clone_byte_byte.eq]; exact hx)
def boleref03_copied (bA1 : Option Addr) (bL1 : Nat) (bC1 : Nat) (K : Value → Heap → Prop) (h1 : Heap) : Prop :=
  ∃ new1 : List Value, List.length new1 = bL1 * 1 ∧ SlCells h1 bA1 new1 ∧ (∀ v ∈ new1, v.oneCell' = true) ∧
  AppendP ti5 5 none 0 0 bL1 new1 h1 fun sA1 sL1 sC1 h2 =>
  K (.slice sA1 sL1 sC1) h2
def boleref03_copied.lo : Nat → List Nat × List (Nat × Ty) := fun n => match n with | _ => ([], [])
def boleref03_copied.od : Nat → Od := fun n => match n with | _ => .nil
theorem boleref03_copied.eq (bA1 : Option Addr) (bL1 : Nat) (bC1 : Nat) (K : Value → Heap → Prop) (h : Heap) : fnX (cx boleref03_copied.lo boleref03_copied.od) Tryz.f59 (Tryz.f59.body.getD .skip) [.slice bA1 bL1 bC1] K h = boleref03_copied bA1 bL1 bC1 K h := by kernel_rfl
theorem boleref03_copied.chk : fnOk (cx boleref03_copied.lo boleref03_copied.od) Tryz.f59 (Tryz.f59.body.getD .skip) 1 = true := by kernel_rfl
theorem boleref03_copied.ok {bA1 : Option Addr} {bL1 : Nat} {bC1 : Nat} {K : Value → Heap → Prop} {h : Heap} (hx : boleref03_copied bA1 bL1 bC1 K h) : C.boleref03_copied bA1 bL1 bC1 h K :=
  fn_to (cxOk _ _) Tryz.func59 (by kernel_rfl) boleref03_copied.chk (by rw [boleref03_copied.eq]; exact hx)
def boleref03_left.k1 (sA1 : Option Addr) (sL1 : Nat) (h3 : Heap) (k1 : Int) (h7 : Heap) (I2 : Int → Heap → Prop) (M2 : Int → Heap → Nat) (K : Value → Heap → Prop) : Prop :=
  ∃ (n2 : Int), cellOf h7 (Addr.add ⟨h3.size, 0, none⟩ 1) = some (.int .i64 n2) ∧
  ∃ (sA2 : Option Addr) (sL2 : Nat) (sC2 : Nat), cellOf h7 (Addr.add ⟨h3.size, 0, none⟩ 2) = some (.slice sA2 sL2 sC2) ∧
  (0 ≤ k1 ∧ k1 < (sL2 : Int)) ∧
  onSome sA2 fun p2 =>
  ∃ (n3 : Int), cellOf h7 (Addr.add p2 (Int.toNat k1)) = some (.int .u8 n3) ∧
  (0 ≤ (IntKind.wrap .i64 ((IntKind.wrap .i64 (n2 * 512)) + k1)) ∧ (IntKind.wrap .i64 ((IntKind.wrap .i64 (n2 * 512)) + k1)) < (sL1 : Int)) ∧
  onSome sA1 fun p3 =>
  Put (Addr.add p3 (Int.toNat (IntKind.wrap .i64 ((IntKind.wrap .i64 (n2 * 512)) + k1)))) (.int .u8 n3) h7 fun h8 =>
  I2 (IntKind.wrap .i64 (k1 + 1)) h8 ∧ M2 (IntKind.wrap .i64 (k1 + 1)) h8 < M2 k1 h7
def boleref03_left (imageA1 : Option Addr) (imageL1 : Nat) (imageC1 : Nat) (actsA1 : Option Addr) (actsL1 : Nat) (actsC1 : Nat) (keepA1 : Option Addr) (keepL1 : Nat) (keepC1 : Nat) (K : Value → Heap → Prop) (h1 : Heap) : Prop :=
  C.boleref03_copied imageA1 imageL1 imageC1 h1 fun r1 h2 =>
  ∃ (sA1 : Option Addr) (sL1 : Nat) (sC1 : Nat), r1 = .slice sA1 sL1 sC1 ∧
  ∃ (I1 : Int → Heap → Prop) (M1 : Int → Heap → Nat), I1 0 h2 ∧
  ∀ (i1 : Int), ∀ h3 : Heap, I1 i1 h3 →
  bif (decide (i1 < (actsL1 : Int))) then (
  (0 ≤ i1 ∧ i1 < (actsL1 : Int)) ∧
  onSome actsA1 fun p1 =>
  ∃ cs1 : List Value, List.length cs1 = 3 ∧ Cells h3 (Addr.add p1 ((Int.toNat i1) * 3)) cs1 ∧
  NewRow z122 122 cs1 3 h3 fun h5 =>
  ∃ (n1 : Int), cellOf h5 (Addr.add ⟨h3.size, 0, none⟩ 0) = some (.int .i64 n1) ∧
  bif (n1 != 1) then (
  I1 (IntKind.wrap .i64 (i1 + 1)) h5 ∧ M1 (IntKind.wrap .i64 (i1 + 1)) h5 < M1 i1 h3) else (
  C.boleref03_lasts actsA1 actsL1 actsC1 i1 keepA1 keepL1 keepC1 h5 fun r2 h6 =>
  ∃ (b1 : Bool), r2 = .bool b1 ∧
  ∃ (I2 : Int → Heap → Prop) (M2 : Int → Heap → Nat), I2 0 h6 ∧
  ∀ (k1 : Int), ∀ h7 : Heap, I2 k1 h7 →
  bif (decide (k1 < 512)) then (
  bif b1 then (
  boleref03_left.k1 sA1 sL1 h3 k1 h7 I2 M2 K) else (
  I1 (IntKind.wrap .i64 (i1 + 1)) h7 ∧ M1 (IntKind.wrap .i64 (i1 + 1)) h7 < M1 i1 h3)) else (
  I1 (IntKind.wrap .i64 (i1 + 1)) h7 ∧ M1 (IntKind.wrap .i64 (i1 + 1)) h7 < M1 i1 h3))) else (
  K (.slice sA1 sL1 sC1) h3)
def boleref03_left.lo : Nat → List Nat × List (Nat × Ty) := fun n => match n with | 3 => ([1, 2, 7], [(8, .int .i64)]) | 9 => ([1, 2, 7, 8, 9, 10], [(11, .int .i64)]) | _ => ([], [])
def boleref03_left.od : Nat → Od := fun n => match n with | 11 => (.op 0 [] (.op 1 [] (.op 2 [] (.op 3 [] (.op 4 [] (.op 5 [] (.op 6 [] (.op 7 [] (.op 8 [] (.op 9 [] (.op 10 [] (.op 11 [] (.op 12 [] .nil))))))))))))) | _ => .nil
theorem boleref03_left.eq (imageA1 : Option Addr) (imageL1 : Nat) (imageC1 : Nat) (actsA1 : Option Addr) (actsL1 : Nat) (actsC1 : Nat) (keepA1 : Option Addr) (keepL1 : Nat) (keepC1 : Nat) (K : Value → Heap → Prop) (h : Heap) : fnX (cx boleref03_left.lo boleref03_left.od) Tryz.f60 (Tryz.f60.body.getD .skip) [.slice imageA1 imageL1 imageC1, .slice actsA1 actsL1 actsC1, .slice keepA1 keepL1 keepC1] K h = boleref03_left imageA1 imageL1 imageC1 actsA1 actsL1 actsC1 keepA1 keepL1 keepC1 K h := by kernel_rfl
theorem boleref03_left.chk : fnOk (cx boleref03_left.lo boleref03_left.od) Tryz.f60 (Tryz.f60.body.getD .skip) 3 = true := by kernel_rfl
theorem boleref03_left.ok {imageA1 : Option Addr} {imageL1 : Nat} {imageC1 : Nat} {actsA1 : Option Addr} {actsL1 : Nat} {actsC1 : Nat} {keepA1 : Option Addr} {keepL1 : Nat} {keepC1 : Nat} {K : Value → Heap → Prop} {h : Heap} (hx : boleref03_left imageA1 imageL1 imageC1 actsA1 actsL1 actsC1 keepA1 keepL1 keepC1 K h) : C.boleref03_left imageA1 imageL1 imageC1 actsA1 actsL1 actsC1 keepA1 keepL1 keepC1 h K :=
  fn_to (cxOk _ _) Tryz.func60 (by kernel_rfl) boleref03_left.chk (by rw [boleref03_left.eq]; exact hx)
end Go.Proofs.YtjdcbblgaoogmaaGreatDoor.W
namespace Go.Proofs.YtjdcbblgaoogmaaGreatDoor.W
open Go Go.Proofs Go.Proofs.YtjdcbblgaoogmaaGreatDoor.Wx
def wal_may (lA1 : Option Addr) (lL1 : Nat) (lC1 : Nat) (n1 : Int) (K : Value → Heap → Prop) (h1 : Heap) : Prop :=
  ∃ (I1 : Int → Int → Heap → Prop) (M1 : Int → Int → Heap → Nat), I1 97 0 h1 ∧
  ∀ (last1 : Int) (n2 : Int), ∀ h2 : Heap, I1 last1 n2 h2 →
  bif (decide (n2 < (lL1 : Int))) then (
  (0 ≤ n2 ∧ n2 < (lL1 : Int)) ∧
  onSome lA1 fun p1 =>
  ∃ cs1 : List Value, List.length cs1 = 2 ∧ Cells h2 (Addr.add p1 ((Int.toNat n2) * 2)) cs1 ∧
  NewRow z103 103 cs1 2 h2 fun h4 =>
  ∃ (n3 : Int), cellOf h4 (Addr.add ⟨h2.size, 0, none⟩ 0) = some (.int .i64 n3) ∧
  bif (decide (n3 ≤ last1)) then (
  K (.bool false) h4) else (
  ∃ (n4 : Int), cellOf h4 (Addr.add ⟨h2.size, 0, none⟩ 0) = some (.int .i64 n4) ∧
  bif (decide (n4 ≥ n1)) then (
  K (.bool false) h4) else (
  ∃ (n5 : Int), cellOf h4 (Addr.add ⟨h2.size, 0, none⟩ 0) = some (.int .i64 n5) ∧
  I1 n5 (IntKind.wrap .i64 (n2 + 1)) h4 ∧ M1 n5 (IntKind.wrap .i64 (n2 + 1)) h4 < M1 last1 n2 h2))) else (
  K (.bool (decide ((lL1 : Int) ≤ 96))) h2)
def wal_may.lo : Nat → List Nat × List (Nat × Ty) := fun n => match n with | 3 => ([0, 1, 8, 9], [(5, .int .i64), (10, .int .i64)]) | _ => ([], [])
def wal_may.od : Nat → Od := fun n => match n with | _ => .nil
theorem wal_may.eq (lA1 : Option Addr) (lL1 : Nat) (lC1 : Nat) (n1 : Int) (K : Value → Heap → Prop) (h : Heap) : fnX (cx wal_may.lo wal_may.od) Tryz.f107 (Tryz.f107.body.getD .skip) [.slice lA1 lL1 lC1, .int .i64 n1] K h = wal_may lA1 lL1 lC1 n1 K h := by kernel_rfl
theorem wal_may.chk : fnOk (cx wal_may.lo wal_may.od) Tryz.f107 (Tryz.f107.body.getD .skip) 2 = true := by kernel_rfl
theorem wal_may.ok {lA1 : Option Addr} {lL1 : Nat} {lC1 : Nat} {n1 : Int} {K : Value → Heap → Prop} {h : Heap} (hx : wal_may lA1 lL1 lC1 n1 K h) : C.wal_may lA1 lL1 lC1 n1 h K :=
  fn_to (cxOk _ _) Tryz.func107 (by kernel_rfl) wal_may.chk (by rw [wal_may.eq]; exact hx)
def adisk_Disk_Blocks (d1 : Option Addr) (K : Value → Heap → Prop) (h1 : Heap) : Prop :=
  onSome d1 fun p1 =>
  ∃ (sA1 : Option Addr) (sL1 : Nat) (sC1 : Nat), cellOf h1 (Addr.add p1 0) = some (.slice sA1 sL1 sC1) ∧
  K (.int .i64 (sL1 : Int)) h1
def adisk_Disk_Blocks.lo : Nat → List Nat × List (Nat × Ty) := fun n => match n with | _ => ([], [])
def adisk_Disk_Blocks.od : Nat → Od := fun n => match n with | _ => .nil
theorem adisk_Disk_Blocks.eq (d1 : Option Addr) (K : Value → Heap → Prop) (h : Heap) : fnX (cx adisk_Disk_Blocks.lo adisk_Disk_Blocks.od) Tryz.f108 (Tryz.f108.body.getD .skip) [.pointer d1] K h = adisk_Disk_Blocks d1 K h := by kernel_rfl
theorem adisk_Disk_Blocks.chk : fnOk (cx adisk_Disk_Blocks.lo adisk_Disk_Blocks.od) Tryz.f108 (Tryz.f108.body.getD .skip) 1 = true := by kernel_rfl
theorem adisk_Disk_Blocks.ok {d1 : Option Addr} {K : Value → Heap → Prop} {h : Heap} (hx : adisk_Disk_Blocks d1 K h) : C.adisk_Disk_Blocks d1 h K :=
  fn_to (cxOk _ _) Tryz.func108 (by kernel_rfl) adisk_Disk_Blocks.chk (by rw [adisk_Disk_Blocks.eq]; exact hx)
def head_Make (numsA1 : Option Addr) (numsL1 : Nat) (numsC1 : Nat) (dataA1 : Option Addr) (dataL1 : Nat) (dataC1 : Nat) (K : Value → Heap → Prop) (h1 : Heap) : Prop :=
  C.head_may numsA1 numsL1 numsC1 16384 h1 fun r1 h2 =>
  ∃ (b1 : Bool), r1 = .bool b1 ∧
  bif (!b1) then (
  K (.tuple #[.slice none 0 0, .int .i64 40]) h2) else (
  C.head_areBlocks dataA1 dataL1 dataC1 (numsL1 : Int) h2 fun r2 h3 =>
  ∃ (b2 : Bool), r2 = .bool b2 ∧
  bif (!b2) then (
  K (.tuple #[.slice none 0 0, .int .i64 32]) h3) else (
  C.head_Empty  h3 fun r3 h4 =>
  ∃ (sA1 : Option Addr) (sL1 : Nat) (sC1 : Nat), r3 = .slice sA1 sL1 sC1 ∧
  C.rec_PutText sA1 sL1 sC1 0 8 (mkStr [66, 79, 76, 69, 76, 79, 71, 49]) h4 fun r4 h5 =>
  ∃ (n1 : Int), r4 = .int .i64 n1 ∧
  C.rec_Put sA1 sL1 sC1 8 2 (IntKind.wrap .u64 ((numsL1 : Int))) h5 fun r5 h6 =>
  ∃ (n2 : Int), r5 = .int .i64 n2 ∧
  ∃ (I1 : Int → Heap → Prop) (M1 : Int → Heap → Nat), I1 0 h6 ∧
  ∀ (n3 : Int), ∀ h7 : Heap, I1 n3 h7 →
  bif (decide (n3 < (numsL1 : Int))) then (
  (0 ≤ n3 ∧ n3 < (numsL1 : Int)) ∧
  onSome numsA1 fun p1 =>
  ∃ (n4 : Int), cellOf h7 (Addr.add p1 (Int.toNat n3)) = some (.int .i64 n4) ∧
  C.rec_Put sA1 sL1 sC1 (IntKind.wrap .i64 (16 + (IntKind.wrap .i64 (4 * n3)))) 4 (IntKind.wrap .u64 (n4)) h7 fun r6 h8 =>
  ∃ (n5 : Int), r6 = .int .i64 n5 ∧
  I1 (IntKind.wrap .i64 (n3 + 1)) h8 ∧ M1 (IntKind.wrap .i64 (n3 + 1)) h8 < M1 n3 h7) else (
  C.head_sumOf sA1 sL1 sC1 dataA1 dataL1 dataC1 h7 fun r7 h9 =>
  ∃ (n6 : Int), r7 = .int .u32 n6 ∧
  C.rec_Put sA1 sL1 sC1 12 4 (IntKind.wrap .u64 (n6)) h9 fun r8 h10 =>
  ∃ (n7 : Int), r8 = .int .i64 n7 ∧
  K (.tuple #[.slice sA1 sL1 sC1, .int .i64 0]) h10)))
def head_Make.lo : Nat → List Nat × List (Nat × Ty) := fun n => match n with | 9 => ([1, 6, 27, 28], [(29, .int .i64)]) | _ => ([], [])
def head_Make.od : Nat → Od := fun n => match n with | _ => .nil
set_option maxRecDepth 1000000 in
theorem head_Make.eq (numsA1 : Option Addr) (numsL1 : Nat) (numsC1 : Nat) (dataA1 : Option Addr) (dataL1 : Nat) (dataC1 : Nat) (K : Value → Heap → Prop) (h : Heap) : fnX (cx head_Make.lo head_Make.od) Tryz.f109 (Tryz.f109.body.getD .skip) [.slice numsA1 numsL1 numsC1, .slice dataA1 dataL1 dataC1] K h = head_Make numsA1 numsL1 numsC1 dataA1 dataL1 dataC1 K h := by kernel_rfl
theorem head_Make.chk : fnOk (cx head_Make.lo head_Make.od) Tryz.f109 (Tryz.f109.body.getD .skip) 2 = true := by kernel_rfl
set_option maxRecDepth 1000000 in
theorem head_Make.ok {numsA1 : Option Addr} {numsL1 : Nat} {numsC1 : Nat} {dataA1 : Option Addr} {dataL1 : Nat} {dataC1 : Nat} {K : Value → Heap → Prop} {h : Heap} (hx : head_Make numsA1 numsL1 numsC1 dataA1 dataL1 dataC1 K h) : C.head_Make numsA1 numsL1 numsC1 dataA1 dataL1 dataC1 h K :=
  fn_to (cxOk _ _) Tryz.func109 (by kernel_rfl) head_Make.chk (by rw [head_Make.eq]; exact hx)
def wal_steps_write (s1 : Option Addr) (i1 : Int) (bA1 : Option Addr) (bL1 : Nat) (bC1 : Nat) (K : Value → Heap → Prop) (h1 : Heap) : Prop :=
  New [.int .i64 i1] 3 h1 fun h2 =>
  New [.slice bA1 bL1 bC1] 37 h2 fun h3 =>
  onSome s1 fun p1 =>
  ∃ (sA1 : Option Addr) (sL1 : Nat) (sC1 : Nat), cellOf h3 p1 = some (.slice sA1 sL1 sC1) ∧
  New [.func (.func 181) #[] ⟨[.pointer (some ⟨h1.size, 0, none⟩), .pointer (some ⟨h2.size, 0, none⟩)]⟩] 172 h3 fun h4 =>
  ∃ new1 : List Value, List.length new1 = 1 * 1 ∧ SlCells h4 (some ⟨h3.size, 0, none⟩) new1 ∧ (∀ v ∈ new1, v.oneCell' = true) ∧
  AppendP ti172 172 sA1 sL1 sC1 1 new1 h4 fun sA2 sL2 sC2 h5 =>
  onSome s1 fun p2 =>
  Put p2 (.slice sA2 sL2 sC2) h5 fun h6 =>
  K (.tuple #[]) h6
def wal_steps_write.lo : Nat → List Nat × List (Nat × Ty) := fun n => match n with | _ => ([], [])
def wal_steps_write.od : Nat → Od := fun n => match n with | _ => .nil
theorem wal_steps_write.eq (s1 : Option Addr) (i1 : Int) (bA1 : Option Addr) (bL1 : Nat) (bC1 : Nat) (K : Value → Heap → Prop) (h : Heap) : fnX (cx wal_steps_write.lo wal_steps_write.od) Tryz.f110 (Tryz.f110.body.getD .skip) [.pointer s1, .int .i64 i1, .slice bA1 bL1 bC1] K h = wal_steps_write s1 i1 bA1 bL1 bC1 K h := by kernel_rfl
theorem wal_steps_write.chk : fnOk (cx wal_steps_write.lo wal_steps_write.od) Tryz.f110 (Tryz.f110.body.getD .skip) 3 = true := by kernel_rfl
theorem wal_steps_write.ok {s1 : Option Addr} {i1 : Int} {bA1 : Option Addr} {bL1 : Nat} {bC1 : Nat} {K : Value → Heap → Prop} {h : Heap} (hx : wal_steps_write s1 i1 bA1 bL1 bC1 K h) : C.wal_steps_write s1 i1 bA1 bL1 bC1 h K :=
  fn_to (cxOk _ _) Tryz.func110 (by kernel_rfl) wal_steps_write.chk (by rw [wal_steps_write.eq]; exact hx)
def wal_steps_flush (s1 : Option Addr) (K : Value → Heap → Prop) (h1 : Heap) : Prop :=
  onSome s1 fun p1 =>
  ∃ (sA1 : Option Addr) (sL1 : Nat) (sC1 : Nat), cellOf h1 p1 = some (.slice sA1 sL1 sC1) ∧
  New [.func (.func 182) #[] ⟨[]⟩] 172 h1 fun h2 =>
  ∃ new1 : List Value, List.length new1 = 1 * 1 ∧ SlCells h2 (some ⟨h1.size, 0, none⟩) new1 ∧ (∀ v ∈ new1, v.oneCell' = true) ∧
  AppendP ti172 172 sA1 sL1 sC1 1 new1 h2 fun sA2 sL2 sC2 h3 =>
  onSome s1 fun p2 =>
  Put p2 (.slice sA2 sL2 sC2) h3 fun h4 =>
  K (.tuple #[]) h4
def wal_steps_flush.lo : Nat → List Nat × List (Nat × Ty) := fun n => match n with | _ => ([], [])
def wal_steps_flush.od : Nat → Od := fun n => match n with | _ => .nil
theorem wal_steps_flush.eq (s1 : Option Addr) (K : Value → Heap → Prop) (h : Heap) : fnX (cx wal_steps_flush.lo wal_steps_flush.od) Tryz.f111 (Tryz.f111.body.getD .skip) [.pointer s1] K h = wal_steps_flush s1 K h := by kernel_rfl
theorem wal_steps_flush.chk : fnOk (cx wal_steps_flush.lo wal_steps_flush.od) Tryz.f111 (Tryz.f111.body.getD .skip) 1 = true := by kernel_rfl
theorem wal_steps_flush.ok {s1 : Option Addr} {K : Value → Heap → Prop} {h : Heap} (hx : wal_steps_flush s1 K h) : C.wal_steps_flush s1 h K :=
  fn_to (cxOk _ _) Tryz.func111 (by kernel_rfl) wal_steps_flush.chk (by rw [wal_steps_flush.eq]; exact hx)
def wal_steps_home (s1 : Option Addr) (lA1 : Option Addr) (lL1 : Nat) (lC1 : Nat) (K : Value → Heap → Prop) (h1 : Heap) : Prop :=
  ∃ (I1 : Int → Heap → Prop) (M1 : Int → Heap → Nat), I1 0 h1 ∧
  ∀ (n1 : Int), ∀ h2 : Heap, I1 n1 h2 →
  bif (decide (n1 < (lL1 : Int))) then (
  (0 ≤ n1 ∧ n1 < (lL1 : Int)) ∧
  onSome lA1 fun p1 =>
  ∃ cs1 : List Value, List.length cs1 = 2 ∧ Cells h2 (Addr.add p1 ((Int.toNat n1) * 2)) cs1 ∧
  NewRow z103 103 cs1 2 h2 fun h4 =>
  ∃ (n2 : Int), cellOf h4 (Addr.add ⟨h2.size, 0, none⟩ 0) = some (.int .i64 n2) ∧
  ∃ (sA1 : Option Addr) (sL1 : Nat) (sC1 : Nat), cellOf h4 (Addr.add ⟨h2.size, 0, none⟩ 1) = some (.slice sA1 sL1 sC1) ∧
  C.wal_steps_write s1 n2 sA1 sL1 sC1 h4 fun r1 h5 =>
  r1 = .tuple #[] ∧
  I1 (IntKind.wrap .i64 (n1 + 1)) h5 ∧ M1 (IntKind.wrap .i64 (n1 + 1)) h5 < M1 n1 h2) else (
  C.wal_steps_flush s1 h2 fun r2 h6 =>
  r2 = .tuple #[] ∧
  C.head_Empty  h6 fun r3 h7 =>
  ∃ (sA2 : Option Addr) (sL2 : Nat) (sC2 : Nat), r3 = .slice sA2 sL2 sC2 ∧
  C.wal_steps_write s1 1 sA2 sL2 sC2 h7 fun r4 h8 =>
  r4 = .tuple #[] ∧
  C.wal_steps_flush s1 h8 fun r5 h9 =>
  r5 = .tuple #[] ∧
  K (.tuple #[]) h9)
def wal_steps_home.lo : Nat → List Nat × List (Nat × Ty) := fun n => match n with | 1 => ([0, 6, 7], [(8, .int .i64)]) | _ => ([], [])
def wal_steps_home.od : Nat → Od := fun n => match n with | _ => .nil
theorem wal_steps_home.eq (s1 : Option Addr) (lA1 : Option Addr) (lL1 : Nat) (lC1 : Nat) (K : Value → Heap → Prop) (h : Heap) : fnX (cx wal_steps_home.lo wal_steps_home.od) Tryz.f112 (Tryz.f112.body.getD .skip) [.pointer s1, .slice lA1 lL1 lC1] K h = wal_steps_home s1 lA1 lL1 lC1 K h := by kernel_rfl
theorem wal_steps_home.chk : fnOk (cx wal_steps_home.lo wal_steps_home.od) Tryz.f112 (Tryz.f112.body.getD .skip) 2 = true := by kernel_rfl
theorem wal_steps_home.ok {s1 : Option Addr} {lA1 : Option Addr} {lL1 : Nat} {lC1 : Nat} {K : Value → Heap → Prop} {h : Heap} (hx : wal_steps_home s1 lA1 lL1 lC1 K h) : C.wal_steps_home s1 lA1 lL1 lC1 h K :=
  fn_to (cxOk _ _) Tryz.func112 (by kernel_rfl) wal_steps_home.chk (by rw [wal_steps_home.eq]; exact hx)
def wal_steps_do (sA1 : Option Addr) (sL1 : Nat) (sC1 : Nat) (d1 : Option Addr) (K : Value → Heap → Prop) (h1 : Heap) : Prop :=
  ∃ (I1 : Int → Heap → Prop) (M1 : Int → Heap → Nat), I1 0 h1 ∧
  ∀ (n1 : Int), ∀ h2 : Heap, I1 n1 h2 →
  bif (decide (n1 < (sL1 : Int))) then (
  (0 ≤ n1 ∧ n1 < (sL1 : Int)) ∧
  onSome sA1 fun p1 =>
  ∃ (v1 : Value), cellOf h2 (Addr.add p1 (Int.toNat n1)) = some (v1) ∧
  HCallsV Tryz.prog v1 [.pointer d1] h2 fun r1 h3 =>
  ∃ (n2 : Int), r1 = .int .i64 n2 ∧
  bif (n2 != 0) then (
  K (.int .i64 n2) h3) else (
  I1 (IntKind.wrap .i64 (n1 + 1)) h3 ∧ M1 (IntKind.wrap .i64 (n1 + 1)) h3 < M1 n1 h2)) else (
  K (.int .i64 0) h2)
def wal_steps_do.lo : Nat → List Nat × List (Nat × Ty) := fun n => match n with | 2 => ([1, 8, 9], [(10, .int .i64)]) | _ => ([], [])
def wal_steps_do.od : Nat → Od := fun n => match n with | _ => .nil
theorem wal_steps_do.eq (sA1 : Option Addr) (sL1 : Nat) (sC1 : Nat) (d1 : Option Addr) (K : Value → Heap → Prop) (h : Heap) : fnX (cx wal_steps_do.lo wal_steps_do.od) Tryz.f113 (Tryz.f113.body.getD .skip) [.slice sA1 sL1 sC1, .pointer d1] K h = wal_steps_do sA1 sL1 sC1 d1 K h := by kernel_rfl
theorem wal_steps_do.chk : fnOk (cx wal_steps_do.lo wal_steps_do.od) Tryz.f113 (Tryz.f113.body.getD .skip) 2 = true := by kernel_rfl
theorem wal_steps_do.ok {sA1 : Option Addr} {sL1 : Nat} {sC1 : Nat} {d1 : Option Addr} {K : Value → Heap → Prop} {h : Heap} (hx : wal_steps_do sA1 sL1 sC1 d1 K h) : C.wal_steps_do sA1 sL1 sC1 d1 h K :=
  fn_to (cxOk _ _) Tryz.func113 (by kernel_rfl) wal_steps_do.chk (by rw [wal_steps_do.eq]; exact hx)
def adisk_Disk_has (d1 : Option Addr) (i1 : Int) (K : Value → Heap → Prop) (h1 : Heap) : Prop :=
  bif (decide (i1 ≥ 0)) then (
  onSome d1 fun p1 =>
  ∃ (sA1 : Option Addr) (sL1 : Nat) (sC1 : Nat), cellOf h1 (Addr.add p1 0) = some (.slice sA1 sL1 sC1) ∧
  K (.bool (decide (i1 < (sL1 : Int)))) h1) else (
  K (.bool false) h1)
def adisk_Disk_has.lo : Nat → List Nat × List (Nat × Ty) := fun n => match n with | _ => ([], [])
def adisk_Disk_has.od : Nat → Od := fun n => match n with | _ => .nil
theorem adisk_Disk_has.eq (d1 : Option Addr) (i1 : Int) (K : Value → Heap → Prop) (h : Heap) : fnX (cx adisk_Disk_has.lo adisk_Disk_has.od) Tryz.f114 (Tryz.f114.body.getD .skip) [.pointer d1, .int .i64 i1] K h = adisk_Disk_has d1 i1 K h := by kernel_rfl
theorem adisk_Disk_has.chk : fnOk (cx adisk_Disk_has.lo adisk_Disk_has.od) Tryz.f114 (Tryz.f114.body.getD .skip) 2 = true := by kernel_rfl
theorem adisk_Disk_has.ok {d1 : Option Addr} {i1 : Int} {K : Value → Heap → Prop} {h : Heap} (hx : adisk_Disk_has d1 i1 K h) : C.adisk_Disk_has d1 i1 h K :=
  fn_to (cxOk _ _) Tryz.func114 (by kernel_rfl) adisk_Disk_has.chk (by rw [adisk_Disk_has.eq]; exact hx)
def wal_held (d1 : Option Addr) (K KP : Value → Heap → Prop) (h1 : Heap) : Prop :=
  C.adisk_Disk_Down d1 h1 fun r1 h2 =>
  ∃ (b1 : Bool), r1 = .bool b1 ∧
  C.wal_must (!b1) 30 h2 (fun r2 h3 =>
  r2 = .tuple #[] ∧
  C.adisk_Disk_Blocks d1 h3 fun r3 h4 =>
  ∃ (n1 : Int), r3 = .int .i64 n1 ∧
  C.wal_must (decide (n1 ≥ 98)) 31 h4 (fun r4 h5 =>
  r4 = .tuple #[] ∧
  C.wal_read d1 1 h5 (fun r5 h6 =>
  ∃ (sA1 : Option Addr) (sL1 : Nat) (sC1 : Nat), r5 = .slice sA1 sL1 sC1 ∧
  C.adisk_Disk_Blocks d1 h6 fun r6 h7 =>
  ∃ (n2 : Int), r6 = .int .i64 n2 ∧
  C.head_Nums sA1 sL1 sC1 n2 h7 fun r7 h8 =>
  ∃ (sA2 : Option Addr) (sL2 : Nat) (sC2 : Nat) (n3 : Int), r7 = .tuple #[.slice sA2 sL2 sC2, .int .i64 n3] ∧
  C.wal_must (n3 == 0) 41 h8 (fun r8 h9 =>
  r8 = .tuple #[] ∧
  ∃ (I1 : Option Addr → Nat → Nat → Option Addr → Nat → Nat → Int → Heap → Prop) (M1 : Option Addr → Nat → Nat → Option Addr → Nat → Nat → Int → Heap → Nat), I1 none 0 0 none 0 0 0 h9 ∧
  ∀ (lA1 : Option Addr) (lL1 : Nat) (lC1 : Nat) (dataA1 : Option Addr) (dataL1 : Nat) (dataC1 : Nat) (n4 : Int), ∀ h10 : Heap, I1 lA1 lL1 lC1 dataA1 dataL1 dataC1 n4 h10 →
  bif (decide (n4 < (sL2 : Int))) then (
  (0 ≤ n4 ∧ n4 < (sL2 : Int)) ∧
  onSome sA2 fun p1 =>
  ∃ (n5 : Int), cellOf h10 (Addr.add p1 (Int.toNat n4)) = some (.int .i64 n5) ∧
  C.wal_read d1 (IntKind.wrap .i64 (2 + n4)) h10 (fun r9 h11 =>
  ∃ (sA3 : Option Addr) (sL3 : Nat) (sC3 : Nat), r9 = .slice sA3 sL3 sC3 ∧
  List.length ([.int .i64 n5, .slice sA3 sL3 sC3] : List Value) = 2 ∧
  New [.int .i64 n5, .slice sA3 sL3 sC3] 103 h11 fun h12 =>
  ∃ new1 : List Value, List.length new1 = 1 * 2 ∧ SlCells h12 (some ⟨h11.size, 0, none⟩) new1 ∧ (∀ v ∈ new1, v.oneCell' = true) ∧
  AppendP ti103 103 lA1 lL1 lC1 1 new1 h12 fun sA4 sL4 sC4 h13 =>
  New [.slice sA3 sL3 sC3] 37 h13 fun h14 =>
  ∃ new2 : List Value, List.length new2 = 1 * 1 ∧ SlCells h14 (some ⟨h13.size, 0, none⟩) new2 ∧ (∀ v ∈ new2, v.oneCell' = true) ∧
  AppendP ti37 37 dataA1 dataL1 dataC1 1 new2 h14 fun sA5 sL5 sC5 h15 =>
  I1 sA4 sL4 sC4 sA5 sL5 sC5 (IntKind.wrap .i64 (n4 + 1)) h15 ∧ M1 sA4 sL4 sC4 sA5 sL5 sC5 (IntKind.wrap .i64 (n4 + 1)) h15 < M1 lA1 lL1 lC1 dataA1 dataL1 dataC1 n4 h10) (fun x1 h16 =>
  KP x1 h16)) else (
  bif ((sL2 : Int) == 0) then (
  C.wal_must true 41 h10 (fun r10 h17 =>
  r10 = .tuple #[] ∧
  K (.slice lA1 lL1 lC1) h17) (fun x2 h18 =>
  KP x2 h18)) else (
  C.adisk_Disk_Blocks d1 h10 fun r11 h19 =>
  ∃ (n6 : Int), r11 = .int .i64 n6 ∧
  C.head_Good sA1 sL1 sC1 n6 dataA1 dataL1 dataC1 h19 fun r12 h20 =>
  ∃ (b2 : Bool), r12 = .bool b2 ∧
  C.wal_must b2 41 h20 (fun r13 h21 =>
  r13 = .tuple #[] ∧
  K (.slice lA1 lL1 lC1) h21) (fun x3 h22 =>
  KP x3 h22)))) (fun x4 h23 =>
  KP x4 h23)) (fun x5 h24 =>
  KP x5 h24)) (fun x6 h25 =>
  KP x6 h25)) (fun x7 h26 =>
  KP x7 h26)
def wal_held.lo : Nat → List Nat × List (Nat × Ty) := fun n => match n with | 9 => ([0, 2, 3, 4, 31, 32], [(6, .slice), (7, .slice), (33, .int .i64)]) | _ => ([], [])
def wal_held.od : Nat → Od := fun n => match n with | _ => .nil
theorem wal_held.eq (d1 : Option Addr) (K KP : Value → Heap → Prop) (h : Heap) : fnPX (cx wal_held.lo wal_held.od) Tryz.f117 (Tryz.f117.body.getD .skip) [.pointer d1] K KP h = wal_held d1 K KP h := by kernel_rfl
theorem wal_held.chk : fnOk (cx wal_held.lo wal_held.od) Tryz.f117 (Tryz.f117.body.getD .skip) 1 = true := by kernel_rfl
theorem wal_held.ok {d1 : Option Addr} {K KP : Value → Heap → Prop} {h : Heap} (hx : wal_held d1 K KP h) : C.wal_held d1 h K KP :=
  fnP_to (cxOk _ _) Tryz.func117 (by kernel_rfl) wal_held.chk (by rw [wal_held.eq]; exact hx)
def wal_read (d1 : Option Addr) (i1 : Int) (K KP : Value → Heap → Prop) (h1 : Heap) : Prop :=
  C.adisk_Disk_Read d1 i1 h1 fun r1 h2 =>
  ∃ (sA1 : Option Addr) (sL1 : Nat) (sC1 : Nat) (n1 : Int), r1 = .tuple #[.slice sA1 sL1 sC1, .int .i64 n1] ∧
  C.wal_must (n1 == 0) n1 h2 (fun r2 h3 =>
  r2 = .tuple #[] ∧
  K (.slice sA1 sL1 sC1) h3) (fun x1 h4 =>
  KP x1 h4)
def wal_read.lo : Nat → List Nat × List (Nat × Ty) := fun n => match n with | _ => ([], [])
def wal_read.od : Nat → Od := fun n => match n with | _ => .nil
theorem wal_read.eq (d1 : Option Addr) (i1 : Int) (K KP : Value → Heap → Prop) (h : Heap) : fnPX (cx wal_read.lo wal_read.od) Tryz.f119 (Tryz.f119.body.getD .skip) [.pointer d1, .int .i64 i1] K KP h = wal_read d1 i1 K KP h := by kernel_rfl
theorem wal_read.chk : fnOk (cx wal_read.lo wal_read.od) Tryz.f119 (Tryz.f119.body.getD .skip) 2 = true := by kernel_rfl
theorem wal_read.ok {d1 : Option Addr} {i1 : Int} {K KP : Value → Heap → Prop} {h : Heap} (hx : wal_read d1 i1 K KP h) : C.wal_read d1 i1 h K KP :=
  fnP_to (cxOk _ _) Tryz.func119 (by kernel_rfl) wal_read.chk (by rw [wal_read.eq]; exact hx)
def head_Empty  (K : Value → Heap → Prop) (h1 : Heap) : Prop :=
  (0 ≤ (512 : Int) ∧ (512 : Int) ≤ 512 ∧ (1 : Int) * 512 ≤ 281474976710656 ∧ (512 : Int) ≤ 281474976710656) ∧
  New (repCells z5 (Int.toNat 512)) 5 h1 fun h2 =>
  K (.slice (some ⟨h1.size, 0, none⟩) (Int.toNat 512) (Int.toNat 512)) h2
def head_Empty.lo : Nat → List Nat × List (Nat × Ty) := fun n => match n with | _ => ([], [])
def head_Empty.od : Nat → Od := fun n => match n with | _ => .nil
theorem head_Empty.eq  (K : Value → Heap → Prop) (h : Heap) : fnX (cx head_Empty.lo head_Empty.od) Tryz.f120 (Tryz.f120.body.getD .skip) [] K h = head_Empty  K h := by kernel_rfl
theorem head_Empty.chk : fnOk (cx head_Empty.lo head_Empty.od) Tryz.f120 (Tryz.f120.body.getD .skip) 0 = true := by kernel_rfl
theorem head_Empty.ok  {K : Value → Heap → Prop} {h : Heap} (hx : head_Empty  K h) : C.head_Empty  h K :=
  fn_to (cxOk _ _) Tryz.func120 (by kernel_rfl) head_Empty.chk (by rw [head_Empty.eq]; exact hx)
def boleref03_Disk_Blocks (d1 : Option Addr) (K : Value → Heap → Prop) (h1 : Heap) : Prop :=
  onSome d1 fun p1 =>
  ∃ (sA1 : Option Addr) (sL1 : Nat) (sC1 : Nat), cellOf h1 (Addr.add p1 0) = some (.slice sA1 sL1 sC1) ∧
  K (.int .i64 (IntKind.wrap .i64 (Int.tdiv (sL1 : Int) 512))) h1
def boleref03_Disk_Blocks.lo : Nat → List Nat × List (Nat × Ty) := fun n => match n with | _ => ([], [])
def boleref03_Disk_Blocks.od : Nat → Od := fun n => match n with | _ => .nil
theorem boleref03_Disk_Blocks.eq (d1 : Option Addr) (K : Value → Heap → Prop) (h : Heap) : fnX (cx boleref03_Disk_Blocks.lo boleref03_Disk_Blocks.od) Tryz.f121 (Tryz.f121.body.getD .skip) [.pointer d1] K h = boleref03_Disk_Blocks d1 K h := by kernel_rfl
theorem boleref03_Disk_Blocks.chk : fnOk (cx boleref03_Disk_Blocks.lo boleref03_Disk_Blocks.od) Tryz.f121 (Tryz.f121.body.getD .skip) 1 = true := by kernel_rfl
theorem boleref03_Disk_Blocks.ok {d1 : Option Addr} {K : Value → Heap → Prop} {h : Heap} (hx : boleref03_Disk_Blocks d1 K h) : C.boleref03_Disk_Blocks d1 h K :=
  fn_to (cxOk _ _) Tryz.func121 (by kernel_rfl) boleref03_Disk_Blocks.chk (by rw [boleref03_Disk_Blocks.eq]; exact hx)
def boleref05_Fault (lA1 : Option Addr) (lL1 : Nat) (lC1 : Nat) (n1 : Int) (K : Value → Heap → Prop) (h1 : Heap) : Prop :=
  C.boleref05_split lA1 lL1 lC1 h1 fun r1 h2 =>
  ∃ (sA1 : Option Addr) (sL1 : Nat) (sC1 : Nat) (sA2 : Option Addr) (sL2 : Nat) (sC2 : Nat), r1 = .tuple #[.slice sA1 sL1 sC1, .slice sA2 sL2 sC2] ∧
  C.boleref05_may sA1 sL1 sC1 n1 h2 fun r2 h3 =>
  ∃ (b1 : Bool), r2 = .bool b1 ∧
  bif (!b1) then (
  K (.int .i64 40) h3) else (
  ∃ (I1 : Int → Heap → Prop) (M1 : Int → Heap → Nat), I1 0 h3 ∧
  ∀ (i1 : Int), ∀ h4 : Heap, I1 i1 h4 →
  bif (decide (i1 < (sL2 : Int))) then (
  (0 ≤ i1 ∧ i1 < (sL2 : Int)) ∧
  onSome sA2 fun p1 =>
  ∃ (sA3 : Option Addr) (sL3 : Nat) (sC3 : Nat), cellOf h4 (Addr.add p1 (Int.toNat i1)) = some (.slice sA3 sL3 sC3) ∧
  bif ((sL3 : Int) != 512) then (
  K (.int .i64 32) h4) else (
  I1 (IntKind.wrap .i64 (i1 + 1)) h4 ∧ M1 (IntKind.wrap .i64 (i1 + 1)) h4 < M1 i1 h4)) else (
  K (.int .i64 0) h4))
def boleref05_Fault.lo : Nat → List Nat × List (Nat × Ty) := fun n => match n with | 6 => ([6], [(8, .int .i64)]) | _ => ([], [])
def boleref05_Fault.od : Nat → Od := fun n => match n with | _ => .nil
theorem boleref05_Fault.eq (lA1 : Option Addr) (lL1 : Nat) (lC1 : Nat) (n1 : Int) (K : Value → Heap → Prop) (h : Heap) : fnX (cx boleref05_Fault.lo boleref05_Fault.od) Tryz.f122 (Tryz.f122.body.getD .skip) [.slice lA1 lL1 lC1, .int .i64 n1] K h = boleref05_Fault lA1 lL1 lC1 n1 K h := by kernel_rfl
theorem boleref05_Fault.chk : fnOk (cx boleref05_Fault.lo boleref05_Fault.od) Tryz.f122 (Tryz.f122.body.getD .skip) 2 = true := by kernel_rfl
theorem boleref05_Fault.ok {lA1 : Option Addr} {lL1 : Nat} {lC1 : Nat} {n1 : Int} {K : Value → Heap → Prop} {h : Heap} (hx : boleref05_Fault lA1 lL1 lC1 n1 K h) : C.boleref05_Fault lA1 lL1 lC1 n1 h K :=
  fn_to (cxOk _ _) Tryz.func122 (by kernel_rfl) boleref05_Fault.chk (by rw [boleref05_Fault.eq]; exact hx)
end Go.Proofs.YtjdcbblgaoogmaaGreatDoor.W
namespace Go.Proofs.YtjdcbblgaoogmaaGreatDoor.W
open Go Go.Proofs Go.Proofs.YtjdcbblgaoogmaaGreatDoor.Wx
def boleref05_Acts (lA1 : Option Addr) (lL1 : Nat) (lC1 : Nat) (K : Value → Heap → Prop) (h1 : Heap) : Prop :=
  C.boleref05_split lA1 lL1 lC1 h1 fun r1 h2 =>
  ∃ (sA1 : Option Addr) (sL1 : Nat) (sC1 : Nat) (sA2 : Option Addr) (sL2 : Nat) (sC2 : Nat), r1 = .tuple #[.slice sA1 sL1 sC1, .slice sA2 sL2 sC2] ∧
  C.boleref04_Make sA1 sL1 sC1 sA2 sL2 sC2 h2 fun r2 h3 =>
  ∃ (sA3 : Option Addr) (sL3 : Nat) (sC3 : Nat) (n1 : Int), r2 = .tuple #[.slice sA3 sL3 sC3, .int .i64 n1] ∧
  ∃ (I1 : Option Addr → Nat → Nat → Int → Heap → Prop) (M1 : Option Addr → Nat → Nat → Int → Heap → Nat), I1 none 0 0 0 h3 ∧
  ∀ (actsA1 : Option Addr) (actsL1 : Nat) (actsC1 : Nat) (i1 : Int), ∀ h4 : Heap, I1 actsA1 actsL1 actsC1 i1 h4 →
  bif (decide (i1 < (sL2 : Int))) then (
  (0 ≤ i1 ∧ i1 < (sL2 : Int)) ∧
  onSome sA2 fun p1 =>
  ∃ (sA4 : Option Addr) (sL4 : Nat) (sC4 : Nat), cellOf h4 (Addr.add p1 (Int.toNat i1)) = some (.slice sA4 sL4 sC4) ∧
  C.boleref05_write (IntKind.wrap .i64 (2 + i1)) sA4 sL4 sC4 h4 fun r3 h5 =>
  ∃ (cs1 : List Value), r3 = .agg ⟨cs1⟩ ∧
  List.length (cs1 : List Value) = 3 ∧
  New cs1 122 h5 fun h6 =>
  ∃ new1 : List Value, List.length new1 = 1 * 3 ∧ SlCells h6 (some ⟨h5.size, 0, none⟩) new1 ∧ (∀ v ∈ new1, v.oneCell' = true) ∧
  AppendP ti122 122 actsA1 actsL1 actsC1 1 new1 h6 fun sA5 sL5 sC5 h7 =>
  I1 sA5 sL5 sC5 (IntKind.wrap .i64 (i1 + 1)) h7 ∧ M1 sA5 sL5 sC5 (IntKind.wrap .i64 (i1 + 1)) h7 < M1 actsA1 actsL1 actsC1 i1 h4) else (
  C.boleref05_flush  h4 fun r4 h8 =>
  ∃ (cs2 : List Value), r4 = .agg ⟨cs2⟩ ∧
  C.boleref05_write 1 sA3 sL3 sC3 h8 fun r5 h9 =>
  ∃ (cs3 : List Value), r5 = .agg ⟨cs3⟩ ∧
  C.boleref05_flush  h9 fun r6 h10 =>
  ∃ (cs4 : List Value), r6 = .agg ⟨cs4⟩ ∧
  List.length (cs2 : List Value) = 3 ∧
  List.length (cs3 : List Value) = 3 ∧
  List.length (cs4 : List Value) = 3 ∧
  New (cs2 ++ (cs3 ++ cs4)) 122 h10 fun h11 =>
  ∃ new2 : List Value, List.length new2 = 3 * 3 ∧ SlCells h11 (some ⟨h10.size, 0, none⟩) new2 ∧ (∀ v ∈ new2, v.oneCell' = true) ∧
  AppendP ti122 122 actsA1 actsL1 actsC1 3 new2 h11 fun sA6 sL6 sC6 h12 =>
  C.boleref05_home sA1 sL1 sC1 sA2 sL2 sC2 h12 fun r7 h13 =>
  ∃ (sA7 : Option Addr) (sL7 : Nat) (sC7 : Nat), r7 = .slice sA7 sL7 sC7 ∧
  ∃ new3 : List Value, List.length new3 = sL7 * 3 ∧ SlCells h13 sA7 new3 ∧ (∀ v ∈ new3, v.oneCell' = true) ∧
  AppendP ti122 122 sA6 sL6 sC6 sL7 new3 h13 fun sA8 sL8 sC8 h14 =>
  K (.slice sA8 sL8 sC8) h14)
def boleref05_Acts.lo : Nat → List Nat × List (Nat × Ty) := fun n => match n with | 5 => ([3, 4, 5], [(7, .slice), (8, .int .i64)]) | _ => ([], [])
def boleref05_Acts.od : Nat → Od := fun n => match n with | _ => .nil
theorem boleref05_Acts.eq (lA1 : Option Addr) (lL1 : Nat) (lC1 : Nat) (K : Value → Heap → Prop) (h : Heap) : fnX (cx boleref05_Acts.lo boleref05_Acts.od) Tryz.f123 (Tryz.f123.body.getD .skip) [.slice lA1 lL1 lC1] K h = boleref05_Acts lA1 lL1 lC1 K h := by kernel_rfl
theorem boleref05_Acts.chk : fnOk (cx boleref05_Acts.lo boleref05_Acts.od) Tryz.f123 (Tryz.f123.body.getD .skip) 1 = true := by kernel_rfl
theorem boleref05_Acts.ok {lA1 : Option Addr} {lL1 : Nat} {lC1 : Nat} {K : Value → Heap → Prop} {h : Heap} (hx : boleref05_Acts lA1 lL1 lC1 K h) : C.boleref05_Acts lA1 lL1 lC1 h K :=
  fn_to (cxOk _ _) Tryz.func123 (by kernel_rfl) boleref05_Acts.chk (by rw [boleref05_Acts.eq]; exact hx)
def boleref05_take (d1 : Option Addr) (lA1 : Option Addr) (lL1 : Nat) (lC1 : Nat) (K : Value → Heap → Prop) (h1 : Heap) : Prop :=
  ∃ (I1 : Int → Heap → Prop) (M1 : Int → Heap → Nat), I1 0 h1 ∧
  ∀ (i1 : Int), ∀ h2 : Heap, I1 i1 h2 →
  bif (decide (i1 < (lL1 : Int))) then (
  (0 ≤ i1 ∧ i1 < (lL1 : Int)) ∧
  onSome lA1 fun p1 =>
  ∃ (n1 : Int), cellOf h2 (Addr.add (Addr.add p1 ((Int.toNat i1) * 3)) 0) = some (.int .i64 n1) ∧
  bif (n1 == 1) then (
  (0 ≤ i1 ∧ i1 < (lL1 : Int)) ∧
  onSome lA1 fun p2 =>
  ∃ (n2 : Int), cellOf h2 (Addr.add (Addr.add p2 ((Int.toNat i1) * 3)) 1) = some (.int .i64 n2) ∧
  (0 ≤ i1 ∧ i1 < (lL1 : Int)) ∧
  onSome lA1 fun p3 =>
  ∃ (sA1 : Option Addr) (sL1 : Nat) (sC1 : Nat), cellOf h2 (Addr.add (Addr.add p3 ((Int.toNat i1) * 3)) 2) = some (.slice sA1 sL1 sC1) ∧
  C.boleref03_Disk_Write d1 n2 sA1 sL1 sC1 h2 fun r1 h3 =>
  ∃ (n3 : Int), r1 = .int .i64 n3 ∧
  bif (n3 != 0) then (
  K (.int .i64 n3) h3) else (
  I1 (IntKind.wrap .i64 (i1 + 1)) h3 ∧ M1 (IntKind.wrap .i64 (i1 + 1)) h3 < M1 i1 h2)) else (
  C.boleref03_Disk_Flush d1 h2 fun r2 h4 =>
  ∃ (n4 : Int), r2 = .int .i64 n4 ∧
  bif (n4 != 0) then (
  K (.int .i64 n4) h4) else (
  I1 (IntKind.wrap .i64 (i1 + 1)) h4 ∧ M1 (IntKind.wrap .i64 (i1 + 1)) h4 < M1 i1 h2))) else (
  K (.int .i64 0) h2)
def boleref05_take.lo : Nat → List Nat × List (Nat × Ty) := fun n => match n with | 2 => ([0, 1], [(5, .int .i64)]) | _ => ([], [])
def boleref05_take.od : Nat → Od := fun n => match n with | 6 => (.op 0 [] (.op 1 [] (.op 2 [] (.op 3 [] (.op 4 [] (.op 5 [] (.op 6 [] (.op 7 [] (.op 8 [] (.op 9 [] (.op 10 [] (.op 11 [] (.op 12 [] .nil))))))))))))) | _ => .nil
theorem boleref05_take.eq (d1 : Option Addr) (lA1 : Option Addr) (lL1 : Nat) (lC1 : Nat) (K : Value → Heap → Prop) (h : Heap) : fnX (cx boleref05_take.lo boleref05_take.od) Tryz.f124 (Tryz.f124.body.getD .skip) [.pointer d1, .slice lA1 lL1 lC1] K h = boleref05_take d1 lA1 lL1 lC1 K h := by kernel_rfl
theorem boleref05_take.chk : fnOk (cx boleref05_take.lo boleref05_take.od) Tryz.f124 (Tryz.f124.body.getD .skip) 2 = true := by kernel_rfl
theorem boleref05_take.ok {d1 : Option Addr} {lA1 : Option Addr} {lL1 : Nat} {lC1 : Nat} {K : Value → Heap → Prop} {h : Heap} (hx : boleref05_take d1 lA1 lL1 lC1 K h) : C.boleref05_take d1 lA1 lL1 lC1 h K :=
  fn_to (cxOk _ _) Tryz.func124 (by kernel_rfl) boleref05_take.chk (by rw [boleref05_take.eq]; exact hx)
def boleref05_log (d1 : Option Addr) (K : Value → Heap → Prop) (h1 : Heap) : Prop :=
  onSome d1 fun p1 =>
  ∃ (b1 : Bool), cellOf h1 (Addr.add p1 4) = some (.bool b1) ∧
  bif b1 then (
  K (.tuple #[.slice none 0 0, .slice none 0 0, .int .i64 30]) h1) else (
  C.boleref03_Disk_Blocks d1 h1 fun r1 h2 =>
  ∃ (n1 : Int), r1 = .int .i64 n1 ∧
  bif (decide (n1 < 98)) then (
  K (.tuple #[.slice none 0 0, .slice none 0 0, .int .i64 31]) h2) else (
  C.boleref03_Disk_Read d1 1 h2 fun r2 h3 =>
  ∃ (sA1 : Option Addr) (sL1 : Nat) (sC1 : Nat) (n2 : Int), r2 = .tuple #[.slice sA1 sL1 sC1, .int .i64 n2] ∧
  C.boleref04_Nums sA1 sL1 sC1 n1 h3 fun r3 h4 =>
  ∃ (sA2 : Option Addr) (sL2 : Nat) (sC2 : Nat) (n3 : Int), r3 = .tuple #[.slice sA2 sL2 sC2, .int .i64 n3] ∧
  bif (n3 != 0) then (
  K (.tuple #[.slice none 0 0, .slice none 0 0, .int .i64 41]) h4) else (
  ∃ (I1 : Option Addr → Nat → Nat → Int → Heap → Prop) (M1 : Option Addr → Nat → Nat → Int → Heap → Nat), I1 none 0 0 0 h4 ∧
  ∀ (dataA1 : Option Addr) (dataL1 : Nat) (dataC1 : Nat) (i1 : Int), ∀ h5 : Heap, I1 dataA1 dataL1 dataC1 i1 h5 →
  bif (decide (i1 < (sL2 : Int))) then (
  C.boleref03_Disk_Read d1 (IntKind.wrap .i64 (2 + i1)) h5 fun r4 h6 =>
  ∃ (sA3 : Option Addr) (sL3 : Nat) (sC3 : Nat) (n4 : Int), r4 = .tuple #[.slice sA3 sL3 sC3, .int .i64 n4] ∧
  New [.slice sA3 sL3 sC3] 37 h6 fun h7 =>
  ∃ new1 : List Value, List.length new1 = 1 * 1 ∧ SlCells h7 (some ⟨h6.size, 0, none⟩) new1 ∧ (∀ v ∈ new1, v.oneCell' = true) ∧
  AppendP ti37 37 dataA1 dataL1 dataC1 1 new1 h7 fun sA4 sL4 sC4 h8 =>
  I1 sA4 sL4 sC4 (IntKind.wrap .i64 (i1 + 1)) h8 ∧ M1 sA4 sL4 sC4 (IntKind.wrap .i64 (i1 + 1)) h8 < M1 dataA1 dataL1 dataC1 i1 h5) else (
  bif (decide ((sL2 : Int) > 0)) then (
  C.boleref04_Good sA1 sL1 sC1 n1 dataA1 dataL1 dataC1 h5 fun r5 h9 =>
  ∃ (b2 : Bool), r5 = .bool b2 ∧
  bif (!b2) then (
  K (.tuple #[.slice none 0 0, .slice none 0 0, .int .i64 41]) h9) else (
  K (.tuple #[.slice sA2 sL2 sC2, .slice dataA1 dataL1 dataC1, .int .i64 0]) h9)) else (
  K (.tuple #[.slice sA2 sL2 sC2, .slice dataA1 dataL1 dataC1, .int .i64 0]) h5)))))
def boleref05_log.lo : Nat → List Nat × List (Nat × Ty) := fun n => match n with | 12 => ([0, 5, 6, 8], [(10, .slice), (11, .int .i64)]) | _ => ([], [])
def boleref05_log.od : Nat → Od := fun n => match n with | _ => .nil
theorem boleref05_log.eq (d1 : Option Addr) (K : Value → Heap → Prop) (h : Heap) : fnX (cx boleref05_log.lo boleref05_log.od) Tryz.f125 (Tryz.f125.body.getD .skip) [.pointer d1] K h = boleref05_log d1 K h := by kernel_rfl
theorem boleref05_log.chk : fnOk (cx boleref05_log.lo boleref05_log.od) Tryz.f125 (Tryz.f125.body.getD .skip) 1 = true := by kernel_rfl
theorem boleref05_log.ok {d1 : Option Addr} {K : Value → Heap → Prop} {h : Heap} (hx : boleref05_log d1 K h) : C.boleref05_log d1 h K :=
  fn_to (cxOk _ _) Tryz.func125 (by kernel_rfl) boleref05_log.chk (by rw [boleref05_log.eq]; exact hx)
def boleref05_home (numsA1 : Option Addr) (numsL1 : Nat) (numsC1 : Nat) (dataA1 : Option Addr) (dataL1 : Nat) (dataC1 : Nat) (K : Value → Heap → Prop) (h1 : Heap) : Prop :=
  ∃ (I1 : Option Addr → Nat → Nat → Int → Heap → Prop) (M1 : Option Addr → Nat → Nat → Int → Heap → Nat), I1 none 0 0 0 h1 ∧
  ∀ (actsA1 : Option Addr) (actsL1 : Nat) (actsC1 : Nat) (i1 : Int), ∀ h2 : Heap, I1 actsA1 actsL1 actsC1 i1 h2 →
  bif (decide (i1 < (numsL1 : Int))) then (
  (0 ≤ i1 ∧ i1 < (numsL1 : Int)) ∧
  onSome numsA1 fun p1 =>
  ∃ (n1 : Int), cellOf h2 (Addr.add p1 (Int.toNat i1)) = some (.int .i64 n1) ∧
  (0 ≤ i1 ∧ i1 < (dataL1 : Int)) ∧
  onSome dataA1 fun p2 =>
  ∃ (sA1 : Option Addr) (sL1 : Nat) (sC1 : Nat), cellOf h2 (Addr.add p2 (Int.toNat i1)) = some (.slice sA1 sL1 sC1) ∧
  C.boleref05_write n1 sA1 sL1 sC1 h2 fun r1 h3 =>
  ∃ (cs1 : List Value), r1 = .agg ⟨cs1⟩ ∧
  List.length (cs1 : List Value) = 3 ∧
  New cs1 122 h3 fun h4 =>
  ∃ new1 : List Value, List.length new1 = 1 * 3 ∧ SlCells h4 (some ⟨h3.size, 0, none⟩) new1 ∧ (∀ v ∈ new1, v.oneCell' = true) ∧
  AppendP ti122 122 actsA1 actsL1 actsC1 1 new1 h4 fun sA2 sL2 sC2 h5 =>
  I1 sA2 sL2 sC2 (IntKind.wrap .i64 (i1 + 1)) h5 ∧ M1 sA2 sL2 sC2 (IntKind.wrap .i64 (i1 + 1)) h5 < M1 actsA1 actsL1 actsC1 i1 h2) else (
  C.boleref04_Empty  h2 fun r2 h6 =>
  ∃ (sA3 : Option Addr) (sL3 : Nat) (sC3 : Nat), r2 = .slice sA3 sL3 sC3 ∧
  C.boleref05_flush  h6 fun r3 h7 =>
  ∃ (cs2 : List Value), r3 = .agg ⟨cs2⟩ ∧
  C.boleref05_write 1 sA3 sL3 sC3 h7 fun r4 h8 =>
  ∃ (cs3 : List Value), r4 = .agg ⟨cs3⟩ ∧
  C.boleref05_flush  h8 fun r5 h9 =>
  ∃ (cs4 : List Value), r5 = .agg ⟨cs4⟩ ∧
  List.length (cs2 : List Value) = 3 ∧
  List.length (cs3 : List Value) = 3 ∧
  List.length (cs4 : List Value) = 3 ∧
  New (cs2 ++ (cs3 ++ cs4)) 122 h9 fun h10 =>
  ∃ new2 : List Value, List.length new2 = 3 * 3 ∧ SlCells h10 (some ⟨h9.size, 0, none⟩) new2 ∧ (∀ v ∈ new2, v.oneCell' = true) ∧
  AppendP ti122 122 actsA1 actsL1 actsC1 3 new2 h10 fun sA4 sL4 sC4 h11 =>
  K (.slice sA4 sL4 sC4) h11)
def boleref05_home.lo : Nat → List Nat × List (Nat × Ty) := fun n => match n with | 3 => ([0, 1], [(5, .slice), (6, .int .i64)]) | _ => ([], [])
def boleref05_home.od : Nat → Od := fun n => match n with | 5 => (.op 0 [] (.op 1 [] (.op 2 [] (.op 3 [] (.op 4 [] (.op 5 [] (.op 6 [] (.op 7 [] (.op 8 [] (.op 9 [] (.op 10 [] (.op 11 [] (.op 12 [] .nil))))))))))))) | _ => .nil
theorem boleref05_home.eq (numsA1 : Option Addr) (numsL1 : Nat) (numsC1 : Nat) (dataA1 : Option Addr) (dataL1 : Nat) (dataC1 : Nat) (K : Value → Heap → Prop) (h : Heap) : fnX (cx boleref05_home.lo boleref05_home.od) Tryz.f126 (Tryz.f126.body.getD .skip) [.slice numsA1 numsL1 numsC1, .slice dataA1 dataL1 dataC1] K h = boleref05_home numsA1 numsL1 numsC1 dataA1 dataL1 dataC1 K h := by kernel_rfl
theorem boleref05_home.chk : fnOk (cx boleref05_home.lo boleref05_home.od) Tryz.f126 (Tryz.f126.body.getD .skip) 2 = true := by kernel_rfl
theorem boleref05_home.ok {numsA1 : Option Addr} {numsL1 : Nat} {numsC1 : Nat} {dataA1 : Option Addr} {dataL1 : Nat} {dataC1 : Nat} {K : Value → Heap → Prop} {h : Heap} (hx : boleref05_home numsA1 numsL1 numsC1 dataA1 dataL1 dataC1 K h) : C.boleref05_home numsA1 numsL1 numsC1 dataA1 dataL1 dataC1 h K :=
  fn_to (cxOk _ _) Tryz.func126 (by kernel_rfl) boleref05_home.chk (by rw [boleref05_home.eq]; exact hx)
def boleref05_Behind.k1 (sA1 : Option Addr) (sL1 : Nat) (sA2 : Option Addr) (sL2 : Nat) (i1 : Int) (bA1 : Option Addr) (bL1 : Nat) (bC1 : Nat) (k1 : Int) (h6 : Heap) (I2 : Option Addr → Nat → Nat → Int → Heap → Prop) (M2 : Option Addr → Nat → Nat → Int → Heap → Nat) (bA2 : Option Addr) (bL2 : Nat) (bC2 : Nat) (h8 : Heap) (K : Value → Heap → Prop) : Prop :=
  (0 ≤ k1 ∧ k1 < (sL1 : Int)) ∧
  onSome sA1 fun p1 =>
  ∃ (n4 : Int), cellOf h8 (Addr.add p1 (Int.toNat k1)) = some (.int .i64 n4) ∧
  bif (n4 == i1) then (
  (0 ≤ k1 ∧ k1 < (sL2 : Int)) ∧
  onSome sA2 fun p2 =>
  ∃ (sA5 : Option Addr) (sL5 : Nat) (sC5 : Nat), cellOf h8 (Addr.add p2 (Int.toNat k1)) = some (.slice sA5 sL5 sC5) ∧
  I2 sA5 sL5 sC5 (IntKind.wrap .i64 (k1 + 1)) h8 ∧ M2 sA5 sL5 sC5 (IntKind.wrap .i64 (k1 + 1)) h8 < M2 bA1 bL1 bC1 k1 h6) else (
  I2 bA2 bL2 bC2 (IntKind.wrap .i64 (k1 + 1)) h8 ∧ M2 bA2 bL2 bC2 (IntKind.wrap .i64 (k1 + 1)) h8 < M2 bA1 bL1 bC1 k1 h6)
def boleref05_Behind (d1 : Option Addr) (K : Value → Heap → Prop) (h1 : Heap) : Prop :=
  C.boleref05_log d1 h1 fun r1 h2 =>
  ∃ (sA1 : Option Addr) (sL1 : Nat) (sC1 : Nat) (sA2 : Option Addr) (sL2 : Nat) (sC2 : Nat) (n1 : Int), r1 = .tuple #[.slice sA1 sL1 sC1, .slice sA2 sL2 sC2, .int .i64 n1] ∧
  bif (n1 != 0) then (
  K (.tuple #[.slice none 0 0, .int .i64 n1]) h2) else (
  ∃ (I1 : Option Addr → Nat → Nat → Int → Heap → Prop) (M1 : Option Addr → Nat → Nat → Int → Heap → Nat), I1 none 0 0 0 h2 ∧
  ∀ (outA1 : Option Addr) (outL1 : Nat) (outC1 : Nat) (i1 : Int), ∀ h3 : Heap, I1 outA1 outL1 outC1 i1 h3 →
  C.boleref03_Disk_Blocks d1 h3 fun r2 h4 =>
  ∃ (n2 : Int), r2 = .int .i64 n2 ∧
  bif (decide (i1 < n2)) then (
  C.boleref03_Disk_Read d1 i1 h4 fun r3 h5 =>
  ∃ (sA3 : Option Addr) (sL3 : Nat) (sC3 : Nat) (n3 : Int), r3 = .tuple #[.slice sA3 sL3 sC3, .int .i64 n3] ∧
  ∃ (I2 : Option Addr → Nat → Nat → Int → Heap → Prop) (M2 : Option Addr → Nat → Nat → Int → Heap → Nat), I2 sA3 sL3 sC3 0 h5 ∧
  ∀ (bA1 : Option Addr) (bL1 : Nat) (bC1 : Nat) (k1 : Int), ∀ h6 : Heap, I2 bA1 bL1 bC1 k1 h6 →
  bif (decide (k1 < (sL1 : Int))) then (
  bif (i1 == 1) then (
  C.boleref04_Empty  h6 fun r4 h7 =>
  ∃ (sA4 : Option Addr) (sL4 : Nat) (sC4 : Nat), r4 = .slice sA4 sL4 sC4 ∧
  boleref05_Behind.k1 sA1 sL1 sA2 sL2 i1 bA1 bL1 bC1 k1 h6 I2 M2 sA4 sL4 sC4 h7 K) else (
  boleref05_Behind.k1 sA1 sL1 sA2 sL2 i1 bA1 bL1 bC1 k1 h6 I2 M2 bA1 bL1 bC1 h6 K)) else (
  ∃ new1 : List Value, List.length new1 = bL1 * 1 ∧ SlCells h6 bA1 new1 ∧ (∀ v ∈ new1, v.oneCell' = true) ∧
  AppendP ti5 5 outA1 outL1 outC1 bL1 new1 h6 fun sA6 sL6 sC6 h9 =>
  I1 sA6 sL6 sC6 (IntKind.wrap .i64 (i1 + 1)) h9 ∧ M1 sA6 sL6 sC6 (IntKind.wrap .i64 (i1 + 1)) h9 < M1 outA1 outL1 outC1 i1 h3)) else (
  K (.tuple #[.slice outA1 outL1 outC1, .int .i64 0]) h4))
def boleref05_Behind.lo : Nat → List Nat × List (Nat × Ty) := fun n => match n with | 6 => ([0, 4, 5], [(7, .slice), (8, .int .i64)]) | 10 => ([0, 4, 5, 7, 8], [(9, .slice), (11, .int .i64)]) | _ => ([], [])
def boleref05_Behind.od : Nat → Od := fun n => match n with | _ => .nil
theorem boleref05_Behind.eq (d1 : Option Addr) (K : Value → Heap → Prop) (h : Heap) : fnX (cx boleref05_Behind.lo boleref05_Behind.od) Tryz.f127 (Tryz.f127.body.getD .skip) [.pointer d1] K h = boleref05_Behind d1 K h := by kernel_rfl
theorem boleref05_Behind.chk : fnOk (cx boleref05_Behind.lo boleref05_Behind.od) Tryz.f127 (Tryz.f127.body.getD .skip) 1 = true := by kernel_rfl
theorem boleref05_Behind.ok {d1 : Option Addr} {K : Value → Heap → Prop} {h : Heap} (hx : boleref05_Behind d1 K h) : C.boleref05_Behind d1 h K :=
  fn_to (cxOk _ _) Tryz.func127 (by kernel_rfl) boleref05_Behind.chk (by rw [boleref05_Behind.eq]; exact hx)
def boleref03_fault (blocks1 : Int) (a1 : List Value) (K : Value → Heap → Prop) (h1 : Heap) : Prop :=
  New a1 122 h1 fun h2 =>
  ∃ (n1 : Int), cellOf h2 (Addr.add ⟨h1.size, 0, none⟩ 0) = some (.int .i64 n1) ∧
  bif (n1 == 2) then (
  K (.int .i64 0) h2) else (
  bif (n1 == 1) then (
  ∃ (n2 : Int), cellOf h2 (Addr.add ⟨h1.size, 0, none⟩ 1) = some (.int .i64 n2) ∧
  bif (decide (n2 < 0)) then (
  K (.int .i64 31) h2) else (
  ∃ (n3 : Int), cellOf h2 (Addr.add ⟨h1.size, 0, none⟩ 1) = some (.int .i64 n3) ∧
  bif (decide (n3 ≥ blocks1)) then (
  K (.int .i64 31) h2) else (
  ∃ (sA1 : Option Addr) (sL1 : Nat) (sC1 : Nat), cellOf h2 (Addr.add ⟨h1.size, 0, none⟩ 2) = some (.slice sA1 sL1 sC1) ∧
  bif ((sL1 : Int) != 512) then (
  K (.int .i64 32) h2) else (
  K (.int .i64 0) h2)))) else (
  K (.int .i64 1) h2))
def boleref03_fault.lo : Nat → List Nat × List (Nat × Ty) := fun n => match n with | _ => ([], [])
def boleref03_fault.od : Nat → Od := fun n => match n with | _ => .nil
theorem boleref03_fault.eq (blocks1 : Int) (a1 : List Value) (K : Value → Heap → Prop) (h : Heap) : fnX (cx boleref03_fault.lo boleref03_fault.od) Tryz.f128 (Tryz.f128.body.getD .skip) [.int .i64 blocks1, .agg ⟨a1⟩] K h = boleref03_fault blocks1 a1 K h := by kernel_rfl
theorem boleref03_fault.chk : fnOk (cx boleref03_fault.lo boleref03_fault.od) Tryz.f128 (Tryz.f128.body.getD .skip) 2 = true := by kernel_rfl
theorem boleref03_fault.ok {blocks1 : Int} {a1 : List Value} {K : Value → Heap → Prop} {h : Heap} (hx : boleref03_fault blocks1 a1 K h) : C.boleref03_fault blocks1 a1 h K :=
  fn_to (cxOk _ _) Tryz.func128 (by kernel_rfl) boleref03_fault.chk (by rw [boleref03_fault.eq]; exact hx)
def boleref03_Disk_goes (d1 : Option Addr) (K : Value → Heap → Prop) (h1 : Heap) : Prop :=
  onSome d1 fun p1 =>
  ∃ (n1 : Int), cellOf h1 (Addr.add p1 3) = some (.int .i64 n1) ∧
  bif (n1 == 0) then (
  K (.bool false) h1) else (
  onSome d1 fun p2 =>
  ∃ (n2 : Int), cellOf h1 (Addr.add p2 3) = some (.int .i64 n2) ∧
  onSome d1 fun p3 =>
  Put (Addr.add p3 3) (.int .i64 (IntKind.wrap .i64 (n2 - 1))) h1 fun h2 =>
  onSome d1 fun p4 =>
  ∃ (n3 : Int), cellOf h2 (Addr.add p4 3) = some (.int .i64 n3) ∧
  onSome d1 fun p5 =>
  Put (Addr.add p5 4) (.bool (n3 == 0)) h2 fun h3 =>
  onSome d1 fun p6 =>
  ∃ (b1 : Bool), cellOf h3 (Addr.add p6 4) = some (.bool b1) ∧
  K (.bool b1) h3)
def boleref03_Disk_goes.lo : Nat → List Nat × List (Nat × Ty) := fun n => match n with | _ => ([], [])
def boleref03_Disk_goes.od : Nat → Od := fun n => match n with | _ => .nil
theorem boleref03_Disk_goes.eq (d1 : Option Addr) (K : Value → Heap → Prop) (h : Heap) : fnX (cx boleref03_Disk_goes.lo boleref03_Disk_goes.od) Tryz.f129 (Tryz.f129.body.getD .skip) [.pointer d1] K h = boleref03_Disk_goes d1 K h := by kernel_rfl
theorem boleref03_Disk_goes.chk : fnOk (cx boleref03_Disk_goes.lo boleref03_Disk_goes.od) Tryz.f129 (Tryz.f129.body.getD .skip) 1 = true := by kernel_rfl
theorem boleref03_Disk_goes.ok {d1 : Option Addr} {K : Value → Heap → Prop} {h : Heap} (hx : boleref03_Disk_goes d1 K h) : C.boleref03_Disk_goes d1 h K :=
  fn_to (cxOk _ _) Tryz.func129 (by kernel_rfl) boleref03_Disk_goes.chk (by rw [boleref03_Disk_goes.eq]; exact hx)
def adisk_Disk_step (d1 : Option Addr) (done1 : Value) (K : Value → Heap → Prop) (h1 : Heap) : Prop :=
  onSome d1 fun p1 =>
  ∃ (n1 : Int), cellOf h1 (Addr.add p1 2) = some (.int .i64 n1) ∧
  bif (decide (n1 > 0)) then (
  onSome d1 fun p2 =>
  ∃ (n2 : Int), cellOf h1 (Addr.add p2 2) = some (.int .i64 n2) ∧
  onSome d1 fun p3 =>
  Put (Addr.add p3 2) (.int .i64 (IntKind.wrap .i64 (n2 - 1))) h1 fun h2 =>
  onSome d1 fun p4 =>
  ∃ (n3 : Int), cellOf h2 (Addr.add p4 2) = some (.int .i64 n3) ∧
  bif (n3 == 0) then (
  onSome d1 fun p5 =>
  ∃ (sA1 : Option Addr) (sL1 : Nat) (sC1 : Nat), cellOf h2 (Addr.add p5 3) = some (.slice sA1 sL1 sC1) ∧
  C.adisk_Disk_cut d1 sA1 sL1 sC1 h2 fun r1 h3 =>
  r1 = .tuple #[] ∧
  K (.int .i64 30) h3) else (
  isFnV done1 = true ∧
  bif (!(isNilFn done1)) then (
  HCallsV Tryz.prog done1 [] h2 fun r2 h4 =>
  r2 = .tuple #[] ∧
  K (.int .i64 0) h4) else (
  K (.int .i64 0) h2))) else (
  isFnV done1 = true ∧
  bif (!(isNilFn done1)) then (
  HCallsV Tryz.prog done1 [] h1 fun r3 h5 =>
  r3 = .tuple #[] ∧
  K (.int .i64 0) h5) else (
  K (.int .i64 0) h1))
def adisk_Disk_step.lo : Nat → List Nat × List (Nat × Ty) := fun n => match n with | _ => ([], [])
def adisk_Disk_step.od : Nat → Od := fun n => match n with | _ => .nil
theorem adisk_Disk_step.eq (d1 : Option Addr) (done1 : Value) (K : Value → Heap → Prop) (h : Heap) : fnX (cx adisk_Disk_step.lo adisk_Disk_step.od) Tryz.f130 (Tryz.f130.body.getD .skip) [.pointer d1, done1] K h = adisk_Disk_step d1 done1 K h := by kernel_rfl
theorem adisk_Disk_step.chk : fnOk (cx adisk_Disk_step.lo adisk_Disk_step.od) Tryz.f130 (Tryz.f130.body.getD .skip) 2 = true := by kernel_rfl
theorem adisk_Disk_step.ok {d1 : Option Addr} {done1 : Value} {K : Value → Heap → Prop} {h : Heap} (hx : adisk_Disk_step d1 done1 K h) : C.adisk_Disk_step d1 done1 h K :=
  fn_to (cxOk _ _) Tryz.func130 (by kernel_rfl) adisk_Disk_step.chk (by rw [adisk_Disk_step.eq]; exact hx)
def adisk_Disk_Flush_c1 (cap1 : Option Addr) (K : Value → Heap → Prop) (h1 : Heap) : Prop :=
  onSome cap1 fun p1 =>
  ∃ (q1 : Option Addr), cellOf h1 p1 = some (.pointer q1) ∧
  onSome q1 fun p2 =>
  ∃ (sA1 : Option Addr) (sL1 : Nat) (sC1 : Nat), cellOf h1 (Addr.add p2 1) = some (.slice sA1 sL1 sC1) ∧
  ∃ (I1 : Int → Heap → Prop) (M1 : Int → Heap → Nat), I1 0 h1 ∧
  ∀ (n1 : Int), ∀ h2 : Heap, I1 n1 h2 →
  bif (decide (n1 < (sL1 : Int))) then (
  (0 ≤ n1 ∧ n1 < (sL1 : Int)) ∧
  onSome sA1 fun p3 =>
  ∃ cs1 : List Value, List.length cs1 = 513 ∧ Cells h2 (Addr.add p3 ((Int.toNat n1) * 513)) cs1 ∧
  NewRow z174 174 cs1 513 h2 fun h4 =>
  onSome cap1 fun p4 =>
  ∃ (q2 : Option Addr), cellOf h4 p4 = some (.pointer q2) ∧
  onSome q2 fun p5 =>
  ∃ (sA2 : Option Addr) (sL2 : Nat) (sC2 : Nat), cellOf h4 (Addr.add p5 0) = some (.slice sA2 sL2 sC2) ∧
  ∃ (n2 : Int), cellOf h4 (Addr.add ⟨h2.size, 0, none⟩ 0) = some (.int .i64 n2) ∧
  ∃ cs2 : List Value, List.length cs2 = 512 ∧ Cells h4 (Addr.add ⟨h2.size, 0, none⟩ 1) cs2 ∧
  (0 ≤ n2 ∧ n2 < (sL2 : Int)) ∧
  onSome sA2 fun p6 =>
  PutRow (Addr.add p6 ((Int.toNat n2) * 512)) cs2 512 h4 fun h5 =>
  I1 (IntKind.wrap .i64 (n1 + 1)) h5 ∧ M1 (IntKind.wrap .i64 (n1 + 1)) h5 < M1 n1 h2) else (
  onSome cap1 fun p7 =>
  ∃ (q3 : Option Addr), cellOf h2 p7 = some (.pointer q3) ∧
  onSome q3 fun p8 =>
  Put (Addr.add p8 1) (.slice none 0 0) h2 fun h6 =>
  onSome cap1 fun p9 =>
  ∃ (q4 : Option Addr), cellOf h6 p9 = some (.pointer q4) ∧
  onSome cap1 fun p10 =>
  ∃ (q5 : Option Addr), cellOf h6 p10 = some (.pointer q5) ∧
  onSome q5 fun p11 =>
  ∃ (sA3 : Option Addr) (sL3 : Nat) (sC3 : Nat), cellOf h6 (Addr.add p11 7) = some (.slice sA3 sL3 sC3) ∧
  List.length ([.int .i64 2, .int .i64 0, .slice none 0 0] : List Value) = 3 ∧
  New [.int .i64 2, .int .i64 0, .slice none 0 0] 122 h6 fun h7 =>
  (onSome cap1 fun p12 => cellOf h7 p12 = some (.pointer q4)) ∧
  (onSome cap1 fun p13 => cellOf h7 p13 = some (.pointer q5)) ∧
  (cellOf h7 (Addr.add p11 7) = some (.slice sA3 sL3 sC3)) ∧
  ∃ new1 : List Value, List.length new1 = 1 * 3 ∧ SlCells h7 (some ⟨h6.size, 0, none⟩) new1 ∧ (∀ v ∈ new1, v.oneCell' = true) ∧
  AppendP ti122 122 sA3 sL3 sC3 1 new1 h7 fun sA4 sL4 sC4 h8 =>
  (onSome cap1 fun p14 => cellOf h8 p14 = some (.pointer q4)) ∧
  onSome q4 fun p15 =>
  Put (Addr.add p15 7) (.slice sA4 sL4 sC4) h8 fun h9 =>
  K (.tuple #[]) h9)
def adisk_Disk_Flush_c1.lo : Nat → List Nat × List (Nat × Ty) := fun n => match n with | 1 => ([0, 6, 7], [(8, .int .i64)]) | _ => ([], [])
def adisk_Disk_Flush_c1.od : Nat → Od := fun n => match n with | 3 => (.op 0 [] (.op 1 [] (.op 2 [] (.op 3 [] (.op 4 [] (.op 5 [] (.op 6 [] (.op 7 [] (.op 8 [] (.op 9 [] .nil)))))))))) | 6 => (.op 0 [] (.op 1 [] (.op 2 [] (.op 3 [] (.op 4 [] (.op 5 [] (.op 6 [0, 1, 4] (.op 7 [0] (.op 8 [] (.op 9 [] (.op 10 [] .nil))))))))))) | _ => .nil
theorem adisk_Disk_Flush_c1.eq (cap1 : Option Addr) (K : Value → Heap → Prop) (h : Heap) : fnX (cx adisk_Disk_Flush_c1.lo adisk_Disk_Flush_c1.od) Tryz.f131 (Tryz.f131.body.getD .skip) [.pointer cap1] K h = adisk_Disk_Flush_c1 cap1 K h := by kernel_rfl
theorem adisk_Disk_Flush_c1.chk : fnOk (cx adisk_Disk_Flush_c1.lo adisk_Disk_Flush_c1.od) Tryz.f131 (Tryz.f131.body.getD .skip) 1 = true := by kernel_rfl
theorem adisk_Disk_Flush_c1.ok {cap1 : Option Addr} {K : Value → Heap → Prop} {h : Heap} (hx : adisk_Disk_Flush_c1 cap1 K h) : C.adisk_Disk_Flush_c1 cap1 h K :=
  fn_to (cxOk _ _) Tryz.func131 (by kernel_rfl) adisk_Disk_Flush_c1.chk (by rw [adisk_Disk_Flush_c1.eq]; exact hx)
def boleref03_marks (lA1 : Option Addr) (lL1 : Nat) (lC1 : Nat) (K : Value → Heap → Prop) (h1 : Heap) : Prop :=
  ∃ new1 : List Value, List.length new1 = lL1 * 1 ∧ SlCells h1 lA1 new1 ∧ (∀ v ∈ new1, v.oneCell' = true) ∧
  AppendP ti4 4 none 0 0 lL1 new1 h1 fun sA1 sL1 sC1 h2 =>
  K (.slice sA1 sL1 sC1) h2
def boleref03_marks.lo : Nat → List Nat × List (Nat × Ty) := fun n => match n with | _ => ([], [])
def boleref03_marks.od : Nat → Od := fun n => match n with | _ => .nil
theorem boleref03_marks.eq (lA1 : Option Addr) (lL1 : Nat) (lC1 : Nat) (K : Value → Heap → Prop) (h : Heap) : fnX (cx boleref03_marks.lo boleref03_marks.od) Tryz.f132 (Tryz.f132.body.getD .skip) [.slice lA1 lL1 lC1] K h = boleref03_marks lA1 lL1 lC1 K h := by kernel_rfl
theorem boleref03_marks.chk : fnOk (cx boleref03_marks.lo boleref03_marks.od) Tryz.f132 (Tryz.f132.body.getD .skip) 1 = true := by kernel_rfl
theorem boleref03_marks.ok {lA1 : Option Addr} {lL1 : Nat} {lC1 : Nat} {K : Value → Heap → Prop} {h : Heap} (hx : boleref03_marks lA1 lL1 lC1 K h) : C.boleref03_marks lA1 lL1 lC1 h K :=
  fn_to (cxOk _ _) Tryz.func132 (by kernel_rfl) boleref03_marks.chk (by rw [boleref03_marks.eq]; exact hx)
def slices_Clone_bool_bool (sA1 : Option Addr) (sL1 : Nat) (sC1 : Nat) (K : Value → Heap → Prop) (h1 : Heap) : Prop :=
  bif (Option.isNone sA1) then (
  K (.slice none 0 0) h1) else (
  New [] 4 h1 fun h2 =>
  ∃ new1 : List Value, List.length new1 = sL1 * 1 ∧ SlCells h2 sA1 new1 ∧ (∀ v ∈ new1, v.oneCell' = true) ∧
  AppendP ti4 4 (some ⟨h1.size, 0, none⟩) 0 0 sL1 new1 h2 fun sA2 sL2 sC2 h3 =>
  K (.slice sA2 sL2 sC2) h3)
def slices_Clone_bool_bool.lo : Nat → List Nat × List (Nat × Ty) := fun n => match n with | _ => ([], [])
def slices_Clone_bool_bool.od : Nat → Od := fun n => match n with | _ => .nil
theorem slices_Clone_bool_bool.eq (sA1 : Option Addr) (sL1 : Nat) (sC1 : Nat) (K : Value → Heap → Prop) (h : Heap) : fnX (cx slices_Clone_bool_bool.lo slices_Clone_bool_bool.od) Tryz.f133 (Tryz.f133.body.getD .skip) [.slice sA1 sL1 sC1] K h = slices_Clone_bool_bool sA1 sL1 sC1 K h := by kernel_rfl
theorem slices_Clone_bool_bool.chk : fnOk (cx slices_Clone_bool_bool.lo slices_Clone_bool_bool.od) Tryz.f133 (Tryz.f133.body.getD .skip) 1 = true := by kernel_rfl
theorem slices_Clone_bool_bool.ok {sA1 : Option Addr} {sL1 : Nat} {sC1 : Nat} {K : Value → Heap → Prop} {h : Heap} (hx : slices_Clone_bool_bool sA1 sL1 sC1 K h) : C.slices_Clone_bool_bool sA1 sL1 sC1 h K :=
  fn_to (cxOk _ _) Tryz.func133 (by kernel_rfl) slices_Clone_bool_bool.chk (by rw [slices_Clone_bool_bool.eq]; exact hx)
def adisk_Disk_cut (d1 : Option Addr) (keepA1 : Option Addr) (keepL1 : Nat) (keepC1 : Nat) (K : Value → Heap → Prop) (h1 : Heap) : Prop :=
  onSome d1 fun p1 =>
  ∃ (sA1 : Option Addr) (sL1 : Nat) (sC1 : Nat), cellOf h1 (Addr.add p1 1) = some (.slice sA1 sL1 sC1) ∧
  ∃ (I1 : Int → Heap → Prop) (M1 : Int → Heap → Nat), I1 0 h1 ∧
  ∀ (n1 : Int), ∀ h2 : Heap, I1 n1 h2 →
  bif (decide (n1 < (if (sL1 : Int) < (keepL1 : Int) then (sL1 : Int) else (keepL1 : Int)))) then (
  onSome d1 fun p2 =>
  ∃ (sA2 : Option Addr) (sL2 : Nat) (sC2 : Nat), cellOf h2 (Addr.add p2 1) = some (.slice sA2 sL2 sC2) ∧
  (0 ≤ n1 ∧ n1 < (sL2 : Int)) ∧
  onSome sA2 fun p3 =>
  ∃ cs1 : List Value, List.length cs1 = 513 ∧ Cells h2 (Addr.add p3 ((Int.toNat n1) * 513)) cs1 ∧
  NewRow z174 174 cs1 513 h2 fun h4 =>
  (0 ≤ n1 ∧ n1 < (keepL1 : Int)) ∧
  onSome keepA1 fun p4 =>
  ∃ (b1 : Bool), cellOf h4 (Addr.add p4 (Int.toNat n1)) = some (.bool b1) ∧
  bif b1 then (
  onSome d1 fun p5 =>
  ∃ (sA3 : Option Addr) (sL3 : Nat) (sC3 : Nat), cellOf h4 (Addr.add p5 0) = some (.slice sA3 sL3 sC3) ∧
  ∃ (n2 : Int), cellOf h4 (Addr.add ⟨h2.size, 0, none⟩ 0) = some (.int .i64 n2) ∧
  ∃ cs2 : List Value, List.length cs2 = 512 ∧ Cells h4 (Addr.add ⟨h2.size, 0, none⟩ 1) cs2 ∧
  (0 ≤ n2 ∧ n2 < (sL3 : Int)) ∧
  onSome sA3 fun p6 =>
  PutRow (Addr.add p6 ((Int.toNat n2) * 512)) cs2 512 h4 fun h5 =>
  I1 (IntKind.wrap .i64 (n1 + 1)) h5 ∧ M1 (IntKind.wrap .i64 (n1 + 1)) h5 < M1 n1 h2) else (
  I1 (IntKind.wrap .i64 (n1 + 1)) h4 ∧ M1 (IntKind.wrap .i64 (n1 + 1)) h4 < M1 n1 h2)) else (
  onSome d1 fun p7 =>
  Put (Addr.add p7 1) (.slice none 0 0) h2 fun h6 =>
  onSome d1 fun p8 =>
  Put (Addr.add p8 3) (.slice none 0 0) h6 fun h7 =>
  onSome d1 fun p9 =>
  Put (Addr.add p9 2) (.int .i64 0) h7 fun h8 =>
  onSome d1 fun p10 =>
  Put (Addr.add p10 4) (.bool true) h8 fun h9 =>
  K (.tuple #[]) h9)
def adisk_Disk_cut.lo : Nat → List Nat × List (Nat × Ty) := fun n => match n with | 1 => ([0, 1, 13], [(14, .int .i64)]) | _ => ([], [])
def adisk_Disk_cut.od : Nat → Od := fun n => match n with | 5 => (.op 0 [] (.op 1 [] (.op 2 [] (.op 3 [] (.op 4 [] (.op 5 [] (.op 6 [] (.op 7 [] (.op 8 [] (.op 9 [] .nil)))))))))) | _ => .nil
theorem adisk_Disk_cut.eq (d1 : Option Addr) (keepA1 : Option Addr) (keepL1 : Nat) (keepC1 : Nat) (K : Value → Heap → Prop) (h : Heap) : fnX (cx adisk_Disk_cut.lo adisk_Disk_cut.od) Tryz.f134 (Tryz.f134.body.getD .skip) [.pointer d1, .slice keepA1 keepL1 keepC1] K h = adisk_Disk_cut d1 keepA1 keepL1 keepC1 K h := by kernel_rfl
theorem adisk_Disk_cut.chk : fnOk (cx adisk_Disk_cut.lo adisk_Disk_cut.od) Tryz.f134 (Tryz.f134.body.getD .skip) 2 = true := by kernel_rfl
theorem adisk_Disk_cut.ok {d1 : Option Addr} {keepA1 : Option Addr} {keepL1 : Nat} {keepC1 : Nat} {K : Value → Heap → Prop} {h : Heap} (hx : adisk_Disk_cut d1 keepA1 keepL1 keepC1 K h) : C.adisk_Disk_cut d1 keepA1 keepL1 keepC1 h K :=
  fn_to (cxOk _ _) Tryz.func134 (by kernel_rfl) adisk_Disk_cut.chk (by rw [adisk_Disk_cut.eq]; exact hx)
def boleref03_lasts.k1 (keepA1 : Option Addr) (keepL1 : Nat) (number2 : Int) (h4 : Heap) (K : Value → Heap → Prop) : Prop :=
  bif (decide (number2 < (keepL1 : Int))) then (
  (0 ≤ number2 ∧ number2 < (keepL1 : Int)) ∧
  onSome keepA1 fun p3 =>
  ∃ (b1 : Bool), cellOf h4 (Addr.add p3 (Int.toNat number2)) = some (.bool b1) ∧
  K (.bool b1) h4) else (
  K (.bool false) h4)
def boleref03_lasts (actsA1 : Option Addr) (actsL1 : Nat) (actsC1 : Nat) (i1 : Int) (keepA1 : Option Addr) (keepL1 : Nat) (keepC1 : Nat) (K : Value → Heap → Prop) (h1 : Heap) : Prop :=
  ∃ (I1 : Int → Heap → Prop) (M1 : Int → Heap → Nat), I1 (IntKind.wrap .i64 (i1 + 1)) h1 ∧
  ∀ (j1 : Int), ∀ h2 : Heap, I1 j1 h2 →
  bif (decide (j1 < (actsL1 : Int))) then (
  (0 ≤ j1 ∧ j1 < (actsL1 : Int)) ∧
  onSome actsA1 fun p1 =>
  ∃ (n1 : Int), cellOf h2 (Addr.add (Addr.add p1 ((Int.toNat j1) * 3)) 0) = some (.int .i64 n1) ∧
  bif (n1 == 2) then (
  K (.bool true) h2) else (
  I1 (IntKind.wrap .i64 (j1 + 1)) h2 ∧ M1 (IntKind.wrap .i64 (j1 + 1)) h2 < M1 j1 h2)) else (
  ∃ (I2 : Int → Int → Heap → Prop) (M2 : Int → Int → Heap → Nat), I2 0 (IntKind.wrap .i64 (i1 - 1)) h2 ∧
  ∀ (number1 : Int) (j2 : Int), ∀ h3 : Heap, I2 number1 j2 h3 →
  bif (decide (j2 ≥ 0)) then (
  (0 ≤ j2 ∧ j2 < (actsL1 : Int)) ∧
  onSome actsA1 fun p2 =>
  ∃ (n2 : Int), cellOf h3 (Addr.add (Addr.add p2 ((Int.toNat j2) * 3)) 0) = some (.int .i64 n2) ∧
  bif (n2 == 1) then (
  I2 (IntKind.wrap .i64 (number1 + 1)) (IntKind.wrap .i64 (j2 - 1)) h3 ∧ M2 (IntKind.wrap .i64 (number1 + 1)) (IntKind.wrap .i64 (j2 - 1)) h3 < M2 number1 j2 h3) else (
  boleref03_lasts.k1 keepA1 keepL1 number1 h3 K)) else (
  boleref03_lasts.k1 keepA1 keepL1 number1 h3 K))
def boleref03_lasts.lo : Nat → List Nat × List (Nat × Ty) := fun n => match n with | 2 => ([0, 1, 2], [(7, .int .i64)]) | 8 => ([0, 2], [(8, .int .i64), (9, .int .i64)]) | _ => ([], [])
def boleref03_lasts.od : Nat → Od := fun n => match n with | _ => .nil
theorem boleref03_lasts.eq (actsA1 : Option Addr) (actsL1 : Nat) (actsC1 : Nat) (i1 : Int) (keepA1 : Option Addr) (keepL1 : Nat) (keepC1 : Nat) (K : Value → Heap → Prop) (h : Heap) : fnX (cx boleref03_lasts.lo boleref03_lasts.od) Tryz.f135 (Tryz.f135.body.getD .skip) [.slice actsA1 actsL1 actsC1, .int .i64 i1, .slice keepA1 keepL1 keepC1] K h = boleref03_lasts actsA1 actsL1 actsC1 i1 keepA1 keepL1 keepC1 K h := by kernel_rfl
theorem boleref03_lasts.chk : fnOk (cx boleref03_lasts.lo boleref03_lasts.od) Tryz.f135 (Tryz.f135.body.getD .skip) 3 = true := by kernel_rfl
theorem boleref03_lasts.ok {actsA1 : Option Addr} {actsL1 : Nat} {actsC1 : Nat} {i1 : Int} {keepA1 : Option Addr} {keepL1 : Nat} {keepC1 : Nat} {K : Value → Heap → Prop} {h : Heap} (hx : boleref03_lasts actsA1 actsL1 actsC1 i1 keepA1 keepL1 keepC1 K h) : C.boleref03_lasts actsA1 actsL1 actsC1 i1 keepA1 keepL1 keepC1 h K :=
  fn_to (cxOk _ _) Tryz.func135 (by kernel_rfl) boleref03_lasts.chk (by rw [boleref03_lasts.eq]; exact hx)
def boleref03_Disk_Read.k1 (d1 : Option Addr) (i1 : Int) (h3 : Heap) (K : Value → Heap → Prop) : Prop :=
  onSome d1 fun p2 =>
  ∃ (sA1 : Option Addr) (sL1 : Nat) (sC1 : Nat), cellOf h3 (Addr.add p2 1) = some (.slice sA1 sL1 sC1) ∧
  ∃ (I1 : Int → Heap → Prop) (M1 : Int → Heap → Nat), I1 (IntKind.wrap .i64 ((sL1 : Int) - 1)) h3 ∧
  ∀ (j1 : Int), ∀ h4 : Heap, I1 j1 h4 →
  bif (decide (j1 ≥ 0)) then (
  onSome d1 fun p3 =>
  ∃ (sA2 : Option Addr) (sL2 : Nat) (sC2 : Nat), cellOf h4 (Addr.add p3 1) = some (.slice sA2 sL2 sC2) ∧
  (0 ≤ j1 ∧ j1 < (sL2 : Int)) ∧
  onSome sA2 fun p4 =>
  ∃ (n2 : Int), cellOf h4 (Addr.add (Addr.add p4 ((Int.toNat j1) * 3)) 0) = some (.int .i64 n2) ∧
  bif (n2 == 1) then (
  onSome d1 fun p5 =>
  ∃ (sA3 : Option Addr) (sL3 : Nat) (sC3 : Nat), cellOf h4 (Addr.add p5 1) = some (.slice sA3 sL3 sC3) ∧
  (0 ≤ j1 ∧ j1 < (sL3 : Int)) ∧
  onSome sA3 fun p6 =>
  ∃ (n3 : Int), cellOf h4 (Addr.add (Addr.add p6 ((Int.toNat j1) * 3)) 1) = some (.int .i64 n3) ∧
  bif (n3 == i1) then (
  onSome d1 fun p7 =>
  ∃ (sA4 : Option Addr) (sL4 : Nat) (sC4 : Nat), cellOf h4 (Addr.add p7 1) = some (.slice sA4 sL4 sC4) ∧
  (0 ≤ j1 ∧ j1 < (sL4 : Int)) ∧
  onSome sA4 fun p8 =>
  ∃ (sA5 : Option Addr) (sL5 : Nat) (sC5 : Nat), cellOf h4 (Addr.add (Addr.add p8 ((Int.toNat j1) * 3)) 2) = some (.slice sA5 sL5 sC5) ∧
  C.boleref03_copied sA5 sL5 sC5 h4 fun r2 h5 =>
  ∃ (sA6 : Option Addr) (sL6 : Nat) (sC6 : Nat), r2 = .slice sA6 sL6 sC6 ∧
  K (.tuple #[.slice sA6 sL6 sC6, .int .i64 0]) h5) else (
  I1 (IntKind.wrap .i64 (j1 - 1)) h4 ∧ M1 (IntKind.wrap .i64 (j1 - 1)) h4 < M1 j1 h4)) else (
  I1 (IntKind.wrap .i64 (j1 - 1)) h4 ∧ M1 (IntKind.wrap .i64 (j1 - 1)) h4 < M1 j1 h4)) else (
  onSome d1 fun p9 =>
  ∃ (sA7 : Option Addr) (sL7 : Nat) (sC7 : Nat), cellOf h4 (Addr.add p9 0) = some (.slice sA7 sL7 sC7) ∧
  (0 ≤ (IntKind.wrap .i64 (i1 * 512)) ∧ (IntKind.wrap .i64 (i1 * 512)) ≤ (IntKind.wrap .i64 ((IntKind.wrap .i64 (i1 * 512)) + 512)) ∧ (IntKind.wrap .i64 ((IntKind.wrap .i64 (i1 * 512)) + 512)) ≤ (sC7 : Int)) ∧
  C.boleref03_copied (if sC7 = (Int.toNat (IntKind.wrap .i64 (i1 * 512))) then sA7 else Option.map (Addr.add · (Int.toNat (IntKind.wrap .i64 (i1 * 512)))) sA7) ((Int.toNat (IntKind.wrap .i64 ((IntKind.wrap .i64 (i1 * 512)) + 512))) - (Int.toNat (IntKind.wrap .i64 (i1 * 512)))) (sC7 - (Int.toNat (IntKind.wrap .i64 (i1 * 512)))) h4 fun r3 h6 =>
  ∃ (sA8 : Option Addr) (sL8 : Nat) (sC8 : Nat), r3 = .slice sA8 sL8 sC8 ∧
  K (.tuple #[.slice sA8 sL8 sC8, .int .i64 0]) h6)
def boleref03_Disk_Read (d1 : Option Addr) (i1 : Int) (K : Value → Heap → Prop) (h1 : Heap) : Prop :=
  onSome d1 fun p1 =>
  ∃ (b1 : Bool), cellOf h1 (Addr.add p1 4) = some (.bool b1) ∧
  bif b1 then (
  K (.tuple #[.slice none 0 0, .int .i64 30]) h1) else (
  bif (decide (i1 < 0)) then (
  K (.tuple #[.slice none 0 0, .int .i64 31]) h1) else (
  C.boleref03_Disk_Blocks d1 h1 fun r1 h2 =>
  ∃ (n1 : Int), r1 = .int .i64 n1 ∧
  bif (decide (i1 ≥ n1)) then (
  K (.tuple #[.slice none 0 0, .int .i64 31]) h2) else (
  boleref03_Disk_Read.k1 d1 i1 h2 K)))
def boleref03_Disk_Read.lo : Nat → List Nat × List (Nat × Ty) := fun n => match n with | 6 => ([0, 1], [(6, .int .i64)]) | _ => ([], [])
def boleref03_Disk_Read.od : Nat → Od := fun n => match n with | _ => .nil
theorem boleref03_Disk_Read.eq (d1 : Option Addr) (i1 : Int) (K : Value → Heap → Prop) (h : Heap) : fnX (cx boleref03_Disk_Read.lo boleref03_Disk_Read.od) Tryz.f141 (Tryz.f141.body.getD .skip) [.pointer d1, .int .i64 i1] K h = boleref03_Disk_Read d1 i1 K h := by kernel_rfl
theorem boleref03_Disk_Read.chk : fnOk (cx boleref03_Disk_Read.lo boleref03_Disk_Read.od) Tryz.f141 (Tryz.f141.body.getD .skip) 2 = true := by kernel_rfl
theorem boleref03_Disk_Read.ok {d1 : Option Addr} {i1 : Int} {K : Value → Heap → Prop} {h : Heap} (hx : boleref03_Disk_Read d1 i1 K h) : C.boleref03_Disk_Read d1 i1 h K :=
  fn_to (cxOk _ _) Tryz.func141 (by kernel_rfl) boleref03_Disk_Read.chk (by rw [boleref03_Disk_Read.eq]; exact hx)
end Go.Proofs.YtjdcbblgaoogmaaGreatDoor.W
namespace Go.Proofs.YtjdcbblgaoogmaaGreatDoor.W
open Go Go.Proofs Go.Proofs.YtjdcbblgaoogmaaGreatDoor.Wx
def head_may (numsA1 : Option Addr) (numsL1 : Nat) (numsC1 : Nat) (n1 : Int) (K : Value → Heap → Prop) (h1 : Heap) : Prop :=
  New [.int .i64 n1] 3 h1 fun h2 =>
  New z3 3 h2 fun h3 =>
  Put ⟨h2.size, 0, none⟩ (.int .i64 97) h3 fun h4 =>
  ∃ (I1 : Int → Heap → Prop) (M1 : Int → Heap → Nat), I1 0 h4 ∧
  ∀ (n2 : Int), ∀ h5 : Heap, I1 n2 h5 →
  bif (decide (n2 < (numsL1 : Int))) then (
  (0 ≤ n2 ∧ n2 < (numsL1 : Int)) ∧
  onSome numsA1 fun p1 =>
  ∃ (n3 : Int), cellOf h5 (Addr.add p1 (Int.toNat n2)) = some (.int .i64 n3) ∧
  C.head_may_c1 n3 (some ⟨h2.size, 0, none⟩) (some ⟨h1.size, 0, none⟩) h5 fun r1 h6 =>
  ∃ (b1 : Bool), r1 = .bool b1 ∧
  bif b1 then (
  K (.bool false) h6) else (
  I1 (IntKind.wrap .i64 (n2 + 1)) h6 ∧ M1 (IntKind.wrap .i64 (n2 + 1)) h6 < M1 n2 h5)) else (
  bif (decide ((numsL1 : Int) ≥ 1)) then (
  K (.bool (decide ((numsL1 : Int) ≤ 96))) h5) else (
  K (.bool false) h5))
def head_may.lo : Nat → List Nat × List (Nat × Ty) := fun n => match n with | 4 => ([0, 6, 10, 11], [(12, .int .i64)]) | _ => ([], [])
def head_may.od : Nat → Od := fun n => match n with | _ => .nil
theorem head_may.eq (numsA1 : Option Addr) (numsL1 : Nat) (numsC1 : Nat) (n1 : Int) (K : Value → Heap → Prop) (h : Heap) : fnX (cx head_may.lo head_may.od) Tryz.f176 (Tryz.f176.body.getD .skip) [.slice numsA1 numsL1 numsC1, .int .i64 n1] K h = head_may numsA1 numsL1 numsC1 n1 K h := by kernel_rfl
theorem head_may.chk : fnOk (cx head_may.lo head_may.od) Tryz.f176 (Tryz.f176.body.getD .skip) 2 = true := by kernel_rfl
theorem head_may.ok {numsA1 : Option Addr} {numsL1 : Nat} {numsC1 : Nat} {n1 : Int} {K : Value → Heap → Prop} {h : Heap} (hx : head_may numsA1 numsL1 numsC1 n1 K h) : C.head_may numsA1 numsL1 numsC1 n1 h K :=
  fn_to (cxOk _ _) Tryz.func176 (by kernel_rfl) head_may.chk (by rw [head_may.eq]; exact hx)
def head_areBlocks (dataA1 : Option Addr) (dataL1 : Nat) (dataC1 : Nat) (n1 : Int) (K : Value → Heap → Prop) (h1 : Heap) : Prop :=
  ∃ (I1 : Int → Heap → Prop) (M1 : Int → Heap → Nat), I1 0 h1 ∧
  ∀ (n2 : Int), ∀ h2 : Heap, I1 n2 h2 →
  bif (decide (n2 < (dataL1 : Int))) then (
  (0 ≤ n2 ∧ n2 < (dataL1 : Int)) ∧
  onSome dataA1 fun p1 =>
  ∃ (sA1 : Option Addr) (sL1 : Nat) (sC1 : Nat), cellOf h2 (Addr.add p1 (Int.toNat n2)) = some (.slice sA1 sL1 sC1) ∧
  bif ((sL1 : Int) != 512) then (
  K (.bool false) h2) else (
  I1 (IntKind.wrap .i64 (n2 + 1)) h2 ∧ M1 (IntKind.wrap .i64 (n2 + 1)) h2 < M1 n2 h2)) else (
  K (.bool ((dataL1 : Int) == n1)) h2)
def head_areBlocks.lo : Nat → List Nat × List (Nat × Ty) := fun n => match n with | 2 => ([0, 1, 7, 8], [(9, .int .i64)]) | _ => ([], [])
def head_areBlocks.od : Nat → Od := fun n => match n with | _ => .nil
theorem head_areBlocks.eq (dataA1 : Option Addr) (dataL1 : Nat) (dataC1 : Nat) (n1 : Int) (K : Value → Heap → Prop) (h : Heap) : fnX (cx head_areBlocks.lo head_areBlocks.od) Tryz.f177 (Tryz.f177.body.getD .skip) [.slice dataA1 dataL1 dataC1, .int .i64 n1] K h = head_areBlocks dataA1 dataL1 dataC1 n1 K h := by kernel_rfl
theorem head_areBlocks.chk : fnOk (cx head_areBlocks.lo head_areBlocks.od) Tryz.f177 (Tryz.f177.body.getD .skip) 2 = true := by kernel_rfl
theorem head_areBlocks.ok {dataA1 : Option Addr} {dataL1 : Nat} {dataC1 : Nat} {n1 : Int} {K : Value → Heap → Prop} {h : Heap} (hx : head_areBlocks dataA1 dataL1 dataC1 n1 K h) : C.head_areBlocks dataA1 dataL1 dataC1 n1 h K :=
  fn_to (cxOk _ _) Tryz.func177 (by kernel_rfl) head_areBlocks.chk (by rw [head_areBlocks.eq]; exact hx)
def rec_PutText (bA1 : Option Addr) (bL1 : Nat) (bC1 : Nat) (at1 : Int) (n1 : Int) (s1 : ByteArray) (K : Value → Heap → Prop) (h1 : Heap) : Prop :=
  bif (decide (n1 < 0)) then (
  K (.int .i64 1) h1) else (
  bif (decide ((s1.size : Int) > n1)) then (
  K (.int .i64 1) h1) else (
  NewS s1 5 h1 fun cap1 h2 =>
  C.rec_ahead (some ⟨h1.size, 0, none⟩) s1.size cap1 h2 fun r1 h3 =>
  ∃ (n2 : Int), r1 = .int .i64 n2 ∧
  bif (decide (n2 < (s1.size : Int))) then (
  K (.int .i64 1) h3) else (
  C.rec_lie bA1 bL1 bC1 at1 n1 h3 fun r2 h4 =>
  ∃ (b1 : Bool), r2 = .bool b1 ∧
  bif (!b1) then (
  K (.int .i64 20) h4) else (
  (0 ≤ at1 ∧ at1 ≤ (IntKind.wrap .i64 (at1 + n1)) ∧ (IntKind.wrap .i64 (at1 + n1)) ≤ (bC1 : Int)) ∧
  CopyP ti5 (if bC1 = (Int.toNat at1) then bA1 else Option.map (Addr.add · (Int.toNat at1)) bA1) ((Int.toNat (IntKind.wrap .i64 (at1 + n1))) - (Int.toNat at1)) (.string s1) h4 fun n3 h5 =>
  (0 ≤ (IntKind.wrap .i64 (at1 + (n3 : Int))) ∧ (IntKind.wrap .i64 (at1 + (n3 : Int))) ≤ (IntKind.wrap .i64 (at1 + n1)) ∧ (IntKind.wrap .i64 (at1 + n1)) ≤ (bC1 : Int)) ∧
  ClearP ti5 (if bC1 = (Int.toNat (IntKind.wrap .i64 (at1 + (n3 : Int)))) then bA1 else Option.map (Addr.add · (Int.toNat (IntKind.wrap .i64 (at1 + (n3 : Int))))) bA1) ((Int.toNat (IntKind.wrap .i64 (at1 + n1))) - (Int.toNat (IntKind.wrap .i64 (at1 + (n3 : Int))))) h5 fun h6 =>
  K (.int .i64 0) h6))))
def rec_PutText.lo : Nat → List Nat × List (Nat × Ty) := fun n => match n with | _ => ([], [])
def rec_PutText.od : Nat → Od := fun n => match n with | _ => .nil
theorem rec_PutText.eq (bA1 : Option Addr) (bL1 : Nat) (bC1 : Nat) (at1 : Int) (n1 : Int) (s1 : ByteArray) (K : Value → Heap → Prop) (h : Heap) : fnX (cx rec_PutText.lo rec_PutText.od) Tryz.f178 (Tryz.f178.body.getD .skip) [.slice bA1 bL1 bC1, .int .i64 at1, .int .i64 n1, .string s1] K h = rec_PutText bA1 bL1 bC1 at1 n1 s1 K h := by kernel_rfl
theorem rec_PutText.chk : fnOk (cx rec_PutText.lo rec_PutText.od) Tryz.f178 (Tryz.f178.body.getD .skip) 4 = true := by kernel_rfl
theorem rec_PutText.ok {bA1 : Option Addr} {bL1 : Nat} {bC1 : Nat} {at1 : Int} {n1 : Int} {s1 : ByteArray} {K : Value → Heap → Prop} {h : Heap} (hx : rec_PutText bA1 bL1 bC1 at1 n1 s1 K h) : C.rec_PutText bA1 bL1 bC1 at1 n1 s1 h K :=
  fn_to (cxOk _ _) Tryz.func178 (by kernel_rfl) rec_PutText.chk (by rw [rec_PutText.eq]; exact hx)
def rec_Put (bA1 : Option Addr) (bL1 : Nat) (bC1 : Nat) (at1 : Int) (n1 : Int) (v1 : Int) (K : Value → Heap → Prop) (h1 : Heap) : Prop :=
  C.rec_isWidth n1 h1 fun r1 h2 =>
  ∃ (b1 : Bool), r1 = .bool b1 ∧
  bif (!b1) then (
  K (.int .i64 1) h2) else (
  bif (decide (n1 < 8)) then (
  if (IntKind.wrap .i64 (8 * n1)) < 0 then False else
  bif ((Int.fdiv v1 (2 ^ min (Int.toNat (IntKind.wrap .i64 (8 * n1))) 64)) != 0) then (
  K (.int .i64 1) h2) else (
  C.rec_lie bA1 bL1 bC1 at1 n1 h2 fun r2 h3 =>
  ∃ (b2 : Bool), r2 = .bool b2 ∧
  bif (!b2) then (
  K (.int .i64 20) h3) else (
  ∃ (I1 : Int → Heap → Prop) (M1 : Int → Heap → Nat), I1 0 h3 ∧
  ∀ (n2 : Int), ∀ h4 : Heap, I1 n2 h4 →
  bif (decide (n2 < n1)) then (
  if (IntKind.wrap .i64 (8 * n2)) < 0 then False else
  (0 ≤ (IntKind.wrap .i64 (at1 + n2)) ∧ (IntKind.wrap .i64 (at1 + n2)) < (bL1 : Int)) ∧
  onSome bA1 fun p1 =>
  Put (Addr.add p1 (Int.toNat (IntKind.wrap .i64 (at1 + n2)))) (.int .u8 (IntKind.wrap .u8 ((Int.fdiv v1 (2 ^ min (Int.toNat (IntKind.wrap .i64 (8 * n2))) 64))))) h4 fun h5 =>
  I1 (IntKind.wrap .i64 (n2 + 1)) h5 ∧ M1 (IntKind.wrap .i64 (n2 + 1)) h5 < M1 n2 h4) else (
  K (.int .i64 0) h4)))) else (
  C.rec_lie bA1 bL1 bC1 at1 n1 h2 fun r3 h6 =>
  ∃ (b3 : Bool), r3 = .bool b3 ∧
  bif (!b3) then (
  K (.int .i64 20) h6) else (
  ∃ (I2 : Int → Heap → Prop) (M2 : Int → Heap → Nat), I2 0 h6 ∧
  ∀ (n3 : Int), ∀ h7 : Heap, I2 n3 h7 →
  bif (decide (n3 < n1)) then (
  if (IntKind.wrap .i64 (8 * n3)) < 0 then False else
  (0 ≤ (IntKind.wrap .i64 (at1 + n3)) ∧ (IntKind.wrap .i64 (at1 + n3)) < (bL1 : Int)) ∧
  onSome bA1 fun p2 =>
  Put (Addr.add p2 (Int.toNat (IntKind.wrap .i64 (at1 + n3)))) (.int .u8 (IntKind.wrap .u8 ((Int.fdiv v1 (2 ^ min (Int.toNat (IntKind.wrap .i64 (8 * n3))) 64))))) h7 fun h8 =>
  I2 (IntKind.wrap .i64 (n3 + 1)) h8 ∧ M2 (IntKind.wrap .i64 (n3 + 1)) h8 < M2 n3 h7) else (
  K (.int .i64 0) h7))))
def rec_Put.lo : Nat → List Nat × List (Nat × Ty) := fun n => match n with | 6 => ([0, 1, 3, 31], [(32, .int .i64)]) | _ => ([], [])
def rec_Put.od : Nat → Od := fun n => match n with | _ => .nil
theorem rec_Put.eq (bA1 : Option Addr) (bL1 : Nat) (bC1 : Nat) (at1 : Int) (n1 : Int) (v1 : Int) (K : Value → Heap → Prop) (h : Heap) : fnX (cx rec_Put.lo rec_Put.od) Tryz.f179 (Tryz.f179.body.getD .skip) [.slice bA1 bL1 bC1, .int .i64 at1, .int .i64 n1, .int .u64 v1] K h = rec_Put bA1 bL1 bC1 at1 n1 v1 K h := by kernel_rfl
theorem rec_Put.chk : fnOk (cx rec_Put.lo rec_Put.od) Tryz.f179 (Tryz.f179.body.getD .skip) 4 = true := by kernel_rfl
theorem rec_Put.ok {bA1 : Option Addr} {bL1 : Nat} {bC1 : Nat} {at1 : Int} {n1 : Int} {v1 : Int} {K : Value → Heap → Prop} {h : Heap} (hx : rec_Put bA1 bL1 bC1 at1 n1 v1 K h) : C.rec_Put bA1 bL1 bC1 at1 n1 v1 h K :=
  fn_to (cxOk _ _) Tryz.func179 (by kernel_rfl) rec_Put.chk (by rw [rec_Put.eq]; exact hx)
def head_sumOf (headA1 : Option Addr) (headL1 : Nat) (headC1 : Nat) (piecesA1 : Option Addr) (piecesL1 : Nat) (piecesC1 : Nat) (K : Value → Heap → Prop) (h1 : Heap) : Prop :=
  C.bytes_Clone headA1 headL1 headC1 h1 fun r1 h2 =>
  ∃ (sA1 : Option Addr) (sL1 : Nat) (sC1 : Nat), r1 = .slice sA1 sL1 sC1 ∧
  C.rec_Put sA1 sL1 sC1 12 4 0 h2 fun r2 h3 =>
  ∃ (n1 : Int), r2 = .int .i64 n1 ∧
  C.sum_Of sA1 sL1 sC1 h3 fun r3 h4 =>
  ∃ (n2 : Int), r3 = .int .u32 n2 ∧
  ∃ (I1 : Int → Int → Heap → Prop) (M1 : Int → Int → Heap → Nat), I1 n2 0 h4 ∧
  ∀ (s1 : Int) (n3 : Int), ∀ h5 : Heap, I1 s1 n3 h5 →
  bif (decide (n3 < (piecesL1 : Int))) then (
  (0 ≤ n3 ∧ n3 < (piecesL1 : Int)) ∧
  onSome piecesA1 fun p1 =>
  ∃ (sA2 : Option Addr) (sL2 : Nat) (sC2 : Nat), cellOf h5 (Addr.add p1 (Int.toNat n3)) = some (.slice sA2 sL2 sC2) ∧
  C.sum_Of sA2 sL2 sC2 h5 fun r4 h6 =>
  ∃ (n4 : Int), r4 = .int .u32 n4 ∧
  C.sum_Join s1 n4 (sL2 : Int) h6 fun r5 h7 =>
  ∃ (n5 : Int) (n6 : Int), r5 = .tuple #[.int .u32 n5, .int .i64 n6] ∧
  I1 n5 (IntKind.wrap .i64 (n3 + 1)) h7 ∧ M1 n5 (IntKind.wrap .i64 (n3 + 1)) h7 < M1 s1 n3 h5) else (
  K (.int .u32 s1) h5)
def head_sumOf.lo : Nat → List Nat × List (Nat × Ty) := fun n => match n with | 5 => ([15, 16], [(6, .int .u32), (17, .int .i64)]) | _ => ([], [])
def head_sumOf.od : Nat → Od := fun n => match n with | _ => .nil
theorem head_sumOf.eq (headA1 : Option Addr) (headL1 : Nat) (headC1 : Nat) (piecesA1 : Option Addr) (piecesL1 : Nat) (piecesC1 : Nat) (K : Value → Heap → Prop) (h : Heap) : fnX (cx head_sumOf.lo head_sumOf.od) Tryz.f180 (Tryz.f180.body.getD .skip) [.slice headA1 headL1 headC1, .slice piecesA1 piecesL1 piecesC1] K h = head_sumOf headA1 headL1 headC1 piecesA1 piecesL1 piecesC1 K h := by kernel_rfl
theorem head_sumOf.chk : fnOk (cx head_sumOf.lo head_sumOf.od) Tryz.f180 (Tryz.f180.body.getD .skip) 2 = true := by kernel_rfl
theorem head_sumOf.ok {headA1 : Option Addr} {headL1 : Nat} {headC1 : Nat} {piecesA1 : Option Addr} {piecesL1 : Nat} {piecesC1 : Nat} {K : Value → Heap → Prop} {h : Heap} (hx : head_sumOf headA1 headL1 headC1 piecesA1 piecesL1 piecesC1 K h) : C.head_sumOf headA1 headL1 headC1 piecesA1 piecesL1 piecesC1 h K :=
  fn_to (cxOk _ _) Tryz.func180 (by kernel_rfl) head_sumOf.chk (by rw [head_sumOf.eq]; exact hx)
def wal_steps_write_c1 (d1 : Option Addr) (cap1 : Option Addr) (cap2 : Option Addr) (K : Value → Heap → Prop) (h1 : Heap) : Prop :=
  onSome cap1 fun p1 =>
  ∃ (n1 : Int), cellOf h1 p1 = some (.int .i64 n1) ∧
  onSome cap2 fun p2 =>
  ∃ (sA1 : Option Addr) (sL1 : Nat) (sC1 : Nat), cellOf h1 p2 = some (.slice sA1 sL1 sC1) ∧
  C.adisk_Disk_Write d1 n1 sA1 sL1 sC1 h1 fun r1 h2 =>
  ∃ (n2 : Int), r1 = .int .i64 n2 ∧
  K (.int .i64 n2) h2
def wal_steps_write_c1.lo : Nat → List Nat × List (Nat × Ty) := fun n => match n with | _ => ([], [])
def wal_steps_write_c1.od : Nat → Od := fun n => match n with | _ => .nil
theorem wal_steps_write_c1.eq (d1 : Option Addr) (cap1 : Option Addr) (cap2 : Option Addr) (K : Value → Heap → Prop) (h : Heap) : fnX (cx wal_steps_write_c1.lo wal_steps_write_c1.od) Tryz.f181 (Tryz.f181.body.getD .skip) [.pointer d1, .pointer cap1, .pointer cap2] K h = wal_steps_write_c1 d1 cap1 cap2 K h := by kernel_rfl
theorem wal_steps_write_c1.chk : fnOk (cx wal_steps_write_c1.lo wal_steps_write_c1.od) Tryz.f181 (Tryz.f181.body.getD .skip) 3 = true := by kernel_rfl
theorem wal_steps_write_c1.ok {d1 : Option Addr} {cap1 : Option Addr} {cap2 : Option Addr} {K : Value → Heap → Prop} {h : Heap} (hx : wal_steps_write_c1 d1 cap1 cap2 K h) : C.wal_steps_write_c1 d1 cap1 cap2 h K :=
  fn_to (cxOk _ _) Tryz.func181 (by kernel_rfl) wal_steps_write_c1.chk (by rw [wal_steps_write_c1.eq]; exact hx)
def wal_steps_flush_c1 (d1 : Option Addr) (K : Value → Heap → Prop) (h1 : Heap) : Prop :=
  C.adisk_Disk_Flush d1 h1 fun r1 h2 =>
  ∃ (n1 : Int), r1 = .int .i64 n1 ∧
  K (.int .i64 n1) h2
def wal_steps_flush_c1.lo : Nat → List Nat × List (Nat × Ty) := fun n => match n with | _ => ([], [])
def wal_steps_flush_c1.od : Nat → Od := fun n => match n with | _ => .nil
theorem wal_steps_flush_c1.eq (d1 : Option Addr) (K : Value → Heap → Prop) (h : Heap) : fnX (cx wal_steps_flush_c1.lo wal_steps_flush_c1.od) Tryz.f182 (Tryz.f182.body.getD .skip) [.pointer d1] K h = wal_steps_flush_c1 d1 K h := by kernel_rfl
theorem wal_steps_flush_c1.chk : fnOk (cx wal_steps_flush_c1.lo wal_steps_flush_c1.od) Tryz.f182 (Tryz.f182.body.getD .skip) 1 = true := by kernel_rfl
theorem wal_steps_flush_c1.ok {d1 : Option Addr} {K : Value → Heap → Prop} {h : Heap} (hx : wal_steps_flush_c1 d1 K h) : C.wal_steps_flush_c1 d1 h K :=
  fn_to (cxOk _ _) Tryz.func182 (by kernel_rfl) wal_steps_flush_c1.chk (by rw [wal_steps_flush_c1.eq]; exact hx)
def head_Nums.k1 (headA1 : Option Addr) (headL1 : Nat) (headC1 : Nat) (n1 : Int) (h3 : Heap) (n3 : Int) (K : Value → Heap → Prop) : Prop :=
  ∃ (I1 : Option Addr → Nat → Nat → Int → Heap → Prop) (M1 : Option Addr → Nat → Nat → Int → Heap → Nat), I1 none 0 0 0 h3 ∧
  ∀ (numsA1 : Option Addr) (numsL1 : Nat) (numsC1 : Nat) (n5 : Int), ∀ h4 : Heap, I1 numsA1 numsL1 numsC1 n5 h4 →
  bif (decide (n5 < (IntKind.wrap .i64 (n3)))) then (
  C.rec_Get headA1 headL1 headC1 (IntKind.wrap .i64 (16 + (IntKind.wrap .i64 (4 * n5)))) 4 h4 fun r3 h5 =>
  ∃ (n6 : Int) (n7 : Int), r3 = .tuple #[.int .u64 n6, .int .i64 n7] ∧
  New [.int .i64 (IntKind.wrap .i64 (n6))] 3 h5 fun h6 =>
  ∃ new1 : List Value, List.length new1 = 1 * 1 ∧ SlCells h6 (some ⟨h5.size, 0, none⟩) new1 ∧ (∀ v ∈ new1, v.oneCell' = true) ∧
  AppendP ti3 3 numsA1 numsL1 numsC1 1 new1 h6 fun sA1 sL1 sC1 h7 =>
  I1 sA1 sL1 sC1 (IntKind.wrap .i64 (n5 + 1)) h7 ∧ M1 sA1 sL1 sC1 (IntKind.wrap .i64 (n5 + 1)) h7 < M1 numsA1 numsL1 numsC1 n5 h4) else (
  C.rec_Zero headA1 headL1 headC1 10 2 h4 fun r4 h8 =>
  ∃ (b2 : Bool) (n8 : Int), r4 = .tuple #[.bool b2, .int .i64 n8] ∧
  C.rec_Zero headA1 headL1 headC1 (IntKind.wrap .i64 (16 + (IntKind.wrap .i64 (4 * (numsL1 : Int))))) (IntKind.wrap .i64 (512 - (IntKind.wrap .i64 (16 + (IntKind.wrap .i64 (4 * (numsL1 : Int))))))) h8 fun r5 h9 =>
  ∃ (b3 : Bool) (n9 : Int), r5 = .tuple #[.bool b3, .int .i64 n9] ∧
  bif (!b2) then (
  K (.tuple #[.slice none 0 0, .int .i64 41]) h9) else (
  bif (!b3) then (
  K (.tuple #[.slice none 0 0, .int .i64 41]) h9) else (
  C.head_may numsA1 numsL1 numsC1 n1 h9 fun r6 h10 =>
  ∃ (b4 : Bool), r6 = .bool b4 ∧
  bif (!b4) then (
  K (.tuple #[.slice none 0 0, .int .i64 41]) h10) else (
  K (.tuple #[.slice numsA1 numsL1 numsC1, .int .i64 0]) h10))))
def head_Nums (headA1 : Option Addr) (headL1 : Nat) (headC1 : Nat) (n1 : Int) (K : Value → Heap → Prop) (h1 : Heap) : Prop :=
  bif ((headL1 : Int) != 512) then (
  K (.tuple #[.slice none 0 0, .int .i64 32]) h1) else (
  C.rec_Zero headA1 headL1 headC1 0 512 h1 fun r1 h2 =>
  ∃ (b1 : Bool) (n2 : Int), r1 = .tuple #[.bool b1, .int .i64 n2] ∧
  bif b1 then (
  K (.tuple #[.slice none 0 0, .int .i64 0]) h2) else (
  C.rec_Get headA1 headL1 headC1 8 2 h2 fun r2 h3 =>
  ∃ (n3 : Int) (n4 : Int), r2 = .tuple #[.int .u64 n3, .int .i64 n4] ∧
  (0 ≤ (8 : Int) ∧ (8 : Int) ≤ (headC1 : Int)) ∧
  ∃ bs1 : List UInt8, StrAt h3 headA1 (Int.toNat 8) bs1 ∧
  bif (!((mkStr bs1).toList == (mkStr [66, 79, 76, 69, 76, 79, 71, 49]).toList)) then (
  K (.tuple #[.slice none 0 0, .int .i64 41]) h3) else (
  bif (decide (n3 > 96)) then (
  K (.tuple #[.slice none 0 0, .int .i64 41]) h3) else (
  head_Nums.k1 headA1 headL1 headC1 n1 h3 n3 K))))
def head_Nums.lo : Nat → List Nat × List (Nat × Ty) := fun n => match n with | 11 => ([0, 1, 42], [(10, .slice), (43, .int .i64)]) | _ => ([], [])
def head_Nums.od : Nat → Od := fun n => match n with | _ => .nil
theorem head_Nums.eq (headA1 : Option Addr) (headL1 : Nat) (headC1 : Nat) (n1 : Int) (K : Value → Heap → Prop) (h : Heap) : fnX (cx head_Nums.lo head_Nums.od) Tryz.f184 (Tryz.f184.body.getD .skip) [.slice headA1 headL1 headC1, .int .i64 n1] K h = head_Nums headA1 headL1 headC1 n1 K h := by kernel_rfl
theorem head_Nums.chk : fnOk (cx head_Nums.lo head_Nums.od) Tryz.f184 (Tryz.f184.body.getD .skip) 2 = true := by kernel_rfl
theorem head_Nums.ok {headA1 : Option Addr} {headL1 : Nat} {headC1 : Nat} {n1 : Int} {K : Value → Heap → Prop} {h : Heap} (hx : head_Nums headA1 headL1 headC1 n1 K h) : C.head_Nums headA1 headL1 headC1 n1 h K :=
  fn_to (cxOk _ _) Tryz.func184 (by kernel_rfl) head_Nums.chk (by rw [head_Nums.eq]; exact hx)
def head_Good.k1 (headA1 : Option Addr) (headL1 : Nat) (headC1 : Nat) (dataA1 : Option Addr) (dataL1 : Nat) (dataC1 : Nat) (h4 : Heap) (K : Value → Heap → Prop) : Prop :=
  C.rec_Get headA1 headL1 headC1 12 4 h4 fun r3 h5 =>
  ∃ (n3 : Int) (n4 : Int), r3 = .tuple #[.int .u64 n3, .int .i64 n4] ∧
  C.head_sumOf headA1 headL1 headC1 dataA1 dataL1 dataC1 h5 fun r4 h6 =>
  ∃ (n5 : Int), r4 = .int .u32 n5 ∧
  K (.bool ((IntKind.wrap .u32 (n3)) == n5)) h6
def head_Good (headA1 : Option Addr) (headL1 : Nat) (headC1 : Nat) (n1 : Int) (dataA1 : Option Addr) (dataL1 : Nat) (dataC1 : Nat) (K : Value → Heap → Prop) (h1 : Heap) : Prop :=
  C.head_Nums headA1 headL1 headC1 n1 h1 fun r1 h2 =>
  ∃ (sA1 : Option Addr) (sL1 : Nat) (sC1 : Nat) (n2 : Int), r1 = .tuple #[.slice sA1 sL1 sC1, .int .i64 n2] ∧
  bif (n2 != 0) then (
  K (.bool false) h2) else (
  bif ((sL1 : Int) == 0) then (
  K (.bool false) h2) else (
  C.head_areBlocks dataA1 dataL1 dataC1 (sL1 : Int) h2 fun r2 h3 =>
  ∃ (b1 : Bool), r2 = .bool b1 ∧
  bif (!b1) then (
  K (.bool false) h3) else (
  head_Good.k1 headA1 headL1 headC1 dataA1 dataL1 dataC1 h3 K)))
def head_Good.lo : Nat → List Nat × List (Nat × Ty) := fun n => match n with | _ => ([], [])
def head_Good.od : Nat → Od := fun n => match n with | _ => .nil
theorem head_Good.eq (headA1 : Option Addr) (headL1 : Nat) (headC1 : Nat) (n1 : Int) (dataA1 : Option Addr) (dataL1 : Nat) (dataC1 : Nat) (K : Value → Heap → Prop) (h : Heap) : fnX (cx head_Good.lo head_Good.od) Tryz.f185 (Tryz.f185.body.getD .skip) [.slice headA1 headL1 headC1, .int .i64 n1, .slice dataA1 dataL1 dataC1] K h = head_Good headA1 headL1 headC1 n1 dataA1 dataL1 dataC1 K h := by kernel_rfl
theorem head_Good.chk : fnOk (cx head_Good.lo head_Good.od) Tryz.f185 (Tryz.f185.body.getD .skip) 3 = true := by kernel_rfl
theorem head_Good.ok {headA1 : Option Addr} {headL1 : Nat} {headC1 : Nat} {n1 : Int} {dataA1 : Option Addr} {dataL1 : Nat} {dataC1 : Nat} {K : Value → Heap → Prop} {h : Heap} (hx : head_Good headA1 headL1 headC1 n1 dataA1 dataL1 dataC1 K h) : C.head_Good headA1 headL1 headC1 n1 dataA1 dataL1 dataC1 h K :=
  fn_to (cxOk _ _) Tryz.func185 (by kernel_rfl) head_Good.chk (by rw [head_Good.eq]; exact hx)
def boleref05_split (lA1 : Option Addr) (lL1 : Nat) (lC1 : Nat) (K : Value → Heap → Prop) (h1 : Heap) : Prop :=
  ∃ (I1 : Option Addr → Nat → Nat → Option Addr → Nat → Nat → Int → Heap → Prop) (M1 : Option Addr → Nat → Nat → Option Addr → Nat → Nat → Int → Heap → Nat), I1 none 0 0 none 0 0 0 h1 ∧
  ∀ (numsA1 : Option Addr) (numsL1 : Nat) (numsC1 : Nat) (dataA1 : Option Addr) (dataL1 : Nat) (dataC1 : Nat) (i1 : Int), ∀ h2 : Heap, I1 numsA1 numsL1 numsC1 dataA1 dataL1 dataC1 i1 h2 →
  bif (decide (i1 < (lL1 : Int))) then (
  (0 ≤ i1 ∧ i1 < (lL1 : Int)) ∧
  onSome lA1 fun p1 =>
  ∃ (n1 : Int), cellOf h2 (Addr.add (Addr.add p1 ((Int.toNat i1) * 2)) 0) = some (.int .i64 n1) ∧
  New [.int .i64 n1] 3 h2 fun h3 =>
  ∃ new1 : List Value, List.length new1 = 1 * 1 ∧ SlCells h3 (some ⟨h2.size, 0, none⟩) new1 ∧ (∀ v ∈ new1, v.oneCell' = true) ∧
  AppendP ti3 3 numsA1 numsL1 numsC1 1 new1 h3 fun sA1 sL1 sC1 h4 =>
  (0 ≤ i1 ∧ i1 < (lL1 : Int)) ∧
  onSome lA1 fun p2 =>
  ∃ (sA2 : Option Addr) (sL2 : Nat) (sC2 : Nat), cellOf h4 (Addr.add (Addr.add p2 ((Int.toNat i1) * 2)) 1) = some (.slice sA2 sL2 sC2) ∧
  New [.slice sA2 sL2 sC2] 37 h4 fun h5 =>
  ∃ new2 : List Value, List.length new2 = 1 * 1 ∧ SlCells h5 (some ⟨h4.size, 0, none⟩) new2 ∧ (∀ v ∈ new2, v.oneCell' = true) ∧
  AppendP ti37 37 dataA1 dataL1 dataC1 1 new2 h5 fun sA3 sL3 sC3 h6 =>
  I1 sA1 sL1 sC1 sA3 sL3 sC3 (IntKind.wrap .i64 (i1 + 1)) h6 ∧ M1 sA1 sL1 sC1 sA3 sL3 sC3 (IntKind.wrap .i64 (i1 + 1)) h6 < M1 numsA1 numsL1 numsC1 dataA1 dataL1 dataC1 i1 h2) else (
  K (.tuple #[.slice numsA1 numsL1 numsC1, .slice dataA1 dataL1 dataC1]) h2)
def boleref05_split.lo : Nat → List Nat × List (Nat × Ty) := fun n => match n with | 4 => ([0], [(4, .slice), (5, .slice), (6, .int .i64)]) | _ => ([], [])
def boleref05_split.od : Nat → Od := fun n => match n with | _ => .nil
theorem boleref05_split.eq (lA1 : Option Addr) (lL1 : Nat) (lC1 : Nat) (K : Value → Heap → Prop) (h : Heap) : fnX (cx boleref05_split.lo boleref05_split.od) Tryz.f186 (Tryz.f186.body.getD .skip) [.slice lA1 lL1 lC1] K h = boleref05_split lA1 lL1 lC1 K h := by kernel_rfl
theorem boleref05_split.chk : fnOk (cx boleref05_split.lo boleref05_split.od) Tryz.f186 (Tryz.f186.body.getD .skip) 1 = true := by kernel_rfl
theorem boleref05_split.ok {lA1 : Option Addr} {lL1 : Nat} {lC1 : Nat} {K : Value → Heap → Prop} {h : Heap} (hx : boleref05_split lA1 lL1 lC1 K h) : C.boleref05_split lA1 lL1 lC1 h K :=
  fn_to (cxOk _ _) Tryz.func186 (by kernel_rfl) boleref05_split.chk (by rw [boleref05_split.eq]; exact hx)
def boleref05_may.k1 (numsA1 : Option Addr) (numsL1 : Nat) (n1 : Int) (h1 : Heap) (K : Value → Heap → Prop) : Prop :=
  ∃ (I1 : Int → Heap → Prop) (M1 : Int → Heap → Nat), I1 0 h1 ∧
  ∀ (i1 : Int), ∀ h2 : Heap, I1 i1 h2 →
  bif (decide (i1 < (numsL1 : Int))) then (
  (0 ≤ i1 ∧ i1 < (numsL1 : Int)) ∧
  onSome numsA1 fun p1 =>
  ∃ (n2 : Int), cellOf h2 (Addr.add p1 (Int.toNat i1)) = some (.int .i64 n2) ∧
  bif (decide (n2 < 98)) then (
  K (.bool false) h2) else (
  (0 ≤ i1 ∧ i1 < (numsL1 : Int)) ∧
  onSome numsA1 fun p2 =>
  ∃ (n3 : Int), cellOf h2 (Addr.add p2 (Int.toNat i1)) = some (.int .i64 n3) ∧
  bif (decide (n3 ≥ n1)) then (
  K (.bool false) h2) else (
  bif (decide (i1 > 0)) then (
  (0 ≤ i1 ∧ i1 < (numsL1 : Int)) ∧
  onSome numsA1 fun p3 =>
  ∃ (n4 : Int), cellOf h2 (Addr.add p3 (Int.toNat i1)) = some (.int .i64 n4) ∧
  (0 ≤ (IntKind.wrap .i64 (i1 - 1)) ∧ (IntKind.wrap .i64 (i1 - 1)) < (numsL1 : Int)) ∧
  onSome numsA1 fun p4 =>
  ∃ (n5 : Int), cellOf h2 (Addr.add p4 (Int.toNat (IntKind.wrap .i64 (i1 - 1)))) = some (.int .i64 n5) ∧
  bif (decide (n4 ≤ n5)) then (
  K (.bool false) h2) else (
  I1 (IntKind.wrap .i64 (i1 + 1)) h2 ∧ M1 (IntKind.wrap .i64 (i1 + 1)) h2 < M1 i1 h2)) else (
  I1 (IntKind.wrap .i64 (i1 + 1)) h2 ∧ M1 (IntKind.wrap .i64 (i1 + 1)) h2 < M1 i1 h2)))) else (
  K (.bool true) h2)
def boleref05_may (numsA1 : Option Addr) (numsL1 : Nat) (numsC1 : Nat) (n1 : Int) (K : Value → Heap → Prop) (h1 : Heap) : Prop :=
  bif (decide ((numsL1 : Int) < 1)) then (
  K (.bool false) h1) else (
  bif (decide ((numsL1 : Int) > 96)) then (
  K (.bool false) h1) else (
  boleref05_may.k1 numsA1 numsL1 n1 h1 K))
def boleref05_may.lo : Nat → List Nat × List (Nat × Ty) := fun n => match n with | 4 => ([0, 1], [(5, .int .i64)]) | _ => ([], [])
def boleref05_may.od : Nat → Od := fun n => match n with | 6 => (.op 0 [] (.op 1 [] (.op 2 [] (.op 3 [] (.op 4 [] (.op 5 [] (.op 6 [] (.op 7 [] (.op 8 [] (.op 9 [] (.op 10 [] (.op 11 [] (.op 12 [] (.op 13 [] (.op 14 [] (.op 15 [] (.op 16 [] (.op 17 [] (.op 18 [] (.op 19 [] (.op 20 [] (.op 21 [] (.op 22 [] (.op 23 [] (.op 24 [] (.op 25 [] (.op 26 [] (.op 27 [] (.op 28 [] .nil))))))))))))))))))))))))))))) | _ => .nil
theorem boleref05_may.eq (numsA1 : Option Addr) (numsL1 : Nat) (numsC1 : Nat) (n1 : Int) (K : Value → Heap → Prop) (h : Heap) : fnX (cx boleref05_may.lo boleref05_may.od) Tryz.f187 (Tryz.f187.body.getD .skip) [.slice numsA1 numsL1 numsC1, .int .i64 n1] K h = boleref05_may numsA1 numsL1 numsC1 n1 K h := by kernel_rfl
theorem boleref05_may.chk : fnOk (cx boleref05_may.lo boleref05_may.od) Tryz.f187 (Tryz.f187.body.getD .skip) 2 = true := by kernel_rfl
theorem boleref05_may.ok {numsA1 : Option Addr} {numsL1 : Nat} {numsC1 : Nat} {n1 : Int} {K : Value → Heap → Prop} {h : Heap} (hx : boleref05_may numsA1 numsL1 numsC1 n1 K h) : C.boleref05_may numsA1 numsL1 numsC1 n1 h K :=
  fn_to (cxOk _ _) Tryz.func187 (by kernel_rfl) boleref05_may.chk (by rw [boleref05_may.eq]; exact hx)
def boleref04_Make (numsA1 : Option Addr) (numsL1 : Nat) (numsC1 : Nat) (dataA1 : Option Addr) (dataL1 : Nat) (dataC1 : Nat) (K : Value → Heap → Prop) (h1 : Heap) : Prop :=
  C.boleref04_may numsA1 numsL1 numsC1 16384 h1 fun r1 h2 =>
  ∃ (b1 : Bool), r1 = .bool b1 ∧
  bif (!b1) then (
  K (.tuple #[.slice none 0 0, .int .i64 40]) h2) else (
  C.boleref04_blocks dataA1 dataL1 dataC1 (numsL1 : Int) h2 fun r2 h3 =>
  ∃ (b2 : Bool), r2 = .bool b2 ∧
  bif (!b2) then (
  K (.tuple #[.slice none 0 0, .int .i64 32]) h3) else (
  C.boleref04_SumOf numsA1 numsL1 numsC1 dataA1 dataL1 dataC1 h3 fun r3 h4 =>
  ∃ (n1 : Int), r3 = .int .u32 n1 ∧
  C.boleref04_laid numsA1 numsL1 numsC1 n1 h4 fun r4 h5 =>
  ∃ (sA1 : Option Addr) (sL1 : Nat) (sC1 : Nat), r4 = .slice sA1 sL1 sC1 ∧
  K (.tuple #[.slice sA1 sL1 sC1, .int .i64 0]) h5))
def boleref04_Make.lo : Nat → List Nat × List (Nat × Ty) := fun n => match n with | _ => ([], [])
def boleref04_Make.od : Nat → Od := fun n => match n with | _ => .nil
set_option maxRecDepth 1000000 in
theorem boleref04_Make.eq (numsA1 : Option Addr) (numsL1 : Nat) (numsC1 : Nat) (dataA1 : Option Addr) (dataL1 : Nat) (dataC1 : Nat) (K : Value → Heap → Prop) (h : Heap) : fnX (cx boleref04_Make.lo boleref04_Make.od) Tryz.f188 (Tryz.f188.body.getD .skip) [.slice numsA1 numsL1 numsC1, .slice dataA1 dataL1 dataC1] K h = boleref04_Make numsA1 numsL1 numsC1 dataA1 dataL1 dataC1 K h := by kernel_rfl
theorem boleref04_Make.chk : fnOk (cx boleref04_Make.lo boleref04_Make.od) Tryz.f188 (Tryz.f188.body.getD .skip) 2 = true := by kernel_rfl
set_option maxRecDepth 1000000 in
theorem boleref04_Make.ok {numsA1 : Option Addr} {numsL1 : Nat} {numsC1 : Nat} {dataA1 : Option Addr} {dataL1 : Nat} {dataC1 : Nat} {K : Value → Heap → Prop} {h : Heap} (hx : boleref04_Make numsA1 numsL1 numsC1 dataA1 dataL1 dataC1 K h) : C.boleref04_Make numsA1 numsL1 numsC1 dataA1 dataL1 dataC1 h K :=
  fn_to (cxOk _ _) Tryz.func188 (by kernel_rfl) boleref04_Make.chk (by rw [boleref04_Make.eq]; exact hx)
def boleref05_write (i1 : Int) (bA1 : Option Addr) (bL1 : Nat) (bC1 : Nat) (K : Value → Heap → Prop) (h1 : Heap) : Prop :=
  NewRow z122 122 [.int .i64 1, .int .i64 i1, .slice bA1 bL1 bC1] 3 h1 fun h3 =>
  ∃ res1 : List Value, List.length res1 = 3 ∧ Cells h3 ⟨h1.size, 0, none⟩ res1 ∧
  K (.agg ⟨res1⟩) h3
def boleref05_write.lo : Nat → List Nat × List (Nat × Ty) := fun n => match n with | _ => ([], [])
def boleref05_write.od : Nat → Od := fun n => match n with | _ => .nil
theorem boleref05_write.eq (i1 : Int) (bA1 : Option Addr) (bL1 : Nat) (bC1 : Nat) (K : Value → Heap → Prop) (h : Heap) : fnX (cx boleref05_write.lo boleref05_write.od) Tryz.f189 (Tryz.f189.body.getD .skip) [.int .i64 i1, .slice bA1 bL1 bC1] K h = boleref05_write i1 bA1 bL1 bC1 K h := by kernel_rfl
theorem boleref05_write.chk : fnOk (cx boleref05_write.lo boleref05_write.od) Tryz.f189 (Tryz.f189.body.getD .skip) 2 = true := by kernel_rfl
theorem boleref05_write.ok {i1 : Int} {bA1 : Option Addr} {bL1 : Nat} {bC1 : Nat} {K : Value → Heap → Prop} {h : Heap} (hx : boleref05_write i1 bA1 bL1 bC1 K h) : C.boleref05_write i1 bA1 bL1 bC1 h K :=
  fn_to (cxOk _ _) Tryz.func189 (by kernel_rfl) boleref05_write.chk (by rw [boleref05_write.eq]; exact hx)
def boleref05_flush  (K : Value → Heap → Prop) (h1 : Heap) : Prop :=
  NewRow z122 122 [.int .i64 2, .int .i64 0, .slice none 0 0] 3 h1 fun h3 =>
  ∃ res1 : List Value, List.length res1 = 3 ∧ Cells h3 ⟨h1.size, 0, none⟩ res1 ∧
  K (.agg ⟨res1⟩) h3
def boleref05_flush.lo : Nat → List Nat × List (Nat × Ty) := fun n => match n with | _ => ([], [])
def boleref05_flush.od : Nat → Od := fun n => match n with | _ => .nil
theorem boleref05_flush.eq  (K : Value → Heap → Prop) (h : Heap) : fnX (cx boleref05_flush.lo boleref05_flush.od) Tryz.f190 (Tryz.f190.body.getD .skip) [] K h = boleref05_flush  K h := by kernel_rfl
theorem boleref05_flush.chk : fnOk (cx boleref05_flush.lo boleref05_flush.od) Tryz.f190 (Tryz.f190.body.getD .skip) 0 = true := by kernel_rfl
theorem boleref05_flush.ok  {K : Value → Heap → Prop} {h : Heap} (hx : boleref05_flush  K h) : C.boleref05_flush  h K :=
  fn_to (cxOk _ _) Tryz.func190 (by kernel_rfl) boleref05_flush.chk (by rw [boleref05_flush.eq]; exact hx)
end Go.Proofs.YtjdcbblgaoogmaaGreatDoor.W
namespace Go.Proofs.YtjdcbblgaoogmaaGreatDoor.W
open Go Go.Proofs Go.Proofs.YtjdcbblgaoogmaaGreatDoor.Wx
def boleref04_Nums (headA1 : Option Addr) (headL1 : Nat) (headC1 : Nat) (n1 : Int) (K : Value → Heap → Prop) (h1 : Heap) : Prop :=
  bif ((headL1 : Int) != 512) then (
  K (.tuple #[.slice none 0 0, .int .i64 32]) h1) else (
  ∃ bs1 : List UInt8, StrAt h1 headA1 headL1 bs1 ∧
  C.boleref04_Empty  h1 fun r1 h2 =>
  ∃ (sA1 : Option Addr) (sL1 : Nat) (sC1 : Nat), r1 = .slice sA1 sL1 sC1 ∧
  StrAt h2 headA1 headL1 (ByteArray.toList (mkStr bs1)) ∧
  ∃ bs2 : List UInt8, StrAt h2 sA1 sL1 bs2 ∧
  bif ((mkStr bs1).toList == (mkStr bs2).toList) then (
  K (.tuple #[.slice none 0 0, .int .i64 0]) h2) else (
  (0 ≤ (8 : Int) ∧ 8 < (headL1 : Int)) ∧
  onSome headA1 fun p1 =>
  ∃ (n2 : Int), cellOf h2 (Addr.add p1 (Int.toNat 8)) = some (.int .u8 n2) ∧
  (0 ≤ (9 : Int) ∧ 9 < (headL1 : Int)) ∧
  onSome headA1 fun p2 =>
  ∃ (n3 : Int), cellOf h2 (Addr.add p2 (Int.toNat 9)) = some (.int .u8 n3) ∧
  bif (decide ((IntKind.wrap .i64 ((IntKind.wrap .i64 (n2)) + (IntKind.wrap .i64 ((IntKind.wrap .i64 (n3)) * 256)))) > 96)) then (
  K (.tuple #[.slice none 0 0, .int .i64 41]) h2) else (
  ∃ (I1 : Option Addr → Nat → Nat → Int → Heap → Prop) (M1 : Option Addr → Nat → Nat → Int → Heap → Nat), I1 none 0 0 0 h2 ∧
  ∀ (numsA1 : Option Addr) (numsL1 : Nat) (numsC1 : Nat) (i1 : Int), ∀ h3 : Heap, I1 numsA1 numsL1 numsC1 i1 h3 →
  bif (decide (i1 < (IntKind.wrap .i64 ((IntKind.wrap .i64 (n2)) + (IntKind.wrap .i64 ((IntKind.wrap .i64 (n3)) * 256)))))) then (
  C.boleref04_number headA1 headL1 headC1 (IntKind.wrap .i64 (16 + (IntKind.wrap .i64 (4 * i1)))) h3 fun r2 h4 =>
  ∃ (n4 : Int), r2 = .int .i64 n4 ∧
  New [.int .i64 n4] 3 h4 fun h5 =>
  ∃ new1 : List Value, List.length new1 = 1 * 1 ∧ SlCells h5 (some ⟨h4.size, 0, none⟩) new1 ∧ (∀ v ∈ new1, v.oneCell' = true) ∧
  AppendP ti3 3 numsA1 numsL1 numsC1 1 new1 h5 fun sA2 sL2 sC2 h6 =>
  I1 sA2 sL2 sC2 (IntKind.wrap .i64 (i1 + 1)) h6 ∧ M1 sA2 sL2 sC2 (IntKind.wrap .i64 (i1 + 1)) h6 < M1 numsA1 numsL1 numsC1 i1 h3) else (
  C.boleref04_may numsA1 numsL1 numsC1 n1 h3 fun r3 h7 =>
  ∃ (b1 : Bool), r3 = .bool b1 ∧
  bif (!b1) then (
  K (.tuple #[.slice none 0 0, .int .i64 41]) h7) else (
  ∃ bs3 : List UInt8, StrAt h7 headA1 headL1 bs3 ∧
  C.boleref04_number headA1 headL1 headC1 12 h7 fun r4 h8 =>
  ∃ (n5 : Int), r4 = .int .i64 n5 ∧
  StrAt h8 headA1 headL1 (ByteArray.toList (mkStr bs3)) ∧
  C.boleref04_laid numsA1 numsL1 numsC1 (IntKind.wrap .u32 (n5)) h8 fun r5 h9 =>
  ∃ (sA3 : Option Addr) (sL3 : Nat) (sC3 : Nat), r5 = .slice sA3 sL3 sC3 ∧
  StrAt h9 headA1 headL1 (ByteArray.toList (mkStr bs3)) ∧
  ∃ bs4 : List UInt8, StrAt h9 sA3 sL3 bs4 ∧
  bif (!((mkStr bs4).toList == (mkStr bs3).toList)) then (
  K (.tuple #[.slice none 0 0, .int .i64 41]) h9) else (
  K (.tuple #[.slice numsA1 numsL1 numsC1, .int .i64 0]) h9))))))
def boleref04_Nums.lo : Nat → List Nat × List (Nat × Ty) := fun n => match n with | 10 => ([0, 1, 6], [(7, .slice), (8, .int .i64)]) | _ => ([], [])
def boleref04_Nums.od : Nat → Od := fun n => match n with | 3 => (.op 0 [] (.op 1 [] (.op 2 [1] (.op 3 [] (.op 4 [] .nil))))) | 5 => (.op 0 [] (.op 1 [] (.op 2 [] (.op 3 [] (.op 4 [] (.op 5 [] (.op 6 [] (.op 7 [] (.op 8 [] (.op 9 [] (.op 10 [] .nil))))))))))) | 13 => (.op 0 [] (.op 1 [] (.op 2 [] (.op 3 [] (.op 4 [] (.op 5 [] (.op 6 [] (.op 11 [] (.op 12 [] (.op 7 [12] (.op 8 [] (.op 9 [12] (.op 10 [] (.op 13 [] (.op 14 [] .nil))))))))))))))) | _ => .nil
theorem boleref04_Nums.eq (headA1 : Option Addr) (headL1 : Nat) (headC1 : Nat) (n1 : Int) (K : Value → Heap → Prop) (h : Heap) : fnX (cx boleref04_Nums.lo boleref04_Nums.od) Tryz.f191 (Tryz.f191.body.getD .skip) [.slice headA1 headL1 headC1, .int .i64 n1] K h = boleref04_Nums headA1 headL1 headC1 n1 K h := by kernel_rfl
theorem boleref04_Nums.chk : fnOk (cx boleref04_Nums.lo boleref04_Nums.od) Tryz.f191 (Tryz.f191.body.getD .skip) 2 = true := by kernel_rfl
theorem boleref04_Nums.ok {headA1 : Option Addr} {headL1 : Nat} {headC1 : Nat} {n1 : Int} {K : Value → Heap → Prop} {h : Heap} (hx : boleref04_Nums headA1 headL1 headC1 n1 K h) : C.boleref04_Nums headA1 headL1 headC1 n1 h K :=
  fn_to (cxOk _ _) Tryz.func191 (by kernel_rfl) boleref04_Nums.chk (by rw [boleref04_Nums.eq]; exact hx)
def boleref04_Good.k1 (headA1 : Option Addr) (headL1 : Nat) (headC1 : Nat) (dataA1 : Option Addr) (dataL1 : Nat) (dataC1 : Nat) (sA1 : Option Addr) (sL1 : Nat) (sC1 : Nat) (h4 : Heap) (K : Value → Heap → Prop) : Prop :=
  C.boleref04_number headA1 headL1 headC1 12 h4 fun r3 h5 =>
  ∃ (n3 : Int), r3 = .int .i64 n3 ∧
  C.boleref04_SumOf sA1 sL1 sC1 dataA1 dataL1 dataC1 h5 fun r4 h6 =>
  ∃ (n4 : Int), r4 = .int .u32 n4 ∧
  K (.bool ((IntKind.wrap .u32 (n3)) == n4)) h6
def boleref04_Good (headA1 : Option Addr) (headL1 : Nat) (headC1 : Nat) (n1 : Int) (dataA1 : Option Addr) (dataL1 : Nat) (dataC1 : Nat) (K : Value → Heap → Prop) (h1 : Heap) : Prop :=
  C.boleref04_Nums headA1 headL1 headC1 n1 h1 fun r1 h2 =>
  ∃ (sA1 : Option Addr) (sL1 : Nat) (sC1 : Nat) (n2 : Int), r1 = .tuple #[.slice sA1 sL1 sC1, .int .i64 n2] ∧
  bif (n2 != 0) then (
  K (.bool false) h2) else (
  bif ((sL1 : Int) == 0) then (
  K (.bool false) h2) else (
  C.boleref04_blocks dataA1 dataL1 dataC1 (sL1 : Int) h2 fun r2 h3 =>
  ∃ (b1 : Bool), r2 = .bool b1 ∧
  bif (!b1) then (
  K (.bool false) h3) else (
  boleref04_Good.k1 headA1 headL1 headC1 dataA1 dataL1 dataC1 sA1 sL1 sC1 h3 K)))
def boleref04_Good.lo : Nat → List Nat × List (Nat × Ty) := fun n => match n with | _ => ([], [])
def boleref04_Good.od : Nat → Od := fun n => match n with | _ => .nil
theorem boleref04_Good.eq (headA1 : Option Addr) (headL1 : Nat) (headC1 : Nat) (n1 : Int) (dataA1 : Option Addr) (dataL1 : Nat) (dataC1 : Nat) (K : Value → Heap → Prop) (h : Heap) : fnX (cx boleref04_Good.lo boleref04_Good.od) Tryz.f192 (Tryz.f192.body.getD .skip) [.slice headA1 headL1 headC1, .int .i64 n1, .slice dataA1 dataL1 dataC1] K h = boleref04_Good headA1 headL1 headC1 n1 dataA1 dataL1 dataC1 K h := by kernel_rfl
theorem boleref04_Good.chk : fnOk (cx boleref04_Good.lo boleref04_Good.od) Tryz.f192 (Tryz.f192.body.getD .skip) 3 = true := by kernel_rfl
theorem boleref04_Good.ok {headA1 : Option Addr} {headL1 : Nat} {headC1 : Nat} {n1 : Int} {dataA1 : Option Addr} {dataL1 : Nat} {dataC1 : Nat} {K : Value → Heap → Prop} {h : Heap} (hx : boleref04_Good headA1 headL1 headC1 n1 dataA1 dataL1 dataC1 K h) : C.boleref04_Good headA1 headL1 headC1 n1 dataA1 dataL1 dataC1 h K :=
  fn_to (cxOk _ _) Tryz.func192 (by kernel_rfl) boleref04_Good.chk (by rw [boleref04_Good.eq]; exact hx)
def boleref04_Empty  (K : Value → Heap → Prop) (h1 : Heap) : Prop :=
  ∃ (I1 : Option Addr → Nat → Nat → Heap → Prop) (M1 : Option Addr → Nat → Nat → Heap → Nat), I1 none 0 0 h1 ∧
  ∀ (bA1 : Option Addr) (bL1 : Nat) (bC1 : Nat), ∀ h2 : Heap, I1 bA1 bL1 bC1 h2 →
  bif (decide ((bL1 : Int) < 512)) then (
  New [.int .u8 0] 5 h2 fun h3 =>
  ∃ new1 : List Value, List.length new1 = 1 * 1 ∧ SlCells h3 (some ⟨h2.size, 0, none⟩) new1 ∧ (∀ v ∈ new1, v.oneCell' = true) ∧
  AppendP ti5 5 bA1 bL1 bC1 1 new1 h3 fun sA1 sL1 sC1 h4 =>
  I1 sA1 sL1 sC1 h4 ∧ M1 sA1 sL1 sC1 h4 < M1 bA1 bL1 bC1 h2) else (
  K (.slice bA1 bL1 bC1) h2)
def boleref04_Empty.lo : Nat → List Nat × List (Nat × Ty) := fun n => match n with | 2 => ([], [(1, .slice)]) | _ => ([], [])
def boleref04_Empty.od : Nat → Od := fun n => match n with | _ => .nil
theorem boleref04_Empty.eq  (K : Value → Heap → Prop) (h : Heap) : fnX (cx boleref04_Empty.lo boleref04_Empty.od) Tryz.f193 (Tryz.f193.body.getD .skip) [] K h = boleref04_Empty  K h := by kernel_rfl
theorem boleref04_Empty.chk : fnOk (cx boleref04_Empty.lo boleref04_Empty.od) Tryz.f193 (Tryz.f193.body.getD .skip) 0 = true := by kernel_rfl
theorem boleref04_Empty.ok  {K : Value → Heap → Prop} {h : Heap} (hx : boleref04_Empty  K h) : C.boleref04_Empty  h K :=
  fn_to (cxOk _ _) Tryz.func193 (by kernel_rfl) boleref04_Empty.chk (by rw [boleref04_Empty.eq]; exact hx)
end Go.Proofs.YtjdcbblgaoogmaaGreatDoor.W
namespace Go.Proofs.YtjdcbblgaoogmaaGreatDoor.W
open Go Go.Proofs Go.Proofs.YtjdcbblgaoogmaaGreatDoor.Wx
def head_may_c1 (i1 : Int) (cap1 : Option Addr) (cap2 : Option Addr) (K : Value → Heap → Prop) (h1 : Heap) : Prop :=
  onSome cap1 fun p1 =>
  ∃ (n1 : Int), cellOf h1 p1 = some (.int .i64 n1) ∧
  onSome cap1 fun p2 =>
  Put p2 (.int .i64 i1) h1 fun h2 =>
  bif (decide (i1 ≤ n1)) then (
  K (.bool true) h2) else (
  onSome cap2 fun p3 =>
  ∃ (n2 : Int), cellOf h2 p3 = some (.int .i64 n2) ∧
  K (.bool (decide (i1 ≥ n2))) h2)
def head_may_c1.lo : Nat → List Nat × List (Nat × Ty) := fun n => match n with | _ => ([], [])
def head_may_c1.od : Nat → Od := fun n => match n with | _ => .nil
theorem head_may_c1.eq (i1 : Int) (cap1 : Option Addr) (cap2 : Option Addr) (K : Value → Heap → Prop) (h : Heap) : fnX (cx head_may_c1.lo head_may_c1.od) Tryz.f242 (Tryz.f242.body.getD .skip) [.int .i64 i1, .pointer cap1, .pointer cap2] K h = head_may_c1 i1 cap1 cap2 K h := by kernel_rfl
theorem head_may_c1.chk : fnOk (cx head_may_c1.lo head_may_c1.od) Tryz.f242 (Tryz.f242.body.getD .skip) 3 = true := by kernel_rfl
theorem head_may_c1.ok {i1 : Int} {cap1 : Option Addr} {cap2 : Option Addr} {K : Value → Heap → Prop} {h : Heap} (hx : head_may_c1 i1 cap1 cap2 K h) : C.head_may_c1 i1 cap1 cap2 h K :=
  fn_to (cxOk _ _) Tryz.func242 (by kernel_rfl) head_may_c1.chk (by rw [head_may_c1.eq]; exact hx)
def rec_ahead (bA1 : Option Addr) (bL1 : Nat) (bC1 : Nat) (K : Value → Heap → Prop) (h1 : Heap) : Prop :=
  ∃ (I1 : Int → Heap → Prop) (M1 : Int → Heap → Nat), I1 0 h1 ∧
  ∀ (n1 : Int), ∀ h2 : Heap, I1 n1 h2 →
  bif (decide (n1 < (bL1 : Int))) then (
  (0 ≤ n1 ∧ n1 < (bL1 : Int)) ∧
  onSome bA1 fun p1 =>
  ∃ (n2 : Int), cellOf h2 (Addr.add p1 (Int.toNat n1)) = some (.int .u8 n2) ∧
  bif (n2 == 0) then (
  K (.int .i64 n1) h2) else (
  I1 (IntKind.wrap .i64 (n1 + 1)) h2 ∧ M1 (IntKind.wrap .i64 (n1 + 1)) h2 < M1 n1 h2)) else (
  K (.int .i64 (bL1 : Int)) h2)
def rec_ahead.lo : Nat → List Nat × List (Nat × Ty) := fun n => match n with | 2 => ([0, 5, 6], [(7, .int .i64)]) | _ => ([], [])
def rec_ahead.od : Nat → Od := fun n => match n with | _ => .nil
theorem rec_ahead.eq (bA1 : Option Addr) (bL1 : Nat) (bC1 : Nat) (K : Value → Heap → Prop) (h : Heap) : fnX (cx rec_ahead.lo rec_ahead.od) Tryz.f243 (Tryz.f243.body.getD .skip) [.slice bA1 bL1 bC1] K h = rec_ahead bA1 bL1 bC1 K h := by kernel_rfl
theorem rec_ahead.chk : fnOk (cx rec_ahead.lo rec_ahead.od) Tryz.f243 (Tryz.f243.body.getD .skip) 1 = true := by kernel_rfl
theorem rec_ahead.ok {bA1 : Option Addr} {bL1 : Nat} {bC1 : Nat} {K : Value → Heap → Prop} {h : Heap} (hx : rec_ahead bA1 bL1 bC1 K h) : C.rec_ahead bA1 bL1 bC1 h K :=
  fn_to (cxOk _ _) Tryz.func243 (by kernel_rfl) rec_ahead.chk (by rw [rec_ahead.eq]; exact hx)
def rec_lie (bA1 : Option Addr) (bL1 : Nat) (bC1 : Nat) (at1 : Int) (n1 : Int) (K : Value → Heap → Prop) (h1 : Heap) : Prop :=
  bif (decide (at1 ≥ 0)) then (
  bif (decide (n1 ≥ 0)) then (
  bif (decide (at1 ≤ (bL1 : Int))) then (
  K (.bool (decide (n1 ≤ (IntKind.wrap .i64 ((bL1 : Int) - at1))))) h1) else (
  K (.bool false) h1)) else (
  K (.bool false) h1)) else (
  K (.bool false) h1)
def rec_lie.lo : Nat → List Nat × List (Nat × Ty) := fun n => match n with | _ => ([], [])
def rec_lie.od : Nat → Od := fun n => match n with | _ => .nil
theorem rec_lie.eq (bA1 : Option Addr) (bL1 : Nat) (bC1 : Nat) (at1 : Int) (n1 : Int) (K : Value → Heap → Prop) (h : Heap) : fnX (cx rec_lie.lo rec_lie.od) Tryz.f244 (Tryz.f244.body.getD .skip) [.slice bA1 bL1 bC1, .int .i64 at1, .int .i64 n1] K h = rec_lie bA1 bL1 bC1 at1 n1 K h := by kernel_rfl
theorem rec_lie.chk : fnOk (cx rec_lie.lo rec_lie.od) Tryz.f244 (Tryz.f244.body.getD .skip) 3 = true := by kernel_rfl
theorem rec_lie.ok {bA1 : Option Addr} {bL1 : Nat} {bC1 : Nat} {at1 : Int} {n1 : Int} {K : Value → Heap → Prop} {h : Heap} (hx : rec_lie bA1 bL1 bC1 at1 n1 K h) : C.rec_lie bA1 bL1 bC1 at1 n1 h K :=
  fn_to (cxOk _ _) Tryz.func244 (by kernel_rfl) rec_lie.chk (by rw [rec_lie.eq]; exact hx)
def rec_isWidth (n1 : Int) (K : Value → Heap → Prop) (h1 : Heap) : Prop :=
  bif (decide (n1 ≥ 0)) then (
  bif (decide (n1 < 9)) then (
  (0 ≤ n1 ∧ n1 < (9 : Int)) ∧
  ∃ (b1 : Bool), cellOf h1 (Addr.add ⟨0, 0, none⟩ (Int.toNat n1)) = some (.bool b1) ∧
  K (.bool b1) h1) else (
  K (.bool false) h1)) else (
  K (.bool false) h1)
def rec_isWidth.lo : Nat → List Nat × List (Nat × Ty) := fun n => match n with | _ => ([], [])
def rec_isWidth.od : Nat → Od := fun n => match n with | _ => .nil
theorem rec_isWidth.eq (n1 : Int) (K : Value → Heap → Prop) (h : Heap) : fnX (cx rec_isWidth.lo rec_isWidth.od) Tryz.f245 (Tryz.f245.body.getD .skip) [.int .i64 n1] K h = rec_isWidth n1 K h := by kernel_rfl
theorem rec_isWidth.chk : fnOk (cx rec_isWidth.lo rec_isWidth.od) Tryz.f245 (Tryz.f245.body.getD .skip) 1 = true := by kernel_rfl
theorem rec_isWidth.ok {n1 : Int} {K : Value → Heap → Prop} {h : Heap} (hx : rec_isWidth n1 K h) : C.rec_isWidth n1 h K :=
  fn_to (cxOk _ _) Tryz.func245 (by kernel_rfl) rec_isWidth.chk (by rw [rec_isWidth.eq]; exact hx)
def bytes_Clone (bA1 : Option Addr) (bL1 : Nat) (bC1 : Nat) (K : Value → Heap → Prop) (h1 : Heap) : Prop :=
  bif (Option.isNone bA1) then (
  K (.slice none 0 0) h1) else (
  New [] 5 h1 fun h2 =>
  ∃ new1 : List Value, List.length new1 = bL1 * 1 ∧ SlCells h2 bA1 new1 ∧ (∀ v ∈ new1, v.oneCell' = true) ∧
  AppendP ti5 5 (some ⟨h1.size, 0, none⟩) 0 0 bL1 new1 h2 fun sA1 sL1 sC1 h3 =>
  K (.slice sA1 sL1 sC1) h3)
def bytes_Clone.lo : Nat → List Nat × List (Nat × Ty) := fun n => match n with | _ => ([], [])
def bytes_Clone.od : Nat → Od := fun n => match n with | _ => .nil
theorem bytes_Clone.eq (bA1 : Option Addr) (bL1 : Nat) (bC1 : Nat) (K : Value → Heap → Prop) (h : Heap) : fnX (cx bytes_Clone.lo bytes_Clone.od) Tryz.f246 (Tryz.f246.body.getD .skip) [.slice bA1 bL1 bC1] K h = bytes_Clone bA1 bL1 bC1 K h := by kernel_rfl
theorem bytes_Clone.chk : fnOk (cx bytes_Clone.lo bytes_Clone.od) Tryz.f246 (Tryz.f246.body.getD .skip) 1 = true := by kernel_rfl
theorem bytes_Clone.ok {bA1 : Option Addr} {bL1 : Nat} {bC1 : Nat} {K : Value → Heap → Prop} {h : Heap} (hx : bytes_Clone bA1 bL1 bC1 K h) : C.bytes_Clone bA1 bL1 bC1 h K :=
  fn_to (cxOk _ _) Tryz.func246 (by kernel_rfl) bytes_Clone.chk (by rw [bytes_Clone.eq]; exact hx)
def sum_Of (bA1 : Option Addr) (bL1 : Nat) (bC1 : Nat) (K : Value → Heap → Prop) (h1 : Heap) : Prop :=
  ∃ (I1 : Int → Int → Heap → Prop) (M1 : Int → Int → Heap → Nat), I1 4294967295 0 h1 ∧
  ∀ (v1 : Int) (n1 : Int), ∀ h2 : Heap, I1 v1 n1 h2 →
  bif (decide (n1 < (bL1 : Int))) then (
  (0 ≤ n1 ∧ n1 < (bL1 : Int)) ∧
  onSome bA1 fun p1 =>
  ∃ (n2 : Int), cellOf h2 (Addr.add p1 (Int.toNat n1)) = some (.int .u8 n2) ∧
  C.sum_step v1 n2 h2 fun r1 h3 =>
  ∃ (n3 : Int), r1 = .int .u32 n3 ∧
  I1 n3 (IntKind.wrap .i64 (n1 + 1)) h3 ∧ M1 n3 (IntKind.wrap .i64 (n1 + 1)) h3 < M1 v1 n1 h2) else (
  K (.int .u32 (bitsI .xor .u32 (IntKind.max .u32) v1)) h2)
def sum_Of.lo : Nat → List Nat × List (Nat × Ty) := fun n => match n with | 3 => ([6, 7], [(3, .int .u32), (8, .int .i64)]) | _ => ([], [])
def sum_Of.od : Nat → Od := fun n => match n with | _ => .nil
theorem sum_Of.eq (bA1 : Option Addr) (bL1 : Nat) (bC1 : Nat) (K : Value → Heap → Prop) (h : Heap) : fnX (cx sum_Of.lo sum_Of.od) Tryz.f247 (Tryz.f247.body.getD .skip) [.slice bA1 bL1 bC1] K h = sum_Of bA1 bL1 bC1 K h := by kernel_rfl
theorem sum_Of.chk : fnOk (cx sum_Of.lo sum_Of.od) Tryz.f247 (Tryz.f247.body.getD .skip) 1 = true := by kernel_rfl
theorem sum_Of.ok {bA1 : Option Addr} {bL1 : Nat} {bC1 : Nat} {K : Value → Heap → Prop} {h : Heap} (hx : sum_Of bA1 bL1 bC1 K h) : C.sum_Of bA1 bL1 bC1 h K :=
  fn_to (cxOk _ _) Tryz.func247 (by kernel_rfl) sum_Of.chk (by rw [sum_Of.eq]; exact hx)
def sum_Join.k1 (a1 : Int) (b1 : Int) (n1 : Int) (h1 : Heap) (K : Value → Heap → Prop) : Prop :=
  C.sum_behind a1 n1 h1 fun r1 h2 =>
  ∃ (n2 : Int), r1 = .int .u32 n2 ∧
  K (.tuple #[.int .u32 (bitsI .xor .u32 n2 b1), .int .i64 0]) h2
def sum_Join (a1 : Int) (b1 : Int) (n1 : Int) (K : Value → Heap → Prop) (h1 : Heap) : Prop :=
  bif (decide (n1 < 0)) then (
  K (.tuple #[.int .u32 0, .int .i64 1]) h1) else (
  bif (decide (n1 > 1099511627776)) then (
  K (.tuple #[.int .u32 0, .int .i64 1]) h1) else (
  sum_Join.k1 a1 b1 n1 h1 K))
def sum_Join.lo : Nat → List Nat × List (Nat × Ty) := fun n => match n with | _ => ([], [])
def sum_Join.od : Nat → Od := fun n => match n with | _ => .nil
theorem sum_Join.eq (a1 : Int) (b1 : Int) (n1 : Int) (K : Value → Heap → Prop) (h : Heap) : fnX (cx sum_Join.lo sum_Join.od) Tryz.f248 (Tryz.f248.body.getD .skip) [.int .u32 a1, .int .u32 b1, .int .i64 n1] K h = sum_Join a1 b1 n1 K h := by kernel_rfl
theorem sum_Join.chk : fnOk (cx sum_Join.lo sum_Join.od) Tryz.f248 (Tryz.f248.body.getD .skip) 3 = true := by kernel_rfl
theorem sum_Join.ok {a1 : Int} {b1 : Int} {n1 : Int} {K : Value → Heap → Prop} {h : Heap} (hx : sum_Join a1 b1 n1 K h) : C.sum_Join a1 b1 n1 h K :=
  fn_to (cxOk _ _) Tryz.func248 (by kernel_rfl) sum_Join.chk (by rw [sum_Join.eq]; exact hx)
def rec_Zero (bA1 : Option Addr) (bL1 : Nat) (bC1 : Nat) (at1 : Int) (n1 : Int) (K : Value → Heap → Prop) (h1 : Heap) : Prop :=
  bif (decide (n1 < 0)) then (
  K (.tuple #[.bool false, .int .i64 1]) h1) else (
  C.rec_lie bA1 bL1 bC1 at1 n1 h1 fun r1 h2 =>
  ∃ (b1 : Bool), r1 = .bool b1 ∧
  bif (!b1) then (
  K (.tuple #[.bool false, .int .i64 20]) h2) else (
  (0 ≤ at1 ∧ at1 ≤ (IntKind.wrap .i64 (at1 + n1)) ∧ (IntKind.wrap .i64 (at1 + n1)) ≤ (bC1 : Int)) ∧
  C.rec_zeros (if bC1 = (Int.toNat at1) then bA1 else Option.map (Addr.add · (Int.toNat at1)) bA1) ((Int.toNat (IntKind.wrap .i64 (at1 + n1))) - (Int.toNat at1)) (bC1 - (Int.toNat at1)) h2 fun r2 h3 =>
  ∃ (b2 : Bool), r2 = .bool b2 ∧
  K (.tuple #[.bool b2, .int .i64 0]) h3))
def rec_Zero.lo : Nat → List Nat × List (Nat × Ty) := fun n => match n with | _ => ([], [])
def rec_Zero.od : Nat → Od := fun n => match n with | _ => .nil
theorem rec_Zero.eq (bA1 : Option Addr) (bL1 : Nat) (bC1 : Nat) (at1 : Int) (n1 : Int) (K : Value → Heap → Prop) (h : Heap) : fnX (cx rec_Zero.lo rec_Zero.od) Tryz.f249 (Tryz.f249.body.getD .skip) [.slice bA1 bL1 bC1, .int .i64 at1, .int .i64 n1] K h = rec_Zero bA1 bL1 bC1 at1 n1 K h := by kernel_rfl
theorem rec_Zero.chk : fnOk (cx rec_Zero.lo rec_Zero.od) Tryz.f249 (Tryz.f249.body.getD .skip) 3 = true := by kernel_rfl
theorem rec_Zero.ok {bA1 : Option Addr} {bL1 : Nat} {bC1 : Nat} {at1 : Int} {n1 : Int} {K : Value → Heap → Prop} {h : Heap} (hx : rec_Zero bA1 bL1 bC1 at1 n1 K h) : C.rec_Zero bA1 bL1 bC1 at1 n1 h K :=
  fn_to (cxOk _ _) Tryz.func249 (by kernel_rfl) rec_Zero.chk (by rw [rec_Zero.eq]; exact hx)
def rec_Get (bA1 : Option Addr) (bL1 : Nat) (bC1 : Nat) (at1 : Int) (n1 : Int) (K : Value → Heap → Prop) (h1 : Heap) : Prop :=
  C.rec_isWidth n1 h1 fun r1 h2 =>
  ∃ (b1 : Bool), r1 = .bool b1 ∧
  bif (!b1) then (
  K (.tuple #[.int .u64 0, .int .i64 1]) h2) else (
  C.rec_lie bA1 bL1 bC1 at1 n1 h2 fun r2 h3 =>
  ∃ (b2 : Bool), r2 = .bool b2 ∧
  bif (!b2) then (
  K (.tuple #[.int .u64 0, .int .i64 20]) h3) else (
  ∃ (I1 : Int → Int → Heap → Prop) (M1 : Int → Int → Heap → Nat), I1 0 0 h3 ∧
  ∀ (v1 : Int) (n2 : Int), ∀ h4 : Heap, I1 v1 n2 h4 →
  bif (decide (n2 < n1)) then (
  (0 ≤ (IntKind.wrap .i64 (at1 + n2)) ∧ (IntKind.wrap .i64 (at1 + n2)) < (bL1 : Int)) ∧
  onSome bA1 fun p1 =>
  ∃ (n3 : Int), cellOf h4 (Addr.add p1 (Int.toNat (IntKind.wrap .i64 (at1 + n2)))) = some (.int .u8 n3) ∧
  if (IntKind.wrap .i64 (8 * n2)) < 0 then False else
  I1 (bitsI .or .u64 v1 (IntKind.wrap .u64 (((IntKind.wrap .u64 (n3)) * 2 ^ min (Int.toNat (IntKind.wrap .i64 (8 * n2))) 64)))) (IntKind.wrap .i64 (n2 + 1)) h4 ∧ M1 (bitsI .or .u64 v1 (IntKind.wrap .u64 (((IntKind.wrap .u64 (n3)) * 2 ^ min (Int.toNat (IntKind.wrap .i64 (8 * n2))) 64)))) (IntKind.wrap .i64 (n2 + 1)) h4 < M1 v1 n2 h4) else (
  K (.tuple #[.int .u64 v1, .int .i64 0]) h4)))
def rec_Get.lo : Nat → List Nat × List (Nat × Ty) := fun n => match n with | 7 => ([0, 1, 20], [(8, .int .u64), (21, .int .i64)]) | _ => ([], [])
def rec_Get.od : Nat → Od := fun n => match n with | _ => .nil
theorem rec_Get.eq (bA1 : Option Addr) (bL1 : Nat) (bC1 : Nat) (at1 : Int) (n1 : Int) (K : Value → Heap → Prop) (h : Heap) : fnX (cx rec_Get.lo rec_Get.od) Tryz.f250 (Tryz.f250.body.getD .skip) [.slice bA1 bL1 bC1, .int .i64 at1, .int .i64 n1] K h = rec_Get bA1 bL1 bC1 at1 n1 K h := by kernel_rfl
theorem rec_Get.chk : fnOk (cx rec_Get.lo rec_Get.od) Tryz.f250 (Tryz.f250.body.getD .skip) 3 = true := by kernel_rfl
theorem rec_Get.ok {bA1 : Option Addr} {bL1 : Nat} {bC1 : Nat} {at1 : Int} {n1 : Int} {K : Value → Heap → Prop} {h : Heap} (hx : rec_Get bA1 bL1 bC1 at1 n1 K h) : C.rec_Get bA1 bL1 bC1 at1 n1 h K :=
  fn_to (cxOk _ _) Tryz.func250 (by kernel_rfl) rec_Get.chk (by rw [rec_Get.eq]; exact hx)
def boleref04_may.k1 (numsA1 : Option Addr) (numsL1 : Nat) (n1 : Int) (h1 : Heap) (K : Value → Heap → Prop) : Prop :=
  ∃ (I1 : Int → Int → Heap → Prop) (M1 : Int → Int → Heap → Nat), I1 97 0 h1 ∧
  ∀ (last1 : Int) (i1 : Int), ∀ h2 : Heap, I1 last1 i1 h2 →
  bif (decide (i1 < (numsL1 : Int))) then (
  (0 ≤ i1 ∧ i1 < (numsL1 : Int)) ∧
  onSome numsA1 fun p1 =>
  ∃ (n2 : Int), cellOf h2 (Addr.add p1 (Int.toNat i1)) = some (.int .i64 n2) ∧
  bif (decide (n2 ≤ last1)) then (
  K (.bool false) h2) else (
  (0 ≤ i1 ∧ i1 < (numsL1 : Int)) ∧
  onSome numsA1 fun p2 =>
  ∃ (n3 : Int), cellOf h2 (Addr.add p2 (Int.toNat i1)) = some (.int .i64 n3) ∧
  bif (decide (n3 ≥ n1)) then (
  K (.bool false) h2) else (
  (0 ≤ i1 ∧ i1 < (numsL1 : Int)) ∧
  onSome numsA1 fun p3 =>
  ∃ (n4 : Int), cellOf h2 (Addr.add p3 (Int.toNat i1)) = some (.int .i64 n4) ∧
  I1 n4 (IntKind.wrap .i64 (i1 + 1)) h2 ∧ M1 n4 (IntKind.wrap .i64 (i1 + 1)) h2 < M1 last1 i1 h2))) else (
  K (.bool true) h2)
def boleref04_may (numsA1 : Option Addr) (numsL1 : Nat) (numsC1 : Nat) (n1 : Int) (K : Value → Heap → Prop) (h1 : Heap) : Prop :=
  bif (decide ((numsL1 : Int) < 1)) then (
  K (.bool false) h1) else (
  bif (decide ((numsL1 : Int) > 96)) then (
  K (.bool false) h1) else (
  boleref04_may.k1 numsA1 numsL1 n1 h1 K))
def boleref04_may.lo : Nat → List Nat × List (Nat × Ty) := fun n => match n with | 5 => ([0, 1], [(5, .int .i64), (6, .int .i64)]) | _ => ([], [])
def boleref04_may.od : Nat → Od := fun n => match n with | _ => .nil
theorem boleref04_may.eq (numsA1 : Option Addr) (numsL1 : Nat) (numsC1 : Nat) (n1 : Int) (K : Value → Heap → Prop) (h : Heap) : fnX (cx boleref04_may.lo boleref04_may.od) Tryz.f251 (Tryz.f251.body.getD .skip) [.slice numsA1 numsL1 numsC1, .int .i64 n1] K h = boleref04_may numsA1 numsL1 numsC1 n1 K h := by kernel_rfl
theorem boleref04_may.chk : fnOk (cx boleref04_may.lo boleref04_may.od) Tryz.f251 (Tryz.f251.body.getD .skip) 2 = true := by kernel_rfl
theorem boleref04_may.ok {numsA1 : Option Addr} {numsL1 : Nat} {numsC1 : Nat} {n1 : Int} {K : Value → Heap → Prop} {h : Heap} (hx : boleref04_may numsA1 numsL1 numsC1 n1 K h) : C.boleref04_may numsA1 numsL1 numsC1 n1 h K :=
  fn_to (cxOk _ _) Tryz.func251 (by kernel_rfl) boleref04_may.chk (by rw [boleref04_may.eq]; exact hx)
def boleref04_blocks (dataA1 : Option Addr) (dataL1 : Nat) (dataC1 : Nat) (n1 : Int) (K : Value → Heap → Prop) (h1 : Heap) : Prop :=
  bif ((dataL1 : Int) != n1) then (
  K (.bool false) h1) else (
  ∃ (I1 : Int → Heap → Prop) (M1 : Int → Heap → Nat), I1 0 h1 ∧
  ∀ (i1 : Int), ∀ h2 : Heap, I1 i1 h2 →
  bif (decide (i1 < (dataL1 : Int))) then (
  (0 ≤ i1 ∧ i1 < (dataL1 : Int)) ∧
  onSome dataA1 fun p1 =>
  ∃ (sA1 : Option Addr) (sL1 : Nat) (sC1 : Nat), cellOf h2 (Addr.add p1 (Int.toNat i1)) = some (.slice sA1 sL1 sC1) ∧
  bif ((sL1 : Int) != 512) then (
  K (.bool false) h2) else (
  I1 (IntKind.wrap .i64 (i1 + 1)) h2 ∧ M1 (IntKind.wrap .i64 (i1 + 1)) h2 < M1 i1 h2)) else (
  K (.bool true) h2))
def boleref04_blocks.lo : Nat → List Nat × List (Nat × Ty) := fun n => match n with | 4 => ([0], [(5, .int .i64)]) | _ => ([], [])
def boleref04_blocks.od : Nat → Od := fun n => match n with | _ => .nil
theorem boleref04_blocks.eq (dataA1 : Option Addr) (dataL1 : Nat) (dataC1 : Nat) (n1 : Int) (K : Value → Heap → Prop) (h : Heap) : fnX (cx boleref04_blocks.lo boleref04_blocks.od) Tryz.f252 (Tryz.f252.body.getD .skip) [.slice dataA1 dataL1 dataC1, .int .i64 n1] K h = boleref04_blocks dataA1 dataL1 dataC1 n1 K h := by kernel_rfl
theorem boleref04_blocks.chk : fnOk (cx boleref04_blocks.lo boleref04_blocks.od) Tryz.f252 (Tryz.f252.body.getD .skip) 2 = true := by kernel_rfl
theorem boleref04_blocks.ok {dataA1 : Option Addr} {dataL1 : Nat} {dataC1 : Nat} {n1 : Int} {K : Value → Heap → Prop} {h : Heap} (hx : boleref04_blocks dataA1 dataL1 dataC1 n1 K h) : C.boleref04_blocks dataA1 dataL1 dataC1 n1 h K :=
  fn_to (cxOk _ _) Tryz.func252 (by kernel_rfl) boleref04_blocks.chk (by rw [boleref04_blocks.eq]; exact hx)
def boleref04_laid (numsA1 : Option Addr) (numsL1 : Nat) (numsC1 : Nat) (sum1 : Int) (K : Value → Heap → Prop) (h1 : Heap) : Prop :=
  New [.int .u8 66, .int .u8 79, .int .u8 76, .int .u8 69, .int .u8 76, .int .u8 79, .int .u8 71, .int .u8 49] 5 h1 fun h2 =>
  MarkAt ⟨h1.size, 0, none⟩ h2 fun h3 =>
  New [.int .u8 (IntKind.wrap .u8 ((numsL1 : Int))), .int .u8 (IntKind.wrap .u8 ((IntKind.wrap .i64 (Int.tdiv (numsL1 : Int) 256)))), .int .u8 0, .int .u8 0] 5 h3 fun h4 =>
  ∃ new1 : List Value, List.length new1 = 4 * 1 ∧ SlCells h4 (some ⟨h3.size, 0, none⟩) new1 ∧ (∀ v ∈ new1, v.oneCell' = true) ∧
  AppendP ti5 5 (some ⟨h1.size, 0, none⟩) 8 8 4 new1 h4 fun sA1 sL1 sC1 h5 =>
  New [.int .u8 (IntKind.wrap .u8 (sum1)), .int .u8 (IntKind.wrap .u8 ((Int.fdiv sum1 (2 ^ min (Int.toNat 8) 32)))), .int .u8 (IntKind.wrap .u8 ((Int.fdiv sum1 (2 ^ min (Int.toNat 16) 32)))), .int .u8 (IntKind.wrap .u8 ((Int.fdiv sum1 (2 ^ min (Int.toNat 24) 32))))] 5 h5 fun h6 =>
  ∃ new2 : List Value, List.length new2 = 4 * 1 ∧ SlCells h6 (some ⟨h5.size, 0, none⟩) new2 ∧ (∀ v ∈ new2, v.oneCell' = true) ∧
  AppendP ti5 5 sA1 sL1 sC1 4 new2 h6 fun sA2 sL2 sC2 h7 =>
  ∃ (I1 : Option Addr → Nat → Nat → Int → Heap → Prop) (M1 : Option Addr → Nat → Nat → Int → Heap → Nat), I1 sA2 sL2 sC2 0 h7 ∧
  ∀ (bA1 : Option Addr) (bL1 : Nat) (bC1 : Nat) (i1 : Int), ∀ h8 : Heap, I1 bA1 bL1 bC1 i1 h8 →
  bif (decide (i1 < (numsL1 : Int))) then (
  (0 ≤ i1 ∧ i1 < (numsL1 : Int)) ∧
  onSome numsA1 fun p1 =>
  ∃ (n1 : Int), cellOf h8 (Addr.add p1 (Int.toNat i1)) = some (.int .i64 n1) ∧
  (0 ≤ i1 ∧ i1 < (numsL1 : Int)) ∧
  onSome numsA1 fun p2 =>
  ∃ (n2 : Int), cellOf h8 (Addr.add p2 (Int.toNat i1)) = some (.int .i64 n2) ∧
  (0 ≤ i1 ∧ i1 < (numsL1 : Int)) ∧
  onSome numsA1 fun p3 =>
  ∃ (n3 : Int), cellOf h8 (Addr.add p3 (Int.toNat i1)) = some (.int .i64 n3) ∧
  (0 ≤ i1 ∧ i1 < (numsL1 : Int)) ∧
  onSome numsA1 fun p4 =>
  ∃ (n4 : Int), cellOf h8 (Addr.add p4 (Int.toNat i1)) = some (.int .i64 n4) ∧
  New [.int .u8 (IntKind.wrap .u8 (n1)), .int .u8 (IntKind.wrap .u8 ((Int.fdiv n2 (2 ^ min (Int.toNat 8) 64)))), .int .u8 (IntKind.wrap .u8 ((Int.fdiv n3 (2 ^ min (Int.toNat 16) 64)))), .int .u8 (IntKind.wrap .u8 ((Int.fdiv n4 (2 ^ min (Int.toNat 24) 64))))] 5 h8 fun h9 =>
  ∃ new3 : List Value, List.length new3 = 4 * 1 ∧ SlCells h9 (some ⟨h8.size, 0, none⟩) new3 ∧ (∀ v ∈ new3, v.oneCell' = true) ∧
  AppendP ti5 5 bA1 bL1 bC1 4 new3 h9 fun sA3 sL3 sC3 h10 =>
  I1 sA3 sL3 sC3 (IntKind.wrap .i64 (i1 + 1)) h10 ∧ M1 sA3 sL3 sC3 (IntKind.wrap .i64 (i1 + 1)) h10 < M1 bA1 bL1 bC1 i1 h8) else (
  ∃ (I2 : Option Addr → Nat → Nat → Heap → Prop) (M2 : Option Addr → Nat → Nat → Heap → Nat), I2 bA1 bL1 bC1 h8 ∧
  ∀ (bA2 : Option Addr) (bL2 : Nat) (bC2 : Nat), ∀ h11 : Heap, I2 bA2 bL2 bC2 h11 →
  bif (decide ((bL2 : Int) < 512)) then (
  New [.int .u8 0] 5 h11 fun h12 =>
  ∃ new4 : List Value, List.length new4 = 1 * 1 ∧ SlCells h12 (some ⟨h11.size, 0, none⟩) new4 ∧ (∀ v ∈ new4, v.oneCell' = true) ∧
  AppendP ti5 5 bA2 bL2 bC2 1 new4 h12 fun sA4 sL4 sC4 h13 =>
  I2 sA4 sL4 sC4 h13 ∧ M2 sA4 sL4 sC4 h13 < M2 bA2 bL2 bC2 h11) else (
  K (.slice bA2 bL2 bC2) h11))
def boleref04_laid.lo : Nat → List Nat × List (Nat × Ty) := fun n => match n with | 5 => ([0], [(5, .slice), (6, .int .i64)]) | 8 => ([], [(5, .slice)]) | _ => ([], [])
def boleref04_laid.od : Nat → Od := fun n => match n with | 7 => (.op 0 [] (.op 1 [] (.op 2 [] (.op 3 [] (.op 4 [] (.op 5 [] (.op 6 [] (.op 7 [] (.op 8 [] (.op 9 [] (.op 10 [] (.op 11 [] (.op 12 [] (.op 13 [] (.op 14 [] (.op 15 [] (.op 16 [] (.op 17 [] (.op 18 [] (.op 19 [] (.op 20 [] (.op 21 [] (.op 22 [] (.op 23 [] (.op 24 [] (.op 25 [] (.op 26 [] .nil))))))))))))))))))))))))))) | _ => .nil
theorem boleref04_laid.eq (numsA1 : Option Addr) (numsL1 : Nat) (numsC1 : Nat) (sum1 : Int) (K : Value → Heap → Prop) (h : Heap) : fnX (cx boleref04_laid.lo boleref04_laid.od) Tryz.f253 (Tryz.f253.body.getD .skip) [.slice numsA1 numsL1 numsC1, .int .u32 sum1] K h = boleref04_laid numsA1 numsL1 numsC1 sum1 K h := by kernel_rfl
theorem boleref04_laid.chk : fnOk (cx boleref04_laid.lo boleref04_laid.od) Tryz.f253 (Tryz.f253.body.getD .skip) 2 = true := by kernel_rfl
theorem boleref04_laid.ok {numsA1 : Option Addr} {numsL1 : Nat} {numsC1 : Nat} {sum1 : Int} {K : Value → Heap → Prop} {h : Heap} (hx : boleref04_laid numsA1 numsL1 numsC1 sum1 K h) : C.boleref04_laid numsA1 numsL1 numsC1 sum1 h K :=
  fn_to (cxOk _ _) Tryz.func253 (by kernel_rfl) boleref04_laid.chk (by rw [boleref04_laid.eq]; exact hx)
def boleref04_SumOf (numsA1 : Option Addr) (numsL1 : Nat) (numsC1 : Nat) (dataA1 : Option Addr) (dataL1 : Nat) (dataC1 : Nat) (K : Value → Heap → Prop) (h1 : Heap) : Prop :=
  C.boleref04_laid numsA1 numsL1 numsC1 0 h1 fun r1 h2 =>
  ∃ (sA1 : Option Addr) (sL1 : Nat) (sC1 : Nat), r1 = .slice sA1 sL1 sC1 ∧
  ∃ (I1 : Option Addr → Nat → Nat → Int → Heap → Prop) (M1 : Option Addr → Nat → Nat → Int → Heap → Nat), I1 sA1 sL1 sC1 0 h2 ∧
  ∀ (bA1 : Option Addr) (bL1 : Nat) (bC1 : Nat) (i1 : Int), ∀ h3 : Heap, I1 bA1 bL1 bC1 i1 h3 →
  bif (decide (i1 < (dataL1 : Int))) then (
  (0 ≤ i1 ∧ i1 < (dataL1 : Int)) ∧
  onSome dataA1 fun p1 =>
  ∃ (sA2 : Option Addr) (sL2 : Nat) (sC2 : Nat), cellOf h3 (Addr.add p1 (Int.toNat i1)) = some (.slice sA2 sL2 sC2) ∧
  ∃ new1 : List Value, List.length new1 = sL2 * 1 ∧ SlCells h3 sA2 new1 ∧ (∀ v ∈ new1, v.oneCell' = true) ∧
  AppendP ti5 5 bA1 bL1 bC1 sL2 new1 h3 fun sA3 sL3 sC3 h4 =>
  I1 sA3 sL3 sC3 (IntKind.wrap .i64 (i1 + 1)) h4 ∧ M1 sA3 sL3 sC3 (IntKind.wrap .i64 (i1 + 1)) h4 < M1 bA1 bL1 bC1 i1 h3) else (
  C.boleref01_Of bA1 bL1 bC1 h3 fun r2 h5 =>
  ∃ (n1 : Int), r2 = .int .u32 n1 ∧
  K (.int .u32 n1) h5)
def boleref04_SumOf.lo : Nat → List Nat × List (Nat × Ty) := fun n => match n with | 3 => ([1], [(5, .slice), (6, .int .i64)]) | _ => ([], [])
def boleref04_SumOf.od : Nat → Od := fun n => match n with | _ => .nil
theorem boleref04_SumOf.eq (numsA1 : Option Addr) (numsL1 : Nat) (numsC1 : Nat) (dataA1 : Option Addr) (dataL1 : Nat) (dataC1 : Nat) (K : Value → Heap → Prop) (h : Heap) : fnX (cx boleref04_SumOf.lo boleref04_SumOf.od) Tryz.f254 (Tryz.f254.body.getD .skip) [.slice numsA1 numsL1 numsC1, .slice dataA1 dataL1 dataC1] K h = boleref04_SumOf numsA1 numsL1 numsC1 dataA1 dataL1 dataC1 K h := by kernel_rfl
theorem boleref04_SumOf.chk : fnOk (cx boleref04_SumOf.lo boleref04_SumOf.od) Tryz.f254 (Tryz.f254.body.getD .skip) 2 = true := by kernel_rfl
theorem boleref04_SumOf.ok {numsA1 : Option Addr} {numsL1 : Nat} {numsC1 : Nat} {dataA1 : Option Addr} {dataL1 : Nat} {dataC1 : Nat} {K : Value → Heap → Prop} {h : Heap} (hx : boleref04_SumOf numsA1 numsL1 numsC1 dataA1 dataL1 dataC1 K h) : C.boleref04_SumOf numsA1 numsL1 numsC1 dataA1 dataL1 dataC1 h K :=
  fn_to (cxOk _ _) Tryz.func254 (by kernel_rfl) boleref04_SumOf.chk (by rw [boleref04_SumOf.eq]; exact hx)
end Go.Proofs.YtjdcbblgaoogmaaGreatDoor.W
namespace Go.Proofs.YtjdcbblgaoogmaaGreatDoor.W
open Go Go.Proofs Go.Proofs.YtjdcbblgaoogmaaGreatDoor.Wx
def boleref04_number (bA1 : Option Addr) (bL1 : Nat) (bC1 : Nat) (at1 : Int) (K : Value → Heap → Prop) (h1 : Heap) : Prop :=
  (0 ≤ at1 ∧ at1 < (bL1 : Int)) ∧
  onSome bA1 fun p1 =>
  ∃ (n1 : Int), cellOf h1 (Addr.add p1 (Int.toNat at1)) = some (.int .u8 n1) ∧
  (0 ≤ (IntKind.wrap .i64 (at1 + 1)) ∧ (IntKind.wrap .i64 (at1 + 1)) < (bL1 : Int)) ∧
  onSome bA1 fun p2 =>
  ∃ (n2 : Int), cellOf h1 (Addr.add p2 (Int.toNat (IntKind.wrap .i64 (at1 + 1)))) = some (.int .u8 n2) ∧
  (0 ≤ (IntKind.wrap .i64 (at1 + 2)) ∧ (IntKind.wrap .i64 (at1 + 2)) < (bL1 : Int)) ∧
  onSome bA1 fun p3 =>
  ∃ (n3 : Int), cellOf h1 (Addr.add p3 (Int.toNat (IntKind.wrap .i64 (at1 + 2)))) = some (.int .u8 n3) ∧
  (0 ≤ (IntKind.wrap .i64 (at1 + 3)) ∧ (IntKind.wrap .i64 (at1 + 3)) < (bL1 : Int)) ∧
  onSome bA1 fun p4 =>
  ∃ (n4 : Int), cellOf h1 (Addr.add p4 (Int.toNat (IntKind.wrap .i64 (at1 + 3)))) = some (.int .u8 n4) ∧
  K (.int .i64 (IntKind.wrap .i64 ((IntKind.wrap .i64 ((IntKind.wrap .i64 ((IntKind.wrap .i64 (n1)) + (IntKind.wrap .i64 ((IntKind.wrap .i64 (n2)) * 256)))) + (IntKind.wrap .i64 ((IntKind.wrap .i64 (n3)) * 65536)))) + (IntKind.wrap .i64 ((IntKind.wrap .i64 (n4)) * 16777216))))) h1
def boleref04_number.lo : Nat → List Nat × List (Nat × Ty) := fun n => match n with | _ => ([], [])
def boleref04_number.od : Nat → Od := fun n => match n with | 1 => (.op 0 [] (.op 1 [] (.op 2 [] (.op 3 [] (.op 4 [] (.op 5 [] (.op 6 [] (.op 7 [] (.op 8 [] (.op 9 [] (.op 10 [] (.op 11 [] (.op 12 [] (.op 13 [] (.op 14 [] (.op 15 [] (.op 16 [] (.op 17 [] (.op 18 [] (.op 19 [] (.op 20 [] (.op 21 [] (.op 22 [] (.op 23 [] (.op 24 [] (.op 25 [] (.op 26 [] (.op 27 [] (.op 28 [] (.op 29 [] .nil)))))))))))))))))))))))))))))) | _ => .nil
set_option maxRecDepth 1000000 in
theorem boleref04_number.eq (bA1 : Option Addr) (bL1 : Nat) (bC1 : Nat) (at1 : Int) (K : Value → Heap → Prop) (h : Heap) : fnX (cx boleref04_number.lo boleref04_number.od) Tryz.f255 (Tryz.f255.body.getD .skip) [.slice bA1 bL1 bC1, .int .i64 at1] K h = boleref04_number bA1 bL1 bC1 at1 K h := by kernel_rfl
theorem boleref04_number.chk : fnOk (cx boleref04_number.lo boleref04_number.od) Tryz.f255 (Tryz.f255.body.getD .skip) 2 = true := by kernel_rfl
set_option maxRecDepth 1000000 in
theorem boleref04_number.ok {bA1 : Option Addr} {bL1 : Nat} {bC1 : Nat} {at1 : Int} {K : Value → Heap → Prop} {h : Heap} (hx : boleref04_number bA1 bL1 bC1 at1 K h) : C.boleref04_number bA1 bL1 bC1 at1 h K :=
  fn_to (cxOk _ _) Tryz.func255 (by kernel_rfl) boleref04_number.chk (by rw [boleref04_number.eq]; exact hx)
end Go.Proofs.YtjdcbblgaoogmaaGreatDoor.W
