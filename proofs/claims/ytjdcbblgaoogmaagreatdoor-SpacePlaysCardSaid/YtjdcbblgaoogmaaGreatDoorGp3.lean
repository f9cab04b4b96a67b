/-
  TEXTS FOR spacePlays_card: Tab FormsA FormsB FormsC FormsD FormsE FormsF FormsG FormsH FormsI FormsJ FormsK.
-/
import Derived.Test.YtjdcbblgaoogmaaGreatDoorProg
import Derived.Test.YtjdcbblgaoogmaaGreatDoorGp2
namespace Go.Proofs.YtjdcbblgaoogmaaGreatDoor.W
open Go Go.Proofs Go.Proofs.YtjdcbblgaoogmaaGreatDoor.Wx
def z1 : List Value := [.nilFunc]
def ti1 : TI := ⟨true, .fn, 1, 8, z1, []⟩
def z3 : List Value := [.int .i64 0]
def ti3 : TI := ⟨true, .int .i64, 1, 8, z3, []⟩
def z4 : List Value := [.bool false]
def ti4 : TI := ⟨true, .bool, 1, 1, z4, []⟩
def z5 : List Value := [.int .u8 0]
def ti5 : TI := ⟨true, .int .u8, 1, 1, z5, []⟩
def z9 : List Value := [.string (mkStr [])]
def ti9 : TI := ⟨true, .str, 1, 16, z9, []⟩
def z22 : List Value := [.slice none 0 0]
def ti22 : TI := ⟨true, .slice 46, 1, 24, z22, []⟩
def z25 : List Value := [.pointer none]
def ti25 : TI := ⟨true, .ptr 112, 1, 8, z25, []⟩
def z26 : List Value := [.int .i64 0]
def ti26 : TI := ⟨true, .int .i64, 1, 8, z26, []⟩
def z29 : List Value := [.pointer none]
def ti29 : TI := ⟨true, .ptr 41, 1, 8, z29, []⟩
def z33 : List Value := [.slice none 0 0]
def ti33 : TI := ⟨true, .slice 37, 1, 24, z33, []⟩
def z34 : List Value := [.slice none 0 0]
def ti34 : TI := ⟨true, .slice 9, 1, 24, z34, []⟩
def z36 : List Value := [.pointer none, .pointer none, .slice none 0 0, .slice none 0 0]
def ti36 : TI := ⟨true, .struct [(0, 25), (1, 29), (2, 33), (3, 34)], 4, 64, z36, []⟩
def z37 : List Value := [.slice none 0 0]
def ti37 : TI := ⟨true, .slice 5, 1, 24, z37, []⟩
def z38 : List Value := [.slice none 0 0]
def ti38 : TI := ⟨true, .slice 122, 1, 24, z38, []⟩
def z39 : List Value := [.slice none 0 0]
def ti39 : TI := ⟨true, .slice 4, 1, 24, z39, []⟩
def z41 : List Value := [.slice none 0 0, .slice none 0 0, .slice none 0 0, .int .i64 0, .bool false, .int .i64 0, .int .i64 0]
def ti41 : TI := ⟨true, .struct [(0, 37), (1, 38), (2, 39), (3, 3), (4, 4), (5, 3), (6, 3)], 7, 104, z41, []⟩
def z42 : List Value := [.slice none 0 0]
def ti42 : TI := ⟨true, .slice 103, 1, 24, z42, []⟩
def z44 : List Value := [.int .i64 0, .slice none 0 0]
def ti44 : TI := ⟨true, .struct [(0, 3), (1, 39)], 2, 32, z44, []⟩
def z46 : List Value := [.int .i64 0, .slice none 0 0, .int .i64 0, .int .u8 0, .slice none 0 0, .int .i64 0, .slice none 0 0]
def ti46 : TI := ⟨true, .struct [(0, 3), (1, 42), (2, 3), (3, 5), (4, 37), (5, 44)], 7, 104, z46, []⟩
def z55 : List Value := [.slice none 0 0]
def ti55 : TI := ⟨true, .slice 67, 1, 24, z55, []⟩
def z57 : List Value := [.pointer none]
def ti57 : TI := ⟨true, .ptr 135, 1, 8, z57, []⟩
def z58 : List Value := [.pointer none]
def ti58 : TI := ⟨true, .ptr 71, 1, 8, z58, []⟩
def z60 : List Value := [.pointer none, .pointer none, .pointer none, .pointer none]
def ti60 : TI := ⟨true, .struct [(0, 25), (1, 29), (2, 57), (3, 58)], 4, 32, z60, []⟩
def z62 : List Value := [.slice none 0 0]
def ti62 : TI := ⟨true, .slice 142, 1, 24, z62, []⟩
def z63 : List Value := [.slice none 0 0]
def ti63 : TI := ⟨true, .slice 137, 1, 24, z63, []⟩
def z65 : List Value := [.slice none 0 0, .slice none 0 0, .slice none 0 0]
def ti65 : TI := ⟨true, .struct [(0, 62), (1, 63), (2, 63)], 3, 72, z65, []⟩
def z67 : List Value := [.int .i64 0, .int .i64 0, .int .u8 0, .slice none 0 0, .slice none 0 0]
def ti67 : TI := ⟨true, .struct [(0, 3), (1, 3), (2, 5), (3, 37), (4, 39)], 5, 72, z67, []⟩
def z69 : List Value := [.slice none 0 0]
def ti69 : TI := ⟨true, .slice 190, 1, 24, z69, []⟩
def z71 : List Value := [.pointer none, .slice none 0 0, .bool false]
def ti71 : TI := ⟨true, .struct [(0, 29), (1, 69), (2, 4)], 3, 40, z71, []⟩
def z73 : List Value := [.slice none 0 0]
def ti73 : TI := ⟨true, .slice 87, 1, 24, z73, []⟩
def z75 : List Value := [.int .i64 0, .slice none 0 0, .int .u8 0, .slice none 0 0]
def ti75 : TI := ⟨true, .struct [(0, 3), (1, 37), (2, 5), (3, 73)], 4, 64, z75, []⟩
def z80 : List Value := [.int .i64 0, .int .i64 0, .int .i64 0, .int .i64 0, .int .i64 0]
def ti80 : TI := ⟨true, .struct [(0, 3), (1, 3), (2, 3), (3, 3), (4, 3)], 5, 40, z80, []⟩
def z84 : List Value := [.pointer none, .pointer none, .pointer none, .pointer none, .int .i64 0, .int .i64 0, .int .i64 0, .int .i64 0, .int .i64 0]
def ti84 : TI := ⟨true, .struct [(0, 25), (1, 29), (2, 57), (3, 58), (4, 80)], 9, 72, z84, []⟩
def z87 : List Value := [.int .i64 0, .int .i64 0, .int .u8 0]
def ti87 : TI := ⟨true, .struct [(0, 3), (1, 3), (2, 5)], 3, 24, z87, []⟩
def z89 : List Value := [.slice none 0 0]
def ti89 : TI := ⟨true, .slice 155, 1, 24, z89, []⟩
def z90 : List Value := [.slice none 0 0]
def ti90 : TI := ⟨true, .slice 97, 1, 24, z90, []⟩
def z92 : List Value := [.int .i64 0, .slice none 0 0, .slice none 0 0]
def ti92 : TI := ⟨true, .struct [(0, 3), (1, 89), (2, 90)], 3, 56, z92, []⟩
def z95 : List Value := [.pointer none, .pointer none, .pointer none, .pointer none, .int .i64 0, .int .i64 0, .int .i64 0, .int .i64 0, .int .i64 0]
def ti95 : TI := ⟨true, .struct [(0, 25), (1, 29), (2, 57), (3, 58), (4, 80)], 9, 72, z95, []⟩
def z97 : List Value := [.int .i64 0, .int .i64 0, .int .i64 0, .int .i64 0, .string (mkStr [])]
def ti97 : TI := ⟨true, .struct [(0, 3), (1, 3), (2, 3), (3, 3), (4, 9)], 5, 48, z97, []⟩
def z103 : List Value := [.int .i64 0, .slice none 0 0]
def ti103 : TI := ⟨true, .struct [(0, 3), (1, 37)], 2, 32, z103, []⟩
def z109 : List Value := [.slice none 0 0]
def ti109 : TI := ⟨true, .slice 125, 1, 24, z109, []⟩
def z110 : List Value := [.slice none 0 0]
def ti110 : TI := ⟨true, .slice 174, 1, 24, z110, []⟩
def z112 : List Value := [.slice none 0 0, .slice none 0 0, .int .i64 0, .slice none 0 0, .bool false, .int .i64 0, .int .i64 0, .slice none 0 0]
def ti112 : TI := ⟨true, .struct [(0, 109), (1, 110), (2, 3), (3, 39), (4, 4), (5, 3), (6, 3), (7, 38)], 8, 128, z112, []⟩
def z122 : List Value := [.int .i64 0, .int .i64 0, .slice none 0 0]
def ti122 : TI := ⟨true, .struct [(0, 3), (1, 3), (2, 37)], 3, 40, z122, []⟩
def z125 : List Value := List.replicate 512 (.int .u8 0)
def ti125 : TI := ⟨true, .arr 512 5, 512, 512, z125, []⟩
def z132 : List Value := [.map none]
def ti132 : TI := ⟨true, .map 3 37, 1, 8, z132, []⟩
def z133 : List Value := [.slice none 0 0]
def ti133 : TI := ⟨true, .slice 1, 1, 24, z133, []⟩
def z135 : List Value := [.pointer none, .map none, .slice none 0 0, .bool false]
def ti135 : TI := ⟨true, .struct [(0, 25), (1, 132), (2, 133), (3, 4)], 4, 48, z135, []⟩
def z137 : List Value := [.slice none 0 0]
def ti137 : TI := ⟨true, .slice 3, 1, 24, z137, []⟩
def z142 : List Value := [.slice none 0 0, .int .i64 0, .int .u8 0, .string (mkStr []), .bool false]
def ti142 : TI := ⟨true, .struct [(0, 37), (1, 3), (2, 5), (3, 9), (4, 4)], 5, 64, z142, []⟩
def z153 : List Value := [.int .i64 0, .int .i64 0, .int .i64 0, .int .i64 0, .int .i64 0, .int .i64 0, .int .i64 0, .int .i64 0, .int .i64 0, .int .i64 0]
def ti153 : TI := ⟨true, .arr 10 3, 10, 80, z153, []⟩
def z155 : List Value := List.replicate 15 (.int .i64 0)
def ti155 : TI := ⟨true, .struct [(0, 3), (1, 3), (2, 3), (3, 153), (13, 3), (14, 3)], 15, 120, z155, [(.int .i64), (.int .i64), (.int .i64), (.int .i64), (.int .i64), (.int .i64), (.int .i64), (.int .i64), (.int .i64), (.int .i64), (.int .i64), (.int .i64), (.int .i64), (.int .i64), (.int .i64)]⟩
def z169 : List Value := [.slice none 0 0]
def ti169 : TI := ⟨true, .slice 172, 1, 24, z169, []⟩
def z172 : List Value := [.nilFunc]
def ti172 : TI := ⟨true, .fn, 1, 8, z172, []⟩
def z174 : List Value := (.int .i64 0) :: List.replicate 512 (.int .u8 0)
def ti174 : TI := ⟨true, .struct [(0, 3), (1, 125)], 513, 520, z174, []⟩
def z190 : List Value := [.int .i64 0, .string (mkStr [])]
def ti190 : TI := ⟨true, .struct [(0, 3), (1, 9)], 2, 24, z190, []⟩
def z199 : List Value := [.nilFunc]
def ti199 : TI := ⟨true, .fn, 1, 8, z199, []⟩
def z202 : List Value := [.pointer none]
def ti202 : TI := ⟨true, .ptr 26, 1, 8, z202, []⟩
def z213 : List Value := [.pointer none, .slice none 0 0]
def ti213 : TI := ⟨true, .struct [(0, 211), (1, 37)], 2, 32, z213, []⟩
def z218 : List Value := [.int .i64 0, .int .i64 0, .int .i64 0, .int .i64 0]
def ti218 : TI := ⟨true, .struct [(0, 3), (1, 3), (2, 3), (3, 3)], 4, 32, z218, []⟩
def z235 : List Value := [.slice none 0 0]
def ti235 : TI := ⟨true, .slice 291, 1, 24, z235, []⟩
def z243 : List Value := [.int .u64 0]
def ti243 : TI := ⟨true, .int .u64, 1, 8, z243, []⟩
def z244 : List Value := [.int .u32 0]
def ti244 : TI := ⟨true, .int .u32, 1, 4, z244, []⟩
def z275 : List Value := [.nilFunc]
def ti275 : TI := ⟨true, .fn, 1, 8, z275, []⟩
def z277 : List Value := [.pointer none]
def ti277 : TI := ⟨true, .ptr 279, 1, 8, z277, []⟩
def z279 : List Value := (.pointer none) :: List.replicate 20 (.int .i64 0)
def ti279 : TI := ⟨true, .struct [(0, 57), (1, 80), (6, 155)], 21, 168, z279, []⟩
def z282 : List Value := [.int .i64 0, .int .i64 0]
def ti282 : TI := ⟨true, .struct [(0, 3), (1, 3)], 2, 16, z282, []⟩
def z291 : List Value := [.int .i64 0, .int .i64 0]
def ti291 : TI := ⟨true, .arr 2 3, 2, 16, z291, []⟩
def z292 : List Value := [.nilFunc]
def ti292 : TI := ⟨true, .fn, 1, 8, z292, []⟩
def z295 : List Value := [.nilFunc]
def ti295 : TI := ⟨true, .fn, 1, 8, z295, []⟩
def z298 : List Value := [.pointer none, .int .i64 0, .int .i64 0, .int .i64 0, .int .i64 0, .int .i64 0, .slice none 0 0, .slice none 0 0, .int .i64 0, .int .i64 0]
def ti298 : TI := ⟨true, .struct [(0, 58), (1, 80), (6, 235), (7, 137), (8, 3), (9, 26)], 10, 112, z298, []⟩
def z320 : List Value := [.slice none 0 0]
def ti320 : TI := ⟨true, .slice 282, 1, 24, z320, []⟩
def z326 : List Value := [.int .i64 0, .int .i64 0, .int .i64 0, .int .i64 0, .int .i64 0, .int .i64 0, .int .i64 0, .int .i64 0, .int .i64 0, .int .i64 0, .int .i64 0, .int .i64 0]
def ti326 : TI := ⟨true, .arr 12 3, 12, 96, z326, []⟩
def z328 : List Value := [.bool false, .bool false, .bool false, .bool false, .bool false, .bool false, .bool false, .bool false, .bool false]
def ti328 : TI := ⟨true, .arr 9 4, 9, 9, z328, []⟩
def z346 : List Value := List.replicate 16 (.int .u32 0)
def ti346 : TI := ⟨true, .arr 16 244, 16, 64, z346, []⟩
def z348 : List Value := List.replicate 32 (.int .u32 0)
def ti348 : TI := ⟨true, .arr 32 244, 32, 128, z348, []⟩
def tiTab : List (Nat × TI) := [(1, ti1), (3, ti3), (4, ti4), (5, ti5), (9, ti9), (22, ti22), (25, ti25), (26, ti26), (29, ti29), (33, ti33), (34, ti34), (36, ti36), (37, ti37), (38, ti38), (39, ti39), (41, ti41), (42, ti42), (44, ti44), (46, ti46), (55, ti55), (57, ti57), (58, ti58), (60, ti60), (62, ti62), (63, ti63), (65, ti65), (67, ti67), (69, ti69), (71, ti71), (73, ti73), (75, ti75), (80, ti80), (84, ti84), (87, ti87), (89, ti89), (90, ti90), (92, ti92), (95, ti95), (97, ti97), (103, ti103), (109, ti109), (110, ti110), (112, ti112), (122, ti122), (125, ti125), (132, ti132), (133, ti133), (135, ti135), (137, ti137), (142, ti142), (153, ti153), (155, ti155), (169, ti169), (172, ti172), (174, ti174), (190, ti190), (199, ti199), (202, ti202), (213, ti213), (218, ti218), (235, ti235), (243, ti243), (244, ti244), (275, ti275), (277, ti277), (279, ti279), (282, ti282), (291, ti291), (292, ti292), (295, ti295), (298, ti298), (320, ti320), (326, ti326), (328, ti328), (346, ti346), (348, ti348)]
def sigTab : List (Nat × List Ty) := [(0, []), (1, [.clo]), (3, [.int .i64]), (4, [.bool]), (9, [.str]), (26, [.int .i64]), (27, [.ptr, .int .i64]), (30, [.ptr, .int .i64]), (37, [.slice]), (38, [.slice]), (39, [.slice]), (42, [.slice]), (48, [.int .i64, .int .i64]), (57, [.ptr]), (58, [.ptr]), (80, [.agg]), (104, [.slice, .int .i64]), (106, [.int .i64, .int .i64]), (122, [.agg]), (137, [.slice]), (142, [.agg]), (149, [.bool, .int .i64]), (155, [.agg]), (157, [.str, .int .i64]), (181, [.slice, .slice, .int .i64]), (195, [.any]), (204, [.int .i64, .slice, .int .i64, .int .i64]), (209, [.agg, .int .i64]), (215, [.any]), (222, [.int .i64, .any]), (228, [.agg, .int .i64, .int .i64]), (236, [.slice, .slice, .int .i64]), (244, [.int .u32]), (249, [.slice, .int .i64]), (252, [.slice, .slice]), (259, [.any]), (262, [.int .i64, .int .i64, .int .i64]), (270, [.int .i64, .slice]), (275, [.clo]), (293, [.slice, .slice, .int .i64]), (304, [.int .u32, .int .i64]), (307, [.int .u64, .int .i64]), (320, [.slice]), (322, [.int .i64, .slice, .int .i64]), (324, [.ptr]), (326, [.agg]), (348, [.agg])]
def natTab : List Nat := []
def panTab : List Nat := [117, 119, 183]
noncomputable def cx (loops : Nat → List Nat × List (Nat × Ty)) (orders : Nat → Od) : Ctx := ⟨Tryz.prog, tiOf tiTab, sigOf sigTab, loops, orders, natTab, panTab⟩
theorem natTab_ok : ∀ g ∈ natTab, NatOk Tryz.prog g := by
  simp only [natTab, List.forall_mem_cons]
  exact fun _ h => absurd h List.not_mem_nil
theorem tiok1 : TIok Tryz.prog 1 ti1 := ⟨by kernel_rfl, by kernel_rfl, by kernel_rfl, by kernel_rfl, by kernel_rfl⟩
theorem tiok3 : TIok Tryz.prog 3 ti3 := ⟨by kernel_rfl, by kernel_rfl, by kernel_rfl, by kernel_rfl, by kernel_rfl⟩
theorem tiok4 : TIok Tryz.prog 4 ti4 := ⟨by kernel_rfl, by kernel_rfl, by kernel_rfl, by kernel_rfl, by kernel_rfl⟩
theorem tiok5 : TIok Tryz.prog 5 ti5 := ⟨by kernel_rfl, by kernel_rfl, by kernel_rfl, by kernel_rfl, by kernel_rfl⟩
theorem tiok9 : TIok Tryz.prog 9 ti9 := ⟨by kernel_rfl, by kernel_rfl, by kernel_rfl, by kernel_rfl, by kernel_rfl⟩
theorem tiok22 : TIok Tryz.prog 22 ti22 := ⟨by kernel_rfl, by kernel_rfl, by kernel_rfl, by kernel_rfl, by kernel_rfl⟩
theorem tiok25 : TIok Tryz.prog 25 ti25 := ⟨by kernel_rfl, by kernel_rfl, by kernel_rfl, by kernel_rfl, by kernel_rfl⟩
theorem tiok26 : TIok Tryz.prog 26 ti26 := ⟨by kernel_rfl, by kernel_rfl, by kernel_rfl, by kernel_rfl, by kernel_rfl⟩
theorem tiok29 : TIok Tryz.prog 29 ti29 := ⟨by kernel_rfl, by kernel_rfl, by kernel_rfl, by kernel_rfl, by kernel_rfl⟩
theorem tiok33 : TIok Tryz.prog 33 ti33 := ⟨by kernel_rfl, by kernel_rfl, by kernel_rfl, by kernel_rfl, by kernel_rfl⟩
theorem tiok34 : TIok Tryz.prog 34 ti34 := ⟨by kernel_rfl, by kernel_rfl, by kernel_rfl, by kernel_rfl, by kernel_rfl⟩
theorem tiok36 : TIok Tryz.prog 36 ti36 := ⟨by kernel_rfl, by kernel_rfl, by kernel_rfl, by kernel_rfl, by kernel_rfl⟩
theorem tiok37 : TIok Tryz.prog 37 ti37 := ⟨by kernel_rfl, by kernel_rfl, by kernel_rfl, by kernel_rfl, by kernel_rfl⟩
theorem tiok38 : TIok Tryz.prog 38 ti38 := ⟨by kernel_rfl, by kernel_rfl, by kernel_rfl, by kernel_rfl, by kernel_rfl⟩
theorem tiok39 : TIok Tryz.prog 39 ti39 := ⟨by kernel_rfl, by kernel_rfl, by kernel_rfl, by kernel_rfl, by kernel_rfl⟩
theorem tiok41 : TIok Tryz.prog 41 ti41 := ⟨by kernel_rfl, by kernel_rfl, by kernel_rfl, by kernel_rfl, by kernel_rfl⟩
theorem tiok42 : TIok Tryz.prog 42 ti42 := ⟨by kernel_rfl, by kernel_rfl, by kernel_rfl, by kernel_rfl, by kernel_rfl⟩
theorem tiok44 : TIok Tryz.prog 44 ti44 := ⟨by kernel_rfl, by kernel_rfl, by kernel_rfl, by kernel_rfl, by kernel_rfl⟩
theorem tiok46 : TIok Tryz.prog 46 ti46 := ⟨by kernel_rfl, by kernel_rfl, by kernel_rfl, by kernel_rfl, by kernel_rfl⟩
theorem tiok55 : TIok Tryz.prog 55 ti55 := ⟨by kernel_rfl, by kernel_rfl, by kernel_rfl, by kernel_rfl, by kernel_rfl⟩
theorem tiok57 : TIok Tryz.prog 57 ti57 := ⟨by kernel_rfl, by kernel_rfl, by kernel_rfl, by kernel_rfl, by kernel_rfl⟩
theorem tiok58 : TIok Tryz.prog 58 ti58 := ⟨by kernel_rfl, by kernel_rfl, by kernel_rfl, by kernel_rfl, by kernel_rfl⟩
theorem tiok60 : TIok Tryz.prog 60 ti60 := ⟨by kernel_rfl, by kernel_rfl, by kernel_rfl, by kernel_rfl, by kernel_rfl⟩
theorem tiok62 : TIok Tryz.prog 62 ti62 := ⟨by kernel_rfl, by kernel_rfl, by kernel_rfl, by kernel_rfl, by kernel_rfl⟩
theorem tiok63 : TIok Tryz.prog 63 ti63 := ⟨by kernel_rfl, by kernel_rfl, by kernel_rfl, by kernel_rfl, by kernel_rfl⟩
theorem tiok65 : TIok Tryz.prog 65 ti65 := ⟨by kernel_rfl, by kernel_rfl, by kernel_rfl, by kernel_rfl, by kernel_rfl⟩
theorem tiok67 : TIok Tryz.prog 67 ti67 := ⟨by kernel_rfl, by kernel_rfl, by kernel_rfl, by kernel_rfl, by kernel_rfl⟩
theorem tiok69 : TIok Tryz.prog 69 ti69 := ⟨by kernel_rfl, by kernel_rfl, by kernel_rfl, by kernel_rfl, by kernel_rfl⟩
theorem tiok71 : TIok Tryz.prog 71 ti71 := ⟨by kernel_rfl, by kernel_rfl, by kernel_rfl, by kernel_rfl, by kernel_rfl⟩
theorem tiok73 : TIok Tryz.prog 73 ti73 := ⟨by kernel_rfl, by kernel_rfl, by kernel_rfl, by kernel_rfl, by kernel_rfl⟩
theorem tiok75 : TIok Tryz.prog 75 ti75 := ⟨by kernel_rfl, by kernel_rfl, by kernel_rfl, by kernel_rfl, by kernel_rfl⟩
theorem tiok80 : TIok Tryz.prog 80 ti80 := ⟨by kernel_rfl, by kernel_rfl, by kernel_rfl, by kernel_rfl, by kernel_rfl⟩
theorem tiok84 : TIok Tryz.prog 84 ti84 := ⟨by kernel_rfl, by kernel_rfl, by kernel_rfl, by kernel_rfl, by kernel_rfl⟩
theorem tiok87 : TIok Tryz.prog 87 ti87 := ⟨by kernel_rfl, by kernel_rfl, by kernel_rfl, by kernel_rfl, by kernel_rfl⟩
theorem tiok89 : TIok Tryz.prog 89 ti89 := ⟨by kernel_rfl, by kernel_rfl, by kernel_rfl, by kernel_rfl, by kernel_rfl⟩
theorem tiok90 : TIok Tryz.prog 90 ti90 := ⟨by kernel_rfl, by kernel_rfl, by kernel_rfl, by kernel_rfl, by kernel_rfl⟩
theorem tiok92 : TIok Tryz.prog 92 ti92 := ⟨by kernel_rfl, by kernel_rfl, by kernel_rfl, by kernel_rfl, by kernel_rfl⟩
theorem tiok95 : TIok Tryz.prog 95 ti95 := ⟨by kernel_rfl, by kernel_rfl, by kernel_rfl, by kernel_rfl, by kernel_rfl⟩
theorem tiok97 : TIok Tryz.prog 97 ti97 := ⟨by kernel_rfl, by kernel_rfl, by kernel_rfl, by kernel_rfl, by kernel_rfl⟩
theorem tiok103 : TIok Tryz.prog 103 ti103 := ⟨by kernel_rfl, by kernel_rfl, by kernel_rfl, by kernel_rfl, by kernel_rfl⟩
theorem tiok109 : TIok Tryz.prog 109 ti109 := ⟨by kernel_rfl, by kernel_rfl, by kernel_rfl, by kernel_rfl, by kernel_rfl⟩
theorem tiok110 : TIok Tryz.prog 110 ti110 := ⟨by kernel_rfl, by kernel_rfl, by kernel_rfl, by kernel_rfl, by kernel_rfl⟩
theorem tiok112 : TIok Tryz.prog 112 ti112 := ⟨by kernel_rfl, by kernel_rfl, by kernel_rfl, by kernel_rfl, by kernel_rfl⟩
theorem tiok122 : TIok Tryz.prog 122 ti122 := ⟨by kernel_rfl, by kernel_rfl, by kernel_rfl, by kernel_rfl, by kernel_rfl⟩
theorem tiok125 : TIok Tryz.prog 125 ti125 := ⟨by kernel_rfl, by kernel_rfl, by kernel_rfl, by kernel_rfl, by kernel_rfl⟩
theorem tiok132 : TIok Tryz.prog 132 ti132 := ⟨by kernel_rfl, by kernel_rfl, by kernel_rfl, by kernel_rfl, by kernel_rfl⟩
theorem tiok133 : TIok Tryz.prog 133 ti133 := ⟨by kernel_rfl, by kernel_rfl, by kernel_rfl, by kernel_rfl, by kernel_rfl⟩
theorem tiok135 : TIok Tryz.prog 135 ti135 := ⟨by kernel_rfl, by kernel_rfl, by kernel_rfl, by kernel_rfl, by kernel_rfl⟩
theorem tiok137 : TIok Tryz.prog 137 ti137 := ⟨by kernel_rfl, by kernel_rfl, by kernel_rfl, by kernel_rfl, by kernel_rfl⟩
theorem tiok142 : TIok Tryz.prog 142 ti142 := ⟨by kernel_rfl, by kernel_rfl, by kernel_rfl, by kernel_rfl, by kernel_rfl⟩
theorem tiok153 : TIok Tryz.prog 153 ti153 := ⟨by kernel_rfl, by kernel_rfl, by kernel_rfl, by kernel_rfl, by kernel_rfl⟩
theorem tiok155 : TIok Tryz.prog 155 ti155 := ⟨by kernel_rfl, by kernel_rfl, by kernel_rfl, by kernel_rfl, by kernel_rfl⟩
theorem tiok169 : TIok Tryz.prog 169 ti169 := ⟨by kernel_rfl, by kernel_rfl, by kernel_rfl, by kernel_rfl, by kernel_rfl⟩
theorem tiok172 : TIok Tryz.prog 172 ti172 := ⟨by kernel_rfl, by kernel_rfl, by kernel_rfl, by kernel_rfl, by kernel_rfl⟩
theorem tiok174 : TIok Tryz.prog 174 ti174 := ⟨by kernel_rfl, by kernel_rfl, by kernel_rfl, by kernel_rfl, by kernel_rfl⟩
theorem tiok190 : TIok Tryz.prog 190 ti190 := ⟨by kernel_rfl, by kernel_rfl, by kernel_rfl, by kernel_rfl, by kernel_rfl⟩
theorem tiok199 : TIok Tryz.prog 199 ti199 := ⟨by kernel_rfl, by kernel_rfl, by kernel_rfl, by kernel_rfl, by kernel_rfl⟩
theorem tiok202 : TIok Tryz.prog 202 ti202 := ⟨by kernel_rfl, by kernel_rfl, by kernel_rfl, by kernel_rfl, by kernel_rfl⟩
theorem tiok213 : TIok Tryz.prog 213 ti213 := ⟨by kernel_rfl, by kernel_rfl, by kernel_rfl, by kernel_rfl, by kernel_rfl⟩
theorem tiok218 : TIok Tryz.prog 218 ti218 := ⟨by kernel_rfl, by kernel_rfl, by kernel_rfl, by kernel_rfl, by kernel_rfl⟩
theorem tiok235 : TIok Tryz.prog 235 ti235 := ⟨by kernel_rfl, by kernel_rfl, by kernel_rfl, by kernel_rfl, by kernel_rfl⟩
theorem tiok243 : TIok Tryz.prog 243 ti243 := ⟨by kernel_rfl, by kernel_rfl, by kernel_rfl, by kernel_rfl, by kernel_rfl⟩
theorem tiok244 : TIok Tryz.prog 244 ti244 := ⟨by kernel_rfl, by kernel_rfl, by kernel_rfl, by kernel_rfl, by kernel_rfl⟩
theorem tiok275 : TIok Tryz.prog 275 ti275 := ⟨by kernel_rfl, by kernel_rfl, by kernel_rfl, by kernel_rfl, by kernel_rfl⟩
theorem tiok277 : TIok Tryz.prog 277 ti277 := ⟨by kernel_rfl, by kernel_rfl, by kernel_rfl, by kernel_rfl, by kernel_rfl⟩
theorem tiok279 : TIok Tryz.prog 279 ti279 := ⟨by kernel_rfl, by kernel_rfl, by kernel_rfl, by kernel_rfl, by kernel_rfl⟩
theorem tiok282 : TIok Tryz.prog 282 ti282 := ⟨by kernel_rfl, by kernel_rfl, by kernel_rfl, by kernel_rfl, by kernel_rfl⟩
theorem tiok291 : TIok Tryz.prog 291 ti291 := ⟨by kernel_rfl, by kernel_rfl, by kernel_rfl, by kernel_rfl, by kernel_rfl⟩
theorem tiok292 : TIok Tryz.prog 292 ti292 := ⟨by kernel_rfl, by kernel_rfl, by kernel_rfl, by kernel_rfl, by kernel_rfl⟩
theorem tiok295 : TIok Tryz.prog 295 ti295 := ⟨by kernel_rfl, by kernel_rfl, by kernel_rfl, by kernel_rfl, by kernel_rfl⟩
theorem tiok298 : TIok Tryz.prog 298 ti298 := ⟨by kernel_rfl, by kernel_rfl, by kernel_rfl, by kernel_rfl, by kernel_rfl⟩
theorem tiok320 : TIok Tryz.prog 320 ti320 := ⟨by kernel_rfl, by kernel_rfl, by kernel_rfl, by kernel_rfl, by kernel_rfl⟩
theorem tiok326 : TIok Tryz.prog 326 ti326 := ⟨by kernel_rfl, by kernel_rfl, by kernel_rfl, by kernel_rfl, by kernel_rfl⟩
theorem tiok328 : TIok Tryz.prog 328 ti328 := ⟨by kernel_rfl, by kernel_rfl, by kernel_rfl, by kernel_rfl, by kernel_rfl⟩
theorem tiok346 : TIok Tryz.prog 346 ti346 := ⟨by kernel_rfl, by kernel_rfl, by kernel_rfl, by kernel_rfl, by kernel_rfl⟩
theorem tiok348 : TIok Tryz.prog 348 ti348 := ⟨by kernel_rfl, by kernel_rfl, by kernel_rfl, by kernel_rfl, by kernel_rfl⟩
theorem tiTab_ok : ∀ x ∈ tiTab, TIok Tryz.prog x.1 x.2 := by
  simp only [tiTab, List.forall_mem_cons]
  exact ⟨tiok1, tiok3, tiok4, tiok5, tiok9, tiok22, tiok25, tiok26, tiok29, tiok33, tiok34, tiok36, tiok37, tiok38, tiok39, tiok41, tiok42, tiok44, tiok46, tiok55, tiok57, tiok58, tiok60, tiok62, tiok63, tiok65, tiok67, tiok69, tiok71, tiok73, tiok75, tiok80, tiok84, tiok87, tiok89, tiok90, tiok92, tiok95, tiok97, tiok103, tiok109, tiok110, tiok112, tiok122, tiok125, tiok132, tiok133, tiok135, tiok137, tiok142, tiok153, tiok155, tiok169, tiok172, tiok174, tiok190, tiok199, tiok202, tiok213, tiok218, tiok235, tiok243, tiok244, tiok275, tiok277, tiok279, tiok282, tiok291, tiok292, tiok295, tiok298, tiok320, tiok326, tiok328, tiok346, tiok348, fun _ h => absurd h List.not_mem_nil⟩
theorem cxOk (loops : Nat → List Nat × List (Nat × Ty)) (orders : Nat → Od) : CtxOk (cx loops orders) := ⟨natTab_ok, tiOf_ok tiTab tiTab_ok, by kernel_rfl⟩
def C.bolelaw09_SpacePlays (c1 : List Value) (h : Heap) (k : Value → Heap → Prop) : Prop := HCalls Tryz.prog 5 [.agg ⟨c1⟩] h k
def C.adisk_New (n1 : Int) (h : Heap) (k : Value → Heap → Prop) : Prop := HCalls Tryz.prog 9 [.int .i64 n1] h k
def C.adisk_Disk_Down (d1 : Option Addr) (h : Heap) (k : Value → Heap → Prop) : Prop := HCalls Tryz.prog 12 [.pointer d1] h k
def C.adisk_Disk_Steps (d1 : Option Addr) (h : Heap) (k : Value → Heap → Prop) : Prop := HCalls Tryz.prog 13 [.pointer d1] h k
def C.bolelaw09_Case_image (c1 : List Value) (h : Heap) (k : Value → Heap → Prop) : Prop := HCalls Tryz.prog 27 [.agg ⟨c1⟩] h k
def C.adisk_Open (imageA1 : Option Addr) (imageL1 : Nat) (imageC1 : Nat) (h : Heap) (k : Value → Heap → Prop) : Prop := HCalls Tryz.prog 28 [.slice imageA1 imageL1 imageC1] h k
def C.boleref03_Of (imageA1 : Option Addr) (imageL1 : Nat) (imageC1 : Nat) (h : Heap) (k : Value → Heap → Prop) : Prop := HCalls Tryz.prog 29 [.slice imageA1 imageL1 imageC1] h k
def C.boleref09_Geo (n1 : Int) (h : Heap) (k : Value → Heap → Prop) : Prop := HCalls Tryz.prog 30 [.int .i64 n1] h k
def C.bolelaw09_Case_blocks (c1 : List Value) (h : Heap) (k : Value → Heap → Prop) : Prop := HCalls Tryz.prog 31 [.agg ⟨c1⟩] h k
def C.bolelaw09_Sides_begins (s1 : Option Addr) (h : Heap) (k : Value → Heap → Prop) : Prop := HCalls Tryz.prog 32 [.pointer s1] h k
def C.bolelaw09_Sides_plays (s1 : Option Addr) (o1 : List Value) (h : Heap) (k : Value → Heap → Prop) : Prop := HCalls Tryz.prog 33 [.pointer s1, .agg ⟨o1⟩] h k
def C.wal_Commit (d1 : Option Addr) (lA1 : Option Addr) (lL1 : Nat) (lC1 : Nat) (h : Heap) (k : Value → Heap → Prop) : Prop := HCalls Tryz.prog 40 [.pointer d1, .slice lA1 lL1 lC1] h k
def C.adisk_Disk_Read (d1 : Option Addr) (i1 : Int) (h : Heap) (k : Value → Heap → Prop) : Prop := HCalls Tryz.prog 41 [.pointer d1, .int .i64 i1] h k
def C.boleref03_Disk_Write (d1 : Option Addr) (i1 : Int) (bA1 : Option Addr) (bL1 : Nat) (bC1 : Nat) (h : Heap) (k : Value → Heap → Prop) : Prop := HCalls Tryz.prog 49 [.pointer d1, .int .i64 i1, .slice bA1 bL1 bC1] h k
def C.adisk_Disk_Write (d1 : Option Addr) (i1 : Int) (bA1 : Option Addr) (bL1 : Nat) (bC1 : Nat) (h : Heap) (k : Value → Heap → Prop) : Prop := HCalls Tryz.prog 50 [.pointer d1, .int .i64 i1, .slice bA1 bL1 bC1] h k
def C.boleref03_Disk_Flush (d1 : Option Addr) (h : Heap) (k : Value → Heap → Prop) : Prop := HCalls Tryz.prog 51 [.pointer d1] h k
def C.adisk_Disk_Flush (d1 : Option Addr) (h : Heap) (k : Value → Heap → Prop) : Prop := HCalls Tryz.prog 52 [.pointer d1] h k
def C.boleref03_Disk_Crash (d1 : Option Addr) (keepA1 : Option Addr) (keepL1 : Nat) (keepC1 : Nat) (h : Heap) (k : Value → Heap → Prop) : Prop := HCalls Tryz.prog 55 [.pointer d1, .slice keepA1 keepL1 keepC1] h k
def C.adisk_Disk_Crash (d1 : Option Addr) (keepA1 : Option Addr) (keepL1 : Nat) (keepC1 : Nat) (h : Heap) (k : Value → Heap → Prop) : Prop := HCalls Tryz.prog 56 [.pointer d1, .slice keepA1 keepL1 keepC1] h k
def C.slices_Clone_byte_byte (sA1 : Option Addr) (sL1 : Nat) (sC1 : Nat) (h : Heap) (k : Value → Heap → Prop) : Prop := HCalls Tryz.prog 58 [.slice sA1 sL1 sC1] h k
def C.boleref03_copied (bA1 : Option Addr) (bL1 : Nat) (bC1 : Nat) (h : Heap) (k : Value → Heap → Prop) : Prop := HCalls Tryz.prog 59 [.slice bA1 bL1 bC1] h k
def C.txn_Begin (d1 : Option Addr) (h : Heap) (k : Value → Heap → Prop) : Prop := HCalls Tryz.prog 61 [.pointer d1] h k
def C.boleref06_Begin (d1 : Option Addr) (h : Heap) (k : Value → Heap → Prop) : Prop := HCalls Tryz.prog 62 [.pointer d1] h k
def C.txn_Txn_Mark (t1 : Option Addr) (h : Heap) (k : Value → Heap → Prop) : Prop := HCalls Tryz.prog 64 [.pointer t1] h k
def C.boleref06_Txn_Mark (t1 : Option Addr) (h : Heap) (k : Value → Heap → Prop) : Prop := HCalls Tryz.prog 65 [.pointer t1] h k
def C.txn_Txn_Back (t1 : Option Addr) (mark1 : Int) (h : Heap) (k : Value → Heap → Prop) : Prop := HCalls Tryz.prog 66 [.pointer t1, .int .i64 mark1] h k
def C.boleref06_Txn_Back (t1 : Option Addr) (mark1 : Int) (h : Heap) (k : Value → Heap → Prop) : Prop := HCalls Tryz.prog 67 [.pointer t1, .int .i64 mark1] h k
def C.txn_Txn_Commit (t1 : Option Addr) (h : Heap) (k : Value → Heap → Prop) : Prop := HCalls Tryz.prog 68 [.pointer t1] h k
def C.boleref06_Txn_Commit (t1 : Option Addr) (h : Heap) (k : Value → Heap → Prop) : Prop := HCalls Tryz.prog 69 [.pointer t1] h k
def C.txn_Txn_Abort (t1 : Option Addr) (h : Heap) (k : Value → Heap → Prop) : Prop := HCalls Tryz.prog 70 [.pointer t1] h k
def C.boleref06_Txn_Abort (t1 : Option Addr) (h : Heap) (k : Value → Heap → Prop) : Prop := HCalls Tryz.prog 71 [.pointer t1] h k
def C.txn_Txn_Read (t1 : Option Addr) (i1 : Int) (h : Heap) (k : Value → Heap → Prop) : Prop := HCalls Tryz.prog 73 [.pointer t1, .int .i64 i1] h k
def C.boleref06_Txn_Read (t1 : Option Addr) (i1 : Int) (h : Heap) (k : Value → Heap → Prop) : Prop := HCalls Tryz.prog 74 [.pointer t1, .int .i64 i1] h k
def C.txn_Txn_Written (t1 : Option Addr) (h : Heap) (k : Value → Heap → Prop) : Prop := HCalls Tryz.prog 76 [.pointer t1] h k
def C.boleref06_Txn_Written (t1 : Option Addr) (h : Heap) (k : Value → Heap → Prop) : Prop := HCalls Tryz.prog 77 [.pointer t1] h k
def C.bolelaw09_mod (v1 : Int) (n1 : Int) (h : Heap) (k : Value → Heap → Prop) : Prop := HCalls Tryz.prog 81 [.int .i64 v1, .int .i64 n1] h k
def C.space_Take (t1 : Option Addr) (g1 : List Value) (h : Heap) (k : Value → Heap → Prop) : Prop := HCalls Tryz.prog 82 [.pointer t1, .agg ⟨g1⟩] h k
def C.boleref09_Take (t1 : Option Addr) (g1 : List Value) (h : Heap) (k : Value → Heap → Prop) : Prop := HCalls Tryz.prog 83 [.pointer t1, .agg ⟨g1⟩] h k
def C.bolelaw09_Sides_alike (s1 : Option Addr) (i1 : Int) (h : Heap) (k : Value → Heap → Prop) : Prop := HCalls Tryz.prog 84 [.pointer s1, .int .i64 i1] h k
def C.space_Give (t1 : Option Addr) (g1 : List Value) (i1 : Int) (h : Heap) (k : Value → Heap → Prop) : Prop := HCalls Tryz.prog 85 [.pointer t1, .agg ⟨g1⟩, .int .i64 i1] h k
def C.boleref09_Give (t1 : Option Addr) (g1 : List Value) (i1 : Int) (h : Heap) (k : Value → Heap → Prop) : Prop := HCalls Tryz.prog 86 [.pointer t1, .agg ⟨g1⟩, .int .i64 i1] h k
def C.space_Used (t1 : Option Addr) (g1 : List Value) (i1 : Int) (h : Heap) (k : Value → Heap → Prop) : Prop := HCalls Tryz.prog 87 [.pointer t1, .agg ⟨g1⟩, .int .i64 i1] h k
def C.boleref09_Used (t1 : Option Addr) (g1 : List Value) (i1 : Int) (h : Heap) (k : Value → Heap → Prop) : Prop := HCalls Tryz.prog 88 [.pointer t1, .agg ⟨g1⟩, .int .i64 i1] h k
def C.space_Free (t1 : Option Addr) (g1 : List Value) (h : Heap) (k : Value → Heap → Prop) : Prop := HCalls Tryz.prog 89 [.pointer t1, .agg ⟨g1⟩] h k
def C.boleref09_Free (t1 : Option Addr) (g1 : List Value) (h : Heap) (k : Value → Heap → Prop) : Prop := HCalls Tryz.prog 90 [.pointer t1, .agg ⟨g1⟩] h k
def C.bolelaw09_Sides_same (s1 : Option Addr) (i1 : Int) (h : Heap) (k : Value → Heap → Prop) : Prop := HCalls Tryz.prog 91 [.pointer s1, .int .i64 i1] h k
def C.txn_Txn_Write (t1 : Option Addr) (i1 : Int) (bA1 : Option Addr) (bL1 : Nat) (bC1 : Nat) (h : Heap) (k : Value → Heap → Prop) : Prop := HCalls Tryz.prog 92 [.pointer t1, .int .i64 i1, .slice bA1 bL1 bC1] h k
def C.bolelaw09_block (x1 : Int) (h : Heap) (k : Value → Heap → Prop) : Prop := HCalls Tryz.prog 93 [.int .u8 x1] h k
def C.boleref06_Txn_Write (t1 : Option Addr) (i1 : Int) (bA1 : Option Addr) (bL1 : Nat) (bC1 : Nat) (h : Heap) (k : Value → Heap → Prop) : Prop := HCalls Tryz.prog 94 [.pointer t1, .int .i64 i1, .slice bA1 bL1 bC1] h k
def C.bolelaw09_sameInts (aA1 : Option Addr) (aL1 : Nat) (aC1 : Nat) (bA1 : Option Addr) (bL1 : Nat) (bC1 : Nat) (h : Heap) (k : Value → Heap → Prop) : Prop := HCalls Tryz.prog 95 [.slice aA1 aL1 aC1, .slice bA1 bL1 bC1] h k
def C.wal_may (lA1 : Option Addr) (lL1 : Nat) (lC1 : Nat) (n1 : Int) (h : Heap) (k : Value → Heap → Prop) : Prop := HCalls Tryz.prog 107 [.slice lA1 lL1 lC1, .int .i64 n1] h k
def C.adisk_Disk_Blocks (d1 : Option Addr) (h : Heap) (k : Value → Heap → Prop) : Prop := HCalls Tryz.prog 108 [.pointer d1] h k
def C.head_Make (numsA1 : Option Addr) (numsL1 : Nat) (numsC1 : Nat) (dataA1 : Option Addr) (dataL1 : Nat) (dataC1 : Nat) (h : Heap) (k : Value → Heap → Prop) : Prop := HCalls Tryz.prog 109 [.slice numsA1 numsL1 numsC1, .slice dataA1 dataL1 dataC1] h k
def C.wal_steps_write (s1 : Option Addr) (i1 : Int) (bA1 : Option Addr) (bL1 : Nat) (bC1 : Nat) (h : Heap) (k : Value → Heap → Prop) : Prop := HCalls Tryz.prog 110 [.pointer s1, .int .i64 i1, .slice bA1 bL1 bC1] h k
def C.wal_steps_flush (s1 : Option Addr) (h : Heap) (k : Value → Heap → Prop) : Prop := HCalls Tryz.prog 111 [.pointer s1] h k
def C.wal_steps_home (s1 : Option Addr) (lA1 : Option Addr) (lL1 : Nat) (lC1 : Nat) (h : Heap) (k : Value → Heap → Prop) : Prop := HCalls Tryz.prog 112 [.pointer s1, .slice lA1 lL1 lC1] h k
def C.wal_steps_do (sA1 : Option Addr) (sL1 : Nat) (sC1 : Nat) (d1 : Option Addr) (h : Heap) (k : Value → Heap → Prop) : Prop := HCalls Tryz.prog 113 [.slice sA1 sL1 sC1, .pointer d1] h k
def C.adisk_Disk_has (d1 : Option Addr) (i1 : Int) (h : Heap) (k : Value → Heap → Prop) : Prop := HCalls Tryz.prog 114 [.pointer d1, .int .i64 i1] h k
def C.head_Empty  (h : Heap) (k : Value → Heap → Prop) : Prop := HCalls Tryz.prog 120 [] h k
def C.boleref03_Disk_Blocks (d1 : Option Addr) (h : Heap) (k : Value → Heap → Prop) : Prop := HCalls Tryz.prog 121 [.pointer d1] h k
def C.boleref03_fault (blocks1 : Int) (a1 : List Value) (h : Heap) (k : Value → Heap → Prop) : Prop := HCalls Tryz.prog 128 [.int .i64 blocks1, .agg ⟨a1⟩] h k
def C.boleref03_Disk_goes (d1 : Option Addr) (h : Heap) (k : Value → Heap → Prop) : Prop := HCalls Tryz.prog 129 [.pointer d1] h k
def C.adisk_Disk_step (d1 : Option Addr) (done1 : Value) (h : Heap) (k : Value → Heap → Prop) : Prop := HCalls Tryz.prog 130 [.pointer d1, done1] h k
def C.adisk_Disk_Flush_c1 (x1 : Option Addr) (h : Heap) (k : Value → Heap → Prop) : Prop := HCalls Tryz.prog 131 [.pointer x1] h k
def C.boleref03_marks (lA1 : Option Addr) (lL1 : Nat) (lC1 : Nat) (h : Heap) (k : Value → Heap → Prop) : Prop := HCalls Tryz.prog 132 [.slice lA1 lL1 lC1] h k
def C.adisk_Disk_cut (d1 : Option Addr) (keepA1 : Option Addr) (keepL1 : Nat) (keepC1 : Nat) (h : Heap) (k : Value → Heap → Prop) : Prop := HCalls Tryz.prog 134 [.pointer d1, .slice keepA1 keepL1 keepC1] h k
def C.txn_Txn_end (t1 : Option Addr) (h : Heap) (k : Value → Heap → Prop) : Prop := HCalls Tryz.prog 137 [.pointer t1] h k
def C.boleref06_Txn_put (t1 : Option Addr) (i1 : Int) (h : Heap) (k : Value → Heap → Prop) : Prop := HCalls Tryz.prog 138 [.pointer t1, .int .i64 i1] h k
def C.boleref06_Commit (d1 : Option Addr) (lA1 : Option Addr) (lL1 : Nat) (lC1 : Nat) (h : Heap) (k : Value → Heap → Prop) : Prop := HCalls Tryz.prog 139 [.pointer d1, .slice lA1 lL1 lC1] h k
def C.boleref03_Disk_Read (d1 : Option Addr) (i1 : Int) (h : Heap) (k : Value → Heap → Prop) : Prop := HCalls Tryz.prog 141 [.pointer d1, .int .i64 i1] h k
def C.slices_Sorted_int (seq1 : Value) (h : Heap) (k : Value → Heap → Prop) : Prop := HCalls Tryz.prog 142 [seq1] h k
def C.maps_Keys_map_int_byte_int_byte (m1 : Option Nat) (h : Heap) (k : Value → Heap → Prop) : Prop := HCalls Tryz.prog 143 [.map m1] h k
def C.space_each (t1 : Option Addr) (g1 : List Value) (do1 : Value) (h : Heap) (k : Value → Heap → Prop) : Prop := HCalls Tryz.prog 144 [.pointer t1, .agg ⟨g1⟩, do1] h k
def C.space_Take_c1 (first1 : Int) (bA1 : Option Addr) (bL1 : Nat) (bC1 : Nat) (x1 : Option Addr) (x2 : Option Addr) (h : Heap) (k : Value → Heap → Prop) : Prop := HCalls Tryz.prog 145 [.int .i64 first1, .slice bA1 bL1 bC1, .pointer x1, .pointer x2] h k
def C.space_rows (g1 : List Value) (first1 : Int) (bA1 : Option Addr) (bL1 : Nat) (bC1 : Nat) (do1 : Value) (h : Heap) (k : Value → Heap → Prop) : Prop := HCalls Tryz.prog 146 [.agg ⟨g1⟩, .int .i64 first1, .slice bA1 bL1 bC1, do1] h k
def C.space_Take_c1_c1 (from1 : Int) (x1 : Int) (x2 : Option Addr) (h : Heap) (k : Value → Heap → Prop) : Prop := HCalls Tryz.prog 147 [.int .i64 from1, .int .i64 x1, .pointer x2] h k
def C.space_back (t1 : Option Addr) (mark1 : Int) (e1 : Option Addr) (h : Heap) (k : Value → Heap → Prop) : Prop := HCalls Tryz.prog 149 [.pointer t1, .int .i64 mark1, .pointer e1] h k
def C.space_set (t1 : Option Addr) (g1 : List Value) (i1 : Int) (on1 : Bool) (h : Heap) (k : Value → Heap → Prop) : Prop := HCalls Tryz.prog 150 [.pointer t1, .agg ⟨g1⟩, .int .i64 i1, .bool on1] h k
def C.boleref09_bit (t1 : Option Addr) (g1 : List Value) (i1 : Int) (h : Heap) (k : Value → Heap → Prop) : Prop := HCalls Tryz.prog 151 [.pointer t1, .agg ⟨g1⟩, .int .i64 i1] h k
def C.boleref09_set (t1 : Option Addr) (g1 : List Value) (i1 : Int) (h : Heap) (k : Value → Heap → Prop) : Prop := HCalls Tryz.prog 152 [.pointer t1, .agg ⟨g1⟩, .int .i64 i1] h k
def C.space_bit (t1 : Option Addr) (g1 : List Value) (i1 : Int) (h : Heap) (k : Value → Heap → Prop) : Prop := HCalls Tryz.prog 153 [.pointer t1, .agg ⟨g1⟩, .int .i64 i1] h k
def C.bits_Get (bA1 : Option Addr) (bL1 : Nat) (bC1 : Nat) (i1 : Int) (h : Heap) (k : Value → Heap → Prop) : Prop := HCalls Tryz.prog 154 [.slice bA1 bL1 bC1, .int .i64 i1] h k
def C.space_Free_c1 (first1 : Int) (bA1 : Option Addr) (bL1 : Nat) (bC1 : Nat) (x1 : Option Addr) (x2 : Option Addr) (h : Heap) (k : Value → Heap → Prop) : Prop := HCalls Tryz.prog 155 [.int .i64 first1, .slice bA1 bL1 bC1, .pointer x1, .pointer x2] h k
def C.space_Free_c1_c1 (from1 : Int) (to1 : Int) (x1 : Option Addr) (h : Heap) (k : Value → Heap → Prop) : Prop := HCalls Tryz.prog 156 [.int .i64 from1, .int .i64 to1, .pointer x1] h k
def C.txn_Txn_Write_c1 (x1 : Option Addr) (x2 : Option Addr) (x3 : Option Addr) (x4 : Option Addr) (h : Heap) (k : Value → Heap → Prop) : Prop := HCalls Tryz.prog 157 [.pointer x1, .pointer x2, .pointer x3, .pointer x4] h k
def C.head_may (numsA1 : Option Addr) (numsL1 : Nat) (numsC1 : Nat) (n1 : Int) (h : Heap) (k : Value → Heap → Prop) : Prop := HCalls Tryz.prog 176 [.slice numsA1 numsL1 numsC1, .int .i64 n1] h k
def C.head_areBlocks (dataA1 : Option Addr) (dataL1 : Nat) (dataC1 : Nat) (n1 : Int) (h : Heap) (k : Value → Heap → Prop) : Prop := HCalls Tryz.prog 177 [.slice dataA1 dataL1 dataC1, .int .i64 n1] h k
def C.rec_PutText (bA1 : Option Addr) (bL1 : Nat) (bC1 : Nat) (at1 : Int) (n1 : Int) (s1 : ByteArray) (h : Heap) (k : Value → Heap → Prop) : Prop := HCalls Tryz.prog 178 [.slice bA1 bL1 bC1, .int .i64 at1, .int .i64 n1, .string s1] h k
def C.rec_Put (bA1 : Option Addr) (bL1 : Nat) (bC1 : Nat) (at1 : Int) (n1 : Int) (v1 : Int) (h : Heap) (k : Value → Heap → Prop) : Prop := HCalls Tryz.prog 179 [.slice bA1 bL1 bC1, .int .i64 at1, .int .i64 n1, .int .u64 v1] h k
def C.head_sumOf (headA1 : Option Addr) (headL1 : Nat) (headC1 : Nat) (piecesA1 : Option Addr) (piecesL1 : Nat) (piecesC1 : Nat) (h : Heap) (k : Value → Heap → Prop) : Prop := HCalls Tryz.prog 180 [.slice headA1 headL1 headC1, .slice piecesA1 piecesL1 piecesC1] h k
def C.wal_steps_write_c1 (d1 : Option Addr) (x1 : Option Addr) (x2 : Option Addr) (h : Heap) (k : Value → Heap → Prop) : Prop := HCalls Tryz.prog 181 [.pointer d1, .pointer x1, .pointer x2] h k
def C.wal_steps_flush_c1 (d1 : Option Addr) (h : Heap) (k : Value → Heap → Prop) : Prop := HCalls Tryz.prog 182 [.pointer d1] h k
def C.boleref06_Header (lA1 : Option Addr) (lL1 : Nat) (lC1 : Nat) (h : Heap) (k : Value → Heap → Prop) : Prop := HCalls Tryz.prog 194 [.slice lA1 lL1 lC1] h k
def C.bits_Runs (bA1 : Option Addr) (bL1 : Nat) (bC1 : Nat) (h : Heap) (k : Value → Heap → Prop) : Prop := HCalls Tryz.prog 199 [.slice bA1 bL1 bC1] h k
def C.bits_Put (bA1 : Option Addr) (bL1 : Nat) (bC1 : Nat) (i1 : Int) (is1 : Bool) (h : Heap) (k : Value → Heap → Prop) : Prop := HCalls Tryz.prog 200 [.slice bA1 bL1 bC1, .int .i64 i1, .bool is1] h k
def C.geo_Bit (g1 : List Value) (i1 : Int) (h : Heap) (k : Value → Heap → Prop) : Prop := HCalls Tryz.prog 201 [.agg ⟨g1⟩, .int .i64 i1] h k
def C.bits_has (bA1 : Option Addr) (bL1 : Nat) (bC1 : Nat) (i1 : Int) (h : Heap) (k : Value → Heap → Prop) : Prop := HCalls Tryz.prog 202 [.slice bA1 bL1 bC1, .int .i64 i1] h k
def C.bits_on (bA1 : Option Addr) (bL1 : Nat) (bC1 : Nat) (i1 : Int) (h : Heap) (k : Value → Heap → Prop) : Prop := HCalls Tryz.prog 203 [.slice bA1 bL1 bC1, .int .i64 i1] h k
def C.head_may_c1 (i1 : Int) (x1 : Option Addr) (x2 : Option Addr) (h : Heap) (k : Value → Heap → Prop) : Prop := HCalls Tryz.prog 242 [.int .i64 i1, .pointer x1, .pointer x2] h k
def C.rec_ahead (bA1 : Option Addr) (bL1 : Nat) (bC1 : Nat) (h : Heap) (k : Value → Heap → Prop) : Prop := HCalls Tryz.prog 243 [.slice bA1 bL1 bC1] h k
def C.rec_lie (bA1 : Option Addr) (bL1 : Nat) (bC1 : Nat) (at1 : Int) (n1 : Int) (h : Heap) (k : Value → Heap → Prop) : Prop := HCalls Tryz.prog 244 [.slice bA1 bL1 bC1, .int .i64 at1, .int .i64 n1] h k
def C.rec_isWidth (n1 : Int) (h : Heap) (k : Value → Heap → Prop) : Prop := HCalls Tryz.prog 245 [.int .i64 n1] h k
def C.bytes_Clone (bA1 : Option Addr) (bL1 : Nat) (bC1 : Nat) (h : Heap) (k : Value → Heap → Prop) : Prop := HCalls Tryz.prog 246 [.slice bA1 bL1 bC1] h k
def C.sum_Of (bA1 : Option Addr) (bL1 : Nat) (bC1 : Nat) (h : Heap) (k : Value → Heap → Prop) : Prop := HCalls Tryz.prog 247 [.slice bA1 bL1 bC1] h k
def C.sum_Join (a1 : Int) (b1 : Int) (n1 : Int) (h : Heap) (k : Value → Heap → Prop) : Prop := HCalls Tryz.prog 248 [.int .u32 a1, .int .u32 b1, .int .i64 n1] h k
def C.boleref06_low (n1 : Int) (bytes1 : Int) (h : Heap) (k : Value → Heap → Prop) : Prop := HCalls Tryz.prog 256 [.int .i64 n1, .int .i64 bytes1] h k
def C.boleref06_crc (bA1 : Option Addr) (bL1 : Nat) (bC1 : Nat) (h : Heap) (k : Value → Heap → Prop) : Prop := HCalls Tryz.prog 257 [.slice bA1 bL1 bC1] h k
def C.bits_Runs_c1 (yield1 : Value) (x1 : Option Addr) (h : Heap) (k : Value → Heap → Prop) : Prop := HCalls Tryz.prog 261 [yield1, .pointer x1] h k
def C.sum_step (v1 : Int) (b1 : Int) (h : Heap) (k : Value → Heap → Prop) : Prop := HCalls Tryz.prog 278 [.int .u32 v1, .int .u8 b1] h k
def C.sum_behind (v1 : Int) (n1 : Int) (h : Heap) (k : Value → Heap → Prop) : Prop := HCalls Tryz.prog 279 [.int .u32 v1, .int .i64 n1] h k
def C.sum_matrix_times (m1 : Option Addr) (v1 : Int) (h : Heap) (k : Value → Heap → Prop) : Prop := HCalls Tryz.prog 300 [.pointer m1, .int .u32 v1] h k
def C.sum_matrix_square (m1 : Option Addr) (h : Heap) (k : Value → Heap → Prop) : Prop := HCalls Tryz.prog 301 [.pointer m1] h k
def D.txn_Txn_end (t1 : Option Addr) (h : Heap) (k : Heap → Prop) : Prop := DCalls Tryz.prog 137 [.pointer t1] h k
def D.space_Take_c2 (x1 : Option Addr) (x2 : Option Addr) (x3 : Option Addr) (h : Heap) (k : Heap → Prop) : Prop := DCalls Tryz.prog 148 [.pointer x1, .pointer x2, .pointer x3] h k
end Go.Proofs.YtjdcbblgaoogmaaGreatDoor.W
namespace Go.Proofs.YtjdcbblgaoogmaaGreatDoor.W
open Go Go.Proofs Go.Proofs.YtjdcbblgaoogmaaGreatDoor.Wx
def bolelaw09_SpacePlays.k2 (h1 : Heap) (h7 : Heap) (i1 : Int) (h10 : Heap) (I1 : Int → Heap → Prop) (M1 : Int → Heap → Nat) (K : Value → Heap → Prop) : Prop :=
  ∃ (sA3 : Option Addr) (sL3 : Nat) (sC3 : Nat), cellOf h10 (Addr.add ⟨h1.size, 0, none⟩ 3) = some (.slice sA3 sL3 sC3) ∧
  (0 ≤ i1 ∧ i1 < (sL3 : Int)) ∧
  onSome sA3 fun p1 =>
  ∃ cs4 : List Value, List.length cs4 = 3 ∧ Cells h10 (Addr.add p1 ((Int.toNat i1) * 3)) cs4 ∧
  C.bolelaw09_Sides_plays (some ⟨h7.size, 0, none⟩) cs4 h10 fun r7 h11 =>
  ∃ (b2 : Bool), r7 = .bool b2 ∧
  bif (!b2) then (
  K (.bool false) h11) else (
  I1 (IntKind.wrap .i64 (i1 + 1)) h11 ∧ M1 (IntKind.wrap .i64 (i1 + 1)) h11 < M1 i1 h10)
def bolelaw09_SpacePlays.k3 (h7 : Heap) (h12 : Heap) (K : Value → Heap → Prop) : Prop :=
  ∃ (q3 : Option Addr), cellOf h12 (Addr.add ⟨h7.size, 0, none⟩ 0) = some (.pointer q3) ∧
  C.adisk_Disk_Steps q3 h12 fun r8 h13 =>
  ∃ (n4 : Int) (n5 : Int), r8 = .tuple #[.int .i64 n4, .int .i64 n5] ∧
  ∃ (q4 : Option Addr), cellOf h13 (Addr.add ⟨h7.size, 0, none⟩ 1) = some (.pointer q4) ∧
  onSome q4 fun p2 =>
  ∃ (n6 : Int), cellOf h13 (Addr.add p2 5) = some (.int .i64 n6) ∧
  bif (n4 == n6) then (
  ∃ (q5 : Option Addr), cellOf h13 (Addr.add ⟨h7.size, 0, none⟩ 1) = some (.pointer q5) ∧
  onSome q5 fun p3 =>
  ∃ (n7 : Int), cellOf h13 (Addr.add p3 6) = some (.int .i64 n7) ∧
  K (.bool (n5 == n7)) h13) else (
  K (.bool false) h13)
def bolelaw09_SpacePlays.k1 (h1 : Heap) (q1 : Option Addr) (h5 : Heap) (q2 : Option Addr) (K : Value → Heap → Prop) : Prop :=
  ∃ cs2 : List Value, List.length cs2 = 4 ∧ Cells h5 ⟨h1.size, 0, none⟩ cs2 ∧
  C.bolelaw09_Case_blocks cs2 h5 fun r4 h6 =>
  ∃ (n3 : Int), r4 = .int .i64 n3 ∧
  C.boleref09_Geo n3 h6 fun r5 h7 =>
  ∃ (cs3 : List Value), r5 = .agg ⟨cs3⟩ ∧
  List.length (cs3 : List Value) = 5 ∧
  New ([.pointer q1] ++ ([.pointer q2] ++ ([.pointer none] ++ ([.pointer none] ++ cs3)))) 84 h7 fun h8 =>
  C.bolelaw09_Sides_begins (some ⟨h7.size, 0, none⟩) h8 fun r6 h9 =>
  ∃ (b1 : Bool), r6 = .bool b1 ∧
  bif (!b1) then (
  K (.bool false) h9) else (
  ∃ (I1 : Int → Heap → Prop) (M1 : Int → Heap → Nat), I1 0 h9 ∧
  ∀ (i1 : Int), ∀ h10 : Heap, I1 i1 h10 →
  ∃ (sA2 : Option Addr) (sL2 : Nat) (sC2 : Nat), cellOf h10 (Addr.add ⟨h1.size, 0, none⟩ 3) = some (.slice sA2 sL2 sC2) ∧
  bif (decide (i1 < (sL2 : Int))) then (
  bif (decide (i1 < 120)) then (
  bolelaw09_SpacePlays.k2 h1 h7 i1 h10 I1 M1 K) else (
  bolelaw09_SpacePlays.k3 h7 h10 K)) else (
  bolelaw09_SpacePlays.k3 h7 h10 K))
def bolelaw09_SpacePlays (c1 : List Value) (K : Value → Heap → Prop) (h1 : Heap) : Prop :=
  New c1 75 h1 fun h2 =>
  ∃ cs1 : List Value, List.length cs1 = 4 ∧ Cells h2 ⟨h1.size, 0, none⟩ cs1 ∧
  C.bolelaw09_Case_image cs1 h2 fun r1 h3 =>
  ∃ (sA1 : Option Addr) (sL1 : Nat) (sC1 : Nat), r1 = .slice sA1 sL1 sC1 ∧
  C.adisk_Open sA1 sL1 sC1 h3 fun r2 h4 =>
  ∃ (q1 : Option Addr) (n1 : Int), r2 = .tuple #[.pointer q1, .int .i64 n1] ∧
  C.boleref03_Of sA1 sL1 sC1 h4 fun r3 h5 =>
  ∃ (q2 : Option Addr) (n2 : Int), r3 = .tuple #[.pointer q2, .int .i64 n2] ∧
  bif (n1 != n2) then (
  K (.bool false) h5) else (
  bif (Option.isNone q1) then (
  K (.bool false) h5) else (
  bif (Option.isNone q2) then (
  K (.bool false) h5) else (
  bolelaw09_SpacePlays.k1 h1 q1 h5 q2 K)))
def bolelaw09_SpacePlays.lo : Nat → List Nat × List (Nat × Ty) := fun n => match n with | 10 => ([1, 8], [(9, .int .i64)]) | _ => ([], [])
def bolelaw09_SpacePlays.od : Nat → Od := fun n => match n with | _ => .nil
theorem bolelaw09_SpacePlays.eq (c1 : List Value) (K : Value → Heap → Prop) (h : Heap) : fnX (cx bolelaw09_SpacePlays.lo bolelaw09_SpacePlays.od) Tryz.f5 (Tryz.f5.body.getD .skip) [.agg ⟨c1⟩] K h = bolelaw09_SpacePlays c1 K h := by kernel_rfl
theorem bolelaw09_SpacePlays.chk : fnOk (cx bolelaw09_SpacePlays.lo bolelaw09_SpacePlays.od) Tryz.f5 (Tryz.f5.body.getD .skip) 1 = true := by kernel_rfl
theorem bolelaw09_SpacePlays.ok {c1 : List Value} {K : Value → Heap → Prop} {h : Heap} (hx : bolelaw09_SpacePlays c1 K h) : C.bolelaw09_SpacePlays c1 h K :=
  fn_to (cxOk _ _) Tryz.func5 (by kernel_rfl) bolelaw09_SpacePlays.chk (by rw [bolelaw09_SpacePlays.eq]; exact hx)
def adisk_New (n1 : Int) (K : Value → Heap → Prop) (h1 : Heap) : Prop :=
  bif (decide (n1 < 1)) then (
  K (.tuple #[.pointer none, .int .i64 32]) h1) else (
  bif (decide (n1 > 16384)) then (
  K (.tuple #[.pointer none, .int .i64 32]) h1) else (
  (0 ≤ n1 ∧ n1 ≤ n1 ∧ (512 : Int) * n1 ≤ 281474976710656 ∧ n1 ≤ 281474976710656) ∧
  New (repCells z125 (Int.toNat n1)) 125 h1 fun h2 =>
  New [.slice (some ⟨h1.size, 0, none⟩) (Int.toNat n1) (Int.toNat n1), .slice none 0 0, .int .i64 0, .slice none 0 0, .bool false, .int .i64 0, .int .i64 0, .slice none 0 0] 112 h2 fun h3 =>
  K (.tuple #[.pointer (some ⟨h2.size, 0, none⟩), .int .i64 0]) h3))
def adisk_New.lo : Nat → List Nat × List (Nat × Ty) := fun n => match n with | _ => ([], [])
def adisk_New.od : Nat → Od := fun n => match n with | _ => .nil
set_option maxRecDepth 1000000 in
theorem adisk_New.eq (n1 : Int) (K : Value → Heap → Prop) (h : Heap) : fnX (cx adisk_New.lo adisk_New.od) Tryz.f9 (Tryz.f9.body.getD .skip) [.int .i64 n1] K h = adisk_New n1 K h := by kernel_rfl
theorem adisk_New.chk : fnOk (cx adisk_New.lo adisk_New.od) Tryz.f9 (Tryz.f9.body.getD .skip) 1 = true := by kernel_rfl
set_option maxRecDepth 1000000 in
theorem adisk_New.ok {n1 : Int} {K : Value → Heap → Prop} {h : Heap} (hx : adisk_New n1 K h) : C.adisk_New n1 h K :=
  fn_to (cxOk _ _) Tryz.func9 (by kernel_rfl) adisk_New.chk (by rw [adisk_New.eq]; exact hx)
def adisk_Disk_Down (d1 : Option Addr) (K : Value → Heap → Prop) (h1 : Heap) : Prop :=
  onSome d1 fun p1 =>
  ∃ (b1 : Bool), cellOf h1 (Addr.add p1 4) = some (.bool b1) ∧
  K (.bool b1) h1
def adisk_Disk_Down.lo : Nat → List Nat × List (Nat × Ty) := fun n => match n with | _ => ([], [])
def adisk_Disk_Down.od : Nat → Od := fun n => match n with | _ => .nil
theorem adisk_Disk_Down.eq (d1 : Option Addr) (K : Value → Heap → Prop) (h : Heap) : fnX (cx adisk_Disk_Down.lo adisk_Disk_Down.od) Tryz.f12 (Tryz.f12.body.getD .skip) [.pointer d1] K h = adisk_Disk_Down d1 K h := by kernel_rfl
theorem adisk_Disk_Down.chk : fnOk (cx adisk_Disk_Down.lo adisk_Disk_Down.od) Tryz.f12 (Tryz.f12.body.getD .skip) 1 = true := by kernel_rfl
theorem adisk_Disk_Down.ok {d1 : Option Addr} {K : Value → Heap → Prop} {h : Heap} (hx : adisk_Disk_Down d1 K h) : C.adisk_Disk_Down d1 h K :=
  fn_to (cxOk _ _) Tryz.func12 (by kernel_rfl) adisk_Disk_Down.chk (by rw [adisk_Disk_Down.eq]; exact hx)
def adisk_Disk_Steps (d1 : Option Addr) (K : Value → Heap → Prop) (h1 : Heap) : Prop :=
  onSome d1 fun p1 =>
  ∃ (n1 : Int), cellOf h1 (Addr.add p1 5) = some (.int .i64 n1) ∧
  onSome d1 fun p2 =>
  ∃ (n2 : Int), cellOf h1 (Addr.add p2 6) = some (.int .i64 n2) ∧
  K (.tuple #[.int .i64 n1, .int .i64 n2]) h1
def adisk_Disk_Steps.lo : Nat → List Nat × List (Nat × Ty) := fun n => match n with | _ => ([], [])
def adisk_Disk_Steps.od : Nat → Od := fun n => match n with | 1 => (.op 0 [] (.op 1 [] (.op 2 [] (.op 3 [] (.op 4 [] (.op 5 [] (.op 6 [] (.op 7 [] (.op 8 [] (.op 9 [] .nil)))))))))) | _ => .nil
theorem adisk_Disk_Steps.eq (d1 : Option Addr) (K : Value → Heap → Prop) (h : Heap) : fnX (cx adisk_Disk_Steps.lo adisk_Disk_Steps.od) Tryz.f13 (Tryz.f13.body.getD .skip) [.pointer d1] K h = adisk_Disk_Steps d1 K h := by kernel_rfl
theorem adisk_Disk_Steps.chk : fnOk (cx adisk_Disk_Steps.lo adisk_Disk_Steps.od) Tryz.f13 (Tryz.f13.body.getD .skip) 1 = true := by kernel_rfl
theorem adisk_Disk_Steps.ok {d1 : Option Addr} {K : Value → Heap → Prop} {h : Heap} (hx : adisk_Disk_Steps d1 K h) : C.adisk_Disk_Steps d1 h K :=
  fn_to (cxOk _ _) Tryz.func13 (by kernel_rfl) adisk_Disk_Steps.chk (by rw [adisk_Disk_Steps.eq]; exact hx)
end Go.Proofs.YtjdcbblgaoogmaaGreatDoor.W
namespace Go.Proofs.YtjdcbblgaoogmaaGreatDoor.W
open Go Go.Proofs Go.Proofs.YtjdcbblgaoogmaaGreatDoor.Wx
def bolelaw09_Case_image.k3 (n1 : Int) (h4 : Heap) (h6 : Heap) (i2 : Int) (h10 : Heap) (I2 : Int → Heap → Prop) (M2 : Int → Heap → Nat) (on2 : Bool) (K : Value → Heap → Prop) : Prop :=
  bif on2 then (
  ∃ (n9 : Int), cellOf h10 (Addr.add ⟨h4.size, 0, none⟩ 1) = some (.int .i64 n9) ∧
  (0 ≤ (IntKind.wrap .i64 ((IntKind.wrap .i64 (n9 * 512)) + (IntKind.wrap .i64 (Int.tdiv i2 8)))) ∧ (IntKind.wrap .i64 ((IntKind.wrap .i64 (n9 * 512)) + (IntKind.wrap .i64 (Int.tdiv i2 8)))) < ((Int.toNat (IntKind.wrap .i64 (n1 * 512))) : Int)) ∧
  ∃ (n10 : Int), cellOf h10 (Addr.add ⟨h6.size, 0, none⟩ (Int.toNat (IntKind.wrap .i64 ((IntKind.wrap .i64 (n9 * 512)) + (IntKind.wrap .i64 (Int.tdiv i2 8)))))) = some (.int .u8 n10) ∧
  if (Int.tmod i2 8) < 0 then False else
  (0 ≤ (IntKind.wrap .i64 ((IntKind.wrap .i64 (n9 * 512)) + (IntKind.wrap .i64 (Int.tdiv i2 8)))) ∧ (IntKind.wrap .i64 ((IntKind.wrap .i64 (n9 * 512)) + (IntKind.wrap .i64 (Int.tdiv i2 8)))) < ((Int.toNat (IntKind.wrap .i64 (n1 * 512))) : Int)) ∧
  Put (Addr.add ⟨h6.size, 0, none⟩ (Int.toNat (IntKind.wrap .i64 ((IntKind.wrap .i64 (n9 * 512)) + (IntKind.wrap .i64 (Int.tdiv i2 8)))))) (.int .u8 (bitsI .or .u8 n10 (IntKind.wrap .u8 ((1 * 2 ^ min (Int.toNat (Int.tmod i2 8)) 8))))) h10 fun h11 =>
  I2 (IntKind.wrap .i64 (i2 + 1)) h11 ∧ M2 (IntKind.wrap .i64 (i2 + 1)) h11 < M2 i2 h10) else (
  I2 (IntKind.wrap .i64 (i2 + 1)) h10 ∧ M2 (IntKind.wrap .i64 (i2 + 1)) h10 < M2 i2 h10)
def bolelaw09_Case_image.k2 (n1 : Int) (h4 : Heap) (h6 : Heap) (i2 : Int) (h10 : Heap) (I2 : Int → Heap → Prop) (M2 : Int → Heap → Nat) (n6 : Int) (x1 : Int) (K : Value → Heap → Prop) : Prop :=
  if (Int.tmod (IntKind.wrap .i64 (i2 - n6)) 8) < 0 then False else
  bolelaw09_Case_image.k3 n1 h4 h6 i2 h10 I2 M2 ((bitsI .and .u8 (Int.fdiv x1 (2 ^ min (Int.toNat (Int.tmod (IntKind.wrap .i64 (i2 - n6)) 8)) 8)) 1) == 1) K
def bolelaw09_Case_image.k1 (h1 : Heap) (n1 : Int) (h4 : Heap) (h6 : Heap) (i2 : Int) (h10 : Heap) (I2 : Int → Heap → Prop) (M2 : Int → Heap → Nat) (on1 : Bool) (K : Value → Heap → Prop) : Prop :=
  bif (!on1) then (
  ∃ (n6 : Int), cellOf h10 (Addr.add ⟨h4.size, 0, none⟩ 3) = some (.int .i64 n6) ∧
  ∃ (n7 : Int), cellOf h10 (Addr.add ⟨h1.size, 0, none⟩ 2) = some (.int .u8 n7) ∧
  ∃ (sA1 : Option Addr) (sL1 : Nat) (sC1 : Nat), cellOf h10 (Addr.add ⟨h1.size, 0, none⟩ 1) = some (.slice sA1 sL1 sC1) ∧
  bif (decide ((IntKind.wrap .i64 (Int.tdiv (IntKind.wrap .i64 (i2 - n6)) 8)) < (sL1 : Int))) then (
  ∃ (sA2 : Option Addr) (sL2 : Nat) (sC2 : Nat), cellOf h10 (Addr.add ⟨h1.size, 0, none⟩ 1) = some (.slice sA2 sL2 sC2) ∧
  (0 ≤ (IntKind.wrap .i64 (Int.tdiv (IntKind.wrap .i64 (i2 - n6)) 8)) ∧ (IntKind.wrap .i64 (Int.tdiv (IntKind.wrap .i64 (i2 - n6)) 8)) < (sL2 : Int)) ∧
  onSome sA2 fun p1 =>
  ∃ (n8 : Int), cellOf h10 (Addr.add p1 (Int.toNat (IntKind.wrap .i64 (Int.tdiv (IntKind.wrap .i64 (i2 - n6)) 8)))) = some (.int .u8 n8) ∧
  bolelaw09_Case_image.k2 n1 h4 h6 i2 h10 I2 M2 n6 n8 K) else (
  bolelaw09_Case_image.k2 n1 h4 h6 i2 h10 I2 M2 n6 n7 K)) else (
  bolelaw09_Case_image.k3 n1 h4 h6 i2 h10 I2 M2 on1 K)
def bolelaw09_Case_image (c1 : List Value) (K : Value → Heap → Prop) (h1 : Heap) : Prop :=
  New c1 75 h1 fun h2 =>
  ∃ cs1 : List Value, List.length cs1 = 4 ∧ Cells h2 ⟨h1.size, 0, none⟩ cs1 ∧
  C.bolelaw09_Case_blocks cs1 h2 fun r1 h3 =>
  ∃ (n1 : Int), r1 = .int .i64 n1 ∧
  C.boleref09_Geo n1 h3 fun r2 h4 =>
  ∃ (cs2 : List Value), r2 = .agg ⟨cs2⟩ ∧
  NewRow z80 80 cs2 5 h4 fun h6 =>
  (0 ≤ (IntKind.wrap .i64 (n1 * 512)) ∧ (IntKind.wrap .i64 (n1 * 512)) ≤ (IntKind.wrap .i64 (n1 * 512)) ∧ (1 : Int) * (IntKind.wrap .i64 (n1 * 512)) ≤ 281474976710656 ∧ (IntKind.wrap .i64 (n1 * 512)) ≤ 281474976710656) ∧
  New (repCells z5 (Int.toNat (IntKind.wrap .i64 (n1 * 512)))) 5 h6 fun h7 =>
  ∃ (n2 : Int), cellOf h7 (Addr.add ⟨h4.size, 0, none⟩ 3) = some (.int .i64 n2) ∧
  ∃ (I1 : Int → Heap → Prop) (M1 : Int → Heap → Nat), I1 (IntKind.wrap .i64 (n2 * 512)) h7 ∧
  ∀ (i1 : Int), ∀ h8 : Heap, I1 i1 h8 →
  bif (decide (i1 < ((Int.toNat (IntKind.wrap .i64 (n1 * 512))) : Int))) then (
  (0 ≤ i1 ∧ i1 < ((Int.toNat (IntKind.wrap .i64 (n1 * 512))) : Int)) ∧
  Put (Addr.add ⟨h6.size, 0, none⟩ (Int.toNat i1)) (.int .u8 7) h8 fun h9 =>
  I1 (IntKind.wrap .i64 (i1 + 1)) h9 ∧ M1 (IntKind.wrap .i64 (i1 + 1)) h9 < M1 i1 h8) else (
  ∃ (I2 : Int → Heap → Prop) (M2 : Int → Heap → Nat), I2 0 h8 ∧
  ∀ (i2 : Int), ∀ h10 : Heap, I2 i2 h10 →
  ∃ (n3 : Int), cellOf h10 (Addr.add ⟨h4.size, 0, none⟩ 2) = some (.int .i64 n3) ∧
  ∃ (n4 : Int), cellOf h10 (Addr.add ⟨h4.size, 0, none⟩ 1) = some (.int .i64 n4) ∧
  bif (decide (i2 < (IntKind.wrap .i64 ((IntKind.wrap .i64 (n3 - n4)) * 4096)))) then (
  ∃ (n5 : Int), cellOf h10 (Addr.add ⟨h4.size, 0, none⟩ 3) = some (.int .i64 n5) ∧
  bif (decide (i2 < n5)) then (
  bolelaw09_Case_image.k1 h1 n1 h4 h6 i2 h10 I2 M2 true K) else (
  bolelaw09_Case_image.k1 h1 n1 h4 h6 i2 h10 I2 M2 (decide (i2 ≥ n1)) K)) else (
  K (.slice (some ⟨h6.size, 0, none⟩) (Int.toNat (IntKind.wrap .i64 (n1 * 512))) (Int.toNat (IntKind.wrap .i64 (n1 * 512)))) h10))
def bolelaw09_Case_image.lo : Nat → List Nat × List (Nat × Ty) := fun n => match n with | 5 => ([1, 3, 4, 5], [(6, .int .i64)]) | 9 => ([1, 3, 4, 5], [(7, .int .i64)]) | _ => ([], [])
def bolelaw09_Case_image.od : Nat → Od := fun n => match n with | 19 => (.op 0 [] (.op 1 [] (.op 2 [] (.op 3 [] (.op 4 [] (.op 5 [] (.op 6 [] (.op 7 [] (.op 8 [] (.op 9 [] (.op 10 [] (.op 11 [] (.op 12 [] (.op 13 [] (.op 14 [] .nil))))))))))))))) | _ => .nil
theorem bolelaw09_Case_image.eq (c1 : List Value) (K : Value → Heap → Prop) (h : Heap) : fnX (cx bolelaw09_Case_image.lo bolelaw09_Case_image.od) Tryz.f27 (Tryz.f27.body.getD .skip) [.agg ⟨c1⟩] K h = bolelaw09_Case_image c1 K h := by kernel_rfl
theorem bolelaw09_Case_image.chk : fnOk (cx bolelaw09_Case_image.lo bolelaw09_Case_image.od) Tryz.f27 (Tryz.f27.body.getD .skip) 1 = true := by kernel_rfl
theorem bolelaw09_Case_image.ok {c1 : List Value} {K : Value → Heap → Prop} {h : Heap} (hx : bolelaw09_Case_image c1 K h) : C.bolelaw09_Case_image c1 h K :=
  fn_to (cxOk _ _) Tryz.func27 (by kernel_rfl) bolelaw09_Case_image.chk (by rw [bolelaw09_Case_image.eq]; exact hx)
def adisk_Open (imageA1 : Option Addr) (imageL1 : Nat) (imageC1 : Nat) (K : Value → Heap → Prop) (h1 : Heap) : Prop :=
  bif ((Int.tmod (imageL1 : Int) 512) != 0) then (
  K (.tuple #[.pointer none, .int .i64 32]) h1) else (
  C.adisk_New (IntKind.wrap .i64 (Int.tdiv (imageL1 : Int) 512)) h1 fun r1 h2 =>
  ∃ (q1 : Option Addr) (n1 : Int), r1 = .tuple #[.pointer q1, .int .i64 n1] ∧
  bif (n1 != 0) then (
  K (.tuple #[.pointer none, .int .i64 n1]) h2) else (
  onSome q1 fun p1 =>
  ∃ (sA1 : Option Addr) (sL1 : Nat) (sC1 : Nat), cellOf h2 (Addr.add p1 0) = some (.slice sA1 sL1 sC1) ∧
  ∃ (I1 : Int → Heap → Prop) (M1 : Int → Heap → Nat), I1 0 h2 ∧
  ∀ (n2 : Int), ∀ h3 : Heap, I1 n2 h3 →
  bif (decide (n2 < (sL1 : Int))) then (
  onSome q1 fun p2 =>
  ∃ (sA2 : Option Addr) (sL2 : Nat) (sC2 : Nat), cellOf h3 (Addr.add p2 0) = some (.slice sA2 sL2 sC2) ∧
  (0 ≤ n2 ∧ n2 < (sL2 : Int)) ∧
  onSome sA2 fun p3 =>
  (0 ≤ (IntKind.wrap .i64 (n2 * 512)) ∧ (IntKind.wrap .i64 (n2 * 512)) ≤ (imageL1 : Int)) ∧
  CopyP ti5 (some (Addr.add p3 ((Int.toNat n2) * 512))) 512 (.slice (if imageC1 = (Int.toNat (IntKind.wrap .i64 (n2 * 512))) then imageA1 else Option.map (Addr.add · (Int.toNat (IntKind.wrap .i64 (n2 * 512)))) imageA1) (imageL1 - (Int.toNat (IntKind.wrap .i64 (n2 * 512)))) (imageC1 - (Int.toNat (IntKind.wrap .i64 (n2 * 512))))) h3 fun n3 h4 =>
  I1 (IntKind.wrap .i64 (n2 + 1)) h4 ∧ M1 (IntKind.wrap .i64 (n2 + 1)) h4 < M1 n2 h3) else (
  K (.tuple #[.pointer q1, .int .i64 0]) h3)))
def adisk_Open.lo : Nat → List Nat × List (Nat × Ty) := fun n => match n with | 7 => ([0, 4, 25], [(26, .int .i64)]) | _ => ([], [])
def adisk_Open.od : Nat → Od := fun n => match n with | 9 => (.op 0 [] (.op 1 [] (.op 2 [] (.op 3 [] (.op 4 [] (.op 5 [] (.op 6 [] (.op 7 [] (.op 8 [] (.op 9 [] (.op 10 [] (.op 11 [] .nil)))))))))))) | _ => .nil
theorem adisk_Open.eq (imageA1 : Option Addr) (imageL1 : Nat) (imageC1 : Nat) (K : Value → Heap → Prop) (h : Heap) : fnX (cx adisk_Open.lo adisk_Open.od) Tryz.f28 (Tryz.f28.body.getD .skip) [.slice imageA1 imageL1 imageC1] K h = adisk_Open imageA1 imageL1 imageC1 K h := by kernel_rfl
theorem adisk_Open.chk : fnOk (cx adisk_Open.lo adisk_Open.od) Tryz.f28 (Tryz.f28.body.getD .skip) 1 = true := by kernel_rfl
theorem adisk_Open.ok {imageA1 : Option Addr} {imageL1 : Nat} {imageC1 : Nat} {K : Value → Heap → Prop} {h : Heap} (hx : adisk_Open imageA1 imageL1 imageC1 K h) : C.adisk_Open imageA1 imageL1 imageC1 h K :=
  fn_to (cxOk _ _) Tryz.func28 (by kernel_rfl) adisk_Open.chk (by rw [adisk_Open.eq]; exact hx)
def boleref03_Of (imageA1 : Option Addr) (imageL1 : Nat) (imageC1 : Nat) (K : Value → Heap → Prop) (h1 : Heap) : Prop :=
  bif ((imageL1 : Int) == 0) then (
  K (.tuple #[.pointer none, .int .i64 32]) h1) else (
  bif ((Int.tmod (imageL1 : Int) 512) != 0) then (
  K (.tuple #[.pointer none, .int .i64 32]) h1) else (
  bif (decide ((IntKind.wrap .i64 (Int.tdiv (imageL1 : Int) 512)) > 16384)) then (
  K (.tuple #[.pointer none, .int .i64 32]) h1) else (
  C.boleref03_copied imageA1 imageL1 imageC1 h1 fun r1 h2 =>
  ∃ (sA1 : Option Addr) (sL1 : Nat) (sC1 : Nat), r1 = .slice sA1 sL1 sC1 ∧
  New [.slice sA1 sL1 sC1, .slice none 0 0, .slice none 0 0, .int .i64 0, .bool false, .int .i64 0, .int .i64 0] 41 h2 fun h3 =>
  K (.tuple #[.pointer (some ⟨h2.size, 0, none⟩), .int .i64 0]) h3)))
def boleref03_Of.lo : Nat → List Nat × List (Nat × Ty) := fun n => match n with | _ => ([], [])
def boleref03_Of.od : Nat → Od := fun n => match n with | _ => .nil
set_option maxRecDepth 1000000 in
theorem boleref03_Of.eq (imageA1 : Option Addr) (imageL1 : Nat) (imageC1 : Nat) (K : Value → Heap → Prop) (h : Heap) : fnX (cx boleref03_Of.lo boleref03_Of.od) Tryz.f29 (Tryz.f29.body.getD .skip) [.slice imageA1 imageL1 imageC1] K h = boleref03_Of imageA1 imageL1 imageC1 K h := by kernel_rfl
theorem boleref03_Of.chk : fnOk (cx boleref03_Of.lo boleref03_Of.od) Tryz.f29 (Tryz.f29.body.getD .skip) 1 = true := by kernel_rfl
set_option maxRecDepth 1000000 in
theorem boleref03_Of.ok {imageA1 : Option Addr} {imageL1 : Nat} {imageC1 : Nat} {K : Value → Heap → Prop} {h : Heap} (hx : boleref03_Of imageA1 imageL1 imageC1 K h) : C.boleref03_Of imageA1 imageL1 imageC1 h K :=
  fn_to (cxOk _ _) Tryz.func29 (by kernel_rfl) boleref03_Of.chk (by rw [boleref03_Of.eq]; exact hx)
def boleref09_Geo (n1 : Int) (K : Value → Heap → Prop) (h1 : Heap) : Prop :=
  NewRow z80 80 [.int .i64 n1, .int .i64 98, .int .i64 (IntKind.wrap .i64 (98 + (IntKind.wrap .i64 (Int.tdiv (IntKind.wrap .i64 ((IntKind.wrap .i64 (n1 + 4096)) - 1)) 4096)))), .int .i64 (IntKind.wrap .i64 ((IntKind.wrap .i64 (98 + (IntKind.wrap .i64 (Int.tdiv (IntKind.wrap .i64 ((IntKind.wrap .i64 (n1 + 4096)) - 1)) 4096)))) + (IntKind.wrap .i64 (Int.tdiv n1 64)))), .int .i64 (IntKind.wrap .i64 (8 * (IntKind.wrap .i64 (Int.tdiv n1 64))))] 5 h1 fun h3 =>
  ∃ res1 : List Value, List.length res1 = 5 ∧ Cells h3 ⟨h1.size, 0, none⟩ res1 ∧
  K (.agg ⟨res1⟩) h3
def boleref09_Geo.lo : Nat → List Nat × List (Nat × Ty) := fun n => match n with | _ => ([], [])
def boleref09_Geo.od : Nat → Od := fun n => match n with | _ => .nil
theorem boleref09_Geo.eq (n1 : Int) (K : Value → Heap → Prop) (h : Heap) : fnX (cx boleref09_Geo.lo boleref09_Geo.od) Tryz.f30 (Tryz.f30.body.getD .skip) [.int .i64 n1] K h = boleref09_Geo n1 K h := by kernel_rfl
theorem boleref09_Geo.chk : fnOk (cx boleref09_Geo.lo boleref09_Geo.od) Tryz.f30 (Tryz.f30.body.getD .skip) 1 = true := by kernel_rfl
theorem boleref09_Geo.ok {n1 : Int} {K : Value → Heap → Prop} {h : Heap} (hx : boleref09_Geo n1 K h) : C.boleref09_Geo n1 h K :=
  fn_to (cxOk _ _) Tryz.func30 (by kernel_rfl) boleref09_Geo.chk (by rw [boleref09_Geo.eq]; exact hx)
def bolelaw09_Case_blocks (c1 : List Value) (K : Value → Heap → Prop) (h1 : Heap) : Prop :=
  New c1 75 h1 fun h2 =>
  ∃ (n1 : Int), cellOf h2 (Addr.add ⟨h1.size, 0, none⟩ 0) = some (.int .i64 n1) ∧
  C.bolelaw09_mod n1 200 h2 fun r1 h3 =>
  ∃ (n2 : Int), r1 = .int .i64 n2 ∧
  bif (decide (n2 < 180)) then (
  K (.int .i64 (IntKind.wrap .i64 (128 + n2))) h3) else (
  bif (decide (n2 < 190)) then (
  K (.int .i64 (IntKind.wrap .i64 ((IntKind.wrap .i64 (4096 + n2)) - 185))) h3) else (
  K (.int .i64 (IntKind.wrap .i64 ((IntKind.wrap .i64 (8192 + n2)) - 195))) h3))
def bolelaw09_Case_blocks.lo : Nat → List Nat × List (Nat × Ty) := fun n => match n with | _ => ([], [])
def bolelaw09_Case_blocks.od : Nat → Od := fun n => match n with | _ => .nil
theorem bolelaw09_Case_blocks.eq (c1 : List Value) (K : Value → Heap → Prop) (h : Heap) : fnX (cx bolelaw09_Case_blocks.lo bolelaw09_Case_blocks.od) Tryz.f31 (Tryz.f31.body.getD .skip) [.agg ⟨c1⟩] K h = bolelaw09_Case_blocks c1 K h := by kernel_rfl
theorem bolelaw09_Case_blocks.chk : fnOk (cx bolelaw09_Case_blocks.lo bolelaw09_Case_blocks.od) Tryz.f31 (Tryz.f31.body.getD .skip) 1 = true := by kernel_rfl
theorem bolelaw09_Case_blocks.ok {c1 : List Value} {K : Value → Heap → Prop} {h : Heap} (hx : bolelaw09_Case_blocks c1 K h) : C.bolelaw09_Case_blocks c1 h K :=
  fn_to (cxOk _ _) Tryz.func31 (by kernel_rfl) bolelaw09_Case_blocks.chk (by rw [bolelaw09_Case_blocks.eq]; exact hx)
def bolelaw09_Sides_begins (s1 : Option Addr) (K : Value → Heap → Prop) (h1 : Heap) : Prop :=
  onSome s1 fun p1 =>
  ∃ (q1 : Option Addr), cellOf h1 (Addr.add p1 0) = some (.pointer q1) ∧
  C.txn_Begin q1 h1 fun r1 h2 =>
  ∃ (q2 : Option Addr), r1 = .pointer q2 ∧
  onSome s1 fun p2 =>
  Put (Addr.add p2 2) (.pointer q2) h2 fun h3 =>
  onSome s1 fun p3 =>
  ∃ (q3 : Option Addr), cellOf h3 (Addr.add p3 1) = some (.pointer q3) ∧
  C.boleref06_Begin q3 h3 fun r2 h4 =>
  ∃ (q4 : Option Addr), r2 = .pointer q4 ∧
  onSome s1 fun p4 =>
  Put (Addr.add p4 3) (.pointer q4) h4 fun h5 =>
  onSome s1 fun p5 =>
  ∃ (q5 : Option Addr), cellOf h5 (Addr.add p5 2) = some (.pointer q5) ∧
  K (.bool (!(Option.isNone q5))) h5
def bolelaw09_Sides_begins.lo : Nat → List Nat × List (Nat × Ty) := fun n => match n with | _ => ([], [])
def bolelaw09_Sides_begins.od : Nat → Od := fun n => match n with | _ => .nil
theorem bolelaw09_Sides_begins.eq (s1 : Option Addr) (K : Value → Heap → Prop) (h : Heap) : fnX (cx bolelaw09_Sides_begins.lo bolelaw09_Sides_begins.od) Tryz.f32 (Tryz.f32.body.getD .skip) [.pointer s1] K h = bolelaw09_Sides_begins s1 K h := by kernel_rfl
theorem bolelaw09_Sides_begins.chk : fnOk (cx bolelaw09_Sides_begins.lo bolelaw09_Sides_begins.od) Tryz.f32 (Tryz.f32.body.getD .skip) 1 = true := by kernel_rfl
theorem bolelaw09_Sides_begins.ok {s1 : Option Addr} {K : Value → Heap → Prop} {h : Heap} (hx : bolelaw09_Sides_begins s1 K h) : C.bolelaw09_Sides_begins s1 h K :=
  fn_to (cxOk _ _) Tryz.func32 (by kernel_rfl) bolelaw09_Sides_begins.chk (by rw [bolelaw09_Sides_begins.eq]; exact hx)
def bolelaw09_Sides_plays.k1 (s1 : Option Addr) (h25 : Heap) (K : Value → Heap → Prop) : Prop :=
  onSome s1 fun p23 =>
  ∃ (q15 : Option Addr), cellOf h25 (Addr.add p23 2) = some (.pointer q15) ∧
  C.txn_Txn_Abort q15 h25 fun r23 h26 =>
  r23 = .tuple #[] ∧
  onSome s1 fun p24 =>
  ∃ (q16 : Option Addr), cellOf h26 (Addr.add p24 3) = some (.pointer q16) ∧
  C.boleref06_Txn_Abort q16 h26 fun r24 h27 =>
  r24 = .tuple #[] ∧
  C.bolelaw09_Sides_begins s1 h27 fun r25 h28 =>
  ∃ (b9 : Bool), r25 = .bool b9 ∧
  K (.bool b9) h28
def bolelaw09_Sides_plays (s1 : Option Addr) (o1 : List Value) (K : Value → Heap → Prop) (h1 : Heap) : Prop :=
  New o1 87 h1 fun h2 =>
  ∃ (n1 : Int), cellOf h2 (Addr.add ⟨h1.size, 0, none⟩ 0) = some (.int .i64 n1) ∧
  bif (n1 == 1) then (
  onSome s1 fun p1 =>
  ∃ (q1 : Option Addr), cellOf h2 (Addr.add p1 2) = some (.pointer q1) ∧
  onSome s1 fun p2 =>
  ∃ cs1 : List Value, List.length cs1 = 5 ∧ Cells h2 (Addr.add p2 4) cs1 ∧
  C.space_Take q1 cs1 h2 fun r1 h3 =>
  ∃ (n2 : Int) (n3 : Int), r1 = .tuple #[.int .i64 n2, .int .i64 n3] ∧
  onSome s1 fun p3 =>
  ∃ (q2 : Option Addr), cellOf h3 (Addr.add p3 3) = some (.pointer q2) ∧
  onSome s1 fun p4 =>
  ∃ cs2 : List Value, List.length cs2 = 5 ∧ Cells h3 (Addr.add p4 4) cs2 ∧
  C.boleref09_Take q2 cs2 h3 fun r2 h4 =>
  ∃ (n4 : Int) (n5 : Int), r2 = .tuple #[.int .i64 n4, .int .i64 n5] ∧
  bif (n2 == n4) then (
  bif (n3 == n5) then (
  C.bolelaw09_Sides_alike s1 n4 h4 fun r3 h5 =>
  ∃ (b1 : Bool), r3 = .bool b1 ∧
  K (.bool b1) h5) else (
  K (.bool false) h4)) else (
  K (.bool false) h4)) else (
  bif (n1 == 2) then (
  onSome s1 fun p5 =>
  ∃ (q3 : Option Addr), cellOf h2 (Addr.add p5 2) = some (.pointer q3) ∧
  onSome s1 fun p6 =>
  ∃ cs3 : List Value, List.length cs3 = 5 ∧ Cells h2 (Addr.add p6 4) cs3 ∧
  ∃ (n6 : Int), cellOf h2 (Addr.add ⟨h1.size, 0, none⟩ 1) = some (.int .i64 n6) ∧
  C.space_Give q3 cs3 n6 h2 fun r4 h6 =>
  ∃ (n7 : Int), r4 = .int .i64 n7 ∧
  onSome s1 fun p7 =>
  ∃ (q4 : Option Addr), cellOf h6 (Addr.add p7 3) = some (.pointer q4) ∧
  onSome s1 fun p8 =>
  ∃ cs4 : List Value, List.length cs4 = 5 ∧ Cells h6 (Addr.add p8 4) cs4 ∧
  ∃ (n8 : Int), cellOf h6 (Addr.add ⟨h1.size, 0, none⟩ 1) = some (.int .i64 n8) ∧
  C.boleref09_Give q4 cs4 n8 h6 fun r5 h7 =>
  ∃ (n9 : Int), r5 = .int .i64 n9 ∧
  bif (n7 == n9) then (
  ∃ (n10 : Int), cellOf h7 (Addr.add ⟨h1.size, 0, none⟩ 1) = some (.int .i64 n10) ∧
  C.bolelaw09_Sides_alike s1 n10 h7 fun r6 h8 =>
  ∃ (b2 : Bool), r6 = .bool b2 ∧
  K (.bool b2) h8) else (
  K (.bool false) h7)) else (
  bif (n1 == 3) then (
  onSome s1 fun p9 =>
  ∃ (q5 : Option Addr), cellOf h2 (Addr.add p9 2) = some (.pointer q5) ∧
  onSome s1 fun p10 =>
  ∃ cs5 : List Value, List.length cs5 = 5 ∧ Cells h2 (Addr.add p10 4) cs5 ∧
  ∃ (n11 : Int), cellOf h2 (Addr.add ⟨h1.size, 0, none⟩ 1) = some (.int .i64 n11) ∧
  C.space_Used q5 cs5 n11 h2 fun r7 h9 =>
  ∃ (b3 : Bool) (n12 : Int), r7 = .tuple #[.bool b3, .int .i64 n12] ∧
  onSome s1 fun p11 =>
  ∃ (q6 : Option Addr), cellOf h9 (Addr.add p11 3) = some (.pointer q6) ∧
  onSome s1 fun p12 =>
  ∃ cs6 : List Value, List.length cs6 = 5 ∧ Cells h9 (Addr.add p12 4) cs6 ∧
  ∃ (n13 : Int), cellOf h9 (Addr.add ⟨h1.size, 0, none⟩ 1) = some (.int .i64 n13) ∧
  C.boleref09_Used q6 cs6 n13 h9 fun r8 h10 =>
  ∃ (b4 : Bool) (n14 : Int), r8 = .tuple #[.bool b4, .int .i64 n14] ∧
  bif (b3 == b4) then (
  bif (n12 == n14) then (
  ∃ (n15 : Int), cellOf h10 (Addr.add ⟨h1.size, 0, none⟩ 1) = some (.int .i64 n15) ∧
  C.bolelaw09_Sides_alike s1 n15 h10 fun r9 h11 =>
  ∃ (b5 : Bool), r9 = .bool b5 ∧
  K (.bool b5) h11) else (
  K (.bool false) h10)) else (
  K (.bool false) h10)) else (
  bif (n1 == 4) then (
  onSome s1 fun p13 =>
  ∃ (q7 : Option Addr), cellOf h2 (Addr.add p13 2) = some (.pointer q7) ∧
  onSome s1 fun p14 =>
  ∃ cs7 : List Value, List.length cs7 = 5 ∧ Cells h2 (Addr.add p14 4) cs7 ∧
  C.space_Free q7 cs7 h2 fun r10 h12 =>
  ∃ (n16 : Int) (n17 : Int), r10 = .tuple #[.int .i64 n16, .int .i64 n17] ∧
  onSome s1 fun p15 =>
  ∃ (q8 : Option Addr), cellOf h12 (Addr.add p15 3) = some (.pointer q8) ∧
  onSome s1 fun p16 =>
  ∃ cs8 : List Value, List.length cs8 = 5 ∧ Cells h12 (Addr.add p16 4) cs8 ∧
  C.boleref09_Free q8 cs8 h12 fun r11 h13 =>
  ∃ (n18 : Int) (n19 : Int), r11 = .tuple #[.int .i64 n18, .int .i64 n19] ∧
  bif (n16 == n18) then (
  bif (n17 == n19) then (
  ∃ (n20 : Int), cellOf h13 (Addr.add ⟨h1.size, 0, none⟩ 1) = some (.int .i64 n20) ∧
  C.bolelaw09_Sides_alike s1 n20 h13 fun r12 h14 =>
  ∃ (b6 : Bool), r12 = .bool b6 ∧
  K (.bool b6) h14) else (
  K (.bool false) h13)) else (
  K (.bool false) h13)) else (
  bif (n1 == 5) then (
  ∃ (n21 : Int), cellOf h2 (Addr.add ⟨h1.size, 0, none⟩ 1) = some (.int .i64 n21) ∧
  C.bolelaw09_Sides_same s1 n21 h2 fun r13 h15 =>
  ∃ (b7 : Bool), r13 = .bool b7 ∧
  K (.bool b7) h15) else (
  bif (n1 == 6) then (
  onSome s1 fun p17 =>
  ∃ (q9 : Option Addr), cellOf h2 (Addr.add p17 2) = some (.pointer q9) ∧
  ∃ (n22 : Int), cellOf h2 (Addr.add ⟨h1.size, 0, none⟩ 1) = some (.int .i64 n22) ∧
  ∃ (n23 : Int), cellOf h2 (Addr.add ⟨h1.size, 0, none⟩ 2) = some (.int .u8 n23) ∧
  onSome s1 fun p18 =>
  ∃ (q10 : Option Addr), cellOf h2 (Addr.add p18 3) = some (.pointer q10) ∧
  ∃ (n24 : Int), cellOf h2 (Addr.add ⟨h1.size, 0, none⟩ 1) = some (.int .i64 n24) ∧
  ∃ (n25 : Int), cellOf h2 (Addr.add ⟨h1.size, 0, none⟩ 2) = some (.int .u8 n25) ∧
  C.bolelaw09_block n23 h2 fun r14 h16 =>
  ∃ (sA1 : Option Addr) (sL1 : Nat) (sC1 : Nat), r14 = .slice sA1 sL1 sC1 ∧
  (cellOf h16 (Addr.add p17 2) = some (.pointer q9)) ∧
  (cellOf h16 (Addr.add ⟨h1.size, 0, none⟩ 1) = some (.int .i64 n22)) ∧
  (cellOf h16 (Addr.add p18 3) = some (.pointer q10)) ∧
  (cellOf h16 (Addr.add ⟨h1.size, 0, none⟩ 1) = some (.int .i64 n24)) ∧
  (cellOf h16 (Addr.add ⟨h1.size, 0, none⟩ 2) = some (.int .u8 n25)) ∧
  C.txn_Txn_Write q9 n22 sA1 sL1 sC1 h16 fun r15 h17 =>
  ∃ (n26 : Int), r15 = .int .i64 n26 ∧
  (cellOf h17 (Addr.add p18 3) = some (.pointer q10)) ∧
  (cellOf h17 (Addr.add ⟨h1.size, 0, none⟩ 1) = some (.int .i64 n24)) ∧
  (cellOf h17 (Addr.add ⟨h1.size, 0, none⟩ 2) = some (.int .u8 n25)) ∧
  C.bolelaw09_block n25 h17 fun r16 h18 =>
  ∃ (sA2 : Option Addr) (sL2 : Nat) (sC2 : Nat), r16 = .slice sA2 sL2 sC2 ∧
  (cellOf h18 (Addr.add p18 3) = some (.pointer q10)) ∧
  (cellOf h18 (Addr.add ⟨h1.size, 0, none⟩ 1) = some (.int .i64 n24)) ∧
  C.boleref06_Txn_Write q10 n24 sA2 sL2 sC2 h18 fun r17 h19 =>
  ∃ (n27 : Int), r17 = .int .i64 n27 ∧
  K (.bool (n26 == n27)) h19) else (
  bif (n1 == 7) then (
  onSome s1 fun p19 =>
  ∃ (q11 : Option Addr), cellOf h2 (Addr.add p19 2) = some (.pointer q11) ∧
  onSome s1 fun p20 =>
  ∃ (q12 : Option Addr), cellOf h2 (Addr.add p20 3) = some (.pointer q12) ∧
  C.txn_Txn_Written q11 h2 fun r18 h20 =>
  ∃ (sA3 : Option Addr) (sL3 : Nat) (sC3 : Nat), r18 = .slice sA3 sL3 sC3 ∧
  (cellOf h20 (Addr.add p20 3) = some (.pointer q12)) ∧
  C.boleref06_Txn_Written q12 h20 fun r19 h21 =>
  ∃ (sA4 : Option Addr) (sL4 : Nat) (sC4 : Nat), r19 = .slice sA4 sL4 sC4 ∧
  C.bolelaw09_sameInts sA3 sL3 sC3 sA4 sL4 sC4 h21 fun r20 h22 =>
  ∃ (b8 : Bool), r20 = .bool b8 ∧
  K (.bool b8) h22) else (
  bif (n1 == 8) then (
  ∃ (n28 : Int), cellOf h2 (Addr.add ⟨h1.size, 0, none⟩ 2) = some (.int .u8 n28) ∧
  bif ((Int.tmod n28 2) == 0) then (
  onSome s1 fun p21 =>
  ∃ (q13 : Option Addr), cellOf h2 (Addr.add p21 2) = some (.pointer q13) ∧
  onSome s1 fun p22 =>
  ∃ (q14 : Option Addr), cellOf h2 (Addr.add p22 3) = some (.pointer q14) ∧
  C.txn_Txn_Commit q13 h2 fun r21 h23 =>
  ∃ (n29 : Int), r21 = .int .i64 n29 ∧
  (cellOf h23 (Addr.add p22 3) = some (.pointer q14)) ∧
  C.boleref06_Txn_Commit q14 h23 fun r22 h24 =>
  ∃ (n30 : Int), r22 = .int .i64 n30 ∧
  bif (n29 != n30) then (
  K (.bool false) h24) else (
  bolelaw09_Sides_plays.k1 s1 h24 K)) else (
  bolelaw09_Sides_plays.k1 s1 h2 K)) else (
  bif (n1 == 9) then (
  onSome s1 fun p25 =>
  ∃ (q17 : Option Addr), cellOf h2 (Addr.add p25 2) = some (.pointer q17) ∧
  C.txn_Txn_Abort q17 h2 fun r26 h29 =>
  r26 = .tuple #[] ∧
  onSome s1 fun p26 =>
  ∃ (q18 : Option Addr), cellOf h29 (Addr.add p26 3) = some (.pointer q18) ∧
  C.boleref06_Txn_Abort q18 h29 fun r27 h30 =>
  r27 = .tuple #[] ∧
  K (.bool true) h30) else (
  bif (n1 == 10) then (
  onSome s1 fun p27 =>
  ∃ (q19 : Option Addr), cellOf h2 (Addr.add p27 0) = some (.pointer q19) ∧
  C.adisk_Disk_Crash q19 none 0 0 h2 fun r28 h31 =>
  r28 = .tuple #[] ∧
  onSome s1 fun p28 =>
  ∃ (q20 : Option Addr), cellOf h31 (Addr.add p28 1) = some (.pointer q20) ∧
  C.boleref03_Disk_Crash q20 none 0 0 h31 fun r29 h32 =>
  r29 = .tuple #[] ∧
  K (.bool true) h32) else (
  K (.bool true) h2))))))))))
def bolelaw09_Sides_plays.lo : Nat → List Nat × List (Nat × Ty) := fun n => match n with | _ => ([], [])
set_option maxRecDepth 100000 in
def bolelaw09_Sides_plays.od : Nat → Od := fun n => match n with | 3 => (.op 0 [] (.op 1 [] (.op 2 [] (.op 3 [] (.op 4 [] (.op 5 [] (.op 6 [] (.op 7 [] (.op 8 [] (.op 9 [] (.op 10 [] (.op 11 [] (.op 12 [] (.op 13 [] .nil)))))))))))))) | 4 => (.op 0 [] (.op 1 [] (.op 2 [] (.op 3 [] (.op 4 [] (.op 5 [] (.op 6 [] (.op 7 [] (.op 8 [] (.op 9 [] (.op 10 [] (.op 11 [] (.op 12 [] (.op 13 [] .nil)))))))))))))) | 7 => (.op 0 [] (.op 1 [] (.op 2 [] (.op 3 [] (.op 4 [] (.op 5 [] (.op 6 [] (.op 7 [] (.op 8 [] (.op 9 [] (.op 10 [] (.op 11 [] .nil)))))))))))) | 8 => (.op 0 [] (.op 1 [] (.op 2 [] (.op 3 [] (.op 4 [] (.op 5 [] (.op 6 [] (.op 7 [] (.op 8 [] (.op 9 [] (.op 10 [] (.op 11 [] .nil)))))))))))) | 11 => (.op 0 [] (.op 1 [] (.op 2 [] (.op 3 [] (.op 4 [] (.op 5 [] (.op 6 [] (.op 7 [] (.op 8 [] (.op 9 [] (.op 10 [] (.op 11 [] (.op 12 [] (.op 13 [] (.op 14 [] (.op 15 [] .nil)))))))))))))))) | 12 => (.op 0 [] (.op 1 [] (.op 2 [] (.op 3 [] (.op 4 [] (.op 5 [] (.op 6 [] (.op 7 [] (.op 8 [] (.op 9 [] (.op 10 [] (.op 11 [] (.op 12 [] (.op 13 [] (.op 14 [] (.op 15 [] .nil)))))))))))))))) | 15 => (.op 0 [] (.op 1 [] (.op 2 [] (.op 3 [] (.op 4 [] (.op 5 [] (.op 6 [] (.op 7 [] (.op 8 [] (.op 9 [] (.op 10 [] (.op 11 [] (.op 12 [] (.op 13 [] .nil)))))))))))))) | 16 => (.op 0 [] (.op 1 [] (.op 2 [] (.op 3 [] (.op 4 [] (.op 5 [] (.op 6 [] (.op 7 [] (.op 8 [] (.op 9 [] (.op 10 [] (.op 11 [] (.op 12 [] (.op 13 [] .nil)))))))))))))) | 21 => (.op 0 [] (.op 1 [] (.op 2 [] (.op 3 [] (.op 4 [] (.op 5 [] (.op 6 [] (.op 7 [] (.op 10 [] (.op 11 [] (.op 12 [] (.op 13 [] (.op 14 [] (.op 15 [] (.op 16 [] (.op 17 [] (.op 8 [3, 5, 13, 15, 17] (.op 9 [13, 15, 17] (.op 18 [13, 15] (.op 19 [] (.op 20 [] (.op 21 [] .nil)))))))))))))))))))))) | 23 => (.op 0 [] (.op 1 [] (.op 2 [] (.op 3 [] (.op 5 [] (.op 6 [] (.op 7 [] (.op 8 [] (.op 4 [8] (.op 9 [] (.op 10 [] (.op 11 [] .nil)))))))))))) | 25 => (.op 0 [] (.op 1 [] (.op 2 [] (.op 3 [] (.op 4 [] (.op 5 [] (.op 6 [] (.op 7 [] (.op 8 [] (.op 10 [] (.op 11 [] (.op 12 [] (.op 13 [] (.op 9 [13] (.op 14 [] (.op 15 [] (.op 16 [] .nil))))))))))))))))) | _ => .nil
set_option maxRecDepth 100000 in
theorem bolelaw09_Sides_plays.eq (s1 : Option Addr) (o1 : List Value) (K : Value → Heap → Prop) (h : Heap) : fnX (cx bolelaw09_Sides_plays.lo bolelaw09_Sides_plays.od) Tryz.f33 (Tryz.f33.body.getD .skip) [.pointer s1, .agg ⟨o1⟩] K h = bolelaw09_Sides_plays s1 o1 K h := by kernel_rfl
theorem bolelaw09_Sides_plays.chk : fnOk (cx bolelaw09_Sides_plays.lo bolelaw09_Sides_plays.od) Tryz.f33 (Tryz.f33.body.getD .skip) 2 = true := by kernel_rfl
set_option maxRecDepth 100000 in
theorem bolelaw09_Sides_plays.ok {s1 : Option Addr} {o1 : List Value} {K : Value → Heap → Prop} {h : Heap} (hx : bolelaw09_Sides_plays s1 o1 K h) : C.bolelaw09_Sides_plays s1 o1 h K :=
  fn_to (cxOk _ _) Tryz.func33 (by kernel_rfl) bolelaw09_Sides_plays.chk (by rw [bolelaw09_Sides_plays.eq]; exact hx)
end Go.Proofs.YtjdcbblgaoogmaaGreatDoor.W
namespace Go.Proofs.YtjdcbblgaoogmaaGreatDoor.W
open Go Go.Proofs Go.Proofs.YtjdcbblgaoogmaaGreatDoor.Wx
def wal_Commit (d1 : Option Addr) (lA1 : Option Addr) (lL1 : Nat) (lC1 : Nat) (K : Value → Heap → Prop) (h1 : Heap) : Prop :=
  bif ((lL1 : Int) == 0) then (
  K (.int .i64 0) h1) else (
  C.adisk_Disk_Blocks d1 h1 fun r1 h2 =>
  ∃ (n1 : Int), r1 = .int .i64 n1 ∧
  C.wal_may lA1 lL1 lC1 n1 h2 fun r2 h3 =>
  ∃ (b1 : Bool), r2 = .bool b1 ∧
  bif (!b1) then (
  K (.int .i64 40) h3) else (
  ∃ (I1 : Option Addr → Nat → Nat → Option Addr → Nat → Nat → Int → Heap → Prop) (M1 : Option Addr → Nat → Nat → Option Addr → Nat → Nat → Int → Heap → Nat), I1 none 0 0 none 0 0 0 h3 ∧
  ∀ (numsA1 : Option Addr) (numsL1 : Nat) (numsC1 : Nat) (dataA1 : Option Addr) (dataL1 : Nat) (dataC1 : Nat) (n2 : Int), ∀ h4 : Heap, I1 numsA1 numsL1 numsC1 dataA1 dataL1 dataC1 n2 h4 →
  bif (decide (n2 < (lL1 : Int))) then (
  (0 ≤ n2 ∧ n2 < (lL1 : Int)) ∧
  onSome lA1 fun p1 =>
  ∃ cs1 : List Value, List.length cs1 = 2 ∧ Cells h4 (Addr.add p1 ((Int.toNat n2) * 2)) cs1 ∧
  NewRow z103 103 cs1 2 h4 fun h6 =>
  ∃ (n3 : Int), cellOf h6 (Addr.add ⟨h4.size, 0, none⟩ 0) = some (.int .i64 n3) ∧
  New [.int .i64 n3] 3 h6 fun h7 =>
  ∃ new1 : List Value, List.length new1 = 1 * 1 ∧ SlCells h7 (some ⟨h6.size, 0, none⟩) new1 ∧ (∀ v ∈ new1, v.oneCell' = true) ∧
  AppendP ti3 3 numsA1 numsL1 numsC1 1 new1 h7 fun sA1 sL1 sC1 h8 =>
  ∃ (sA2 : Option Addr) (sL2 : Nat) (sC2 : Nat), cellOf h8 (Addr.add ⟨h4.size, 0, none⟩ 1) = some (.slice sA2 sL2 sC2) ∧
  New [.slice sA2 sL2 sC2] 37 h8 fun h9 =>
  ∃ new2 : List Value, List.length new2 = 1 * 1 ∧ SlCells h9 (some ⟨h8.size, 0, none⟩) new2 ∧ (∀ v ∈ new2, v.oneCell' = true) ∧
  AppendP ti37 37 dataA1 dataL1 dataC1 1 new2 h9 fun sA3 sL3 sC3 h10 =>
  I1 sA1 sL1 sC1 sA3 sL3 sC3 (IntKind.wrap .i64 (n2 + 1)) h10 ∧ M1 sA1 sL1 sC1 sA3 sL3 sC3 (IntKind.wrap .i64 (n2 + 1)) h10 < M1 numsA1 numsL1 numsC1 dataA1 dataL1 dataC1 n2 h4) else (
  C.head_Make numsA1 numsL1 numsC1 dataA1 dataL1 dataC1 h4 fun r3 h11 =>
  ∃ (sA4 : Option Addr) (sL4 : Nat) (sC4 : Nat) (n4 : Int), r3 = .tuple #[.slice sA4 sL4 sC4, .int .i64 n4] ∧
  bif (n4 != 0) then (
  K (.int .i64 n4) h11) else (
  C.adisk_Disk_Down d1 h11 fun r4 h12 =>
  ∃ (b2 : Bool), r4 = .bool b2 ∧
  bif b2 then (
  K (.int .i64 30) h12) else (
  New z169 169 h12 fun h13 =>
  ∃ (I2 : Int → Heap → Prop) (M2 : Int → Heap → Nat), I2 0 h13 ∧
  ∀ (n5 : Int), ∀ h14 : Heap, I2 n5 h14 →
  bif (decide (n5 < (lL1 : Int))) then (
  (0 ≤ n5 ∧ n5 < (lL1 : Int)) ∧
  onSome lA1 fun p2 =>
  ∃ cs2 : List Value, List.length cs2 = 2 ∧ Cells h14 (Addr.add p2 ((Int.toNat n5) * 2)) cs2 ∧
  NewRow z103 103 cs2 2 h14 fun h16 =>
  ∃ (sA5 : Option Addr) (sL5 : Nat) (sC5 : Nat), cellOf h16 (Addr.add ⟨h14.size, 0, none⟩ 1) = some (.slice sA5 sL5 sC5) ∧
  C.wal_steps_write (some ⟨h12.size, 0, none⟩) (IntKind.wrap .i64 (2 + n5)) sA5 sL5 sC5 h16 fun r5 h17 =>
  r5 = .tuple #[] ∧
  I2 (IntKind.wrap .i64 (n5 + 1)) h17 ∧ M2 (IntKind.wrap .i64 (n5 + 1)) h17 < M2 n5 h14) else (
  C.wal_steps_flush (some ⟨h12.size, 0, none⟩) h14 fun r6 h18 =>
  r6 = .tuple #[] ∧
  C.wal_steps_write (some ⟨h12.size, 0, none⟩) 1 sA4 sL4 sC4 h18 fun r7 h19 =>
  r7 = .tuple #[] ∧
  C.wal_steps_flush (some ⟨h12.size, 0, none⟩) h19 fun r8 h20 =>
  r8 = .tuple #[] ∧
  C.wal_steps_home (some ⟨h12.size, 0, none⟩) lA1 lL1 lC1 h20 fun r9 h21 =>
  r9 = .tuple #[] ∧
  ∃ (sA6 : Option Addr) (sL6 : Nat) (sC6 : Nat), cellOf h21 ⟨h12.size, 0, none⟩ = some (.slice sA6 sL6 sC6) ∧
  C.wal_steps_do sA6 sL6 sC6 d1 h21 fun r10 h22 =>
  ∃ (n6 : Int), r10 = .int .i64 n6 ∧
  K (.int .i64 n6) h22))))))
def wal_Commit.lo : Nat → List Nat × List (Nat × Ty) := fun n => match n with | 8 => ([0, 1, 22, 23], [(5, .slice), (6, .slice), (24, .int .i64)]) | 20 => ([0, 1, 9, 11, 50, 51], [(52, .int .i64)]) | _ => ([], [])
def wal_Commit.od : Nat → Od := fun n => match n with | _ => .nil
theorem wal_Commit.eq (d1 : Option Addr) (lA1 : Option Addr) (lL1 : Nat) (lC1 : Nat) (K : Value → Heap → Prop) (h : Heap) : fnX (cx wal_Commit.lo wal_Commit.od) Tryz.f40 (Tryz.f40.body.getD .skip) [.pointer d1, .slice lA1 lL1 lC1] K h = wal_Commit d1 lA1 lL1 lC1 K h := by kernel_rfl
theorem wal_Commit.chk : fnOk (cx wal_Commit.lo wal_Commit.od) Tryz.f40 (Tryz.f40.body.getD .skip) 2 = true := by kernel_rfl
theorem wal_Commit.ok {d1 : Option Addr} {lA1 : Option Addr} {lL1 : Nat} {lC1 : Nat} {K : Value → Heap → Prop} {h : Heap} (hx : wal_Commit d1 lA1 lL1 lC1 K h) : C.wal_Commit d1 lA1 lL1 lC1 h K :=
  fn_to (cxOk _ _) Tryz.func40 (by kernel_rfl) wal_Commit.chk (by rw [wal_Commit.eq]; exact hx)
def adisk_Disk_Read (d1 : Option Addr) (i1 : Int) (K : Value → Heap → Prop) (h1 : Heap) : Prop :=
  onSome d1 fun p1 =>
  ∃ (b1 : Bool), cellOf h1 (Addr.add p1 4) = some (.bool b1) ∧
  bif b1 then (
  K (.tuple #[.slice none 0 0, .int .i64 30]) h1) else (
  C.adisk_Disk_has d1 i1 h1 fun r1 h2 =>
  ∃ (b2 : Bool), r1 = .bool b2 ∧
  bif (!b2) then (
  K (.tuple #[.slice none 0 0, .int .i64 31]) h2) else (
  onSome d1 fun p2 =>
  ∃ (sA1 : Option Addr) (sL1 : Nat) (sC1 : Nat), cellOf h2 (Addr.add p2 0) = some (.slice sA1 sL1 sC1) ∧
  (0 ≤ i1 ∧ i1 < (sL1 : Int)) ∧
  onSome sA1 fun p3 =>
  ∃ cs1 : List Value, List.length cs1 = 512 ∧ Cells h2 (Addr.add p3 ((Int.toNat i1) * 512)) cs1 ∧
  NewRow z125 125 cs1 512 h2 fun h4 =>
  onSome d1 fun p4 =>
  ∃ (sA2 : Option Addr) (sL2 : Nat) (sC2 : Nat), cellOf h4 (Addr.add p4 1) = some (.slice sA2 sL2 sC2) ∧
  ∃ (I1 : Int → Heap → Prop) (M1 : Int → Heap → Nat), I1 0 h4 ∧
  ∀ (n1 : Int), ∀ h5 : Heap, I1 n1 h5 →
  bif (decide (n1 < (sL2 : Int))) then (
  (0 ≤ n1 ∧ n1 < (sL2 : Int)) ∧
  onSome sA2 fun p5 =>
  ∃ cs2 : List Value, List.length cs2 = 513 ∧ Cells h5 (Addr.add p5 ((Int.toNat n1) * 513)) cs2 ∧
  NewRow z174 174 cs2 513 h5 fun h7 =>
  ∃ (n2 : Int), cellOf h7 (Addr.add ⟨h5.size, 0, none⟩ 0) = some (.int .i64 n2) ∧
  bif (n2 == i1) then (
  ∃ cs3 : List Value, List.length cs3 = 512 ∧ Cells h7 (Addr.add ⟨h5.size, 0, none⟩ 1) cs3 ∧
  PutRow ⟨h2.size, 0, none⟩ cs3 512 h7 fun h8 =>
  I1 (IntKind.wrap .i64 (n1 + 1)) h8 ∧ M1 (IntKind.wrap .i64 (n1 + 1)) h8 < M1 n1 h5) else (
  I1 (IntKind.wrap .i64 (n1 + 1)) h7 ∧ M1 (IntKind.wrap .i64 (n1 + 1)) h7 < M1 n1 h5)) else (
  K (.tuple #[.slice (some ⟨h2.size, 0, none⟩) 512 512, .int .i64 0]) h5)))
def adisk_Disk_Read.lo : Nat → List Nat × List (Nat × Ty) := fun n => match n with | 7 => ([1, 6, 29, 30], [(31, .int .i64)]) | _ => ([], [])
def adisk_Disk_Read.od : Nat → Od := fun n => match n with | _ => .nil
theorem adisk_Disk_Read.eq (d1 : Option Addr) (i1 : Int) (K : Value → Heap → Prop) (h : Heap) : fnX (cx adisk_Disk_Read.lo adisk_Disk_Read.od) Tryz.f41 (Tryz.f41.body.getD .skip) [.pointer d1, .int .i64 i1] K h = adisk_Disk_Read d1 i1 K h := by kernel_rfl
theorem adisk_Disk_Read.chk : fnOk (cx adisk_Disk_Read.lo adisk_Disk_Read.od) Tryz.f41 (Tryz.f41.body.getD .skip) 2 = true := by kernel_rfl
theorem adisk_Disk_Read.ok {d1 : Option Addr} {i1 : Int} {K : Value → Heap → Prop} {h : Heap} (hx : adisk_Disk_Read d1 i1 K h) : C.adisk_Disk_Read d1 i1 h K :=
  fn_to (cxOk _ _) Tryz.func41 (by kernel_rfl) adisk_Disk_Read.chk (by rw [adisk_Disk_Read.eq]; exact hx)
end Go.Proofs.YtjdcbblgaoogmaaGreatDoor.W
namespace Go.Proofs.YtjdcbblgaoogmaaGreatDoor.W
open Go Go.Proofs Go.Proofs.YtjdcbblgaoogmaaGreatDoor.Wx
def boleref03_Disk_Write (d1 : Option Addr) (i1 : Int) (bA1 : Option Addr) (bL1 : Nat) (bC1 : Nat) (K : Value → Heap → Prop) (h1 : Heap) : Prop :=
  onSome d1 fun p1 =>
  ∃ (b1 : Bool), cellOf h1 (Addr.add p1 4) = some (.bool b1) ∧
  bif b1 then (
  K (.int .i64 30) h1) else (
  C.boleref03_copied bA1 bL1 bC1 h1 fun r1 h2 =>
  ∃ (sA1 : Option Addr) (sL1 : Nat) (sC1 : Nat), r1 = .slice sA1 sL1 sC1 ∧
  NewRow z122 122 [.int .i64 1, .int .i64 i1, .slice sA1 sL1 sC1] 3 h2 fun h4 =>
  ∃ cs1 : List Value, List.length cs1 = 3 ∧ Cells h4 ⟨h2.size, 0, none⟩ cs1 ∧
  C.boleref03_Disk_Blocks d1 h4 fun r2 h5 =>
  ∃ (n1 : Int), r2 = .int .i64 n1 ∧
  (List.length (cs1 : List Value) = 3 ∧ Cells h5 ⟨h2.size, 0, none⟩ cs1) ∧
  C.boleref03_fault n1 cs1 h5 fun r3 h6 =>
  ∃ (n2 : Int), r3 = .int .i64 n2 ∧
  bif (n2 != 0) then (
  K (.int .i64 n2) h6) else (
  onSome d1 fun p2 =>
  ∃ (n3 : Int), cellOf h6 (Addr.add p2 5) = some (.int .i64 n3) ∧
  onSome d1 fun p3 =>
  Put (Addr.add p3 5) (.int .i64 (IntKind.wrap .i64 (n3 + 1))) h6 fun h7 =>
  onSome d1 fun p4 =>
  ∃ (sA2 : Option Addr) (sL2 : Nat) (sC2 : Nat), cellOf h7 (Addr.add p4 1) = some (.slice sA2 sL2 sC2) ∧
  ∃ cs2 : List Value, List.length cs2 = 3 ∧ Cells h7 ⟨h2.size, 0, none⟩ cs2 ∧
  List.length (cs2 : List Value) = 3 ∧
  New cs2 122 h7 fun h8 =>
  (cellOf h8 (Addr.add p4 1) = some (.slice sA2 sL2 sC2)) ∧
  ∃ new1 : List Value, List.length new1 = 1 * 3 ∧ SlCells h8 (some ⟨h7.size, 0, none⟩) new1 ∧ (∀ v ∈ new1, v.oneCell' = true) ∧
  AppendP ti122 122 sA2 sL2 sC2 1 new1 h8 fun sA3 sL3 sC3 h9 =>
  onSome d1 fun p5 =>
  Put (Addr.add p5 1) (.slice sA3 sL3 sC3) h9 fun h10 =>
  C.boleref03_Disk_goes d1 h10 fun r4 h11 =>
  ∃ (b2 : Bool), r4 = .bool b2 ∧
  bif b2 then (
  K (.int .i64 30) h11) else (
  K (.int .i64 0) h11)))
def boleref03_Disk_Write.lo : Nat → List Nat × List (Nat × Ty) := fun n => match n with | _ => ([], [])
def boleref03_Disk_Write.od : Nat → Od := fun n => match n with | 4 => (.op 0 [] (.op 2 [] (.op 1 [2] (.op 3 [] (.op 4 [] .nil))))) | 8 => (.op 0 [] (.op 1 [] (.op 2 [] (.op 3 [] (.op 4 [] (.op 5 [] (.op 6 [4] (.op 7 [] (.op 8 [] (.op 9 [] (.op 10 [] .nil))))))))))) | _ => .nil
theorem boleref03_Disk_Write.eq (d1 : Option Addr) (i1 : Int) (bA1 : Option Addr) (bL1 : Nat) (bC1 : Nat) (K : Value → Heap → Prop) (h : Heap) : fnX (cx boleref03_Disk_Write.lo boleref03_Disk_Write.od) Tryz.f49 (Tryz.f49.body.getD .skip) [.pointer d1, .int .i64 i1, .slice bA1 bL1 bC1] K h = boleref03_Disk_Write d1 i1 bA1 bL1 bC1 K h := by kernel_rfl
theorem boleref03_Disk_Write.chk : fnOk (cx boleref03_Disk_Write.lo boleref03_Disk_Write.od) Tryz.f49 (Tryz.f49.body.getD .skip) 3 = true := by kernel_rfl
theorem boleref03_Disk_Write.ok {d1 : Option Addr} {i1 : Int} {bA1 : Option Addr} {bL1 : Nat} {bC1 : Nat} {K : Value → Heap → Prop} {h : Heap} (hx : boleref03_Disk_Write d1 i1 bA1 bL1 bC1 K h) : C.boleref03_Disk_Write d1 i1 bA1 bL1 bC1 h K :=
  fn_to (cxOk _ _) Tryz.func49 (by kernel_rfl) boleref03_Disk_Write.chk (by rw [boleref03_Disk_Write.eq]; exact hx)
def adisk_Disk_Write (d1 : Option Addr) (i1 : Int) (bA1 : Option Addr) (bL1 : Nat) (bC1 : Nat) (K : Value → Heap → Prop) (h1 : Heap) : Prop :=
  onSome d1 fun p1 =>
  ∃ (b1 : Bool), cellOf h1 (Addr.add p1 4) = some (.bool b1) ∧
  bif b1 then (
  K (.int .i64 30) h1) else (
  C.adisk_Disk_has d1 i1 h1 fun r1 h2 =>
  ∃ (b2 : Bool), r1 = .bool b2 ∧
  bif (!b2) then (
  K (.int .i64 31) h2) else (
  bif ((bL1 : Int) != 512) then (
  K (.int .i64 32) h2) else (
  onSome d1 fun p2 =>
  ∃ (sA1 : Option Addr) (sL1 : Nat) (sC1 : Nat), cellOf h2 (Addr.add p2 1) = some (.slice sA1 sL1 sC1) ∧
  512 ≤ bL1 ∧
  onSome bA1 fun p3 =>
  ∃ cs1 : List Value, List.length cs1 = 512 ∧ Cells h2 p3 cs1 ∧
  List.length (cs1 : List Value) = 512 ∧
  List.length (([.int .i64 i1] ++ cs1) : List Value) = 513 ∧
  New ([.int .i64 i1] ++ cs1) 174 h2 fun h3 =>
  (cellOf h3 (Addr.add p2 1) = some (.slice sA1 sL1 sC1)) ∧
  ∃ new1 : List Value, List.length new1 = 1 * 513 ∧ SlCells h3 (some ⟨h2.size, 0, none⟩) new1 ∧ (∀ v ∈ new1, v.oneCell' = true) ∧
  AppendP ti174 174 sA1 sL1 sC1 1 new1 h3 fun sA2 sL2 sC2 h4 =>
  onSome d1 fun p4 =>
  Put (Addr.add p4 1) (.slice sA2 sL2 sC2) h4 fun h5 =>
  onSome d1 fun p5 =>
  ∃ (sA3 : Option Addr) (sL3 : Nat) (sC3 : Nat), cellOf h5 (Addr.add p5 7) = some (.slice sA3 sL3 sC3) ∧
  C.slices_Clone_byte_byte bA1 bL1 bC1 h5 fun r2 h6 =>
  ∃ (sA4 : Option Addr) (sL4 : Nat) (sC4 : Nat), r2 = .slice sA4 sL4 sC4 ∧
  (cellOf h6 (Addr.add p5 7) = some (.slice sA3 sL3 sC3)) ∧
  List.length ([.int .i64 1, .int .i64 i1, .slice sA4 sL4 sC4] : List Value) = 3 ∧
  New [.int .i64 1, .int .i64 i1, .slice sA4 sL4 sC4] 122 h6 fun h7 =>
  (cellOf h7 (Addr.add p5 7) = some (.slice sA3 sL3 sC3)) ∧
  ∃ new2 : List Value, List.length new2 = 1 * 3 ∧ SlCells h7 (some ⟨h6.size, 0, none⟩) new2 ∧ (∀ v ∈ new2, v.oneCell' = true) ∧
  AppendP ti122 122 sA3 sL3 sC3 1 new2 h7 fun sA5 sL5 sC5 h8 =>
  onSome d1 fun p6 =>
  Put (Addr.add p6 7) (.slice sA5 sL5 sC5) h8 fun h9 =>
  onSome d1 fun p7 =>
  ∃ (n1 : Int), cellOf h9 (Addr.add p7 5) = some (.int .i64 n1) ∧
  onSome d1 fun p8 =>
  Put (Addr.add p8 5) (.int .i64 (IntKind.wrap .i64 (n1 + 1))) h9 fun h10 =>
  C.adisk_Disk_step d1 (Value.nilFunc) h10 fun r3 h11 =>
  ∃ (n2 : Int), r3 = .int .i64 n2 ∧
  K (.int .i64 n2) h11)))
def adisk_Disk_Write.lo : Nat → List Nat × List (Nat × Ty) := fun n => match n with | _ => ([], [])
def adisk_Disk_Write.od : Nat → Od := fun n => match n with | 7 => (.op 0 [] (.op 1 [] (.op 2 [] (.op 3 [] (.op 4 [] (.op 5 [] (.op 6 [] (.op 7 [] (.op 8 [] (.op 9 [] (.op 10 [4] (.op 11 [] (.op 12 [] (.op 13 [] (.op 14 [] .nil))))))))))))))) | 8 => (.op 0 [] (.op 1 [] (.op 2 [] (.op 3 [] (.op 4 [] (.op 5 [] (.op 6 [] (.op 7 [4] (.op 8 [] (.op 9 [4] (.op 10 [] (.op 11 [] (.op 12 [] (.op 13 [] .nil)))))))))))))) | _ => .nil
theorem adisk_Disk_Write.eq (d1 : Option Addr) (i1 : Int) (bA1 : Option Addr) (bL1 : Nat) (bC1 : Nat) (K : Value → Heap → Prop) (h : Heap) : fnX (cx adisk_Disk_Write.lo adisk_Disk_Write.od) Tryz.f50 (Tryz.f50.body.getD .skip) [.pointer d1, .int .i64 i1, .slice bA1 bL1 bC1] K h = adisk_Disk_Write d1 i1 bA1 bL1 bC1 K h := by kernel_rfl
theorem adisk_Disk_Write.chk : fnOk (cx adisk_Disk_Write.lo adisk_Disk_Write.od) Tryz.f50 (Tryz.f50.body.getD .skip) 3 = true := by kernel_rfl
theorem adisk_Disk_Write.ok {d1 : Option Addr} {i1 : Int} {bA1 : Option Addr} {bL1 : Nat} {bC1 : Nat} {K : Value → Heap → Prop} {h : Heap} (hx : adisk_Disk_Write d1 i1 bA1 bL1 bC1 K h) : C.adisk_Disk_Write d1 i1 bA1 bL1 bC1 h K :=
  fn_to (cxOk _ _) Tryz.func50 (by kernel_rfl) adisk_Disk_Write.chk (by rw [adisk_Disk_Write.eq]; exact hx)
def boleref03_Disk_Flush (d1 : Option Addr) (K : Value → Heap → Prop) (h1 : Heap) : Prop :=
  onSome d1 fun p1 =>
  ∃ (b1 : Bool), cellOf h1 (Addr.add p1 4) = some (.bool b1) ∧
  bif b1 then (
  K (.int .i64 30) h1) else (
  onSome d1 fun p2 =>
  ∃ (n1 : Int), cellOf h1 (Addr.add p2 6) = some (.int .i64 n1) ∧
  onSome d1 fun p3 =>
  Put (Addr.add p3 6) (.int .i64 (IntKind.wrap .i64 (n1 + 1))) h1 fun h2 =>
  C.boleref03_Disk_goes d1 h2 fun r1 h3 =>
  ∃ (b2 : Bool), r1 = .bool b2 ∧
  bif b2 then (
  K (.int .i64 30) h3) else (
  onSome d1 fun p4 =>
  ∃ (sA1 : Option Addr) (sL1 : Nat) (sC1 : Nat), cellOf h3 (Addr.add p4 1) = some (.slice sA1 sL1 sC1) ∧
  List.length ([.int .i64 2, .int .i64 0, .slice none 0 0] : List Value) = 3 ∧
  New [.int .i64 2, .int .i64 0, .slice none 0 0] 122 h3 fun h4 =>
  ∃ new1 : List Value, List.length new1 = 1 * 3 ∧ SlCells h4 (some ⟨h3.size, 0, none⟩) new1 ∧ (∀ v ∈ new1, v.oneCell' = true) ∧
  AppendP ti122 122 sA1 sL1 sC1 1 new1 h4 fun sA2 sL2 sC2 h5 =>
  onSome d1 fun p5 =>
  Put (Addr.add p5 1) (.slice sA2 sL2 sC2) h5 fun h6 =>
  K (.int .i64 0) h6))
def boleref03_Disk_Flush.lo : Nat → List Nat × List (Nat × Ty) := fun n => match n with | _ => ([], [])
def boleref03_Disk_Flush.od : Nat → Od := fun n => match n with | _ => .nil
theorem boleref03_Disk_Flush.eq (d1 : Option Addr) (K : Value → Heap → Prop) (h : Heap) : fnX (cx boleref03_Disk_Flush.lo boleref03_Disk_Flush.od) Tryz.f51 (Tryz.f51.body.getD .skip) [.pointer d1] K h = boleref03_Disk_Flush d1 K h := by kernel_rfl
theorem boleref03_Disk_Flush.chk : fnOk (cx boleref03_Disk_Flush.lo boleref03_Disk_Flush.od) Tryz.f51 (Tryz.f51.body.getD .skip) 1 = true := by kernel_rfl
theorem boleref03_Disk_Flush.ok {d1 : Option Addr} {K : Value → Heap → Prop} {h : Heap} (hx : boleref03_Disk_Flush d1 K h) : C.boleref03_Disk_Flush d1 h K :=
  fn_to (cxOk _ _) Tryz.func51 (by kernel_rfl) boleref03_Disk_Flush.chk (by rw [boleref03_Disk_Flush.eq]; exact hx)
def adisk_Disk_Flush (d1 : Option Addr) (K : Value → Heap → Prop) (h1 : Heap) : Prop :=
  New [.pointer d1] 25 h1 fun h2 =>
  ∃ (q1 : Option Addr), cellOf h2 ⟨h1.size, 0, none⟩ = some (.pointer q1) ∧
  onSome q1 fun p1 =>
  ∃ (b1 : Bool), cellOf h2 (Addr.add p1 4) = some (.bool b1) ∧
  bif b1 then (
  K (.int .i64 30) h2) else (
  ∃ (q2 : Option Addr), cellOf h2 ⟨h1.size, 0, none⟩ = some (.pointer q2) ∧
  onSome q2 fun p2 =>
  ∃ (n1 : Int), cellOf h2 (Addr.add p2 6) = some (.int .i64 n1) ∧
  onSome q2 fun p3 =>
  Put (Addr.add p3 6) (.int .i64 (IntKind.wrap .i64 (n1 + 1))) h2 fun h3 =>
  ∃ (q3 : Option Addr), cellOf h3 ⟨h1.size, 0, none⟩ = some (.pointer q3) ∧
  C.adisk_Disk_step q3 (Value.func (.func 131) #[] ⟨[.pointer (some ⟨h1.size, 0, none⟩)]⟩) h3 fun r1 h4 =>
  ∃ (n2 : Int), r1 = .int .i64 n2 ∧
  K (.int .i64 n2) h4)
def adisk_Disk_Flush.lo : Nat → List Nat × List (Nat × Ty) := fun n => match n with | _ => ([], [])
def adisk_Disk_Flush.od : Nat → Od := fun n => match n with | _ => .nil
theorem adisk_Disk_Flush.eq (d1 : Option Addr) (K : Value → Heap → Prop) (h : Heap) : fnX (cx adisk_Disk_Flush.lo adisk_Disk_Flush.od) Tryz.f52 (Tryz.f52.body.getD .skip) [.pointer d1] K h = adisk_Disk_Flush d1 K h := by kernel_rfl
theorem adisk_Disk_Flush.chk : fnOk (cx adisk_Disk_Flush.lo adisk_Disk_Flush.od) Tryz.f52 (Tryz.f52.body.getD .skip) 1 = true := by kernel_rfl
theorem adisk_Disk_Flush.ok {d1 : Option Addr} {K : Value → Heap → Prop} {h : Heap} (hx : adisk_Disk_Flush d1 K h) : C.adisk_Disk_Flush d1 h K :=
  fn_to (cxOk _ _) Tryz.func52 (by kernel_rfl) adisk_Disk_Flush.chk (by rw [adisk_Disk_Flush.eq]; exact hx)
def boleref03_Disk_Crash (d1 : Option Addr) (keepA1 : Option Addr) (keepL1 : Nat) (keepC1 : Nat) (K : Value → Heap → Prop) (h1 : Heap) : Prop :=
  onSome d1 fun p1 =>
  ∃ (b1 : Bool), cellOf h1 (Addr.add p1 4) = some (.bool b1) ∧
  bif b1 then (
  K (.tuple #[]) h1) else (
  onSome d1 fun p2 =>
  Put (Addr.add p2 4) (.bool true) h1 fun h2 =>
  C.boleref03_marks keepA1 keepL1 keepC1 h2 fun r1 h3 =>
  ∃ (sA1 : Option Addr) (sL1 : Nat) (sC1 : Nat), r1 = .slice sA1 sL1 sC1 ∧
  onSome d1 fun p3 =>
  Put (Addr.add p3 2) (.slice sA1 sL1 sC1) h3 fun h4 =>
  K (.tuple #[]) h4)
def boleref03_Disk_Crash.lo : Nat → List Nat × List (Nat × Ty) := fun n => match n with | _ => ([], [])
def boleref03_Disk_Crash.od : Nat → Od := fun n => match n with | _ => .nil
theorem boleref03_Disk_Crash.eq (d1 : Option Addr) (keepA1 : Option Addr) (keepL1 : Nat) (keepC1 : Nat) (K : Value → Heap → Prop) (h : Heap) : fnX (cx boleref03_Disk_Crash.lo boleref03_Disk_Crash.od) Tryz.f55 (Tryz.f55.body.getD .skip) [.pointer d1, .slice keepA1 keepL1 keepC1] K h = boleref03_Disk_Crash d1 keepA1 keepL1 keepC1 K h := by kernel_rfl
theorem boleref03_Disk_Crash.chk : fnOk (cx boleref03_Disk_Crash.lo boleref03_Disk_Crash.od) Tryz.f55 (Tryz.f55.body.getD .skip) 2 = true := by kernel_rfl
theorem boleref03_Disk_Crash.ok {d1 : Option Addr} {keepA1 : Option Addr} {keepL1 : Nat} {keepC1 : Nat} {K : Value → Heap → Prop} {h : Heap} (hx : boleref03_Disk_Crash d1 keepA1 keepL1 keepC1 K h) : C.boleref03_Disk_Crash d1 keepA1 keepL1 keepC1 h K :=
  fn_to (cxOk _ _) Tryz.func55 (by kernel_rfl) boleref03_Disk_Crash.chk (by rw [boleref03_Disk_Crash.eq]; exact hx)
def adisk_Disk_Crash (d1 : Option Addr) (keepA1 : Option Addr) (keepL1 : Nat) (keepC1 : Nat) (K : Value → Heap → Prop) (h1 : Heap) : Prop :=
  onSome d1 fun p1 =>
  ∃ (b1 : Bool), cellOf h1 (Addr.add p1 4) = some (.bool b1) ∧
  bif (!b1) then (
  C.adisk_Disk_cut d1 keepA1 keepL1 keepC1 h1 fun r1 h2 =>
  r1 = .tuple #[] ∧
  K (.tuple #[]) h2) else (
  K (.tuple #[]) h1)
def adisk_Disk_Crash.lo : Nat → List Nat × List (Nat × Ty) := fun n => match n with | _ => ([], [])
def adisk_Disk_Crash.od : Nat → Od := fun n => match n with | _ => .nil
theorem adisk_Disk_Crash.eq (d1 : Option Addr) (keepA1 : Option Addr) (keepL1 : Nat) (keepC1 : Nat) (K : Value → Heap → Prop) (h : Heap) : fnX (cx adisk_Disk_Crash.lo adisk_Disk_Crash.od) Tryz.f56 (Tryz.f56.body.getD .skip) [.pointer d1, .slice keepA1 keepL1 keepC1] K h = adisk_Disk_Crash d1 keepA1 keepL1 keepC1 K h := by kernel_rfl
theorem adisk_Disk_Crash.chk : fnOk (cx adisk_Disk_Crash.lo adisk_Disk_Crash.od) Tryz.f56 (Tryz.f56.body.getD .skip) 2 = true := by kernel_rfl
theorem adisk_Disk_Crash.ok {d1 : Option Addr} {keepA1 : Option Addr} {keepL1 : Nat} {keepC1 : Nat} {K : Value → Heap → Prop} {h : Heap} (hx : adisk_Disk_Crash d1 keepA1 keepL1 keepC1 K h) : C.adisk_Disk_Crash d1 keepA1 keepL1 keepC1 h K :=
  fn_to (cxOk _ _) Tryz.func56 (by kernel_rfl) adisk_Disk_Crash.chk (by rw [adisk_Disk_Crash.eq]; exact hx)
def slices_Clone_byte_byte (sA1 : Option Addr) (sL1 : Nat) (sC1 : Nat) (K : Value → Heap → Prop) (h1 : Heap) : Prop :=
  bif (Option.isNone sA1) then (
  K (.slice none 0 0) h1) else (
  New [] 5 h1 fun h2 =>
  ∃ new1 : List Value, List.length new1 = sL1 * 1 ∧ SlCells h2 sA1 new1 ∧ (∀ v ∈ new1, v.oneCell' = true) ∧
  AppendP ti5 5 (some ⟨h1.size, 0, none⟩) 0 0 sL1 new1 h2 fun sA2 sL2 sC2 h3 =>
  K (.slice sA2 sL2 sC2) h3)
def slices_Clone_byte_byte.lo : Nat → List Nat × List (Nat × Ty) := fun n => match n with | _ => ([], [])
def slices_Clone_byte_byte.od : Nat → Od := fun n => match n with | _ => .nil
theorem slices_Clone_byte_byte.eq (sA1 : Option Addr) (sL1 : Nat) (sC1 : Nat) (K : Value → Heap → Prop) (h : Heap) : fnX (cx slices_Clone_byte_byte.lo slices_Clone_byte_byte.od) Tryz.f58 (Tryz.f58.body.getD .skip) [.slice sA1 sL1 sC1] K h = slices_Clone_byte_byte sA1 sL1 sC1 K h := by kernel_rfl
theorem slices_Clone_byte_byte.chk : fnOk (cx slices_Clone_byte_byte.lo slices_Clone_byte_byte.od) Tryz.f58 (Tryz.f58.body.getD .skip) 1 = true := by kernel_rfl
theorem slices_Clone_byte_byte.ok {sA1 : Option Addr} {sL1 : Nat} {sC1 : Nat} {K : Value → Heap → Prop} {h : Heap} (hx : slices_Clone_byte_byte sA1 sL1 sC1 K h) : C.slices_Clone_byte_byte sA1 sL1 sC1 h K :=
  fn_to (cxOk _ _) Tryz.func58 (by kernel_rfl) slices_Clone_byte_byte.chk (by rw [slices_Clone_byte_byte.eq]; exact hx)
def boleref03_copied (bA1 : Option Addr) (bL1 : Nat) (bC1 : Nat) (K : Value → Heap → Prop) (h1 : Heap) : Prop :=
  ∃ new1 : List Value, List.length new1 = bL1 * 1 ∧ SlCells h1 bA1 new1 ∧ (∀ v ∈ new1, v.oneCell' = true) ∧
  AppendP ti5 5 none 0 0 bL1 new1 h1 fun sA1 sL1 sC1 h2 =>
  K (.slice sA1 sL1 sC1) h2
def boleref03_copied.lo : Nat → List Nat × List (Nat × Ty) := fun n => match n with | _ => ([], [])
def boleref03_copied.od : Nat → Od := fun n => match n with | _ => .nil
theorem boleref03_copied.eq (bA1 : Option Addr) (bL1 : Nat) (bC1 : Nat) (K : Value → Heap → Prop) (h : Heap) : fnX (cx boleref03_copied.lo boleref03_copied.od) Tryz.f59 (Tryz.f59.body.getD .skip) [.slice bA1 bL1 bC1] K h = boleref03_copied bA1 bL1 bC1 K h := by kernel_rfl
theorem boleref03_copied.chk : fnOk (cx boleref03_copied.lo boleref03_copied.od) Tryz.f59 (Tryz.f59.body.getD .skip) 1 = true := by kernel_rfl
theorem boleref03_copied.ok {bA1 : Option Addr} {bL1 : Nat} {bC1 : Nat} {K : Value → Heap → Prop} {h : Heap} (hx : boleref03_copied bA1 bL1 bC1 K h) : C.boleref03_copied bA1 bL1 bC1 h K :=
  fn_to (cxOk _ _) Tryz.func59 (by kernel_rfl) boleref03_copied.chk (by rw [boleref03_copied.eq]; exact hx)
def txn_Begin (d1 : Option Addr) (K : Value → Heap → Prop) (h1 : Heap) : Prop :=
  NewM h1 fun h2 =>
  New [.pointer d1, .map (some h1.size), .slice none 0 0, .bool false] 135 h2 fun h3 =>
  K (.pointer (some ⟨h2.size, 0, none⟩)) h3
def txn_Begin.lo : Nat → List Nat × List (Nat × Ty) := fun n => match n with | _ => ([], [])
def txn_Begin.od : Nat → Od := fun n => match n with | _ => .nil
theorem txn_Begin.eq (d1 : Option Addr) (K : Value → Heap → Prop) (h : Heap) : fnX (cx txn_Begin.lo txn_Begin.od) Tryz.f61 (Tryz.f61.body.getD .skip) [.pointer d1] K h = txn_Begin d1 K h := by kernel_rfl
theorem txn_Begin.chk : fnOk (cx txn_Begin.lo txn_Begin.od) Tryz.f61 (Tryz.f61.body.getD .skip) 1 = true := by kernel_rfl
theorem txn_Begin.ok {d1 : Option Addr} {K : Value → Heap → Prop} {h : Heap} (hx : txn_Begin d1 K h) : C.txn_Begin d1 h K :=
  fn_to (cxOk _ _) Tryz.func61 (by kernel_rfl) txn_Begin.chk (by rw [txn_Begin.eq]; exact hx)
def boleref06_Begin (d1 : Option Addr) (K : Value → Heap → Prop) (h1 : Heap) : Prop :=
  New [.pointer d1, .slice none 0 0, .bool false] 71 h1 fun h2 =>
  K (.pointer (some ⟨h1.size, 0, none⟩)) h2
def boleref06_Begin.lo : Nat → List Nat × List (Nat × Ty) := fun n => match n with | _ => ([], [])
def boleref06_Begin.od : Nat → Od := fun n => match n with | _ => .nil
theorem boleref06_Begin.eq (d1 : Option Addr) (K : Value → Heap → Prop) (h : Heap) : fnX (cx boleref06_Begin.lo boleref06_Begin.od) Tryz.f62 (Tryz.f62.body.getD .skip) [.pointer d1] K h = boleref06_Begin d1 K h := by kernel_rfl
theorem boleref06_Begin.chk : fnOk (cx boleref06_Begin.lo boleref06_Begin.od) Tryz.f62 (Tryz.f62.body.getD .skip) 1 = true := by kernel_rfl
theorem boleref06_Begin.ok {d1 : Option Addr} {K : Value → Heap → Prop} {h : Heap} (hx : boleref06_Begin d1 K h) : C.boleref06_Begin d1 h K :=
  fn_to (cxOk _ _) Tryz.func62 (by kernel_rfl) boleref06_Begin.chk (by rw [boleref06_Begin.eq]; exact hx)
def txn_Txn_Mark (t1 : Option Addr) (K : Value → Heap → Prop) (h1 : Heap) : Prop :=
  onSome t1 fun p1 =>
  ∃ (b1 : Bool), cellOf h1 (Addr.add p1 3) = some (.bool b1) ∧
  bif b1 then (
  K (.tuple #[.int .i64 0, .int .i64 61]) h1) else (
  onSome t1 fun p2 =>
  ∃ (sA1 : Option Addr) (sL1 : Nat) (sC1 : Nat), cellOf h1 (Addr.add p2 2) = some (.slice sA1 sL1 sC1) ∧
  K (.tuple #[.int .i64 (sL1 : Int), .int .i64 0]) h1)
def txn_Txn_Mark.lo : Nat → List Nat × List (Nat × Ty) := fun n => match n with | _ => ([], [])
def txn_Txn_Mark.od : Nat → Od := fun n => match n with | _ => .nil
theorem txn_Txn_Mark.eq (t1 : Option Addr) (K : Value → Heap → Prop) (h : Heap) : fnX (cx txn_Txn_Mark.lo txn_Txn_Mark.od) Tryz.f64 (Tryz.f64.body.getD .skip) [.pointer t1] K h = txn_Txn_Mark t1 K h := by kernel_rfl
theorem txn_Txn_Mark.chk : fnOk (cx txn_Txn_Mark.lo txn_Txn_Mark.od) Tryz.f64 (Tryz.f64.body.getD .skip) 1 = true := by kernel_rfl
theorem txn_Txn_Mark.ok {t1 : Option Addr} {K : Value → Heap → Prop} {h : Heap} (hx : txn_Txn_Mark t1 K h) : C.txn_Txn_Mark t1 h K :=
  fn_to (cxOk _ _) Tryz.func64 (by kernel_rfl) txn_Txn_Mark.chk (by rw [txn_Txn_Mark.eq]; exact hx)
def boleref06_Txn_Mark (t1 : Option Addr) (K : Value → Heap → Prop) (h1 : Heap) : Prop :=
  onSome t1 fun p1 =>
  ∃ (b1 : Bool), cellOf h1 (Addr.add p1 2) = some (.bool b1) ∧
  bif b1 then (
  K (.tuple #[.int .i64 0, .int .i64 61]) h1) else (
  onSome t1 fun p2 =>
  ∃ (sA1 : Option Addr) (sL1 : Nat) (sC1 : Nat), cellOf h1 (Addr.add p2 1) = some (.slice sA1 sL1 sC1) ∧
  K (.tuple #[.int .i64 (sL1 : Int), .int .i64 0]) h1)
def boleref06_Txn_Mark.lo : Nat → List Nat × List (Nat × Ty) := fun n => match n with | _ => ([], [])
def boleref06_Txn_Mark.od : Nat → Od := fun n => match n with | _ => .nil
theorem boleref06_Txn_Mark.eq (t1 : Option Addr) (K : Value → Heap → Prop) (h : Heap) : fnX (cx boleref06_Txn_Mark.lo boleref06_Txn_Mark.od) Tryz.f65 (Tryz.f65.body.getD .skip) [.pointer t1] K h = boleref06_Txn_Mark t1 K h := by kernel_rfl
theorem boleref06_Txn_Mark.chk : fnOk (cx boleref06_Txn_Mark.lo boleref06_Txn_Mark.od) Tryz.f65 (Tryz.f65.body.getD .skip) 1 = true := by kernel_rfl
theorem boleref06_Txn_Mark.ok {t1 : Option Addr} {K : Value → Heap → Prop} {h : Heap} (hx : boleref06_Txn_Mark t1 K h) : C.boleref06_Txn_Mark t1 h K :=
  fn_to (cxOk _ _) Tryz.func65 (by kernel_rfl) boleref06_Txn_Mark.chk (by rw [boleref06_Txn_Mark.eq]; exact hx)
def txn_Txn_Back.k1 (t1 : Option Addr) (mark1 : Int) (h1 : Heap) (K : Value → Heap → Prop) : Prop :=
  onSome t1 fun p3 =>
  ∃ (sA2 : Option Addr) (sL2 : Nat) (sC2 : Nat), cellOf h1 (Addr.add p3 2) = some (.slice sA2 sL2 sC2) ∧
  ∃ (I1 : Int → Heap → Prop) (M1 : Int → Heap → Nat), I1 (IntKind.wrap .i64 ((sL2 : Int) - 1)) h1 ∧
  ∀ (k1 : Int), ∀ h2 : Heap, I1 k1 h2 →
  bif (decide (k1 ≥ mark1)) then (
  onSome t1 fun p4 =>
  ∃ (sA3 : Option Addr) (sL3 : Nat) (sC3 : Nat), cellOf h2 (Addr.add p4 2) = some (.slice sA3 sL3 sC3) ∧
  (0 ≤ k1 ∧ k1 < (sL3 : Int)) ∧
  onSome sA3 fun p5 =>
  ∃ (v1 : Value), cellOf h2 (Addr.add p5 (Int.toNat k1)) = some (v1) ∧
  HCallsV Tryz.prog v1 [] h2 fun r1 h3 =>
  r1 = .tuple #[] ∧
  I1 (IntKind.wrap .i64 (k1 - 1)) h3 ∧ M1 (IntKind.wrap .i64 (k1 - 1)) h3 < M1 k1 h2) else (
  onSome t1 fun p6 =>
  ∃ (sA4 : Option Addr) (sL4 : Nat) (sC4 : Nat), cellOf h2 (Addr.add p6 2) = some (.slice sA4 sL4 sC4) ∧
  (0 ≤ mark1 ∧ mark1 ≤ (sC4 : Int)) ∧
  onSome t1 fun p7 =>
  Put (Addr.add p7 2) (.slice sA4 (Int.toNat mark1) sC4) h2 fun h4 =>
  K (.int .i64 0) h4)
def txn_Txn_Back (t1 : Option Addr) (mark1 : Int) (K : Value → Heap → Prop) (h1 : Heap) : Prop :=
  onSome t1 fun p1 =>
  ∃ (b1 : Bool), cellOf h1 (Addr.add p1 3) = some (.bool b1) ∧
  bif b1 then (
  K (.int .i64 61) h1) else (
  bif (decide (mark1 < 0)) then (
  K (.int .i64 62) h1) else (
  onSome t1 fun p2 =>
  ∃ (sA1 : Option Addr) (sL1 : Nat) (sC1 : Nat), cellOf h1 (Addr.add p2 2) = some (.slice sA1 sL1 sC1) ∧
  bif (decide (mark1 > (sL1 : Int))) then (
  K (.int .i64 62) h1) else (
  txn_Txn_Back.k1 t1 mark1 h1 K)))
def txn_Txn_Back.lo : Nat → List Nat × List (Nat × Ty) := fun n => match n with | 6 => ([0, 1], [(5, .int .i64)]) | _ => ([], [])
def txn_Txn_Back.od : Nat → Od := fun n => match n with | _ => .nil
theorem txn_Txn_Back.eq (t1 : Option Addr) (mark1 : Int) (K : Value → Heap → Prop) (h : Heap) : fnX (cx txn_Txn_Back.lo txn_Txn_Back.od) Tryz.f66 (Tryz.f66.body.getD .skip) [.pointer t1, .int .i64 mark1] K h = txn_Txn_Back t1 mark1 K h := by kernel_rfl
theorem txn_Txn_Back.chk : fnOk (cx txn_Txn_Back.lo txn_Txn_Back.od) Tryz.f66 (Tryz.f66.body.getD .skip) 2 = true := by kernel_rfl
theorem txn_Txn_Back.ok {t1 : Option Addr} {mark1 : Int} {K : Value → Heap → Prop} {h : Heap} (hx : txn_Txn_Back t1 mark1 K h) : C.txn_Txn_Back t1 mark1 h K :=
  fn_to (cxOk _ _) Tryz.func66 (by kernel_rfl) txn_Txn_Back.chk (by rw [txn_Txn_Back.eq]; exact hx)
def boleref06_Txn_Back.k1 (t1 : Option Addr) (mark1 : Int) (h1 : Heap) (K : Value → Heap → Prop) : Prop :=
  onSome t1 fun p3 =>
  ∃ (sA2 : Option Addr) (sL2 : Nat) (sC2 : Nat), cellOf h1 (Addr.add p3 1) = some (.slice sA2 sL2 sC2) ∧
  (0 ≤ mark1 ∧ mark1 ≤ (sC2 : Int)) ∧
  ∃ new1 : List Value, List.length new1 = (Int.toNat mark1) * 2 ∧ SlCells h1 sA2 new1 ∧ (∀ v ∈ new1, v.oneCell' = true) ∧
  AppendP ti190 190 none 0 0 (Int.toNat mark1) new1 h1 fun sA3 sL3 sC3 h2 =>
  onSome t1 fun p4 =>
  Put (Addr.add p4 1) (.slice sA3 sL3 sC3) h2 fun h3 =>
  K (.int .i64 0) h3
def boleref06_Txn_Back (t1 : Option Addr) (mark1 : Int) (K : Value → Heap → Prop) (h1 : Heap) : Prop :=
  onSome t1 fun p1 =>
  ∃ (b1 : Bool), cellOf h1 (Addr.add p1 2) = some (.bool b1) ∧
  bif b1 then (
  K (.int .i64 61) h1) else (
  bif (decide (mark1 < 0)) then (
  K (.int .i64 62) h1) else (
  onSome t1 fun p2 =>
  ∃ (sA1 : Option Addr) (sL1 : Nat) (sC1 : Nat), cellOf h1 (Addr.add p2 1) = some (.slice sA1 sL1 sC1) ∧
  bif (decide (mark1 > (sL1 : Int))) then (
  K (.int .i64 62) h1) else (
  boleref06_Txn_Back.k1 t1 mark1 h1 K)))
def boleref06_Txn_Back.lo : Nat → List Nat × List (Nat × Ty) := fun n => match n with | _ => ([], [])
def boleref06_Txn_Back.od : Nat → Od := fun n => match n with | _ => .nil
theorem boleref06_Txn_Back.eq (t1 : Option Addr) (mark1 : Int) (K : Value → Heap → Prop) (h : Heap) : fnX (cx boleref06_Txn_Back.lo boleref06_Txn_Back.od) Tryz.f67 (Tryz.f67.body.getD .skip) [.pointer t1, .int .i64 mark1] K h = boleref06_Txn_Back t1 mark1 K h := by kernel_rfl
theorem boleref06_Txn_Back.chk : fnOk (cx boleref06_Txn_Back.lo boleref06_Txn_Back.od) Tryz.f67 (Tryz.f67.body.getD .skip) 2 = true := by kernel_rfl
theorem boleref06_Txn_Back.ok {t1 : Option Addr} {mark1 : Int} {K : Value → Heap → Prop} {h : Heap} (hx : boleref06_Txn_Back t1 mark1 K h) : C.boleref06_Txn_Back t1 mark1 h K :=
  fn_to (cxOk _ _) Tryz.func67 (by kernel_rfl) boleref06_Txn_Back.chk (by rw [boleref06_Txn_Back.eq]; exact hx)
def txn_Txn_Commit (t1 : Option Addr) (K : Value → Heap → Prop) (h1 : Heap) : Prop :=
  onSome t1 fun p1 =>
  ∃ (b1 : Bool), cellOf h1 (Addr.add p1 3) = some (.bool b1) ∧
  bif b1 then (
  K (.int .i64 61) h1) else (
  onSome t1 fun p2 =>
  ∃ (m1 : Option Nat), cellOf h1 (Addr.add p2 1) = some (.map m1) ∧
  MapIn (.int .i64) m1 h1 fun mm1 =>
  bif ((List.length mm1 : Int) == 0) then (
  D.txn_Txn_end t1 h1 fun h2 =>
  K (.int .i64 0) h2) else (
  C.txn_Txn_Written t1 h1 fun r1 h3 =>
  ∃ (sA1 : Option Addr) (sL1 : Nat) (sC1 : Nat), r1 = .slice sA1 sL1 sC1 ∧
  ∃ (I1 : Option Addr → Nat → Nat → Int → Heap → Prop) (M1 : Option Addr → Nat → Nat → Int → Heap → Nat), I1 none 0 0 0 h3 ∧
  ∀ (lA1 : Option Addr) (lL1 : Nat) (lC1 : Nat) (n1 : Int), ∀ h4 : Heap, I1 lA1 lL1 lC1 n1 h4 →
  bif (decide (n1 < (sL1 : Int))) then (
  (0 ≤ n1 ∧ n1 < (sL1 : Int)) ∧
  onSome sA1 fun p3 =>
  ∃ (n2 : Int), cellOf h4 (Addr.add p3 (Int.toNat n1)) = some (.int .i64 n2) ∧
  onSome t1 fun p4 =>
  ∃ (m2 : Option Nat), cellOf h4 (Addr.add p4 1) = some (.map m2) ∧
  MapIn (.int .i64) m2 h4 fun mm2 =>
  ∃ (sA2 : Option Addr) (sL2 : Nat) (sC2 : Nat), Option.getD (mget mm2 (.i n2)) (zeroV ti37) = .slice sA2 sL2 sC2 ∧
  List.length ([.int .i64 n2, .slice sA2 sL2 sC2] : List Value) = 2 ∧
  New [.int .i64 n2, .slice sA2 sL2 sC2] 103 h4 fun h5 =>
  ∃ new1 : List Value, List.length new1 = 1 * 2 ∧ SlCells h5 (some ⟨h4.size, 0, none⟩) new1 ∧ (∀ v ∈ new1, v.oneCell' = true) ∧
  AppendP ti103 103 lA1 lL1 lC1 1 new1 h5 fun sA3 sL3 sC3 h6 =>
  I1 sA3 sL3 sC3 (IntKind.wrap .i64 (n1 + 1)) h6 ∧ M1 sA3 sL3 sC3 (IntKind.wrap .i64 (n1 + 1)) h6 < M1 lA1 lL1 lC1 n1 h4) else (
  onSome t1 fun p5 =>
  ∃ (q1 : Option Addr), cellOf h4 (Addr.add p5 0) = some (.pointer q1) ∧
  C.wal_Commit q1 lA1 lL1 lC1 h4 fun r2 h7 =>
  ∃ (n3 : Int), r2 = .int .i64 n3 ∧
  D.txn_Txn_end t1 h7 fun h8 =>
  K (.int .i64 n3) h8)))
def txn_Txn_Commit.lo : Nat → List Nat × List (Nat × Ty) := fun n => match n with | 8 => ([0, 18, 19], [(3, .slice), (20, .int .i64)]) | _ => ([], [])
def txn_Txn_Commit.od : Nat → Od := fun n => match n with | _ => .nil
theorem txn_Txn_Commit.eq (t1 : Option Addr) (K : Value → Heap → Prop) (h : Heap) : fnX (cx txn_Txn_Commit.lo txn_Txn_Commit.od) Tryz.f68 (Tryz.f68.body.getD .skip) [.pointer t1] K h = txn_Txn_Commit t1 K h := by kernel_rfl
theorem txn_Txn_Commit.chk : fnOk (cx txn_Txn_Commit.lo txn_Txn_Commit.od) Tryz.f68 (Tryz.f68.body.getD .skip) 1 = true := by kernel_rfl
theorem txn_Txn_Commit.ok {t1 : Option Addr} {K : Value → Heap → Prop} {h : Heap} (hx : txn_Txn_Commit t1 K h) : C.txn_Txn_Commit t1 h K :=
  fn_to (cxOk _ _) Tryz.func68 (by kernel_rfl) txn_Txn_Commit.chk (by rw [txn_Txn_Commit.eq]; exact hx)
def boleref06_Txn_Commit (t1 : Option Addr) (K : Value → Heap → Prop) (h1 : Heap) : Prop :=
  onSome t1 fun p1 =>
  ∃ (b1 : Bool), cellOf h1 (Addr.add p1 2) = some (.bool b1) ∧
  bif b1 then (
  K (.int .i64 61) h1) else (
  C.boleref06_Txn_Written t1 h1 fun r1 h2 =>
  ∃ (sA1 : Option Addr) (sL1 : Nat) (sC1 : Nat), r1 = .slice sA1 sL1 sC1 ∧
  ∃ (I1 : Option Addr → Nat → Nat → Int → Heap → Prop) (M1 : Option Addr → Nat → Nat → Int → Heap → Nat), I1 none 0 0 0 h2 ∧
  ∀ (lA1 : Option Addr) (lL1 : Nat) (lC1 : Nat) (n1 : Int), ∀ h3 : Heap, I1 lA1 lL1 lC1 n1 h3 →
  bif (decide (n1 < (sL1 : Int))) then (
  (0 ≤ n1 ∧ n1 < (sL1 : Int)) ∧
  onSome sA1 fun p2 =>
  ∃ (n2 : Int), cellOf h3 (Addr.add p2 (Int.toNat n1)) = some (.int .i64 n2) ∧
  onSome t1 fun p3 =>
  ∃ (sA2 : Option Addr) (sL2 : Nat) (sC2 : Nat), cellOf h3 (Addr.add p3 1) = some (.slice sA2 sL2 sC2) ∧
  C.boleref06_Txn_put t1 n2 h3 fun r2 h4 =>
  ∃ (n3 : Int), r2 = .int .i64 n3 ∧
  (cellOf h4 (Addr.add p3 1) = some (.slice sA2 sL2 sC2)) ∧
  (0 ≤ n3 ∧ n3 < (sL2 : Int)) ∧
  onSome sA2 fun p4 =>
  ∃ (s1 : ByteArray), cellOf h4 (Addr.add (Addr.add p4 ((Int.toNat n3) * 2)) 1) = some (.string s1) ∧
  NewS s1 5 h4 fun cap1 h5 =>
  List.length ([.int .i64 n2, .slice (some ⟨h4.size, 0, none⟩) s1.size cap1] : List Value) = 2 ∧
  New [.int .i64 n2, .slice (some ⟨h4.size, 0, none⟩) s1.size cap1] 103 h5 fun h6 =>
  ∃ new1 : List Value, List.length new1 = 1 * 2 ∧ SlCells h6 (some ⟨h5.size, 0, none⟩) new1 ∧ (∀ v ∈ new1, v.oneCell' = true) ∧
  AppendP ti103 103 lA1 lL1 lC1 1 new1 h6 fun sA3 sL3 sC3 h7 =>
  I1 sA3 sL3 sC3 (IntKind.wrap .i64 (n1 + 1)) h7 ∧ M1 sA3 sL3 sC3 (IntKind.wrap .i64 (n1 + 1)) h7 < M1 lA1 lL1 lC1 n1 h3) else (
  onSome t1 fun p5 =>
  Put (Addr.add p5 2) (.bool true) h3 fun h8 =>
  onSome t1 fun p6 =>
  ∃ (q1 : Option Addr), cellOf h8 (Addr.add p6 0) = some (.pointer q1) ∧
  C.boleref06_Commit q1 lA1 lL1 lC1 h8 fun r3 h9 =>
  ∃ (n4 : Int), r3 = .int .i64 n4 ∧
  K (.int .i64 n4) h9))
def boleref06_Txn_Commit.lo : Nat → List Nat × List (Nat × Ty) := fun n => match n with | 5 => ([0, 11, 12], [(3, .slice), (13, .int .i64)]) | _ => ([], [])
def boleref06_Txn_Commit.od : Nat → Od := fun n => match n with | 7 => (.op 0 [] (.op 1 [] (.op 2 [] (.op 3 [] (.op 4 [] (.op 5 [] (.op 6 [] (.op 7 [] (.op 8 [5] (.op 9 [] (.op 10 [] (.op 11 [] (.op 12 [] (.op 13 [] (.op 14 [] (.op 15 [] (.op 16 [] .nil))))))))))))))))) | _ => .nil
theorem boleref06_Txn_Commit.eq (t1 : Option Addr) (K : Value → Heap → Prop) (h : Heap) : fnX (cx boleref06_Txn_Commit.lo boleref06_Txn_Commit.od) Tryz.f69 (Tryz.f69.body.getD .skip) [.pointer t1] K h = boleref06_Txn_Commit t1 K h := by kernel_rfl
theorem boleref06_Txn_Commit.chk : fnOk (cx boleref06_Txn_Commit.lo boleref06_Txn_Commit.od) Tryz.f69 (Tryz.f69.body.getD .skip) 1 = true := by kernel_rfl
theorem boleref06_Txn_Commit.ok {t1 : Option Addr} {K : Value → Heap → Prop} {h : Heap} (hx : boleref06_Txn_Commit t1 K h) : C.boleref06_Txn_Commit t1 h K :=
  fn_to (cxOk _ _) Tryz.func69 (by kernel_rfl) boleref06_Txn_Commit.chk (by rw [boleref06_Txn_Commit.eq]; exact hx)
def txn_Txn_Abort (t1 : Option Addr) (K : Value → Heap → Prop) (h1 : Heap) : Prop :=
  C.txn_Txn_end t1 h1 fun r1 h2 =>
  r1 = .tuple #[] ∧
  K (.tuple #[]) h2
def txn_Txn_Abort.lo : Nat → List Nat × List (Nat × Ty) := fun n => match n with | _ => ([], [])
def txn_Txn_Abort.od : Nat → Od := fun n => match n with | _ => .nil
theorem txn_Txn_Abort.eq (t1 : Option Addr) (K : Value → Heap → Prop) (h : Heap) : fnX (cx txn_Txn_Abort.lo txn_Txn_Abort.od) Tryz.f70 (Tryz.f70.body.getD .skip) [.pointer t1] K h = txn_Txn_Abort t1 K h := by kernel_rfl
theorem txn_Txn_Abort.chk : fnOk (cx txn_Txn_Abort.lo txn_Txn_Abort.od) Tryz.f70 (Tryz.f70.body.getD .skip) 1 = true := by kernel_rfl
theorem txn_Txn_Abort.ok {t1 : Option Addr} {K : Value → Heap → Prop} {h : Heap} (hx : txn_Txn_Abort t1 K h) : C.txn_Txn_Abort t1 h K :=
  fn_to (cxOk _ _) Tryz.func70 (by kernel_rfl) txn_Txn_Abort.chk (by rw [txn_Txn_Abort.eq]; exact hx)
def boleref06_Txn_Abort (t1 : Option Addr) (K : Value → Heap → Prop) (h1 : Heap) : Prop :=
  onSome t1 fun p1 =>
  Put (Addr.add p1 2) (.bool true) h1 fun h2 =>
  K (.tuple #[]) h2
def boleref06_Txn_Abort.lo : Nat → List Nat × List (Nat × Ty) := fun n => match n with | _ => ([], [])
def boleref06_Txn_Abort.od : Nat → Od := fun n => match n with | _ => .nil
theorem boleref06_Txn_Abort.eq (t1 : Option Addr) (K : Value → Heap → Prop) (h : Heap) : fnX (cx boleref06_Txn_Abort.lo boleref06_Txn_Abort.od) Tryz.f71 (Tryz.f71.body.getD .skip) [.pointer t1] K h = boleref06_Txn_Abort t1 K h := by kernel_rfl
theorem boleref06_Txn_Abort.chk : fnOk (cx boleref06_Txn_Abort.lo boleref06_Txn_Abort.od) Tryz.f71 (Tryz.f71.body.getD .skip) 1 = true := by kernel_rfl
theorem boleref06_Txn_Abort.ok {t1 : Option Addr} {K : Value → Heap → Prop} {h : Heap} (hx : boleref06_Txn_Abort t1 K h) : C.boleref06_Txn_Abort t1 h K :=
  fn_to (cxOk _ _) Tryz.func71 (by kernel_rfl) boleref06_Txn_Abort.chk (by rw [boleref06_Txn_Abort.eq]; exact hx)
def txn_Txn_Read.k1 (t1 : Option Addr) (i1 : Int) (h3 : Heap) (K : Value → Heap → Prop) : Prop :=
  onSome t1 fun p3 =>
  ∃ (m1 : Option Nat), cellOf h3 (Addr.add p3 1) = some (.map m1) ∧
  MapIn (.int .i64) m1 h3 fun mm1 =>
  ∃ (sA1 : Option Addr) (sL1 : Nat) (sC1 : Nat), Option.getD (mget mm1 (.i i1)) (zeroV ti37) = .slice sA1 sL1 sC1 ∧
  bif (Option.isSome (mget mm1 (.i i1))) then (
  C.slices_Clone_byte_byte sA1 sL1 sC1 h3 fun r2 h4 =>
  ∃ (sA2 : Option Addr) (sL2 : Nat) (sC2 : Nat), r2 = .slice sA2 sL2 sC2 ∧
  K (.tuple #[.slice sA2 sL2 sC2, .int .i64 0]) h4) else (
  onSome t1 fun p4 =>
  ∃ (q2 : Option Addr), cellOf h3 (Addr.add p4 0) = some (.pointer q2) ∧
  C.adisk_Disk_Read q2 i1 h3 fun r3 h5 =>
  ∃ (sA3 : Option Addr) (sL3 : Nat) (sC3 : Nat) (n2 : Int), r3 = .tuple #[.slice sA3 sL3 sC3, .int .i64 n2] ∧
  K (.tuple #[.slice sA3 sL3 sC3, .int .i64 n2]) h5)
def txn_Txn_Read (t1 : Option Addr) (i1 : Int) (K : Value → Heap → Prop) (h1 : Heap) : Prop :=
  onSome t1 fun p1 =>
  ∃ (b1 : Bool), cellOf h1 (Addr.add p1 3) = some (.bool b1) ∧
  bif b1 then (
  K (.tuple #[.slice none 0 0, .int .i64 61]) h1) else (
  bif (decide (i1 < 0)) then (
  K (.tuple #[.slice none 0 0, .int .i64 31]) h1) else (
  onSome t1 fun p2 =>
  ∃ (q1 : Option Addr), cellOf h1 (Addr.add p2 0) = some (.pointer q1) ∧
  C.adisk_Disk_Blocks q1 h1 fun r1 h2 =>
  ∃ (n1 : Int), r1 = .int .i64 n1 ∧
  bif (decide (i1 ≥ n1)) then (
  K (.tuple #[.slice none 0 0, .int .i64 31]) h2) else (
  txn_Txn_Read.k1 t1 i1 h2 K)))
def txn_Txn_Read.lo : Nat → List Nat × List (Nat × Ty) := fun n => match n with | _ => ([], [])
def txn_Txn_Read.od : Nat → Od := fun n => match n with | _ => .nil
theorem txn_Txn_Read.eq (t1 : Option Addr) (i1 : Int) (K : Value → Heap → Prop) (h : Heap) : fnX (cx txn_Txn_Read.lo txn_Txn_Read.od) Tryz.f73 (Tryz.f73.body.getD .skip) [.pointer t1, .int .i64 i1] K h = txn_Txn_Read t1 i1 K h := by kernel_rfl
theorem txn_Txn_Read.chk : fnOk (cx txn_Txn_Read.lo txn_Txn_Read.od) Tryz.f73 (Tryz.f73.body.getD .skip) 2 = true := by kernel_rfl
theorem txn_Txn_Read.ok {t1 : Option Addr} {i1 : Int} {K : Value → Heap → Prop} {h : Heap} (hx : txn_Txn_Read t1 i1 K h) : C.txn_Txn_Read t1 i1 h K :=
  fn_to (cxOk _ _) Tryz.func73 (by kernel_rfl) txn_Txn_Read.chk (by rw [txn_Txn_Read.eq]; exact hx)
def boleref06_Txn_Read.k1 (t1 : Option Addr) (i1 : Int) (h3 : Heap) (K : Value → Heap → Prop) : Prop :=
  C.boleref06_Txn_put t1 i1 h3 fun r2 h4 =>
  ∃ (n2 : Int), r2 = .int .i64 n2 ∧
  bif (decide (n2 ≥ 0)) then (
  onSome t1 fun p3 =>
  ∃ (sA1 : Option Addr) (sL1 : Nat) (sC1 : Nat), cellOf h4 (Addr.add p3 1) = some (.slice sA1 sL1 sC1) ∧
  (0 ≤ n2 ∧ n2 < (sL1 : Int)) ∧
  onSome sA1 fun p4 =>
  ∃ (s1 : ByteArray), cellOf h4 (Addr.add (Addr.add p4 ((Int.toNat n2) * 2)) 1) = some (.string s1) ∧
  NewS s1 5 h4 fun cap1 h5 =>
  K (.tuple #[.slice (some ⟨h4.size, 0, none⟩) s1.size cap1, .int .i64 0]) h5) else (
  onSome t1 fun p5 =>
  ∃ (q2 : Option Addr), cellOf h4 (Addr.add p5 0) = some (.pointer q2) ∧
  C.boleref03_Disk_Read q2 i1 h4 fun r3 h6 =>
  ∃ (sA2 : Option Addr) (sL2 : Nat) (sC2 : Nat) (n3 : Int), r3 = .tuple #[.slice sA2 sL2 sC2, .int .i64 n3] ∧
  K (.tuple #[.slice sA2 sL2 sC2, .int .i64 n3]) h6)
def boleref06_Txn_Read (t1 : Option Addr) (i1 : Int) (K : Value → Heap → Prop) (h1 : Heap) : Prop :=
  onSome t1 fun p1 =>
  ∃ (b1 : Bool), cellOf h1 (Addr.add p1 2) = some (.bool b1) ∧
  bif b1 then (
  K (.tuple #[.slice none 0 0, .int .i64 61]) h1) else (
  bif (decide (i1 < 0)) then (
  K (.tuple #[.slice none 0 0, .int .i64 31]) h1) else (
  onSome t1 fun p2 =>
  ∃ (q1 : Option Addr), cellOf h1 (Addr.add p2 0) = some (.pointer q1) ∧
  C.boleref03_Disk_Blocks q1 h1 fun r1 h2 =>
  ∃ (n1 : Int), r1 = .int .i64 n1 ∧
  bif (decide (i1 ≥ n1)) then (
  K (.tuple #[.slice none 0 0, .int .i64 31]) h2) else (
  boleref06_Txn_Read.k1 t1 i1 h2 K)))
def boleref06_Txn_Read.lo : Nat → List Nat × List (Nat × Ty) := fun n => match n with | _ => ([], [])
def boleref06_Txn_Read.od : Nat → Od := fun n => match n with | _ => .nil
theorem boleref06_Txn_Read.eq (t1 : Option Addr) (i1 : Int) (K : Value → Heap → Prop) (h : Heap) : fnX (cx boleref06_Txn_Read.lo boleref06_Txn_Read.od) Tryz.f74 (Tryz.f74.body.getD .skip) [.pointer t1, .int .i64 i1] K h = boleref06_Txn_Read t1 i1 K h := by kernel_rfl
theorem boleref06_Txn_Read.chk : fnOk (cx boleref06_Txn_Read.lo boleref06_Txn_Read.od) Tryz.f74 (Tryz.f74.body.getD .skip) 2 = true := by kernel_rfl
theorem boleref06_Txn_Read.ok {t1 : Option Addr} {i1 : Int} {K : Value → Heap → Prop} {h : Heap} (hx : boleref06_Txn_Read t1 i1 K h) : C.boleref06_Txn_Read t1 i1 h K :=
  fn_to (cxOk _ _) Tryz.func74 (by kernel_rfl) boleref06_Txn_Read.chk (by rw [boleref06_Txn_Read.eq]; exact hx)
def txn_Txn_Written (t1 : Option Addr) (K : Value → Heap → Prop) (h1 : Heap) : Prop :=
  onSome t1 fun p1 =>
  ∃ (b1 : Bool), cellOf h1 (Addr.add p1 3) = some (.bool b1) ∧
  bif b1 then (
  K (.slice none 0 0) h1) else (
  onSome t1 fun p2 =>
  ∃ (m1 : Option Nat), cellOf h1 (Addr.add p2 1) = some (.map m1) ∧
  C.maps_Keys_map_int_byte_int_byte m1 h1 fun r1 h2 =>
  ∃ (v1 : Value), r1 = v1 ∧
  C.slices_Sorted_int v1 h2 fun r2 h3 =>
  ∃ (sA1 : Option Addr) (sL1 : Nat) (sC1 : Nat), r2 = .slice sA1 sL1 sC1 ∧
  K (.slice sA1 sL1 sC1) h3)
def txn_Txn_Written.lo : Nat → List Nat × List (Nat × Ty) := fun n => match n with | _ => ([], [])
def txn_Txn_Written.od : Nat → Od := fun n => match n with | _ => .nil
theorem txn_Txn_Written.eq (t1 : Option Addr) (K : Value → Heap → Prop) (h : Heap) : fnX (cx txn_Txn_Written.lo txn_Txn_Written.od) Tryz.f76 (Tryz.f76.body.getD .skip) [.pointer t1] K h = txn_Txn_Written t1 K h := by kernel_rfl
theorem txn_Txn_Written.chk : fnOk (cx txn_Txn_Written.lo txn_Txn_Written.od) Tryz.f76 (Tryz.f76.body.getD .skip) 1 = true := by kernel_rfl
theorem txn_Txn_Written.ok {t1 : Option Addr} {K : Value → Heap → Prop} {h : Heap} (hx : txn_Txn_Written t1 K h) : C.txn_Txn_Written t1 h K :=
  fn_to (cxOk _ _) Tryz.func76 (by kernel_rfl) txn_Txn_Written.chk (by rw [txn_Txn_Written.eq]; exact hx)
end Go.Proofs.YtjdcbblgaoogmaaGreatDoor.W
namespace Go.Proofs.YtjdcbblgaoogmaaGreatDoor.W
open Go Go.Proofs Go.Proofs.YtjdcbblgaoogmaaGreatDoor.Wx
def boleref06_Txn_Written.k1 (t1 : Option Addr) (lA1 : Option Addr) (lL1 : Nat) (lC1 : Nat) (i1 : Int) (h2 : Heap) (I1 : Option Addr → Nat → Nat → Int → Heap → Prop) (M1 : Option Addr → Nat → Nat → Int → Heap → Nat) (h4 : Heap) (K : Value → Heap → Prop) : Prop :=
  C.boleref06_Txn_put t1 i1 h4 fun r2 h5 =>
  ∃ (n2 : Int), r2 = .int .i64 n2 ∧
  bif (decide (n2 ≥ 0)) then (
  New [.int .i64 i1] 3 h5 fun h6 =>
  ∃ new1 : List Value, List.length new1 = 1 * 1 ∧ SlCells h6 (some ⟨h5.size, 0, none⟩) new1 ∧ (∀ v ∈ new1, v.oneCell' = true) ∧
  AppendP ti3 3 lA1 lL1 lC1 1 new1 h6 fun sA2 sL2 sC2 h7 =>
  I1 sA2 sL2 sC2 (IntKind.wrap .i64 (i1 + 1)) h7 ∧ M1 sA2 sL2 sC2 (IntKind.wrap .i64 (i1 + 1)) h7 < M1 lA1 lL1 lC1 i1 h2) else (
  I1 lA1 lL1 lC1 (IntKind.wrap .i64 (i1 + 1)) h5 ∧ M1 lA1 lL1 lC1 (IntKind.wrap .i64 (i1 + 1)) h5 < M1 lA1 lL1 lC1 i1 h2)
def boleref06_Txn_Written (t1 : Option Addr) (K : Value → Heap → Prop) (h1 : Heap) : Prop :=
  ∃ (I1 : Option Addr → Nat → Nat → Int → Heap → Prop) (M1 : Option Addr → Nat → Nat → Int → Heap → Nat), I1 none 0 0 98 h1 ∧
  ∀ (lA1 : Option Addr) (lL1 : Nat) (lC1 : Nat) (i1 : Int), ∀ h2 : Heap, I1 lA1 lL1 lC1 i1 h2 →
  onSome t1 fun p1 =>
  ∃ (q1 : Option Addr), cellOf h2 (Addr.add p1 0) = some (.pointer q1) ∧
  C.boleref03_Disk_Blocks q1 h2 fun r1 h3 =>
  ∃ (n1 : Int), r1 = .int .i64 n1 ∧
  bif (decide (i1 < n1)) then (
  onSome t1 fun p2 =>
  ∃ (b1 : Bool), cellOf h3 (Addr.add p2 2) = some (.bool b1) ∧
  bif (!b1) then (
  onSome t1 fun p3 =>
  ∃ (sA1 : Option Addr) (sL1 : Nat) (sC1 : Nat), cellOf h3 (Addr.add p3 1) = some (.slice sA1 sL1 sC1) ∧
  bif (decide ((sL1 : Int) > 0)) then (
  boleref06_Txn_Written.k1 t1 lA1 lL1 lC1 i1 h2 I1 M1 h3 K) else (
  K (.slice lA1 lL1 lC1) h3)) else (
  K (.slice lA1 lL1 lC1) h3)) else (
  K (.slice lA1 lL1 lC1) h3)
def boleref06_Txn_Written.lo : Nat → List Nat × List (Nat × Ty) := fun n => match n with | 3 => ([0], [(3, .slice), (4, .int .i64)]) | _ => ([], [])
def boleref06_Txn_Written.od : Nat → Od := fun n => match n with | _ => .nil
theorem boleref06_Txn_Written.eq (t1 : Option Addr) (K : Value → Heap → Prop) (h : Heap) : fnX (cx boleref06_Txn_Written.lo boleref06_Txn_Written.od) Tryz.f77 (Tryz.f77.body.getD .skip) [.pointer t1] K h = boleref06_Txn_Written t1 K h := by kernel_rfl
theorem boleref06_Txn_Written.chk : fnOk (cx boleref06_Txn_Written.lo boleref06_Txn_Written.od) Tryz.f77 (Tryz.f77.body.getD .skip) 1 = true := by kernel_rfl
theorem boleref06_Txn_Written.ok {t1 : Option Addr} {K : Value → Heap → Prop} {h : Heap} (hx : boleref06_Txn_Written t1 K h) : C.boleref06_Txn_Written t1 h K :=
  fn_to (cxOk _ _) Tryz.func77 (by kernel_rfl) boleref06_Txn_Written.chk (by rw [boleref06_Txn_Written.eq]; exact hx)
def bolelaw09_mod (v1 : Int) (n1 : Int) (K : Value → Heap → Prop) (h1 : Heap) : Prop :=
  if n1 = 0 then False else
  bif (decide ((Int.tmod v1 n1) < 0)) then (
  K (.int .i64 (IntKind.wrap .i64 ((Int.tmod v1 n1) + n1))) h1) else (
  K (.int .i64 (Int.tmod v1 n1)) h1)
def bolelaw09_mod.lo : Nat → List Nat × List (Nat × Ty) := fun n => match n with | _ => ([], [])
def bolelaw09_mod.od : Nat → Od := fun n => match n with | _ => .nil
theorem bolelaw09_mod.eq (v1 : Int) (n1 : Int) (K : Value → Heap → Prop) (h : Heap) : fnX (cx bolelaw09_mod.lo bolelaw09_mod.od) Tryz.f81 (Tryz.f81.body.getD .skip) [.int .i64 v1, .int .i64 n1] K h = bolelaw09_mod v1 n1 K h := by kernel_rfl
theorem bolelaw09_mod.chk : fnOk (cx bolelaw09_mod.lo bolelaw09_mod.od) Tryz.f81 (Tryz.f81.body.getD .skip) 2 = true := by kernel_rfl
theorem bolelaw09_mod.ok {v1 : Int} {n1 : Int} {K : Value → Heap → Prop} {h : Heap} (hx : bolelaw09_mod v1 n1 K h) : C.bolelaw09_mod v1 n1 h K :=
  fn_to (cxOk _ _) Tryz.func81 (by kernel_rfl) bolelaw09_mod.chk (by rw [bolelaw09_mod.eq]; exact hx)
def space_Take (t1 : Option Addr) (g1 : List Value) (K : Value → Heap → Prop) (h1 : Heap) : Prop :=
  New [.pointer t1] 57 h1 fun h2 =>
  New g1 80 h2 fun h3 =>
  New z26 26 h3 fun h4 =>
  New z3 3 h4 fun h5 =>
  Put ⟨h4.size, 0, none⟩ (.int .i64 0) h5 fun h6 =>
  ∃ (q1 : Option Addr), cellOf h6 ⟨h1.size, 0, none⟩ = some (.pointer q1) ∧
  ∃ cs1 : List Value, List.length cs1 = 5 ∧ Cells h6 ⟨h2.size, 0, none⟩ cs1 ∧
  C.space_each q1 cs1 (Value.func (.func 145) #[] ⟨[.pointer (some ⟨h2.size, 0, none⟩), .pointer (some ⟨h4.size, 0, none⟩)]⟩) h6 fun r1 h7 =>
  ∃ (n1 : Int), r1 = .int .i64 n1 ∧
  Put ⟨h3.size, 0, none⟩ (.int .i64 n1) h7 fun h8 =>
  ∃ (n2 : Int), cellOf h8 ⟨h3.size, 0, none⟩ = some (.int .i64 n2) ∧
  bif (n2 != 0) then (
  ∃ (n3 : Int), cellOf h8 ⟨h3.size, 0, none⟩ = some (.int .i64 n3) ∧
  Put ⟨h3.size, 0, none⟩ (.int .i64 n3) h8 fun h9 =>
  ∃ (res1 : Int), cellOf h9 ⟨h3.size, 0, none⟩ = some (.int .i64 res1) ∧
  K (.tuple #[.int .i64 0, .int .i64 res1]) h9) else (
  ∃ (n4 : Int), cellOf h8 ⟨h4.size, 0, none⟩ = some (.int .i64 n4) ∧
  bif (n4 == 0) then (
  Put ⟨h3.size, 0, none⟩ (.int .i64 90) h8 fun h10 =>
  ∃ (res2 : Int), cellOf h10 ⟨h3.size, 0, none⟩ = some (.int .i64 res2) ∧
  K (.tuple #[.int .i64 0, .int .i64 res2]) h10) else (
  ∃ (q2 : Option Addr), cellOf h8 ⟨h1.size, 0, none⟩ = some (.pointer q2) ∧
  C.txn_Txn_Mark q2 h8 fun r2 h11 =>
  ∃ (n5 : Int) (n6 : Int), r2 = .tuple #[.int .i64 n5, .int .i64 n6] ∧
  New z3 3 h11 fun h12 =>
  Put ⟨h11.size, 0, none⟩ (.int .i64 n5) h12 fun h13 =>
  Put ⟨h3.size, 0, none⟩ (.int .i64 n6) h13 fun h14 =>
  ∃ (n7 : Int), cellOf h14 ⟨h3.size, 0, none⟩ = some (.int .i64 n7) ∧
  bif (n7 != 0) then (
  ∃ (n8 : Int), cellOf h14 ⟨h3.size, 0, none⟩ = some (.int .i64 n8) ∧
  Put ⟨h3.size, 0, none⟩ (.int .i64 n8) h14 fun h15 =>
  ∃ (res3 : Int), cellOf h15 ⟨h3.size, 0, none⟩ = some (.int .i64 res3) ∧
  K (.tuple #[.int .i64 0, .int .i64 res3]) h15) else (
  ∃ (q3 : Option Addr), cellOf h14 ⟨h1.size, 0, none⟩ = some (.pointer q3) ∧
  ∃ cs2 : List Value, List.length cs2 = 5 ∧ Cells h14 ⟨h2.size, 0, none⟩ cs2 ∧
  ∃ (n9 : Int), cellOf h14 ⟨h4.size, 0, none⟩ = some (.int .i64 n9) ∧
  C.space_set q3 cs2 n9 true h14 fun r3 h16 =>
  ∃ (n10 : Int), r3 = .int .i64 n10 ∧
  Put ⟨h3.size, 0, none⟩ (.int .i64 n10) h16 fun h17 =>
  ∃ (n11 : Int), cellOf h17 ⟨h3.size, 0, none⟩ = some (.int .i64 n11) ∧
  bif (n11 != 0) then (
  ∃ (n12 : Int), cellOf h17 ⟨h3.size, 0, none⟩ = some (.int .i64 n12) ∧
  Put ⟨h3.size, 0, none⟩ (.int .i64 n12) h17 fun h18 =>
  D.space_Take_c2 (some ⟨h1.size, 0, none⟩) (some ⟨h11.size, 0, none⟩) (some ⟨h3.size, 0, none⟩) h18 fun h19 =>
  ∃ (res4 : Int), cellOf h19 ⟨h3.size, 0, none⟩ = some (.int .i64 res4) ∧
  K (.tuple #[.int .i64 0, .int .i64 res4]) h19) else (
  ∃ (q4 : Option Addr), cellOf h17 ⟨h1.size, 0, none⟩ = some (.pointer q4) ∧
  ∃ (n13 : Int), cellOf h17 ⟨h4.size, 0, none⟩ = some (.int .i64 n13) ∧
  (0 ≤ (512 : Int) ∧ (512 : Int) ≤ 512 ∧ (1 : Int) * 512 ≤ 281474976710656 ∧ (512 : Int) ≤ 281474976710656) ∧
  New (repCells z5 (Int.toNat 512)) 5 h17 fun h20 =>
  (cellOf h20 ⟨h1.size, 0, none⟩ = some (.pointer q4)) ∧
  (cellOf h20 ⟨h4.size, 0, none⟩ = some (.int .i64 n13)) ∧
  C.txn_Txn_Write q4 n13 (some ⟨h17.size, 0, none⟩) (Int.toNat 512) (Int.toNat 512) h20 fun r4 h21 =>
  ∃ (n14 : Int), r4 = .int .i64 n14 ∧
  Put ⟨h3.size, 0, none⟩ (.int .i64 n14) h21 fun h22 =>
  ∃ (n15 : Int), cellOf h22 ⟨h3.size, 0, none⟩ = some (.int .i64 n15) ∧
  bif (n15 != 0) then (
  ∃ (n16 : Int), cellOf h22 ⟨h3.size, 0, none⟩ = some (.int .i64 n16) ∧
  Put ⟨h3.size, 0, none⟩ (.int .i64 n16) h22 fun h23 =>
  D.space_Take_c2 (some ⟨h1.size, 0, none⟩) (some ⟨h11.size, 0, none⟩) (some ⟨h3.size, 0, none⟩) h23 fun h24 =>
  ∃ (res5 : Int), cellOf h24 ⟨h3.size, 0, none⟩ = some (.int .i64 res5) ∧
  K (.tuple #[.int .i64 0, .int .i64 res5]) h24) else (
  ∃ (n17 : Int), cellOf h22 ⟨h4.size, 0, none⟩ = some (.int .i64 n17) ∧
  Put ⟨h3.size, 0, none⟩ (.int .i64 0) h22 fun h25 =>
  D.space_Take_c2 (some ⟨h1.size, 0, none⟩) (some ⟨h11.size, 0, none⟩) (some ⟨h3.size, 0, none⟩) h25 fun h26 =>
  ∃ (res6 : Int), cellOf h26 ⟨h3.size, 0, none⟩ = some (.int .i64 res6) ∧
  K (.tuple #[.int .i64 n17, .int .i64 res6]) h26)))))
def space_Take.lo : Nat → List Nat × List (Nat × Ty) := fun n => match n with | _ => ([], [])
def space_Take.od : Nat → Od := fun n => match n with | 4 => (.op 0 [] (.op 1 [] (.op 2 [] .nil))) | 9 => (.op 0 [] (.op 1 [] (.op 2 [] .nil))) | 13 => (.op 0 [] (.op 1 [] (.op 2 [] .nil))) | 14 => (.op 0 [] (.op 1 [] (.op 2 [0, 1] (.op 3 [] (.op 4 [] .nil))))) | 16 => (.op 0 [] (.op 1 [] (.op 2 [] .nil))) | _ => .nil
theorem space_Take.eq (t1 : Option Addr) (g1 : List Value) (K : Value → Heap → Prop) (h : Heap) : fnX (cx space_Take.lo space_Take.od) Tryz.f82 (Tryz.f82.body.getD .skip) [.pointer t1, .agg ⟨g1⟩] K h = space_Take t1 g1 K h := by kernel_rfl
theorem space_Take.chk : fnOk (cx space_Take.lo space_Take.od) Tryz.f82 (Tryz.f82.body.getD .skip) 2 = true := by kernel_rfl
theorem space_Take.ok {t1 : Option Addr} {g1 : List Value} {K : Value → Heap → Prop} {h : Heap} (hx : space_Take t1 g1 K h) : C.space_Take t1 g1 h K :=
  fn_to (cxOk _ _) Tryz.func82 (by kernel_rfl) space_Take.chk (by rw [space_Take.eq]; exact hx)
def boleref09_Take.k2 (t1 : Option Addr) (i1 : Int) (n9 : Int) (e1 : Int) (h12 : Heap) (K : Value → Heap → Prop) : Prop :=
  bif (e1 != 0) then (
  C.boleref06_Txn_Back t1 n9 h12 fun r7 h13 =>
  ∃ (n13 : Int), r7 = .int .i64 n13 ∧
  K (.tuple #[.int .i64 0, .int .i64 e1]) h13) else (
  K (.tuple #[.int .i64 i1, .int .i64 0]) h12)
def boleref09_Take.k1 (t1 : Option Addr) (h1 : Heap) (bA1 : Option Addr) (bL1 : Nat) (bC1 : Nat) (i1 : Int) (h4 : Heap) (I1 : Option Addr → Nat → Nat → Int → Heap → Prop) (M1 : Option Addr → Nat → Nat → Int → Heap → Nat) (bA2 : Option Addr) (bL2 : Nat) (bC2 : Nat) (h6 : Heap) (K : Value → Heap → Prop) : Prop :=
  (0 ≤ (IntKind.wrap .i64 (Int.tdiv (Int.tmod i1 4096) 8)) ∧ (IntKind.wrap .i64 (Int.tdiv (Int.tmod i1 4096) 8)) < (bL2 : Int)) ∧
  onSome bA2 fun p1 =>
  ∃ (n7 : Int), cellOf h6 (Addr.add p1 (Int.toNat (IntKind.wrap .i64 (Int.tdiv (Int.tmod i1 4096) 8)))) = some (.int .u8 n7) ∧
  bif (n7 == 255) then (
  I1 bA2 bL2 bC2 (IntKind.wrap .i64 (i1 + 1)) h6 ∧ M1 bA2 bL2 bC2 (IntKind.wrap .i64 (i1 + 1)) h6 < M1 bA1 bL1 bC1 i1 h4) else (
  ∃ cs1 : List Value, List.length cs1 = 5 ∧ Cells h6 ⟨h1.size, 0, none⟩ cs1 ∧
  C.boleref09_bit t1 cs1 i1 h6 fun r3 h7 =>
  ∃ (b1 : Bool) (n8 : Int), r3 = .tuple #[.bool b1, .int .i64 n8] ∧
  bif (n8 != 0) then (
  K (.tuple #[.int .i64 0, .int .i64 n8]) h7) else (
  bif b1 then (
  I1 bA2 bL2 bC2 (IntKind.wrap .i64 (i1 + 1)) h7 ∧ M1 bA2 bL2 bC2 (IntKind.wrap .i64 (i1 + 1)) h7 < M1 bA1 bL1 bC1 i1 h4) else (
  C.boleref06_Txn_Mark t1 h7 fun r4 h8 =>
  ∃ (n9 : Int) (n10 : Int), r4 = .tuple #[.int .i64 n9, .int .i64 n10] ∧
  ∃ cs2 : List Value, List.length cs2 = 5 ∧ Cells h8 ⟨h1.size, 0, none⟩ cs2 ∧
  C.boleref09_set t1 cs2 i1 h8 fun r5 h9 =>
  ∃ (n11 : Int), r5 = .int .i64 n11 ∧
  bif (n11 == 0) then (
  (0 ≤ (512 : Int) ∧ (512 : Int) ≤ 512 ∧ (1 : Int) * 512 ≤ 281474976710656 ∧ (512 : Int) ≤ 281474976710656) ∧
  New (repCells z5 (Int.toNat 512)) 5 h9 fun h10 =>
  C.boleref06_Txn_Write t1 i1 (some ⟨h9.size, 0, none⟩) (Int.toNat 512) (Int.toNat 512) h10 fun r6 h11 =>
  ∃ (n12 : Int), r6 = .int .i64 n12 ∧
  boleref09_Take.k2 t1 i1 n9 n12 h11 K) else (
  boleref09_Take.k2 t1 i1 n9 n11 h9 K))))
def boleref09_Take (t1 : Option Addr) (g1 : List Value) (K : Value → Heap → Prop) (h1 : Heap) : Prop :=
  New g1 80 h1 fun h2 =>
  ∃ (n1 : Int), cellOf h2 (Addr.add ⟨h1.size, 0, none⟩ 1) = some (.int .i64 n1) ∧
  C.boleref06_Txn_Read t1 n1 h2 fun r1 h3 =>
  ∃ (sA1 : Option Addr) (sL1 : Nat) (sC1 : Nat) (n2 : Int), r1 = .tuple #[.slice sA1 sL1 sC1, .int .i64 n2] ∧
  bif (n2 != 0) then (
  K (.tuple #[.int .i64 0, .int .i64 n2]) h3) else (
  ∃ (n3 : Int), cellOf h3 (Addr.add ⟨h1.size, 0, none⟩ 3) = some (.int .i64 n3) ∧
  ∃ (I1 : Option Addr → Nat → Nat → Int → Heap → Prop) (M1 : Option Addr → Nat → Nat → Int → Heap → Nat), I1 sA1 sL1 sC1 n3 h3 ∧
  ∀ (bA1 : Option Addr) (bL1 : Nat) (bC1 : Nat) (i1 : Int), ∀ h4 : Heap, I1 bA1 bL1 bC1 i1 h4 →
  ∃ (n4 : Int), cellOf h4 (Addr.add ⟨h1.size, 0, none⟩ 0) = some (.int .i64 n4) ∧
  bif (decide (i1 < n4)) then (
  bif ((Int.tmod i1 4096) == 0) then (
  ∃ (n5 : Int), cellOf h4 (Addr.add ⟨h1.size, 0, none⟩ 1) = some (.int .i64 n5) ∧
  C.boleref06_Txn_Read t1 (IntKind.wrap .i64 (n5 + (IntKind.wrap .i64 (Int.tdiv i1 4096)))) h4 fun r2 h5 =>
  ∃ (sA2 : Option Addr) (sL2 : Nat) (sC2 : Nat) (n6 : Int), r2 = .tuple #[.slice sA2 sL2 sC2, .int .i64 n6] ∧
  bif (n6 != 0) then (
  K (.tuple #[.int .i64 0, .int .i64 n6]) h5) else (
  boleref09_Take.k1 t1 h1 bA1 bL1 bC1 i1 h4 I1 M1 sA2 sL2 sC2 h5 K)) else (
  ∃ (n14 : Int), cellOf h4 (Addr.add ⟨h1.size, 0, none⟩ 3) = some (.int .i64 n14) ∧
  bif (i1 == n14) then (
  ∃ (n15 : Int), cellOf h4 (Addr.add ⟨h1.size, 0, none⟩ 1) = some (.int .i64 n15) ∧
  C.boleref06_Txn_Read t1 (IntKind.wrap .i64 (n15 + (IntKind.wrap .i64 (Int.tdiv i1 4096)))) h4 fun r8 h14 =>
  ∃ (sA3 : Option Addr) (sL3 : Nat) (sC3 : Nat) (n16 : Int), r8 = .tuple #[.slice sA3 sL3 sC3, .int .i64 n16] ∧
  bif (n16 != 0) then (
  K (.tuple #[.int .i64 0, .int .i64 n16]) h14) else (
  boleref09_Take.k1 t1 h1 bA1 bL1 bC1 i1 h4 I1 M1 sA3 sL3 sC3 h14 K)) else (
  boleref09_Take.k1 t1 h1 bA1 bL1 bC1 i1 h4 I1 M1 bA1 bL1 bC1 h4 K))) else (
  K (.tuple #[.int .i64 0, .int .i64 90]) h4))
def boleref09_Take.lo : Nat → List Nat × List (Nat × Ty) := fun n => match n with | 5 => ([0, 3], [(6, .slice), (8, .int .i64)]) | _ => ([], [])
def boleref09_Take.od : Nat → Od := fun n => match n with | _ => .nil
theorem boleref09_Take.eq (t1 : Option Addr) (g1 : List Value) (K : Value → Heap → Prop) (h : Heap) : fnX (cx boleref09_Take.lo boleref09_Take.od) Tryz.f83 (Tryz.f83.body.getD .skip) [.pointer t1, .agg ⟨g1⟩] K h = boleref09_Take t1 g1 K h := by kernel_rfl
theorem boleref09_Take.chk : fnOk (cx boleref09_Take.lo boleref09_Take.od) Tryz.f83 (Tryz.f83.body.getD .skip) 2 = true := by kernel_rfl
theorem boleref09_Take.ok {t1 : Option Addr} {g1 : List Value} {K : Value → Heap → Prop} {h : Heap} (hx : boleref09_Take t1 g1 K h) : C.boleref09_Take t1 g1 h K :=
  fn_to (cxOk _ _) Tryz.func83 (by kernel_rfl) boleref09_Take.chk (by rw [boleref09_Take.eq]; exact hx)
def bolelaw09_Sides_alike (s1 : Option Addr) (i1 : Int) (K : Value → Heap → Prop) (h1 : Heap) : Prop :=
  onSome s1 fun p1 =>
  ∃ (n1 : Int), cellOf h1 (Addr.add (Addr.add p1 4) 1) = some (.int .i64 n1) ∧
  ∃ (I1 : Int → Heap → Prop) (M1 : Int → Heap → Nat), I1 n1 h1 ∧
  ∀ (k1 : Int), ∀ h2 : Heap, I1 k1 h2 →
  onSome s1 fun p2 =>
  ∃ (n2 : Int), cellOf h2 (Addr.add (Addr.add p2 4) 2) = some (.int .i64 n2) ∧
  bif (decide (k1 < n2)) then (
  C.bolelaw09_Sides_same s1 k1 h2 fun r1 h3 =>
  ∃ (b1 : Bool), r1 = .bool b1 ∧
  bif (!b1) then (
  K (.bool false) h3) else (
  I1 (IntKind.wrap .i64 (k1 + 1)) h3 ∧ M1 (IntKind.wrap .i64 (k1 + 1)) h3 < M1 k1 h2)) else (
  C.bolelaw09_Sides_same s1 i1 h2 fun r2 h4 =>
  ∃ (b2 : Bool), r2 = .bool b2 ∧
  bif b2 then (
  onSome s1 fun p3 =>
  ∃ (q1 : Option Addr), cellOf h4 (Addr.add p3 2) = some (.pointer q1) ∧
  onSome s1 fun p4 =>
  ∃ (q2 : Option Addr), cellOf h4 (Addr.add p4 3) = some (.pointer q2) ∧
  C.txn_Txn_Written q1 h4 fun r3 h5 =>
  ∃ (sA1 : Option Addr) (sL1 : Nat) (sC1 : Nat), r3 = .slice sA1 sL1 sC1 ∧
  (cellOf h5 (Addr.add p4 3) = some (.pointer q2)) ∧
  C.boleref06_Txn_Written q2 h5 fun r4 h6 =>
  ∃ (sA2 : Option Addr) (sL2 : Nat) (sC2 : Nat), r4 = .slice sA2 sL2 sC2 ∧
  C.bolelaw09_sameInts sA1 sL1 sC1 sA2 sL2 sC2 h6 fun r5 h7 =>
  ∃ (b3 : Bool), r5 = .bool b3 ∧
  K (.bool b3) h7) else (
  K (.bool false) h4))
def bolelaw09_Sides_alike.lo : Nat → List Nat × List (Nat × Ty) := fun n => match n with | 2 => ([0, 1], [(5, .int .i64)]) | _ => ([], [])
def bolelaw09_Sides_alike.od : Nat → Od := fun n => match n with | 6 => (.op 0 [] (.op 1 [] (.op 2 [] (.op 3 [] (.op 4 [] (.op 5 [] (.op 6 [] (.op 7 [] (.op 9 [] (.op 10 [] (.op 11 [] (.op 12 [] (.op 8 [12] (.op 13 [] (.op 14 [] (.op 15 [] (.op 16 [] .nil))))))))))))))))) | _ => .nil
theorem bolelaw09_Sides_alike.eq (s1 : Option Addr) (i1 : Int) (K : Value → Heap → Prop) (h : Heap) : fnX (cx bolelaw09_Sides_alike.lo bolelaw09_Sides_alike.od) Tryz.f84 (Tryz.f84.body.getD .skip) [.pointer s1, .int .i64 i1] K h = bolelaw09_Sides_alike s1 i1 K h := by kernel_rfl
theorem bolelaw09_Sides_alike.chk : fnOk (cx bolelaw09_Sides_alike.lo bolelaw09_Sides_alike.od) Tryz.f84 (Tryz.f84.body.getD .skip) 2 = true := by kernel_rfl
theorem bolelaw09_Sides_alike.ok {s1 : Option Addr} {i1 : Int} {K : Value → Heap → Prop} {h : Heap} (hx : bolelaw09_Sides_alike s1 i1 K h) : C.bolelaw09_Sides_alike s1 i1 h K :=
  fn_to (cxOk _ _) Tryz.func84 (by kernel_rfl) bolelaw09_Sides_alike.chk (by rw [bolelaw09_Sides_alike.eq]; exact hx)
def space_Give.k1 (t1 : Option Addr) (i1 : Int) (h1 : Heap) (h2 : Heap) (K : Value → Heap → Prop) : Prop :=
  ∃ cs1 : List Value, List.length cs1 = 5 ∧ Cells h2 ⟨h1.size, 0, none⟩ cs1 ∧
  C.space_Used t1 cs1 i1 h2 fun r1 h3 =>
  ∃ (b1 : Bool) (n3 : Int), r1 = .tuple #[.bool b1, .int .i64 n3] ∧
  bif (n3 != 0) then (
  K (.int .i64 n3) h3) else (
  bif (!b1) then (
  K (.int .i64 91) h3) else (
  ∃ cs2 : List Value, List.length cs2 = 5 ∧ Cells h3 ⟨h1.size, 0, none⟩ cs2 ∧
  C.space_set t1 cs2 i1 false h3 fun r2 h4 =>
  ∃ (n4 : Int), r2 = .int .i64 n4 ∧
  K (.int .i64 n4) h4))
def space_Give (t1 : Option Addr) (g1 : List Value) (i1 : Int) (K : Value → Heap → Prop) (h1 : Heap) : Prop :=
  New g1 80 h1 fun h2 =>
  ∃ (n1 : Int), cellOf h2 (Addr.add ⟨h1.size, 0, none⟩ 3) = some (.int .i64 n1) ∧
  bif (decide (i1 < n1)) then (
  K (.int .i64 91) h2) else (
  ∃ (n2 : Int), cellOf h2 (Addr.add ⟨h1.size, 0, none⟩ 0) = some (.int .i64 n2) ∧
  bif (decide (i1 ≥ n2)) then (
  K (.int .i64 91) h2) else (
  space_Give.k1 t1 i1 h1 h2 K))
def space_Give.lo : Nat → List Nat × List (Nat × Ty) := fun n => match n with | _ => ([], [])
def space_Give.od : Nat → Od := fun n => match n with | _ => .nil
theorem space_Give.eq (t1 : Option Addr) (g1 : List Value) (i1 : Int) (K : Value → Heap → Prop) (h : Heap) : fnX (cx space_Give.lo space_Give.od) Tryz.f85 (Tryz.f85.body.getD .skip) [.pointer t1, .agg ⟨g1⟩, .int .i64 i1] K h = space_Give t1 g1 i1 K h := by kernel_rfl
theorem space_Give.chk : fnOk (cx space_Give.lo space_Give.od) Tryz.f85 (Tryz.f85.body.getD .skip) 3 = true := by kernel_rfl
theorem space_Give.ok {t1 : Option Addr} {g1 : List Value} {i1 : Int} {K : Value → Heap → Prop} {h : Heap} (hx : space_Give t1 g1 i1 K h) : C.space_Give t1 g1 i1 h K :=
  fn_to (cxOk _ _) Tryz.func85 (by kernel_rfl) space_Give.chk (by rw [space_Give.eq]; exact hx)
def boleref09_Give.k1 (t1 : Option Addr) (i1 : Int) (h1 : Heap) (h2 : Heap) (K : Value → Heap → Prop) : Prop :=
  ∃ cs1 : List Value, List.length cs1 = 5 ∧ Cells h2 ⟨h1.size, 0, none⟩ cs1 ∧
  C.boleref09_bit t1 cs1 i1 h2 fun r1 h3 =>
  ∃ (b1 : Bool) (n3 : Int), r1 = .tuple #[.bool b1, .int .i64 n3] ∧
  bif (n3 != 0) then (
  K (.int .i64 n3) h3) else (
  bif (!b1) then (
  K (.int .i64 91) h3) else (
  ∃ cs2 : List Value, List.length cs2 = 5 ∧ Cells h3 ⟨h1.size, 0, none⟩ cs2 ∧
  C.boleref09_set t1 cs2 i1 h3 fun r2 h4 =>
  ∃ (n4 : Int), r2 = .int .i64 n4 ∧
  K (.int .i64 n4) h4))
def boleref09_Give (t1 : Option Addr) (g1 : List Value) (i1 : Int) (K : Value → Heap → Prop) (h1 : Heap) : Prop :=
  New g1 80 h1 fun h2 =>
  ∃ (n1 : Int), cellOf h2 (Addr.add ⟨h1.size, 0, none⟩ 3) = some (.int .i64 n1) ∧
  bif (decide (i1 < n1)) then (
  K (.int .i64 91) h2) else (
  ∃ (n2 : Int), cellOf h2 (Addr.add ⟨h1.size, 0, none⟩ 0) = some (.int .i64 n2) ∧
  bif (decide (i1 ≥ n2)) then (
  K (.int .i64 91) h2) else (
  boleref09_Give.k1 t1 i1 h1 h2 K))
def boleref09_Give.lo : Nat → List Nat × List (Nat × Ty) := fun n => match n with | _ => ([], [])
def boleref09_Give.od : Nat → Od := fun n => match n with | _ => .nil
theorem boleref09_Give.eq (t1 : Option Addr) (g1 : List Value) (i1 : Int) (K : Value → Heap → Prop) (h : Heap) : fnX (cx boleref09_Give.lo boleref09_Give.od) Tryz.f86 (Tryz.f86.body.getD .skip) [.pointer t1, .agg ⟨g1⟩, .int .i64 i1] K h = boleref09_Give t1 g1 i1 K h := by kernel_rfl
theorem boleref09_Give.chk : fnOk (cx boleref09_Give.lo boleref09_Give.od) Tryz.f86 (Tryz.f86.body.getD .skip) 3 = true := by kernel_rfl
theorem boleref09_Give.ok {t1 : Option Addr} {g1 : List Value} {i1 : Int} {K : Value → Heap → Prop} {h : Heap} (hx : boleref09_Give t1 g1 i1 K h) : C.boleref09_Give t1 g1 i1 h K :=
  fn_to (cxOk _ _) Tryz.func86 (by kernel_rfl) boleref09_Give.chk (by rw [boleref09_Give.eq]; exact hx)
def space_Used (t1 : Option Addr) (g1 : List Value) (i1 : Int) (K : Value → Heap → Prop) (h1 : Heap) : Prop :=
  New g1 80 h1 fun h2 =>
  ∃ cs1 : List Value, List.length cs1 = 5 ∧ Cells h2 ⟨h1.size, 0, none⟩ cs1 ∧
  C.space_bit t1 cs1 i1 h2 fun r1 h3 =>
  ∃ (n1 : Int) (sA1 : Option Addr) (sL1 : Nat) (sC1 : Nat) (n2 : Int) (n3 : Int), r1 = .tuple #[.int .i64 n1, .slice sA1 sL1 sC1, .int .i64 n2, .int .i64 n3] ∧
  bif (n3 != 0) then (
  K (.tuple #[.bool false, .int .i64 n3]) h3) else (
  C.bits_Get sA1 sL1 sC1 n2 h3 fun r2 h4 =>
  ∃ (b1 : Bool) (n4 : Int), r2 = .tuple #[.bool b1, .int .i64 n4] ∧
  K (.tuple #[.bool b1, .int .i64 n4]) h4)
def space_Used.lo : Nat → List Nat × List (Nat × Ty) := fun n => match n with | _ => ([], [])
def space_Used.od : Nat → Od := fun n => match n with | _ => .nil
theorem space_Used.eq (t1 : Option Addr) (g1 : List Value) (i1 : Int) (K : Value → Heap → Prop) (h : Heap) : fnX (cx space_Used.lo space_Used.od) Tryz.f87 (Tryz.f87.body.getD .skip) [.pointer t1, .agg ⟨g1⟩, .int .i64 i1] K h = space_Used t1 g1 i1 K h := by kernel_rfl
theorem space_Used.chk : fnOk (cx space_Used.lo space_Used.od) Tryz.f87 (Tryz.f87.body.getD .skip) 3 = true := by kernel_rfl
theorem space_Used.ok {t1 : Option Addr} {g1 : List Value} {i1 : Int} {K : Value → Heap → Prop} {h : Heap} (hx : space_Used t1 g1 i1 K h) : C.space_Used t1 g1 i1 h K :=
  fn_to (cxOk _ _) Tryz.func87 (by kernel_rfl) space_Used.chk (by rw [space_Used.eq]; exact hx)
def boleref09_Used.k1 (t1 : Option Addr) (i1 : Int) (h1 : Heap) (h2 : Heap) (K : Value → Heap → Prop) : Prop :=
  ∃ cs1 : List Value, List.length cs1 = 5 ∧ Cells h2 ⟨h1.size, 0, none⟩ cs1 ∧
  C.boleref09_bit t1 cs1 i1 h2 fun r1 h3 =>
  ∃ (b1 : Bool) (n2 : Int), r1 = .tuple #[.bool b1, .int .i64 n2] ∧
  K (.tuple #[.bool b1, .int .i64 n2]) h3
def boleref09_Used (t1 : Option Addr) (g1 : List Value) (i1 : Int) (K : Value → Heap → Prop) (h1 : Heap) : Prop :=
  New g1 80 h1 fun h2 =>
  bif (decide (i1 < 0)) then (
  K (.tuple #[.bool false, .int .i64 31]) h2) else (
  ∃ (n1 : Int), cellOf h2 (Addr.add ⟨h1.size, 0, none⟩ 0) = some (.int .i64 n1) ∧
  bif (decide (i1 ≥ n1)) then (
  K (.tuple #[.bool false, .int .i64 31]) h2) else (
  boleref09_Used.k1 t1 i1 h1 h2 K))
def boleref09_Used.lo : Nat → List Nat × List (Nat × Ty) := fun n => match n with | _ => ([], [])
def boleref09_Used.od : Nat → Od := fun n => match n with | _ => .nil
theorem boleref09_Used.eq (t1 : Option Addr) (g1 : List Value) (i1 : Int) (K : Value → Heap → Prop) (h : Heap) : fnX (cx boleref09_Used.lo boleref09_Used.od) Tryz.f88 (Tryz.f88.body.getD .skip) [.pointer t1, .agg ⟨g1⟩, .int .i64 i1] K h = boleref09_Used t1 g1 i1 K h := by kernel_rfl
theorem boleref09_Used.chk : fnOk (cx boleref09_Used.lo boleref09_Used.od) Tryz.f88 (Tryz.f88.body.getD .skip) 3 = true := by kernel_rfl
theorem boleref09_Used.ok {t1 : Option Addr} {g1 : List Value} {i1 : Int} {K : Value → Heap → Prop} {h : Heap} (hx : boleref09_Used t1 g1 i1 K h) : C.boleref09_Used t1 g1 i1 h K :=
  fn_to (cxOk _ _) Tryz.func88 (by kernel_rfl) boleref09_Used.chk (by rw [boleref09_Used.eq]; exact hx)
def space_Free (t1 : Option Addr) (g1 : List Value) (K : Value → Heap → Prop) (h1 : Heap) : Prop :=
  New g1 80 h1 fun h2 =>
  New z3 3 h2 fun h3 =>
  Put ⟨h2.size, 0, none⟩ (.int .i64 0) h3 fun h4 =>
  ∃ cs1 : List Value, List.length cs1 = 5 ∧ Cells h4 ⟨h1.size, 0, none⟩ cs1 ∧
  C.space_each t1 cs1 (Value.func (.func 155) #[] ⟨[.pointer (some ⟨h1.size, 0, none⟩), .pointer (some ⟨h2.size, 0, none⟩)]⟩) h4 fun r1 h5 =>
  ∃ (n1 : Int), r1 = .int .i64 n1 ∧
  bif (n1 != 0) then (
  K (.tuple #[.int .i64 0, .int .i64 n1]) h5) else (
  ∃ (n2 : Int), cellOf h5 ⟨h2.size, 0, none⟩ = some (.int .i64 n2) ∧
  K (.tuple #[.int .i64 n2, .int .i64 0]) h5)
def space_Free.lo : Nat → List Nat × List (Nat × Ty) := fun n => match n with | _ => ([], [])
def space_Free.od : Nat → Od := fun n => match n with | _ => .nil
theorem space_Free.eq (t1 : Option Addr) (g1 : List Value) (K : Value → Heap → Prop) (h : Heap) : fnX (cx space_Free.lo space_Free.od) Tryz.f89 (Tryz.f89.body.getD .skip) [.pointer t1, .agg ⟨g1⟩] K h = space_Free t1 g1 K h := by kernel_rfl
theorem space_Free.chk : fnOk (cx space_Free.lo space_Free.od) Tryz.f89 (Tryz.f89.body.getD .skip) 2 = true := by kernel_rfl
theorem space_Free.ok {t1 : Option Addr} {g1 : List Value} {K : Value → Heap → Prop} {h : Heap} (hx : space_Free t1 g1 K h) : C.space_Free t1 g1 h K :=
  fn_to (cxOk _ _) Tryz.func89 (by kernel_rfl) space_Free.chk (by rw [space_Free.eq]; exact hx)
def boleref09_Free (t1 : Option Addr) (g1 : List Value) (K : Value → Heap → Prop) (h1 : Heap) : Prop :=
  New g1 80 h1 fun h2 =>
  ∃ (n1 : Int), cellOf h2 (Addr.add ⟨h1.size, 0, none⟩ 1) = some (.int .i64 n1) ∧
  ∃ (I1 : Int → Int → Heap → Prop) (M1 : Int → Int → Heap → Nat), I1 0 n1 h2 ∧
  ∀ (n2 : Int) (k1 : Int), ∀ h3 : Heap, I1 n2 k1 h3 →
  ∃ (n3 : Int), cellOf h3 (Addr.add ⟨h1.size, 0, none⟩ 2) = some (.int .i64 n3) ∧
  bif (decide (k1 < n3)) then (
  C.boleref06_Txn_Read t1 k1 h3 fun r1 h4 =>
  ∃ (sA1 : Option Addr) (sL1 : Nat) (sC1 : Nat) (n4 : Int), r1 = .tuple #[.slice sA1 sL1 sC1, .int .i64 n4] ∧
  bif (n4 != 0) then (
  K (.tuple #[.int .i64 0, .int .i64 n4]) h4) else (
  ∃ (I2 : Int → Int → Heap → Prop) (M2 : Int → Int → Heap → Nat), I2 n2 0 h4 ∧
  ∀ (n5 : Int) (i1 : Int), ∀ h5 : Heap, I2 n5 i1 h5 →
  bif (decide (i1 < 4096)) then (
  ∃ (n6 : Int), cellOf h5 (Addr.add ⟨h1.size, 0, none⟩ 1) = some (.int .i64 n6) ∧
  (0 ≤ (IntKind.wrap .i64 (Int.tdiv i1 8)) ∧ (IntKind.wrap .i64 (Int.tdiv i1 8)) < (sL1 : Int)) ∧
  onSome sA1 fun p1 =>
  ∃ (n7 : Int), cellOf h5 (Addr.add p1 (Int.toNat (IntKind.wrap .i64 (Int.tdiv i1 8)))) = some (.int .u8 n7) ∧
  ∃ (I3 : Int → Int → Heap → Prop) (M3 : Int → Int → Heap → Nat), I3 (IntKind.wrap .i64 (n7)) 0 h5 ∧
  ∀ (v1 : Int) (j1 : Int), ∀ h6 : Heap, I3 v1 j1 h6 →
  bif (decide (j1 < (Int.tmod i1 8))) then (
  I3 (IntKind.wrap .i64 (Int.tdiv v1 2)) (IntKind.wrap .i64 (j1 + 1)) h6 ∧ M3 (IntKind.wrap .i64 (Int.tdiv v1 2)) (IntKind.wrap .i64 (j1 + 1)) h6 < M3 v1 j1 h6) else (
  bif ((Int.tmod v1 2) == 0) then (
  ∃ (n8 : Int), cellOf h6 (Addr.add ⟨h1.size, 0, none⟩ 3) = some (.int .i64 n8) ∧
  bif (decide ((IntKind.wrap .i64 ((IntKind.wrap .i64 ((IntKind.wrap .i64 (k1 - n6)) * 4096)) + i1)) ≥ n8)) then (
  ∃ (n9 : Int), cellOf h6 (Addr.add ⟨h1.size, 0, none⟩ 0) = some (.int .i64 n9) ∧
  bif (decide ((IntKind.wrap .i64 ((IntKind.wrap .i64 ((IntKind.wrap .i64 (k1 - n6)) * 4096)) + i1)) < n9)) then (
  I2 (IntKind.wrap .i64 (n5 + 1)) (IntKind.wrap .i64 (i1 + 1)) h6 ∧ M2 (IntKind.wrap .i64 (n5 + 1)) (IntKind.wrap .i64 (i1 + 1)) h6 < M2 n5 i1 h5) else (
  I2 n5 (IntKind.wrap .i64 (i1 + 1)) h6 ∧ M2 n5 (IntKind.wrap .i64 (i1 + 1)) h6 < M2 n5 i1 h5)) else (
  I2 n5 (IntKind.wrap .i64 (i1 + 1)) h6 ∧ M2 n5 (IntKind.wrap .i64 (i1 + 1)) h6 < M2 n5 i1 h5)) else (
  I2 n5 (IntKind.wrap .i64 (i1 + 1)) h6 ∧ M2 n5 (IntKind.wrap .i64 (i1 + 1)) h6 < M2 n5 i1 h5))) else (
  I1 n5 (IntKind.wrap .i64 (k1 + 1)) h5 ∧ M1 n5 (IntKind.wrap .i64 (k1 + 1)) h5 < M1 n2 k1 h3))) else (
  K (.tuple #[.int .i64 n2, .int .i64 0]) h3)
def boleref09_Free.lo : Nat → List Nat × List (Nat × Ty) := fun n => match n with | 3 => ([0, 3], [(6, .int .i64), (7, .int .i64)]) | 9 => ([0, 3, 7, 8], [(6, .int .i64), (10, .int .i64)]) | 14 => ([0, 3, 6, 7, 8, 10, 11], [(12, .int .i64), (13, .int .i64)]) | _ => ([], [])
def boleref09_Free.od : Nat → Od := fun n => match n with | _ => .nil
theorem boleref09_Free.eq (t1 : Option Addr) (g1 : List Value) (K : Value → Heap → Prop) (h : Heap) : fnX (cx boleref09_Free.lo boleref09_Free.od) Tryz.f90 (Tryz.f90.body.getD .skip) [.pointer t1, .agg ⟨g1⟩] K h = boleref09_Free t1 g1 K h := by kernel_rfl
theorem boleref09_Free.chk : fnOk (cx boleref09_Free.lo boleref09_Free.od) Tryz.f90 (Tryz.f90.body.getD .skip) 2 = true := by kernel_rfl
theorem boleref09_Free.ok {t1 : Option Addr} {g1 : List Value} {K : Value → Heap → Prop} {h : Heap} (hx : boleref09_Free t1 g1 K h) : C.boleref09_Free t1 g1 h K :=
  fn_to (cxOk _ _) Tryz.func90 (by kernel_rfl) boleref09_Free.chk (by rw [boleref09_Free.eq]; exact hx)
def bolelaw09_Sides_same (s1 : Option Addr) (i1 : Int) (K : Value → Heap → Prop) (h1 : Heap) : Prop :=
  onSome s1 fun p1 =>
  ∃ (q1 : Option Addr), cellOf h1 (Addr.add p1 2) = some (.pointer q1) ∧
  C.txn_Txn_Read q1 i1 h1 fun r1 h2 =>
  ∃ (sA1 : Option Addr) (sL1 : Nat) (sC1 : Nat) (n1 : Int), r1 = .tuple #[.slice sA1 sL1 sC1, .int .i64 n1] ∧
  onSome s1 fun p2 =>
  ∃ (q2 : Option Addr), cellOf h2 (Addr.add p2 3) = some (.pointer q2) ∧
  C.boleref06_Txn_Read q2 i1 h2 fun r2 h3 =>
  ∃ (sA2 : Option Addr) (sL2 : Nat) (sC2 : Nat) (n2 : Int), r2 = .tuple #[.slice sA2 sL2 sC2, .int .i64 n2] ∧
  bif (n1 == n2) then (
  ∃ bs1 : List UInt8, StrAt h3 sA1 sL1 bs1 ∧
  ∃ bs2 : List UInt8, StrAt h3 sA2 sL2 bs2 ∧
  K (.bool ((mkStr bs1).toList == (mkStr bs2).toList)) h3) else (
  K (.bool false) h3)
def bolelaw09_Sides_same.lo : Nat → List Nat × List (Nat × Ty) := fun n => match n with | _ => ([], [])
def bolelaw09_Sides_same.od : Nat → Od := fun n => match n with | _ => .nil
theorem bolelaw09_Sides_same.eq (s1 : Option Addr) (i1 : Int) (K : Value → Heap → Prop) (h : Heap) : fnX (cx bolelaw09_Sides_same.lo bolelaw09_Sides_same.od) Tryz.f91 (Tryz.f91.body.getD .skip) [.pointer s1, .int .i64 i1] K h = bolelaw09_Sides_same s1 i1 K h := by kernel_rfl
theorem bolelaw09_Sides_same.chk : fnOk (cx bolelaw09_Sides_same.lo bolelaw09_Sides_same.od) Tryz.f91 (Tryz.f91.body.getD .skip) 2 = true := by kernel_rfl
theorem bolelaw09_Sides_same.ok {s1 : Option Addr} {i1 : Int} {K : Value → Heap → Prop} {h : Heap} (hx : bolelaw09_Sides_same s1 i1 K h) : C.bolelaw09_Sides_same s1 i1 h K :=
  fn_to (cxOk _ _) Tryz.func91 (by kernel_rfl) bolelaw09_Sides_same.chk (by rw [bolelaw09_Sides_same.eq]; exact hx)
def txn_Txn_Write.k1 (bA1 : Option Addr) (bL1 : Nat) (bC1 : Nat) (h1 : Heap) (h2 : Heap) (was1 : Option Addr) (ok1 : Option Addr) (h8 : Heap) (K : Value → Heap → Prop) : Prop :=
  ∃ (q2 : Option Addr), cellOf h8 ⟨h1.size, 0, none⟩ = some (.pointer q2) ∧
  onSome q2 fun p2 =>
  ∃ (b1 : Bool), cellOf h8 (Addr.add p2 3) = some (.bool b1) ∧
  bif b1 then (
  K (.int .i64 61) h8) else (
  ∃ (n2 : Int), cellOf h8 ⟨h2.size, 0, none⟩ = some (.int .i64 n2) ∧
  bif (decide (n2 < 98)) then (
  K (.int .i64 31) h8) else (
  ∃ (n3 : Int), cellOf h8 ⟨h2.size, 0, none⟩ = some (.int .i64 n3) ∧
  ∃ (q3 : Option Addr), cellOf h8 ⟨h1.size, 0, none⟩ = some (.pointer q3) ∧
  onSome q3 fun p3 =>
  ∃ (q4 : Option Addr), cellOf h8 (Addr.add p3 0) = some (.pointer q4) ∧
  C.adisk_Disk_Blocks q4 h8 fun r1 h9 =>
  ∃ (n4 : Int), r1 = .int .i64 n4 ∧
  (cellOf h9 ⟨h2.size, 0, none⟩ = some (.int .i64 n3)) ∧
  bif (decide (n3 ≥ n4)) then (
  K (.int .i64 31) h9) else (
  bif ((bL1 : Int) != 512) then (
  K (.int .i64 32) h9) else (
  onSome ok1 fun p4 =>
  ∃ (b2 : Bool), cellOf h9 p4 = some (.bool b2) ∧
  bif (!b2) then (
  ∃ (q5 : Option Addr), cellOf h9 ⟨h1.size, 0, none⟩ = some (.pointer q5) ∧
  onSome q5 fun p5 =>
  ∃ (m2 : Option Nat), cellOf h9 (Addr.add p5 1) = some (.map m2) ∧
  MapIn (.int .i64) m2 h9 fun mm2 =>
  bif (decide ((List.length mm2 : Int) ≥ 96)) then (
  K (.int .i64 60) h9) else (
  ∃ (q6 : Option Addr), cellOf h9 ⟨h1.size, 0, none⟩ = some (.pointer q6) ∧
  ∃ (q7 : Option Addr), cellOf h9 ⟨h1.size, 0, none⟩ = some (.pointer q7) ∧
  onSome q7 fun p6 =>
  ∃ (sA2 : Option Addr) (sL2 : Nat) (sC2 : Nat), cellOf h9 (Addr.add p6 2) = some (.slice sA2 sL2 sC2) ∧
  New [.func (.func 157) #[] ⟨[.pointer ok1, .pointer was1, .pointer (some ⟨h1.size, 0, none⟩), .pointer (some ⟨h2.size, 0, none⟩)]⟩] 1 h9 fun h10 =>
  (cellOf h10 ⟨h1.size, 0, none⟩ = some (.pointer q6)) ∧
  (cellOf h10 ⟨h1.size, 0, none⟩ = some (.pointer q7)) ∧
  (cellOf h10 (Addr.add p6 2) = some (.slice sA2 sL2 sC2)) ∧
  ∃ new1 : List Value, List.length new1 = 1 * 1 ∧ SlCells h10 (some ⟨h9.size, 0, none⟩) new1 ∧ (∀ v ∈ new1, v.oneCell' = true) ∧
  AppendP ti1 1 sA2 sL2 sC2 1 new1 h10 fun sA3 sL3 sC3 h11 =>
  (cellOf h11 ⟨h1.size, 0, none⟩ = some (.pointer q6)) ∧
  onSome q6 fun p7 =>
  Put (Addr.add p7 2) (.slice sA3 sL3 sC3) h11 fun h12 =>
  ∃ (q8 : Option Addr), cellOf h12 ⟨h1.size, 0, none⟩ = some (.pointer q8) ∧
  onSome q8 fun p8 =>
  ∃ (m3 : Option Nat), cellOf h12 (Addr.add p8 1) = some (.map m3) ∧
  ∃ (n5 : Int), cellOf h12 ⟨h2.size, 0, none⟩ = some (.int .i64 n5) ∧
  C.slices_Clone_byte_byte bA1 bL1 bC1 h12 fun r2 h13 =>
  ∃ (sA4 : Option Addr) (sL4 : Nat) (sC4 : Nat), r2 = .slice sA4 sL4 sC4 ∧
  (cellOf h13 ⟨h1.size, 0, none⟩ = some (.pointer q8)) ∧
  (cellOf h13 (Addr.add p8 1) = some (.map m3)) ∧
  (cellOf h13 ⟨h2.size, 0, none⟩ = some (.int .i64 n5)) ∧
  onSome m3 fun r3 =>
  MapPut (.int .i64) r3 (.i n5) (.slice sA4 sL4 sC4) h13 fun h14 =>
  K (.int .i64 0) h14)) else (
  ∃ (q9 : Option Addr), cellOf h9 ⟨h1.size, 0, none⟩ = some (.pointer q9) ∧
  ∃ (q10 : Option Addr), cellOf h9 ⟨h1.size, 0, none⟩ = some (.pointer q10) ∧
  onSome q10 fun p9 =>
  ∃ (sA5 : Option Addr) (sL5 : Nat) (sC5 : Nat), cellOf h9 (Addr.add p9 2) = some (.slice sA5 sL5 sC5) ∧
  New [.func (.func 157) #[] ⟨[.pointer ok1, .pointer was1, .pointer (some ⟨h1.size, 0, none⟩), .pointer (some ⟨h2.size, 0, none⟩)]⟩] 1 h9 fun h15 =>
  (cellOf h15 ⟨h1.size, 0, none⟩ = some (.pointer q9)) ∧
  (cellOf h15 ⟨h1.size, 0, none⟩ = some (.pointer q10)) ∧
  (cellOf h15 (Addr.add p9 2) = some (.slice sA5 sL5 sC5)) ∧
  ∃ new2 : List Value, List.length new2 = 1 * 1 ∧ SlCells h15 (some ⟨h9.size, 0, none⟩) new2 ∧ (∀ v ∈ new2, v.oneCell' = true) ∧
  AppendP ti1 1 sA5 sL5 sC5 1 new2 h15 fun sA6 sL6 sC6 h16 =>
  (cellOf h16 ⟨h1.size, 0, none⟩ = some (.pointer q9)) ∧
  onSome q9 fun p10 =>
  Put (Addr.add p10 2) (.slice sA6 sL6 sC6) h16 fun h17 =>
  ∃ (q11 : Option Addr), cellOf h17 ⟨h1.size, 0, none⟩ = some (.pointer q11) ∧
  onSome q11 fun p11 =>
  ∃ (m4 : Option Nat), cellOf h17 (Addr.add p11 1) = some (.map m4) ∧
  ∃ (n6 : Int), cellOf h17 ⟨h2.size, 0, none⟩ = some (.int .i64 n6) ∧
  C.slices_Clone_byte_byte bA1 bL1 bC1 h17 fun r4 h18 =>
  ∃ (sA7 : Option Addr) (sL7 : Nat) (sC7 : Nat), r4 = .slice sA7 sL7 sC7 ∧
  (cellOf h18 ⟨h1.size, 0, none⟩ = some (.pointer q11)) ∧
  (cellOf h18 (Addr.add p11 1) = some (.map m4)) ∧
  (cellOf h18 ⟨h2.size, 0, none⟩ = some (.int .i64 n6)) ∧
  onSome m4 fun r5 =>
  MapPut (.int .i64) r5 (.i n6) (.slice sA7 sL7 sC7) h18 fun h19 =>
  K (.int .i64 0) h19)))))
def txn_Txn_Write (t1 : Option Addr) (i1 : Int) (bA1 : Option Addr) (bL1 : Nat) (bC1 : Nat) (K : Value → Heap → Prop) (h1 : Heap) : Prop :=
  New [.pointer t1] 57 h1 fun h2 =>
  New [.int .i64 i1] 3 h2 fun h3 =>
  ∃ (q1 : Option Addr), cellOf h3 ⟨h1.size, 0, none⟩ = some (.pointer q1) ∧
  onSome q1 fun p1 =>
  ∃ (m1 : Option Nat), cellOf h3 (Addr.add p1 1) = some (.map m1) ∧
  ∃ (n1 : Int), cellOf h3 ⟨h2.size, 0, none⟩ = some (.int .i64 n1) ∧
  (
  MapIn (.int .i64) m1 h3 fun mm1 =>
  ∃ (sA1 : Option Addr) (sL1 : Nat) (sC1 : Nat), Option.getD (mget mm1 (.i n1)) (zeroV ti37) = .slice sA1 sL1 sC1 ∧
  (
  New z37 37 h3 fun h4 =>
  (cellOf h4 ⟨h1.size, 0, none⟩ = some (.pointer q1)) ∧
  (cellOf h4 (Addr.add p1 1) = some (.map m1)) ∧
  (cellOf h4 ⟨h2.size, 0, none⟩ = some (.int .i64 n1)) ∧
  New z4 4 h4 fun h5 =>
  (cellOf h5 ⟨h1.size, 0, none⟩ = some (.pointer q1)) ∧
  (cellOf h5 (Addr.add p1 1) = some (.map m1)) ∧
  (cellOf h5 ⟨h2.size, 0, none⟩ = some (.int .i64 n1)) ∧
  Put ⟨h3.size, 0, none⟩ (.slice sA1 sL1 sC1) h5 fun h6 =>
  Put ⟨h4.size, 0, none⟩ (.bool (Option.isSome (mget mm1 (.i n1)))) h6 fun h7 =>
  txn_Txn_Write.k1 bA1 bL1 bC1 h1 h2 (some ⟨h3.size, 0, none⟩) (some ⟨h4.size, 0, none⟩) h7 K) ∧
  New z4 4 h3 fun h20 =>
  (cellOf h20 ⟨h1.size, 0, none⟩ = some (.pointer q1)) ∧
  (cellOf h20 (Addr.add p1 1) = some (.map m1)) ∧
  (cellOf h20 ⟨h2.size, 0, none⟩ = some (.int .i64 n1)) ∧
  New z37 37 h20 fun h21 =>
  (cellOf h21 ⟨h1.size, 0, none⟩ = some (.pointer q1)) ∧
  (cellOf h21 (Addr.add p1 1) = some (.map m1)) ∧
  (cellOf h21 ⟨h2.size, 0, none⟩ = some (.int .i64 n1)) ∧
  Put ⟨h20.size, 0, none⟩ (.slice sA1 sL1 sC1) h21 fun h22 =>
  Put ⟨h3.size, 0, none⟩ (.bool (Option.isSome (mget mm1 (.i n1)))) h22 fun h23 =>
  txn_Txn_Write.k1 bA1 bL1 bC1 h1 h2 (some ⟨h20.size, 0, none⟩) (some ⟨h3.size, 0, none⟩) h23 K) ∧
  (
  New z37 37 h3 fun h24 =>
  (cellOf h24 ⟨h1.size, 0, none⟩ = some (.pointer q1)) ∧
  (cellOf h24 (Addr.add p1 1) = some (.map m1)) ∧
  (cellOf h24 ⟨h2.size, 0, none⟩ = some (.int .i64 n1)) ∧
  (
  MapIn (.int .i64) m1 h24 fun mm3 =>
  ∃ (sA8 : Option Addr) (sL8 : Nat) (sC8 : Nat), Option.getD (mget mm3 (.i n1)) (zeroV ti37) = .slice sA8 sL8 sC8 ∧
  New z4 4 h24 fun h25 =>
  (cellOf h25 ⟨h1.size, 0, none⟩ = some (.pointer q1)) ∧
  (cellOf h25 (Addr.add p1 1) = some (.map m1)) ∧
  (cellOf h25 ⟨h2.size, 0, none⟩ = some (.int .i64 n1)) ∧
  Put ⟨h3.size, 0, none⟩ (.slice sA8 sL8 sC8) h25 fun h26 =>
  Put ⟨h24.size, 0, none⟩ (.bool (Option.isSome (mget mm3 (.i n1)))) h26 fun h27 =>
  txn_Txn_Write.k1 bA1 bL1 bC1 h1 h2 (some ⟨h3.size, 0, none⟩) (some ⟨h24.size, 0, none⟩) h27 K) ∧
  New z4 4 h24 fun h28 =>
  (cellOf h28 ⟨h1.size, 0, none⟩ = some (.pointer q1)) ∧
  (cellOf h28 (Addr.add p1 1) = some (.map m1)) ∧
  (cellOf h28 ⟨h2.size, 0, none⟩ = some (.int .i64 n1)) ∧
  MapIn (.int .i64) m1 h28 fun mm4 =>
  ∃ (sA9 : Option Addr) (sL9 : Nat) (sC9 : Nat), Option.getD (mget mm4 (.i n1)) (zeroV ti37) = .slice sA9 sL9 sC9 ∧
  Put ⟨h3.size, 0, none⟩ (.slice sA9 sL9 sC9) h28 fun h29 =>
  Put ⟨h24.size, 0, none⟩ (.bool (Option.isSome (mget mm4 (.i n1)))) h29 fun h30 =>
  txn_Txn_Write.k1 bA1 bL1 bC1 h1 h2 (some ⟨h3.size, 0, none⟩) (some ⟨h24.size, 0, none⟩) h30 K) ∧
  New z4 4 h3 fun h31 =>
  (cellOf h31 ⟨h1.size, 0, none⟩ = some (.pointer q1)) ∧
  (cellOf h31 (Addr.add p1 1) = some (.map m1)) ∧
  (cellOf h31 ⟨h2.size, 0, none⟩ = some (.int .i64 n1)) ∧
  (
  MapIn (.int .i64) m1 h31 fun mm5 =>
  ∃ (sA10 : Option Addr) (sL10 : Nat) (sC10 : Nat), Option.getD (mget mm5 (.i n1)) (zeroV ti37) = .slice sA10 sL10 sC10 ∧
  New z37 37 h31 fun h32 =>
  (cellOf h32 ⟨h1.size, 0, none⟩ = some (.pointer q1)) ∧
  (cellOf h32 (Addr.add p1 1) = some (.map m1)) ∧
  (cellOf h32 ⟨h2.size, 0, none⟩ = some (.int .i64 n1)) ∧
  Put ⟨h31.size, 0, none⟩ (.slice sA10 sL10 sC10) h32 fun h33 =>
  Put ⟨h3.size, 0, none⟩ (.bool (Option.isSome (mget mm5 (.i n1)))) h33 fun h34 =>
  txn_Txn_Write.k1 bA1 bL1 bC1 h1 h2 (some ⟨h31.size, 0, none⟩) (some ⟨h3.size, 0, none⟩) h34 K) ∧
  New z37 37 h31 fun h35 =>
  (cellOf h35 ⟨h1.size, 0, none⟩ = some (.pointer q1)) ∧
  (cellOf h35 (Addr.add p1 1) = some (.map m1)) ∧
  (cellOf h35 ⟨h2.size, 0, none⟩ = some (.int .i64 n1)) ∧
  MapIn (.int .i64) m1 h35 fun mm6 =>
  ∃ (sA11 : Option Addr) (sL11 : Nat) (sC11 : Nat), Option.getD (mget mm6 (.i n1)) (zeroV ti37) = .slice sA11 sL11 sC11 ∧
  Put ⟨h31.size, 0, none⟩ (.slice sA11 sL11 sC11) h35 fun h36 =>
  Put ⟨h3.size, 0, none⟩ (.bool (Option.isSome (mget mm6 (.i n1)))) h36 fun h37 =>
  txn_Txn_Write.k1 bA1 bL1 bC1 h1 h2 (some ⟨h31.size, 0, none⟩) (some ⟨h3.size, 0, none⟩) h37 K
def txn_Txn_Write.lo : Nat → List Nat × List (Nat × Ty) := fun n => match n with | _ => ([], [])
set_option maxRecDepth 100000 in
def txn_Txn_Write.od : Nat → Od := fun n => match n with | 1 => (.op 0 [] (.op 1 [] (.op 2 [] (.op 3 [] (.op 4 [] (.alt 5 [] (.op 6 [] (.op 7 [] (.op 8 [] (.alt 9 [0, 3, 4] (.op 10 [0, 3, 4] (.op 11 [] (.op 12 [] .nil))) (.op 10 [0, 3, 4] (.op 9 [0, 3, 4] (.op 11 [] (.op 12 [] .nil)))))))) (.alt 9 [0, 3, 4] (.alt 5 [] (.op 6 [] (.op 7 [] (.op 8 [] (.op 10 [0, 3, 4] (.op 11 [] (.op 12 [] .nil)))))) (.op 10 [0, 3, 4] (.op 5 [] (.op 6 [] (.op 7 [] (.op 8 [] (.op 11 [] (.op 12 [] .nil)))))))) (.op 10 [0, 3, 4] (.alt 5 [] (.op 6 [] (.op 7 [] (.op 8 [] (.op 9 [0, 3, 4] (.op 11 [] (.op 12 [] .nil)))))) (.op 9 [0, 3, 4] (.op 5 [] (.op 6 [] (.op 7 [] (.op 8 [] (.op 11 [] (.op 12 [] .nil)))))))))))))))) | 4 => (.op 0 [] (.op 1 [] (.op 2 [] (.op 3 [] (.op 4 [] (.op 5 [] (.op 6 [] (.op 7 [] (.op 8 [3] (.op 9 [] (.op 10 [] (.op 11 [] .nil)))))))))))) | 10 => (.op 0 [] (.op 1 [] (.op 2 [] (.op 3 [] (.op 4 [] (.op 5 [] (.op 6 [0, 1, 4] (.op 7 [0] (.op 8 [] (.op 9 [] (.op 10 [] .nil))))))))))) | 11 => (.op 0 [] (.op 1 [] (.op 2 [] (.op 3 [] (.op 4 [] (.op 5 [] (.op 6 [0, 3, 4] (.op 7 [] .nil)))))))) | _ => .nil
set_option maxRecDepth 100000 in
theorem txn_Txn_Write.eq (t1 : Option Addr) (i1 : Int) (bA1 : Option Addr) (bL1 : Nat) (bC1 : Nat) (K : Value → Heap → Prop) (h : Heap) : fnX (cx txn_Txn_Write.lo txn_Txn_Write.od) Tryz.f92 (Tryz.f92.body.getD .skip) [.pointer t1, .int .i64 i1, .slice bA1 bL1 bC1] K h = txn_Txn_Write t1 i1 bA1 bL1 bC1 K h := by kernel_rfl
theorem txn_Txn_Write.chk : fnOk (cx txn_Txn_Write.lo txn_Txn_Write.od) Tryz.f92 (Tryz.f92.body.getD .skip) 3 = true := by kernel_rfl
set_option maxRecDepth 100000 in
theorem txn_Txn_Write.ok {t1 : Option Addr} {i1 : Int} {bA1 : Option Addr} {bL1 : Nat} {bC1 : Nat} {K : Value → Heap → Prop} {h : Heap} (hx : txn_Txn_Write t1 i1 bA1 bL1 bC1 K h) : C.txn_Txn_Write t1 i1 bA1 bL1 bC1 h K :=
  fn_to (cxOk _ _) Tryz.func92 (by kernel_rfl) txn_Txn_Write.chk (by rw [txn_Txn_Write.eq]; exact hx)
def bolelaw09_block (x1 : Int) (K : Value → Heap → Prop) (h1 : Heap) : Prop :=
  (0 ≤ (512 : Int) ∧ (512 : Int) ≤ 512 ∧ (1 : Int) * 512 ≤ 281474976710656 ∧ (512 : Int) ≤ 281474976710656) ∧
  New (repCells z5 (Int.toNat 512)) 5 h1 fun h2 =>
  ∃ (I1 : Int → Heap → Prop) (M1 : Int → Heap → Nat), I1 0 h2 ∧
  ∀ (n1 : Int), ∀ h3 : Heap, I1 n1 h3 →
  bif (decide (n1 < ((Int.toNat 512) : Int))) then (
  (0 ≤ n1 ∧ n1 < ((Int.toNat 512) : Int)) ∧
  Put (Addr.add ⟨h1.size, 0, none⟩ (Int.toNat n1)) (.int .u8 x1) h3 fun h4 =>
  I1 (IntKind.wrap .i64 (n1 + 1)) h4 ∧ M1 (IntKind.wrap .i64 (n1 + 1)) h4 < M1 n1 h3) else (
  K (.slice (some ⟨h1.size, 0, none⟩) (Int.toNat 512) (Int.toNat 512)) h3)
def bolelaw09_block.lo : Nat → List Nat × List (Nat × Ty) := fun n => match n with | 3 => ([0, 3, 7], [(8, .int .i64)]) | _ => ([], [])
def bolelaw09_block.od : Nat → Od := fun n => match n with | _ => .nil
theorem bolelaw09_block.eq (x1 : Int) (K : Value → Heap → Prop) (h : Heap) : fnX (cx bolelaw09_block.lo bolelaw09_block.od) Tryz.f93 (Tryz.f93.body.getD .skip) [.int .u8 x1] K h = bolelaw09_block x1 K h := by kernel_rfl
theorem bolelaw09_block.chk : fnOk (cx bolelaw09_block.lo bolelaw09_block.od) Tryz.f93 (Tryz.f93.body.getD .skip) 1 = true := by kernel_rfl
theorem bolelaw09_block.ok {x1 : Int} {K : Value → Heap → Prop} {h : Heap} (hx : bolelaw09_block x1 K h) : C.bolelaw09_block x1 h K :=
  fn_to (cxOk _ _) Tryz.func93 (by kernel_rfl) bolelaw09_block.chk (by rw [bolelaw09_block.eq]; exact hx)
def boleref06_Txn_Write.k2 (t1 : Option Addr) (i1 : Int) (bA1 : Option Addr) (bL1 : Nat) (h5 : Heap) (K : Value → Heap → Prop) : Prop :=
  onSome t1 fun p3 =>
  ∃ (sA2 : Option Addr) (sL2 : Nat) (sC2 : Nat), cellOf h5 (Addr.add p3 1) = some (.slice sA2 sL2 sC2) ∧
  ∃ bs1 : List UInt8, StrAt h5 bA1 bL1 bs1 ∧
  List.length ([.int .i64 i1, .string (mkStr bs1)] : List Value) = 2 ∧
  New [.int .i64 i1, .string (mkStr bs1)] 190 h5 fun h6 =>
  (cellOf h6 (Addr.add p3 1) = some (.slice sA2 sL2 sC2)) ∧
  ∃ new1 : List Value, List.length new1 = 1 * 2 ∧ SlCells h6 (some ⟨h5.size, 0, none⟩) new1 ∧ (∀ v ∈ new1, v.oneCell' = true) ∧
  AppendP ti190 190 sA2 sL2 sC2 1 new1 h6 fun sA3 sL3 sC3 h7 =>
  onSome t1 fun p4 =>
  Put (Addr.add p4 1) (.slice sA3 sL3 sC3) h7 fun h8 =>
  K (.int .i64 0) h8
def boleref06_Txn_Write.k1 (t1 : Option Addr) (i1 : Int) (bA1 : Option Addr) (bL1 : Nat) (h3 : Heap) (K : Value → Heap → Prop) : Prop :=
  bif ((bL1 : Int) != 512) then (
  K (.int .i64 32) h3) else (
  C.boleref06_Txn_put t1 i1 h3 fun r2 h4 =>
  ∃ (n2 : Int), r2 = .int .i64 n2 ∧
  C.boleref06_Txn_Written t1 h4 fun r3 h5 =>
  ∃ (sA1 : Option Addr) (sL1 : Nat) (sC1 : Nat), r3 = .slice sA1 sL1 sC1 ∧
  bif (decide (n2 < 0)) then (
  bif (decide ((sL1 : Int) ≥ 96)) then (
  K (.int .i64 60) h5) else (
  boleref06_Txn_Write.k2 t1 i1 bA1 bL1 h5 K)) else (
  boleref06_Txn_Write.k2 t1 i1 bA1 bL1 h5 K))
def boleref06_Txn_Write (t1 : Option Addr) (i1 : Int) (bA1 : Option Addr) (bL1 : Nat) (bC1 : Nat) (K : Value → Heap → Prop) (h1 : Heap) : Prop :=
  onSome t1 fun p1 =>
  ∃ (b1 : Bool), cellOf h1 (Addr.add p1 2) = some (.bool b1) ∧
  bif b1 then (
  K (.int .i64 61) h1) else (
  bif (decide (i1 < 98)) then (
  K (.int .i64 31) h1) else (
  onSome t1 fun p2 =>
  ∃ (q1 : Option Addr), cellOf h1 (Addr.add p2 0) = some (.pointer q1) ∧
  C.boleref03_Disk_Blocks q1 h1 fun r1 h2 =>
  ∃ (n1 : Int), r1 = .int .i64 n1 ∧
  bif (decide (i1 ≥ n1)) then (
  K (.int .i64 31) h2) else (
  boleref06_Txn_Write.k1 t1 i1 bA1 bL1 h2 K)))
def boleref06_Txn_Write.lo : Nat → List Nat × List (Nat × Ty) := fun n => match n with | _ => ([], [])
def boleref06_Txn_Write.od : Nat → Od := fun n => match n with | 11 => (.op 0 [] (.op 1 [] (.op 2 [] (.op 3 [] (.op 4 [] (.op 5 [] (.op 6 [] (.op 7 [] (.op 8 [] (.op 9 [4] (.op 10 [] (.op 11 [] (.op 12 [] (.op 13 [] .nil)))))))))))))) | _ => .nil
theorem boleref06_Txn_Write.eq (t1 : Option Addr) (i1 : Int) (bA1 : Option Addr) (bL1 : Nat) (bC1 : Nat) (K : Value → Heap → Prop) (h : Heap) : fnX (cx boleref06_Txn_Write.lo boleref06_Txn_Write.od) Tryz.f94 (Tryz.f94.body.getD .skip) [.pointer t1, .int .i64 i1, .slice bA1 bL1 bC1] K h = boleref06_Txn_Write t1 i1 bA1 bL1 bC1 K h := by kernel_rfl
theorem boleref06_Txn_Write.chk : fnOk (cx boleref06_Txn_Write.lo boleref06_Txn_Write.od) Tryz.f94 (Tryz.f94.body.getD .skip) 3 = true := by kernel_rfl
theorem boleref06_Txn_Write.ok {t1 : Option Addr} {i1 : Int} {bA1 : Option Addr} {bL1 : Nat} {bC1 : Nat} {K : Value → Heap → Prop} {h : Heap} (hx : boleref06_Txn_Write t1 i1 bA1 bL1 bC1 K h) : C.boleref06_Txn_Write t1 i1 bA1 bL1 bC1 h K :=
  fn_to (cxOk _ _) Tryz.func94 (by kernel_rfl) boleref06_Txn_Write.chk (by rw [boleref06_Txn_Write.eq]; exact hx)
def bolelaw09_sameInts (aA1 : Option Addr) (aL1 : Nat) (aC1 : Nat) (bA1 : Option Addr) (bL1 : Nat) (bC1 : Nat) (K : Value → Heap → Prop) (h1 : Heap) : Prop :=
  bif ((aL1 : Int) != (bL1 : Int)) then (
  K (.bool false) h1) else (
  ∃ (I1 : Int → Heap → Prop) (M1 : Int → Heap → Nat), I1 0 h1 ∧
  ∀ (n1 : Int), ∀ h2 : Heap, I1 n1 h2 →
  bif (decide (n1 < (aL1 : Int))) then (
  (0 ≤ n1 ∧ n1 < (aL1 : Int)) ∧
  onSome aA1 fun p1 =>
  ∃ (n2 : Int), cellOf h2 (Addr.add p1 (Int.toNat n1)) = some (.int .i64 n2) ∧
  (0 ≤ n1 ∧ n1 < (bL1 : Int)) ∧
  onSome bA1 fun p2 =>
  ∃ (n3 : Int), cellOf h2 (Addr.add p2 (Int.toNat n1)) = some (.int .i64 n3) ∧
  bif (n2 != n3) then (
  K (.bool false) h2) else (
  I1 (IntKind.wrap .i64 (n1 + 1)) h2 ∧ M1 (IntKind.wrap .i64 (n1 + 1)) h2 < M1 n1 h2)) else (
  K (.bool true) h2))
def bolelaw09_sameInts.lo : Nat → List Nat × List (Nat × Ty) := fun n => match n with | 4 => ([0, 1, 12], [(13, .int .i64)]) | _ => ([], [])
def bolelaw09_sameInts.od : Nat → Od := fun n => match n with | 6 => (.op 0 [] (.op 1 [] (.op 2 [] (.op 3 [] (.op 4 [] (.op 5 [] (.op 6 [] (.op 7 [] (.op 8 [] .nil))))))))) | _ => .nil
theorem bolelaw09_sameInts.eq (aA1 : Option Addr) (aL1 : Nat) (aC1 : Nat) (bA1 : Option Addr) (bL1 : Nat) (bC1 : Nat) (K : Value → Heap → Prop) (h : Heap) : fnX (cx bolelaw09_sameInts.lo bolelaw09_sameInts.od) Tryz.f95 (Tryz.f95.body.getD .skip) [.slice aA1 aL1 aC1, .slice bA1 bL1 bC1] K h = bolelaw09_sameInts aA1 aL1 aC1 bA1 bL1 bC1 K h := by kernel_rfl
theorem bolelaw09_sameInts.chk : fnOk (cx bolelaw09_sameInts.lo bolelaw09_sameInts.od) Tryz.f95 (Tryz.f95.body.getD .skip) 2 = true := by kernel_rfl
theorem bolelaw09_sameInts.ok {aA1 : Option Addr} {aL1 : Nat} {aC1 : Nat} {bA1 : Option Addr} {bL1 : Nat} {bC1 : Nat} {K : Value → Heap → Prop} {h : Heap} (hx : bolelaw09_sameInts aA1 aL1 aC1 bA1 bL1 bC1 K h) : C.bolelaw09_sameInts aA1 aL1 aC1 bA1 bL1 bC1 h K :=
  fn_to (cxOk _ _) Tryz.func95 (by kernel_rfl) bolelaw09_sameInts.chk (by rw [bolelaw09_sameInts.eq]; exact hx)
end Go.Proofs.YtjdcbblgaoogmaaGreatDoor.W
namespace Go.Proofs.YtjdcbblgaoogmaaGreatDoor.W
open Go Go.Proofs Go.Proofs.YtjdcbblgaoogmaaGreatDoor.Wx
def wal_may (lA1 : Option Addr) (lL1 : Nat) (lC1 : Nat) (n1 : Int) (K : Value → Heap → Prop) (h1 : Heap) : Prop :=
  ∃ (I1 : Int → Int → Heap → Prop) (M1 : Int → Int → Heap → Nat), I1 97 0 h1 ∧
  ∀ (last1 : Int) (n2 : Int), ∀ h2 : Heap, I1 last1 n2 h2 →
  bif (decide (n2 < (lL1 : Int))) then (
  (0 ≤ n2 ∧ n2 < (lL1 : Int)) ∧
  onSome lA1 fun p1 =>
  ∃ cs1 : List Value, List.length cs1 = 2 ∧ Cells h2 (Addr.add p1 ((Int.toNat n2) * 2)) cs1 ∧
  NewRow z103 103 cs1 2 h2 fun h4 =>
  ∃ (n3 : Int), cellOf h4 (Addr.add ⟨h2.size, 0, none⟩ 0) = some (.int .i64 n3) ∧
  bif (decide (n3 ≤ last1)) then (
  K (.bool false) h4) else (
  ∃ (n4 : Int), cellOf h4 (Addr.add ⟨h2.size, 0, none⟩ 0) = some (.int .i64 n4) ∧
  bif (decide (n4 ≥ n1)) then (
  K (.bool false) h4) else (
  ∃ (n5 : Int), cellOf h4 (Addr.add ⟨h2.size, 0, none⟩ 0) = some (.int .i64 n5) ∧
  I1 n5 (IntKind.wrap .i64 (n2 + 1)) h4 ∧ M1 n5 (IntKind.wrap .i64 (n2 + 1)) h4 < M1 last1 n2 h2))) else (
  K (.bool (decide ((lL1 : Int) ≤ 96))) h2)
def wal_may.lo : Nat → List Nat × List (Nat × Ty) := fun n => match n with | 3 => ([0, 1, 8, 9], [(5, .int .i64), (10, .int .i64)]) | _ => ([], [])
def wal_may.od : Nat → Od := fun n => match n with | _ => .nil
theorem wal_may.eq (lA1 : Option Addr) (lL1 : Nat) (lC1 : Nat) (n1 : Int) (K : Value → Heap → Prop) (h : Heap) : fnX (cx wal_may.lo wal_may.od) Tryz.f107 (Tryz.f107.body.getD .skip) [.slice lA1 lL1 lC1, .int .i64 n1] K h = wal_may lA1 lL1 lC1 n1 K h := by kernel_rfl
theorem wal_may.chk : fnOk (cx wal_may.lo wal_may.od) Tryz.f107 (Tryz.f107.body.getD .skip) 2 = true := by kernel_rfl
theorem wal_may.ok {lA1 : Option Addr} {lL1 : Nat} {lC1 : Nat} {n1 : Int} {K : Value → Heap → Prop} {h : Heap} (hx : wal_may lA1 lL1 lC1 n1 K h) : C.wal_may lA1 lL1 lC1 n1 h K :=
  fn_to (cxOk _ _) Tryz.func107 (by kernel_rfl) wal_may.chk (by rw [wal_may.eq]; exact hx)
def adisk_Disk_Blocks (d1 : Option Addr) (K : Value → Heap → Prop) (h1 : Heap) : Prop :=
  onSome d1 fun p1 =>
  ∃ (sA1 : Option Addr) (sL1 : Nat) (sC1 : Nat), cellOf h1 (Addr.add p1 0) = some (.slice sA1 sL1 sC1) ∧
  K (.int .i64 (sL1 : Int)) h1
def adisk_Disk_Blocks.lo : Nat → List Nat × List (Nat × Ty) := fun n => match n with | _ => ([], [])
def adisk_Disk_Blocks.od : Nat → Od := fun n => match n with | _ => .nil
theorem adisk_Disk_Blocks.eq (d1 : Option Addr) (K : Value → Heap → Prop) (h : Heap) : fnX (cx adisk_Disk_Blocks.lo adisk_Disk_Blocks.od) Tryz.f108 (Tryz.f108.body.getD .skip) [.pointer d1] K h = adisk_Disk_Blocks d1 K h := by kernel_rfl
theorem adisk_Disk_Blocks.chk : fnOk (cx adisk_Disk_Blocks.lo adisk_Disk_Blocks.od) Tryz.f108 (Tryz.f108.body.getD .skip) 1 = true := by kernel_rfl
theorem adisk_Disk_Blocks.ok {d1 : Option Addr} {K : Value → Heap → Prop} {h : Heap} (hx : adisk_Disk_Blocks d1 K h) : C.adisk_Disk_Blocks d1 h K :=
  fn_to (cxOk _ _) Tryz.func108 (by kernel_rfl) adisk_Disk_Blocks.chk (by rw [adisk_Disk_Blocks.eq]; exact hx)
def head_Make (numsA1 : Option Addr) (numsL1 : Nat) (numsC1 : Nat) (dataA1 : Option Addr) (dataL1 : Nat) (dataC1 : Nat) (K : Value → Heap → Prop) (h1 : Heap) : Prop :=
  C.head_may numsA1 numsL1 numsC1 16384 h1 fun r1 h2 =>
  ∃ (b1 : Bool), r1 = .bool b1 ∧
  bif (!b1) then (
  K (.tuple #[.slice none 0 0, .int .i64 40]) h2) else (
  C.head_areBlocks dataA1 dataL1 dataC1 (numsL1 : Int) h2 fun r2 h3 =>
  ∃ (b2 : Bool), r2 = .bool b2 ∧
  bif (!b2) then (
  K (.tuple #[.slice none 0 0, .int .i64 32]) h3) else (
  C.head_Empty  h3 fun r3 h4 =>
  ∃ (sA1 : Option Addr) (sL1 : Nat) (sC1 : Nat), r3 = .slice sA1 sL1 sC1 ∧
  C.rec_PutText sA1 sL1 sC1 0 8 (mkStr [66, 79, 76, 69, 76, 79, 71, 49]) h4 fun r4 h5 =>
  ∃ (n1 : Int), r4 = .int .i64 n1 ∧
  C.rec_Put sA1 sL1 sC1 8 2 (IntKind.wrap .u64 ((numsL1 : Int))) h5 fun r5 h6 =>
  ∃ (n2 : Int), r5 = .int .i64 n2 ∧
  ∃ (I1 : Int → Heap → Prop) (M1 : Int → Heap → Nat), I1 0 h6 ∧
  ∀ (n3 : Int), ∀ h7 : Heap, I1 n3 h7 →
  bif (decide (n3 < (numsL1 : Int))) then (
  (0 ≤ n3 ∧ n3 < (numsL1 : Int)) ∧
  onSome numsA1 fun p1 =>
  ∃ (n4 : Int), cellOf h7 (Addr.add p1 (Int.toNat n3)) = some (.int .i64 n4) ∧
  C.rec_Put sA1 sL1 sC1 (IntKind.wrap .i64 (16 + (IntKind.wrap .i64 (4 * n3)))) 4 (IntKind.wrap .u64 (n4)) h7 fun r6 h8 =>
  ∃ (n5 : Int), r6 = .int .i64 n5 ∧
  I1 (IntKind.wrap .i64 (n3 + 1)) h8 ∧ M1 (IntKind.wrap .i64 (n3 + 1)) h8 < M1 n3 h7) else (
  C.head_sumOf sA1 sL1 sC1 dataA1 dataL1 dataC1 h7 fun r7 h9 =>
  ∃ (n6 : Int), r7 = .int .u32 n6 ∧
  C.rec_Put sA1 sL1 sC1 12 4 (IntKind.wrap .u64 (n6)) h9 fun r8 h10 =>
  ∃ (n7 : Int), r8 = .int .i64 n7 ∧
  K (.tuple #[.slice sA1 sL1 sC1, .int .i64 0]) h10)))
def head_Make.lo : Nat → List Nat × List (Nat × Ty) := fun n => match n with | 9 => ([1, 6, 27, 28], [(29, .int .i64)]) | _ => ([], [])
def head_Make.od : Nat → Od := fun n => match n with | _ => .nil
set_option maxRecDepth 1000000 in
theorem head_Make.eq (numsA1 : Option Addr) (numsL1 : Nat) (numsC1 : Nat) (dataA1 : Option Addr) (dataL1 : Nat) (dataC1 : Nat) (K : Value → Heap → Prop) (h : Heap) : fnX (cx head_Make.lo head_Make.od) Tryz.f109 (Tryz.f109.body.getD .skip) [.slice numsA1 numsL1 numsC1, .slice dataA1 dataL1 dataC1] K h = head_Make numsA1 numsL1 numsC1 dataA1 dataL1 dataC1 K h := by kernel_rfl
theorem head_Make.chk : fnOk (cx head_Make.lo head_Make.od) Tryz.f109 (Tryz.f109.body.getD .skip) 2 = true := by kernel_rfl
set_option maxRecDepth 1000000 in
theorem head_Make.ok {numsA1 : Option Addr} {numsL1 : Nat} {numsC1 : Nat} {dataA1 : Option Addr} {dataL1 : Nat} {dataC1 : Nat} {K : Value → Heap → Prop} {h : Heap} (hx : head_Make numsA1 numsL1 numsC1 dataA1 dataL1 dataC1 K h) : C.head_Make numsA1 numsL1 numsC1 dataA1 dataL1 dataC1 h K :=
  fn_to (cxOk _ _) Tryz.func109 (by kernel_rfl) head_Make.chk (by rw [head_Make.eq]; exact hx)
def wal_steps_write (s1 : Option Addr) (i1 : Int) (bA1 : Option Addr) (bL1 : Nat) (bC1 : Nat) (K : Value → Heap → Prop) (h1 : Heap) : Prop :=
  New [.int .i64 i1] 3 h1 fun h2 =>
  New [.slice bA1 bL1 bC1] 37 h2 fun h3 =>
  onSome s1 fun p1 =>
  ∃ (sA1 : Option Addr) (sL1 : Nat) (sC1 : Nat), cellOf h3 p1 = some (.slice sA1 sL1 sC1) ∧
  New [.func (.func 181) #[] ⟨[.pointer (some ⟨h1.size, 0, none⟩), .pointer (some ⟨h2.size, 0, none⟩)]⟩] 172 h3 fun h4 =>
  ∃ new1 : List Value, List.length new1 = 1 * 1 ∧ SlCells h4 (some ⟨h3.size, 0, none⟩) new1 ∧ (∀ v ∈ new1, v.oneCell' = true) ∧
  AppendP ti172 172 sA1 sL1 sC1 1 new1 h4 fun sA2 sL2 sC2 h5 =>
  onSome s1 fun p2 =>
  Put p2 (.slice sA2 sL2 sC2) h5 fun h6 =>
  K (.tuple #[]) h6
def wal_steps_write.lo : Nat → List Nat × List (Nat × Ty) := fun n => match n with | _ => ([], [])
def wal_steps_write.od : Nat → Od := fun n => match n with | _ => .nil
theorem wal_steps_write.eq (s1 : Option Addr) (i1 : Int) (bA1 : Option Addr) (bL1 : Nat) (bC1 : Nat) (K : Value → Heap → Prop) (h : Heap) : fnX (cx wal_steps_write.lo wal_steps_write.od) Tryz.f110 (Tryz.f110.body.getD .skip) [.pointer s1, .int .i64 i1, .slice bA1 bL1 bC1] K h = wal_steps_write s1 i1 bA1 bL1 bC1 K h := by kernel_rfl
theorem wal_steps_write.chk : fnOk (cx wal_steps_write.lo wal_steps_write.od) Tryz.f110 (Tryz.f110.body.getD .skip) 3 = true := by kernel_rfl
theorem wal_steps_write.ok {s1 : Option Addr} {i1 : Int} {bA1 : Option Addr} {bL1 : Nat} {bC1 : Nat} {K : Value → Heap → Prop} {h : Heap} (hx : wal_steps_write s1 i1 bA1 bL1 bC1 K h) : C.wal_steps_write s1 i1 bA1 bL1 bC1 h K :=
  fn_to (cxOk _ _) Tryz.func110 (by kernel_rfl) wal_steps_write.chk (by rw [wal_steps_write.eq]; exact hx)
def wal_steps_flush (s1 : Option Addr) (K : Value → Heap → Prop) (h1 : Heap) : Prop :=
  onSome s1 fun p1 =>
  ∃ (sA1 : Option Addr) (sL1 : Nat) (sC1 : Nat), cellOf h1 p1 = some (.slice sA1 sL1 sC1) ∧
  New [.func (.func 182) #[] ⟨[]⟩] 172 h1 fun h2 =>
  ∃ new1 : List Value, List.length new1 = 1 * 1 ∧ SlCells h2 (some ⟨h1.size, 0, none⟩) new1 ∧ (∀ v ∈ new1, v.oneCell' = true) ∧
  AppendP ti172 172 sA1 sL1 sC1 1 new1 h2 fun sA2 sL2 sC2 h3 =>
  onSome s1 fun p2 =>
  Put p2 (.slice sA2 sL2 sC2) h3 fun h4 =>
  K (.tuple #[]) h4
def wal_steps_flush.lo : Nat → List Nat × List (Nat × Ty) := fun n => match n with | _ => ([], [])
def wal_steps_flush.od : Nat → Od := fun n => match n with | _ => .nil
theorem wal_steps_flush.eq (s1 : Option Addr) (K : Value → Heap → Prop) (h : Heap) : fnX (cx wal_steps_flush.lo wal_steps_flush.od) Tryz.f111 (Tryz.f111.body.getD .skip) [.pointer s1] K h = wal_steps_flush s1 K h := by kernel_rfl
theorem wal_steps_flush.chk : fnOk (cx wal_steps_flush.lo wal_steps_flush.od) Tryz.f111 (Tryz.f111.body.getD .skip) 1 = true := by kernel_rfl
theorem wal_steps_flush.ok {s1 : Option Addr} {K : Value → Heap → Prop} {h : Heap} (hx : wal_steps_flush s1 K h) : C.wal_steps_flush s1 h K :=
  fn_to (cxOk _ _) Tryz.func111 (by kernel_rfl) wal_steps_flush.chk (by rw [wal_steps_flush.eq]; exact hx)
def wal_steps_home (s1 : Option Addr) (lA1 : Option Addr) (lL1 : Nat) (lC1 : Nat) (K : Value → Heap → Prop) (h1 : Heap) : Prop :=
  ∃ (I1 : Int → Heap → Prop) (M1 : Int → Heap → Nat), I1 0 h1 ∧
  ∀ (n1 : Int), ∀ h2 : Heap, I1 n1 h2 →
  bif (decide (n1 < (lL1 : Int))) then (
  (0 ≤ n1 ∧ n1 < (lL1 : Int)) ∧
  onSome lA1 fun p1 =>
  ∃ cs1 : List Value, List.length cs1 = 2 ∧ Cells h2 (Addr.add p1 ((Int.toNat n1) * 2)) cs1 ∧
  NewRow z103 103 cs1 2 h2 fun h4 =>
  ∃ (n2 : Int), cellOf h4 (Addr.add ⟨h2.size, 0, none⟩ 0) = some (.int .i64 n2) ∧
  ∃ (sA1 : Option Addr) (sL1 : Nat) (sC1 : Nat), cellOf h4 (Addr.add ⟨h2.size, 0, none⟩ 1) = some (.slice sA1 sL1 sC1) ∧
  C.wal_steps_write s1 n2 sA1 sL1 sC1 h4 fun r1 h5 =>
  r1 = .tuple #[] ∧
  I1 (IntKind.wrap .i64 (n1 + 1)) h5 ∧ M1 (IntKind.wrap .i64 (n1 + 1)) h5 < M1 n1 h2) else (
  C.wal_steps_flush s1 h2 fun r2 h6 =>
  r2 = .tuple #[] ∧
  C.head_Empty  h6 fun r3 h7 =>
  ∃ (sA2 : Option Addr) (sL2 : Nat) (sC2 : Nat), r3 = .slice sA2 sL2 sC2 ∧
  C.wal_steps_write s1 1 sA2 sL2 sC2 h7 fun r4 h8 =>
  r4 = .tuple #[] ∧
  C.wal_steps_flush s1 h8 fun r5 h9 =>
  r5 = .tuple #[] ∧
  K (.tuple #[]) h9)
def wal_steps_home.lo : Nat → List Nat × List (Nat × Ty) := fun n => match n with | 1 => ([0, 6, 7], [(8, .int .i64)]) | _ => ([], [])
def wal_steps_home.od : Nat → Od := fun n => match n with | _ => .nil
theorem wal_steps_home.eq (s1 : Option Addr) (lA1 : Option Addr) (lL1 : Nat) (lC1 : Nat) (K : Value → Heap → Prop) (h : Heap) : fnX (cx wal_steps_home.lo wal_steps_home.od) Tryz.f112 (Tryz.f112.body.getD .skip) [.pointer s1, .slice lA1 lL1 lC1] K h = wal_steps_home s1 lA1 lL1 lC1 K h := by kernel_rfl
theorem wal_steps_home.chk : fnOk (cx wal_steps_home.lo wal_steps_home.od) Tryz.f112 (Tryz.f112.body.getD .skip) 2 = true := by kernel_rfl
theorem wal_steps_home.ok {s1 : Option Addr} {lA1 : Option Addr} {lL1 : Nat} {lC1 : Nat} {K : Value → Heap → Prop} {h : Heap} (hx : wal_steps_home s1 lA1 lL1 lC1 K h) : C.wal_steps_home s1 lA1 lL1 lC1 h K :=
  fn_to (cxOk _ _) Tryz.func112 (by kernel_rfl) wal_steps_home.chk (by rw [wal_steps_home.eq]; exact hx)
def wal_steps_do (sA1 : Option Addr) (sL1 : Nat) (sC1 : Nat) (d1 : Option Addr) (K : Value → Heap → Prop) (h1 : Heap) : Prop :=
  ∃ (I1 : Int → Heap → Prop) (M1 : Int → Heap → Nat), I1 0 h1 ∧
  ∀ (n1 : Int), ∀ h2 : Heap, I1 n1 h2 →
  bif (decide (n1 < (sL1 : Int))) then (
  (0 ≤ n1 ∧ n1 < (sL1 : Int)) ∧
  onSome sA1 fun p1 =>
  ∃ (v1 : Value), cellOf h2 (Addr.add p1 (Int.toNat n1)) = some (v1) ∧
  HCallsV Tryz.prog v1 [.pointer d1] h2 fun r1 h3 =>
  ∃ (n2 : Int), r1 = .int .i64 n2 ∧
  bif (n2 != 0) then (
  K (.int .i64 n2) h3) else (
  I1 (IntKind.wrap .i64 (n1 + 1)) h3 ∧ M1 (IntKind.wrap .i64 (n1 + 1)) h3 < M1 n1 h2)) else (
  K (.int .i64 0) h2)
def wal_steps_do.lo : Nat → List Nat × List (Nat × Ty) := fun n => match n with | 2 => ([1, 8, 9], [(10, .int .i64)]) | _ => ([], [])
def wal_steps_do.od : Nat → Od := fun n => match n with | _ => .nil
theorem wal_steps_do.eq (sA1 : Option Addr) (sL1 : Nat) (sC1 : Nat) (d1 : Option Addr) (K : Value → Heap → Prop) (h : Heap) : fnX (cx wal_steps_do.lo wal_steps_do.od) Tryz.f113 (Tryz.f113.body.getD .skip) [.slice sA1 sL1 sC1, .pointer d1] K h = wal_steps_do sA1 sL1 sC1 d1 K h := by kernel_rfl
theorem wal_steps_do.chk : fnOk (cx wal_steps_do.lo wal_steps_do.od) Tryz.f113 (Tryz.f113.body.getD .skip) 2 = true := by kernel_rfl
theorem wal_steps_do.ok {sA1 : Option Addr} {sL1 : Nat} {sC1 : Nat} {d1 : Option Addr} {K : Value → Heap → Prop} {h : Heap} (hx : wal_steps_do sA1 sL1 sC1 d1 K h) : C.wal_steps_do sA1 sL1 sC1 d1 h K :=
  fn_to (cxOk _ _) Tryz.func113 (by kernel_rfl) wal_steps_do.chk (by rw [wal_steps_do.eq]; exact hx)
def adisk_Disk_has (d1 : Option Addr) (i1 : Int) (K : Value → Heap → Prop) (h1 : Heap) : Prop :=
  bif (decide (i1 ≥ 0)) then (
  onSome d1 fun p1 =>
  ∃ (sA1 : Option Addr) (sL1 : Nat) (sC1 : Nat), cellOf h1 (Addr.add p1 0) = some (.slice sA1 sL1 sC1) ∧
  K (.bool (decide (i1 < (sL1 : Int)))) h1) else (
  K (.bool false) h1)
def adisk_Disk_has.lo : Nat → List Nat × List (Nat × Ty) := fun n => match n with | _ => ([], [])
def adisk_Disk_has.od : Nat → Od := fun n => match n with | _ => .nil
theorem adisk_Disk_has.eq (d1 : Option Addr) (i1 : Int) (K : Value → Heap → Prop) (h : Heap) : fnX (cx adisk_Disk_has.lo adisk_Disk_has.od) Tryz.f114 (Tryz.f114.body.getD .skip) [.pointer d1, .int .i64 i1] K h = adisk_Disk_has d1 i1 K h := by kernel_rfl
theorem adisk_Disk_has.chk : fnOk (cx adisk_Disk_has.lo adisk_Disk_has.od) Tryz.f114 (Tryz.f114.body.getD .skip) 2 = true := by kernel_rfl
theorem adisk_Disk_has.ok {d1 : Option Addr} {i1 : Int} {K : Value → Heap → Prop} {h : Heap} (hx : adisk_Disk_has d1 i1 K h) : C.adisk_Disk_has d1 i1 h K :=
  fn_to (cxOk _ _) Tryz.func114 (by kernel_rfl) adisk_Disk_has.chk (by rw [adisk_Disk_has.eq]; exact hx)
def head_Empty  (K : Value → Heap → Prop) (h1 : Heap) : Prop :=
  (0 ≤ (512 : Int) ∧ (512 : Int) ≤ 512 ∧ (1 : Int) * 512 ≤ 281474976710656 ∧ (512 : Int) ≤ 281474976710656) ∧
  New (repCells z5 (Int.toNat 512)) 5 h1 fun h2 =>
  K (.slice (some ⟨h1.size, 0, none⟩) (Int.toNat 512) (Int.toNat 512)) h2
def head_Empty.lo : Nat → List Nat × List (Nat × Ty) := fun n => match n with | _ => ([], [])
def head_Empty.od : Nat → Od := fun n => match n with | _ => .nil
theorem head_Empty.eq  (K : Value → Heap → Prop) (h : Heap) : fnX (cx head_Empty.lo head_Empty.od) Tryz.f120 (Tryz.f120.body.getD .skip) [] K h = head_Empty  K h := by kernel_rfl
theorem head_Empty.chk : fnOk (cx head_Empty.lo head_Empty.od) Tryz.f120 (Tryz.f120.body.getD .skip) 0 = true := by kernel_rfl
theorem head_Empty.ok  {K : Value → Heap → Prop} {h : Heap} (hx : head_Empty  K h) : C.head_Empty  h K :=
  fn_to (cxOk _ _) Tryz.func120 (by kernel_rfl) head_Empty.chk (by rw [head_Empty.eq]; exact hx)
def boleref03_Disk_Blocks (d1 : Option Addr) (K : Value → Heap → Prop) (h1 : Heap) : Prop :=
  onSome d1 fun p1 =>
  ∃ (sA1 : Option Addr) (sL1 : Nat) (sC1 : Nat), cellOf h1 (Addr.add p1 0) = some (.slice sA1 sL1 sC1) ∧
  K (.int .i64 (IntKind.wrap .i64 (Int.tdiv (sL1 : Int) 512))) h1
def boleref03_Disk_Blocks.lo : Nat → List Nat × List (Nat × Ty) := fun n => match n with | _ => ([], [])
def boleref03_Disk_Blocks.od : Nat → Od := fun n => match n with | _ => .nil
theorem boleref03_Disk_Blocks.eq (d1 : Option Addr) (K : Value → Heap → Prop) (h : Heap) : fnX (cx boleref03_Disk_Blocks.lo boleref03_Disk_Blocks.od) Tryz.f121 (Tryz.f121.body.getD .skip) [.pointer d1] K h = boleref03_Disk_Blocks d1 K h := by kernel_rfl
theorem boleref03_Disk_Blocks.chk : fnOk (cx boleref03_Disk_Blocks.lo boleref03_Disk_Blocks.od) Tryz.f121 (Tryz.f121.body.getD .skip) 1 = true := by kernel_rfl
theorem boleref03_Disk_Blocks.ok {d1 : Option Addr} {K : Value → Heap → Prop} {h : Heap} (hx : boleref03_Disk_Blocks d1 K h) : C.boleref03_Disk_Blocks d1 h K :=
  fn_to (cxOk _ _) Tryz.func121 (by kernel_rfl) boleref03_Disk_Blocks.chk (by rw [boleref03_Disk_Blocks.eq]; exact hx)
end Go.Proofs.YtjdcbblgaoogmaaGreatDoor.W
namespace Go.Proofs.YtjdcbblgaoogmaaGreatDoor.W
open Go Go.Proofs Go.Proofs.YtjdcbblgaoogmaaGreatDoor.Wx
def boleref03_fault (blocks1 : Int) (a1 : List Value) (K : Value → Heap → Prop) (h1 : Heap) : Prop :=
  New a1 122 h1 fun h2 =>
  ∃ (n1 : Int), cellOf h2 (Addr.add ⟨h1.size, 0, none⟩ 0) = some (.int .i64 n1) ∧
  bif (n1 == 2) then (
  K (.int .i64 0) h2) else (
  bif (n1 == 1) then (
  ∃ (n2 : Int), cellOf h2 (Addr.add ⟨h1.size, 0, none⟩ 1) = some (.int .i64 n2) ∧
  bif (decide (n2 < 0)) then (
  K (.int .i64 31) h2) else (
  ∃ (n3 : Int), cellOf h2 (Addr.add ⟨h1.size, 0, none⟩ 1) = some (.int .i64 n3) ∧
  bif (decide (n3 ≥ blocks1)) then (
  K (.int .i64 31) h2) else (
  ∃ (sA1 : Option Addr) (sL1 : Nat) (sC1 : Nat), cellOf h2 (Addr.add ⟨h1.size, 0, none⟩ 2) = some (.slice sA1 sL1 sC1) ∧
  bif ((sL1 : Int) != 512) then (
  K (.int .i64 32) h2) else (
  K (.int .i64 0) h2)))) else (
  K (.int .i64 1) h2))
def boleref03_fault.lo : Nat → List Nat × List (Nat × Ty) := fun n => match n with | _ => ([], [])
def boleref03_fault.od : Nat → Od := fun n => match n with | _ => .nil
theorem boleref03_fault.eq (blocks1 : Int) (a1 : List Value) (K : Value → Heap → Prop) (h : Heap) : fnX (cx boleref03_fault.lo boleref03_fault.od) Tryz.f128 (Tryz.f128.body.getD .skip) [.int .i64 blocks1, .agg ⟨a1⟩] K h = boleref03_fault blocks1 a1 K h := by kernel_rfl
theorem boleref03_fault.chk : fnOk (cx boleref03_fault.lo boleref03_fault.od) Tryz.f128 (Tryz.f128.body.getD .skip) 2 = true := by kernel_rfl
theorem boleref03_fault.ok {blocks1 : Int} {a1 : List Value} {K : Value → Heap → Prop} {h : Heap} (hx : boleref03_fault blocks1 a1 K h) : C.boleref03_fault blocks1 a1 h K :=
  fn_to (cxOk _ _) Tryz.func128 (by kernel_rfl) boleref03_fault.chk (by rw [boleref03_fault.eq]; exact hx)
def boleref03_Disk_goes (d1 : Option Addr) (K : Value → Heap → Prop) (h1 : Heap) : Prop :=
  onSome d1 fun p1 =>
  ∃ (n1 : Int), cellOf h1 (Addr.add p1 3) = some (.int .i64 n1) ∧
  bif (n1 == 0) then (
  K (.bool false) h1) else (
  onSome d1 fun p2 =>
  ∃ (n2 : Int), cellOf h1 (Addr.add p2 3) = some (.int .i64 n2) ∧
  onSome d1 fun p3 =>
  Put (Addr.add p3 3) (.int .i64 (IntKind.wrap .i64 (n2 - 1))) h1 fun h2 =>
  onSome d1 fun p4 =>
  ∃ (n3 : Int), cellOf h2 (Addr.add p4 3) = some (.int .i64 n3) ∧
  onSome d1 fun p5 =>
  Put (Addr.add p5 4) (.bool (n3 == 0)) h2 fun h3 =>
  onSome d1 fun p6 =>
  ∃ (b1 : Bool), cellOf h3 (Addr.add p6 4) = some (.bool b1) ∧
  K (.bool b1) h3)
def boleref03_Disk_goes.lo : Nat → List Nat × List (Nat × Ty) := fun n => match n with | _ => ([], [])
def boleref03_Disk_goes.od : Nat → Od := fun n => match n with | _ => .nil
theorem boleref03_Disk_goes.eq (d1 : Option Addr) (K : Value → Heap → Prop) (h : Heap) : fnX (cx boleref03_Disk_goes.lo boleref03_Disk_goes.od) Tryz.f129 (Tryz.f129.body.getD .skip) [.pointer d1] K h = boleref03_Disk_goes d1 K h := by kernel_rfl
theorem boleref03_Disk_goes.chk : fnOk (cx boleref03_Disk_goes.lo boleref03_Disk_goes.od) Tryz.f129 (Tryz.f129.body.getD .skip) 1 = true := by kernel_rfl
theorem boleref03_Disk_goes.ok {d1 : Option Addr} {K : Value → Heap → Prop} {h : Heap} (hx : boleref03_Disk_goes d1 K h) : C.boleref03_Disk_goes d1 h K :=
  fn_to (cxOk _ _) Tryz.func129 (by kernel_rfl) boleref03_Disk_goes.chk (by rw [boleref03_Disk_goes.eq]; exact hx)
def adisk_Disk_step (d1 : Option Addr) (done1 : Value) (K : Value → Heap → Prop) (h1 : Heap) : Prop :=
  onSome d1 fun p1 =>
  ∃ (n1 : Int), cellOf h1 (Addr.add p1 2) = some (.int .i64 n1) ∧
  bif (decide (n1 > 0)) then (
  onSome d1 fun p2 =>
  ∃ (n2 : Int), cellOf h1 (Addr.add p2 2) = some (.int .i64 n2) ∧
  onSome d1 fun p3 =>
  Put (Addr.add p3 2) (.int .i64 (IntKind.wrap .i64 (n2 - 1))) h1 fun h2 =>
  onSome d1 fun p4 =>
  ∃ (n3 : Int), cellOf h2 (Addr.add p4 2) = some (.int .i64 n3) ∧
  bif (n3 == 0) then (
  onSome d1 fun p5 =>
  ∃ (sA1 : Option Addr) (sL1 : Nat) (sC1 : Nat), cellOf h2 (Addr.add p5 3) = some (.slice sA1 sL1 sC1) ∧
  C.adisk_Disk_cut d1 sA1 sL1 sC1 h2 fun r1 h3 =>
  r1 = .tuple #[] ∧
  K (.int .i64 30) h3) else (
  isFnV done1 = true ∧
  bif (!(isNilFn done1)) then (
  HCallsV Tryz.prog done1 [] h2 fun r2 h4 =>
  r2 = .tuple #[] ∧
  K (.int .i64 0) h4) else (
  K (.int .i64 0) h2))) else (
  isFnV done1 = true ∧
  bif (!(isNilFn done1)) then (
  HCallsV Tryz.prog done1 [] h1 fun r3 h5 =>
  r3 = .tuple #[] ∧
  K (.int .i64 0) h5) else (
  K (.int .i64 0) h1))
def adisk_Disk_step.lo : Nat → List Nat × List (Nat × Ty) := fun n => match n with | _ => ([], [])
def adisk_Disk_step.od : Nat → Od := fun n => match n with | _ => .nil
theorem adisk_Disk_step.eq (d1 : Option Addr) (done1 : Value) (K : Value → Heap → Prop) (h : Heap) : fnX (cx adisk_Disk_step.lo adisk_Disk_step.od) Tryz.f130 (Tryz.f130.body.getD .skip) [.pointer d1, done1] K h = adisk_Disk_step d1 done1 K h := by kernel_rfl
theorem adisk_Disk_step.chk : fnOk (cx adisk_Disk_step.lo adisk_Disk_step.od) Tryz.f130 (Tryz.f130.body.getD .skip) 2 = true := by kernel_rfl
theorem adisk_Disk_step.ok {d1 : Option Addr} {done1 : Value} {K : Value → Heap → Prop} {h : Heap} (hx : adisk_Disk_step d1 done1 K h) : C.adisk_Disk_step d1 done1 h K :=
  fn_to (cxOk _ _) Tryz.func130 (by kernel_rfl) adisk_Disk_step.chk (by rw [adisk_Disk_step.eq]; exact hx)
def adisk_Disk_Flush_c1 (cap1 : Option Addr) (K : Value → Heap → Prop) (h1 : Heap) : Prop :=
  onSome cap1 fun p1 =>
  ∃ (q1 : Option Addr), cellOf h1 p1 = some (.pointer q1) ∧
  onSome q1 fun p2 =>
  ∃ (sA1 : Option Addr) (sL1 : Nat) (sC1 : Nat), cellOf h1 (Addr.add p2 1) = some (.slice sA1 sL1 sC1) ∧
  ∃ (I1 : Int → Heap → Prop) (M1 : Int → Heap → Nat), I1 0 h1 ∧
  ∀ (n1 : Int), ∀ h2 : Heap, I1 n1 h2 →
  bif (decide (n1 < (sL1 : Int))) then (
  (0 ≤ n1 ∧ n1 < (sL1 : Int)) ∧
  onSome sA1 fun p3 =>
  ∃ cs1 : List Value, List.length cs1 = 513 ∧ Cells h2 (Addr.add p3 ((Int.toNat n1) * 513)) cs1 ∧
  NewRow z174 174 cs1 513 h2 fun h4 =>
  onSome cap1 fun p4 =>
  ∃ (q2 : Option Addr), cellOf h4 p4 = some (.pointer q2) ∧
  onSome q2 fun p5 =>
  ∃ (sA2 : Option Addr) (sL2 : Nat) (sC2 : Nat), cellOf h4 (Addr.add p5 0) = some (.slice sA2 sL2 sC2) ∧
  ∃ (n2 : Int), cellOf h4 (Addr.add ⟨h2.size, 0, none⟩ 0) = some (.int .i64 n2) ∧
  ∃ cs2 : List Value, List.length cs2 = 512 ∧ Cells h4 (Addr.add ⟨h2.size, 0, none⟩ 1) cs2 ∧
  (0 ≤ n2 ∧ n2 < (sL2 : Int)) ∧
  onSome sA2 fun p6 =>
  PutRow (Addr.add p6 ((Int.toNat n2) * 512)) cs2 512 h4 fun h5 =>
  I1 (IntKind.wrap .i64 (n1 + 1)) h5 ∧ M1 (IntKind.wrap .i64 (n1 + 1)) h5 < M1 n1 h2) else (
  onSome cap1 fun p7 =>
  ∃ (q3 : Option Addr), cellOf h2 p7 = some (.pointer q3) ∧
  onSome q3 fun p8 =>
  Put (Addr.add p8 1) (.slice none 0 0) h2 fun h6 =>
  onSome cap1 fun p9 =>
  ∃ (q4 : Option Addr), cellOf h6 p9 = some (.pointer q4) ∧
  onSome cap1 fun p10 =>
  ∃ (q5 : Option Addr), cellOf h6 p10 = some (.pointer q5) ∧
  onSome q5 fun p11 =>
  ∃ (sA3 : Option Addr) (sL3 : Nat) (sC3 : Nat), cellOf h6 (Addr.add p11 7) = some (.slice sA3 sL3 sC3) ∧
  List.length ([.int .i64 2, .int .i64 0, .slice none 0 0] : List Value) = 3 ∧
  New [.int .i64 2, .int .i64 0, .slice none 0 0] 122 h6 fun h7 =>
  (onSome cap1 fun p12 => cellOf h7 p12 = some (.pointer q4)) ∧
  (onSome cap1 fun p13 => cellOf h7 p13 = some (.pointer q5)) ∧
  (cellOf h7 (Addr.add p11 7) = some (.slice sA3 sL3 sC3)) ∧
  ∃ new1 : List Value, List.length new1 = 1 * 3 ∧ SlCells h7 (some ⟨h6.size, 0, none⟩) new1 ∧ (∀ v ∈ new1, v.oneCell' = true) ∧
  AppendP ti122 122 sA3 sL3 sC3 1 new1 h7 fun sA4 sL4 sC4 h8 =>
  (onSome cap1 fun p14 => cellOf h8 p14 = some (.pointer q4)) ∧
  onSome q4 fun p15 =>
  Put (Addr.add p15 7) (.slice sA4 sL4 sC4) h8 fun h9 =>
  K (.tuple #[]) h9)
def adisk_Disk_Flush_c1.lo : Nat → List Nat × List (Nat × Ty) := fun n => match n with | 1 => ([0, 6, 7], [(8, .int .i64)]) | _ => ([], [])
def adisk_Disk_Flush_c1.od : Nat → Od := fun n => match n with | 3 => (.op 0 [] (.op 1 [] (.op 2 [] (.op 3 [] (.op 4 [] (.op 5 [] (.op 6 [] (.op 7 [] (.op 8 [] (.op 9 [] .nil)))))))))) | 6 => (.op 0 [] (.op 1 [] (.op 2 [] (.op 3 [] (.op 4 [] (.op 5 [] (.op 6 [0, 1, 4] (.op 7 [0] (.op 8 [] (.op 9 [] (.op 10 [] .nil))))))))))) | _ => .nil
theorem adisk_Disk_Flush_c1.eq (cap1 : Option Addr) (K : Value → Heap → Prop) (h : Heap) : fnX (cx adisk_Disk_Flush_c1.lo adisk_Disk_Flush_c1.od) Tryz.f131 (Tryz.f131.body.getD .skip) [.pointer cap1] K h = adisk_Disk_Flush_c1 cap1 K h := by kernel_rfl
theorem adisk_Disk_Flush_c1.chk : fnOk (cx adisk_Disk_Flush_c1.lo adisk_Disk_Flush_c1.od) Tryz.f131 (Tryz.f131.body.getD .skip) 1 = true := by kernel_rfl
theorem adisk_Disk_Flush_c1.ok {cap1 : Option Addr} {K : Value → Heap → Prop} {h : Heap} (hx : adisk_Disk_Flush_c1 cap1 K h) : C.adisk_Disk_Flush_c1 cap1 h K :=
  fn_to (cxOk _ _) Tryz.func131 (by kernel_rfl) adisk_Disk_Flush_c1.chk (by rw [adisk_Disk_Flush_c1.eq]; exact hx)
def boleref03_marks (lA1 : Option Addr) (lL1 : Nat) (lC1 : Nat) (K : Value → Heap → Prop) (h1 : Heap) : Prop :=
  ∃ new1 : List Value, List.length new1 = lL1 * 1 ∧ SlCells h1 lA1 new1 ∧ (∀ v ∈ new1, v.oneCell' = true) ∧
  AppendP ti4 4 none 0 0 lL1 new1 h1 fun sA1 sL1 sC1 h2 =>
  K (.slice sA1 sL1 sC1) h2
def boleref03_marks.lo : Nat → List Nat × List (Nat × Ty) := fun n => match n with | _ => ([], [])
def boleref03_marks.od : Nat → Od := fun n => match n with | _ => .nil
theorem boleref03_marks.eq (lA1 : Option Addr) (lL1 : Nat) (lC1 : Nat) (K : Value → Heap → Prop) (h : Heap) : fnX (cx boleref03_marks.lo boleref03_marks.od) Tryz.f132 (Tryz.f132.body.getD .skip) [.slice lA1 lL1 lC1] K h = boleref03_marks lA1 lL1 lC1 K h := by kernel_rfl
theorem boleref03_marks.chk : fnOk (cx boleref03_marks.lo boleref03_marks.od) Tryz.f132 (Tryz.f132.body.getD .skip) 1 = true := by kernel_rfl
theorem boleref03_marks.ok {lA1 : Option Addr} {lL1 : Nat} {lC1 : Nat} {K : Value → Heap → Prop} {h : Heap} (hx : boleref03_marks lA1 lL1 lC1 K h) : C.boleref03_marks lA1 lL1 lC1 h K :=
  fn_to (cxOk _ _) Tryz.func132 (by kernel_rfl) boleref03_marks.chk (by rw [boleref03_marks.eq]; exact hx)
def adisk_Disk_cut (d1 : Option Addr) (keepA1 : Option Addr) (keepL1 : Nat) (keepC1 : Nat) (K : Value → Heap → Prop) (h1 : Heap) : Prop :=
  onSome d1 fun p1 =>
  ∃ (sA1 : Option Addr) (sL1 : Nat) (sC1 : Nat), cellOf h1 (Addr.add p1 1) = some (.slice sA1 sL1 sC1) ∧
  ∃ (I1 : Int → Heap → Prop) (M1 : Int → Heap → Nat), I1 0 h1 ∧
  ∀ (n1 : Int), ∀ h2 : Heap, I1 n1 h2 →
  bif (decide (n1 < (if (sL1 : Int) < (keepL1 : Int) then (sL1 : Int) else (keepL1 : Int)))) then (
  onSome d1 fun p2 =>
  ∃ (sA2 : Option Addr) (sL2 : Nat) (sC2 : Nat), cellOf h2 (Addr.add p2 1) = some (.slice sA2 sL2 sC2) ∧
  (0 ≤ n1 ∧ n1 < (sL2 : Int)) ∧
  onSome sA2 fun p3 =>
  ∃ cs1 : List Value, List.length cs1 = 513 ∧ Cells h2 (Addr.add p3 ((Int.toNat n1) * 513)) cs1 ∧
  NewRow z174 174 cs1 513 h2 fun h4 =>
  (0 ≤ n1 ∧ n1 < (keepL1 : Int)) ∧
  onSome keepA1 fun p4 =>
  ∃ (b1 : Bool), cellOf h4 (Addr.add p4 (Int.toNat n1)) = some (.bool b1) ∧
  bif b1 then (
  onSome d1 fun p5 =>
  ∃ (sA3 : Option Addr) (sL3 : Nat) (sC3 : Nat), cellOf h4 (Addr.add p5 0) = some (.slice sA3 sL3 sC3) ∧
  ∃ (n2 : Int), cellOf h4 (Addr.add ⟨h2.size, 0, none⟩ 0) = some (.int .i64 n2) ∧
  ∃ cs2 : List Value, List.length cs2 = 512 ∧ Cells h4 (Addr.add ⟨h2.size, 0, none⟩ 1) cs2 ∧
  (0 ≤ n2 ∧ n2 < (sL3 : Int)) ∧
  onSome sA3 fun p6 =>
  PutRow (Addr.add p6 ((Int.toNat n2) * 512)) cs2 512 h4 fun h5 =>
  I1 (IntKind.wrap .i64 (n1 + 1)) h5 ∧ M1 (IntKind.wrap .i64 (n1 + 1)) h5 < M1 n1 h2) else (
  I1 (IntKind.wrap .i64 (n1 + 1)) h4 ∧ M1 (IntKind.wrap .i64 (n1 + 1)) h4 < M1 n1 h2)) else (
  onSome d1 fun p7 =>
  Put (Addr.add p7 1) (.slice none 0 0) h2 fun h6 =>
  onSome d1 fun p8 =>
  Put (Addr.add p8 3) (.slice none 0 0) h6 fun h7 =>
  onSome d1 fun p9 =>
  Put (Addr.add p9 2) (.int .i64 0) h7 fun h8 =>
  onSome d1 fun p10 =>
  Put (Addr.add p10 4) (.bool true) h8 fun h9 =>
  K (.tuple #[]) h9)
def adisk_Disk_cut.lo : Nat → List Nat × List (Nat × Ty) := fun n => match n with | 1 => ([0, 1, 13], [(14, .int .i64)]) | _ => ([], [])
def adisk_Disk_cut.od : Nat → Od := fun n => match n with | 5 => (.op 0 [] (.op 1 [] (.op 2 [] (.op 3 [] (.op 4 [] (.op 5 [] (.op 6 [] (.op 7 [] (.op 8 [] (.op 9 [] .nil)))))))))) | _ => .nil
theorem adisk_Disk_cut.eq (d1 : Option Addr) (keepA1 : Option Addr) (keepL1 : Nat) (keepC1 : Nat) (K : Value → Heap → Prop) (h : Heap) : fnX (cx adisk_Disk_cut.lo adisk_Disk_cut.od) Tryz.f134 (Tryz.f134.body.getD .skip) [.pointer d1, .slice keepA1 keepL1 keepC1] K h = adisk_Disk_cut d1 keepA1 keepL1 keepC1 K h := by kernel_rfl
theorem adisk_Disk_cut.chk : fnOk (cx adisk_Disk_cut.lo adisk_Disk_cut.od) Tryz.f134 (Tryz.f134.body.getD .skip) 2 = true := by kernel_rfl
theorem adisk_Disk_cut.ok {d1 : Option Addr} {keepA1 : Option Addr} {keepL1 : Nat} {keepC1 : Nat} {K : Value → Heap → Prop} {h : Heap} (hx : adisk_Disk_cut d1 keepA1 keepL1 keepC1 K h) : C.adisk_Disk_cut d1 keepA1 keepL1 keepC1 h K :=
  fn_to (cxOk _ _) Tryz.func134 (by kernel_rfl) adisk_Disk_cut.chk (by rw [adisk_Disk_cut.eq]; exact hx)
def txn_Txn_end (t1 : Option Addr) (K : Value → Heap → Prop) (h1 : Heap) : Prop :=
  onSome t1 fun p1 =>
  Put (Addr.add p1 1) (.map none) h1 fun h2 =>
  onSome t1 fun p2 =>
  Put (Addr.add p2 2) (.slice none 0 0) h2 fun h3 =>
  onSome t1 fun p3 =>
  Put (Addr.add p3 3) (.bool true) h3 fun h4 =>
  K (.tuple #[]) h4
def txn_Txn_end.lo : Nat → List Nat × List (Nat × Ty) := fun n => match n with | _ => ([], [])
def txn_Txn_end.od : Nat → Od := fun n => match n with | _ => .nil
theorem txn_Txn_end.eq (t1 : Option Addr) (K : Value → Heap → Prop) (h : Heap) : fnX (cx txn_Txn_end.lo txn_Txn_end.od) Tryz.f137 (Tryz.f137.body.getD .skip) [.pointer t1] K h = txn_Txn_end t1 K h := by kernel_rfl
theorem txn_Txn_end.chk : fnOk (cx txn_Txn_end.lo txn_Txn_end.od) Tryz.f137 (Tryz.f137.body.getD .skip) 1 = true := by kernel_rfl
theorem txn_Txn_end.ok {t1 : Option Addr} {K : Value → Heap → Prop} {h : Heap} (hx : txn_Txn_end t1 K h) : C.txn_Txn_end t1 h K :=
  fn_to (cxOk _ _) Tryz.func137 (by kernel_rfl) txn_Txn_end.chk (by rw [txn_Txn_end.eq]; exact hx)
theorem txn_Txn_end.chkD : fnOkD (cx txn_Txn_end.lo txn_Txn_end.od) Tryz.f137 (Tryz.f137.body.getD .skip) 1 = true := by kernel_rfl
theorem txn_Txn_end.okD {t1 : Option Addr} {K : Heap → Prop} {h : Heap} (hx : txn_Txn_end t1 (fun _ h' => K h') h) : D.txn_Txn_end t1 h K :=
  fnD_to (cxOk _ _) Tryz.func137 (by kernel_rfl) txn_Txn_end.chkD (by rw [txn_Txn_end.eq]; exact hx)
def boleref06_Txn_put (t1 : Option Addr) (i1 : Int) (K : Value → Heap → Prop) (h1 : Heap) : Prop :=
  ∃ (I1 : Int → Int → Heap → Prop) (M1 : Int → Int → Heap → Nat), I1 (-1) 0 h1 ∧
  ∀ (at1 : Int) (k1 : Int), ∀ h2 : Heap, I1 at1 k1 h2 →
  onSome t1 fun p1 =>
  ∃ (sA1 : Option Addr) (sL1 : Nat) (sC1 : Nat), cellOf h2 (Addr.add p1 1) = some (.slice sA1 sL1 sC1) ∧
  bif (decide (k1 < (sL1 : Int))) then (
  onSome t1 fun p2 =>
  ∃ (sA2 : Option Addr) (sL2 : Nat) (sC2 : Nat), cellOf h2 (Addr.add p2 1) = some (.slice sA2 sL2 sC2) ∧
  (0 ≤ k1 ∧ k1 < (sL2 : Int)) ∧
  onSome sA2 fun p3 =>
  ∃ (n1 : Int), cellOf h2 (Addr.add (Addr.add p3 ((Int.toNat k1) * 2)) 0) = some (.int .i64 n1) ∧
  bif (n1 == i1) then (
  I1 k1 (IntKind.wrap .i64 (k1 + 1)) h2 ∧ M1 k1 (IntKind.wrap .i64 (k1 + 1)) h2 < M1 at1 k1 h2) else (
  I1 at1 (IntKind.wrap .i64 (k1 + 1)) h2 ∧ M1 at1 (IntKind.wrap .i64 (k1 + 1)) h2 < M1 at1 k1 h2)) else (
  K (.int .i64 at1) h2)
def boleref06_Txn_put.lo : Nat → List Nat × List (Nat × Ty) := fun n => match n with | 3 => ([0, 1], [(5, .int .i64), (6, .int .i64)]) | _ => ([], [])
def boleref06_Txn_put.od : Nat → Od := fun n => match n with | _ => .nil
theorem boleref06_Txn_put.eq (t1 : Option Addr) (i1 : Int) (K : Value → Heap → Prop) (h : Heap) : fnX (cx boleref06_Txn_put.lo boleref06_Txn_put.od) Tryz.f138 (Tryz.f138.body.getD .skip) [.pointer t1, .int .i64 i1] K h = boleref06_Txn_put t1 i1 K h := by kernel_rfl
theorem boleref06_Txn_put.chk : fnOk (cx boleref06_Txn_put.lo boleref06_Txn_put.od) Tryz.f138 (Tryz.f138.body.getD .skip) 2 = true := by kernel_rfl
theorem boleref06_Txn_put.ok {t1 : Option Addr} {i1 : Int} {K : Value → Heap → Prop} {h : Heap} (hx : boleref06_Txn_put t1 i1 K h) : C.boleref06_Txn_put t1 i1 h K :=
  fn_to (cxOk _ _) Tryz.func138 (by kernel_rfl) boleref06_Txn_put.chk (by rw [boleref06_Txn_put.eq]; exact hx)
def boleref06_Commit (d1 : Option Addr) (lA1 : Option Addr) (lL1 : Nat) (lC1 : Nat) (K : Value → Heap → Prop) (h1 : Heap) : Prop :=
  bif ((lL1 : Int) == 0) then (
  K (.int .i64 0) h1) else (
  NewRow z122 122 [.int .i64 2, .int .i64 0, .slice none 0 0] 3 h1 fun h3 =>
  ∃ (I1 : Option Addr → Nat → Nat → Int → Heap → Prop) (M1 : Option Addr → Nat → Nat → Int → Heap → Nat), I1 none 0 0 0 h3 ∧
  ∀ (stepsA1 : Option Addr) (stepsL1 : Nat) (stepsC1 : Nat) (n1 : Int), ∀ h4 : Heap, I1 stepsA1 stepsL1 stepsC1 n1 h4 →
  bif (decide (n1 < (lL1 : Int))) then (
  (0 ≤ n1 ∧ n1 < (lL1 : Int)) ∧
  onSome lA1 fun p1 =>
  ∃ cs1 : List Value, List.length cs1 = 2 ∧ Cells h4 (Addr.add p1 ((Int.toNat n1) * 2)) cs1 ∧
  NewRow z103 103 cs1 2 h4 fun h6 =>
  ∃ (sA1 : Option Addr) (sL1 : Nat) (sC1 : Nat), cellOf h6 (Addr.add ⟨h4.size, 0, none⟩ 1) = some (.slice sA1 sL1 sC1) ∧
  List.length ([.int .i64 1, .int .i64 (IntKind.wrap .i64 (2 + n1)), .slice sA1 sL1 sC1] : List Value) = 3 ∧
  New [.int .i64 1, .int .i64 (IntKind.wrap .i64 (2 + n1)), .slice sA1 sL1 sC1] 122 h6 fun h7 =>
  ∃ new1 : List Value, List.length new1 = 1 * 3 ∧ SlCells h7 (some ⟨h6.size, 0, none⟩) new1 ∧ (∀ v ∈ new1, v.oneCell' = true) ∧
  AppendP ti122 122 stepsA1 stepsL1 stepsC1 1 new1 h7 fun sA2 sL2 sC2 h8 =>
  I1 sA2 sL2 sC2 (IntKind.wrap .i64 (n1 + 1)) h8 ∧ M1 sA2 sL2 sC2 (IntKind.wrap .i64 (n1 + 1)) h8 < M1 stepsA1 stepsL1 stepsC1 n1 h4) else (
  ∃ cs2 : List Value, List.length cs2 = 3 ∧ Cells h4 ⟨h1.size, 0, none⟩ cs2 ∧
  ∃ cs3 : List Value, List.length cs3 = 3 ∧ Cells h4 ⟨h1.size, 0, none⟩ cs3 ∧
  C.boleref06_Header lA1 lL1 lC1 h4 fun r1 h9 =>
  ∃ (sA3 : Option Addr) (sL3 : Nat) (sC3 : Nat), r1 = .slice sA3 sL3 sC3 ∧
  (List.length (cs2 : List Value) = 3 ∧ Cells h9 ⟨h1.size, 0, none⟩ cs2) ∧
  (List.length (cs3 : List Value) = 3 ∧ Cells h9 ⟨h1.size, 0, none⟩ cs3) ∧
  List.length (cs2 : List Value) = 3 ∧
  List.length ([.int .i64 1, .int .i64 1, .slice sA3 sL3 sC3] : List Value) = 3 ∧
  List.length (cs3 : List Value) = 3 ∧
  New (cs2 ++ ([.int .i64 1, .int .i64 1, .slice sA3 sL3 sC3] ++ cs3)) 122 h9 fun h10 =>
  ∃ new2 : List Value, List.length new2 = 3 * 3 ∧ SlCells h10 (some ⟨h9.size, 0, none⟩) new2 ∧ (∀ v ∈ new2, v.oneCell' = true) ∧
  AppendP ti122 122 stepsA1 stepsL1 stepsC1 3 new2 h10 fun sA4 sL4 sC4 h11 =>
  ∃ (I2 : Option Addr → Nat → Nat → Int → Heap → Prop) (M2 : Option Addr → Nat → Nat → Int → Heap → Nat), I2 sA4 sL4 sC4 0 h11 ∧
  ∀ (stepsA2 : Option Addr) (stepsL2 : Nat) (stepsC2 : Nat) (n2 : Int), ∀ h12 : Heap, I2 stepsA2 stepsL2 stepsC2 n2 h12 →
  bif (decide (n2 < (lL1 : Int))) then (
  (0 ≤ n2 ∧ n2 < (lL1 : Int)) ∧
  onSome lA1 fun p2 =>
  ∃ cs4 : List Value, List.length cs4 = 2 ∧ Cells h12 (Addr.add p2 ((Int.toNat n2) * 2)) cs4 ∧
  NewRow z103 103 cs4 2 h12 fun h14 =>
  ∃ (n3 : Int), cellOf h14 (Addr.add ⟨h12.size, 0, none⟩ 0) = some (.int .i64 n3) ∧
  ∃ (sA5 : Option Addr) (sL5 : Nat) (sC5 : Nat), cellOf h14 (Addr.add ⟨h12.size, 0, none⟩ 1) = some (.slice sA5 sL5 sC5) ∧
  List.length ([.int .i64 1, .int .i64 n3, .slice sA5 sL5 sC5] : List Value) = 3 ∧
  New [.int .i64 1, .int .i64 n3, .slice sA5 sL5 sC5] 122 h14 fun h15 =>
  ∃ new3 : List Value, List.length new3 = 1 * 3 ∧ SlCells h15 (some ⟨h14.size, 0, none⟩) new3 ∧ (∀ v ∈ new3, v.oneCell' = true) ∧
  AppendP ti122 122 stepsA2 stepsL2 stepsC2 1 new3 h15 fun sA6 sL6 sC6 h16 =>
  I2 sA6 sL6 sC6 (IntKind.wrap .i64 (n2 + 1)) h16 ∧ M2 sA6 sL6 sC6 (IntKind.wrap .i64 (n2 + 1)) h16 < M2 stepsA2 stepsL2 stepsC2 n2 h12) else (
  ∃ cs5 : List Value, List.length cs5 = 3 ∧ Cells h12 ⟨h1.size, 0, none⟩ cs5 ∧
  ∃ cs6 : List Value, List.length cs6 = 3 ∧ Cells h12 ⟨h1.size, 0, none⟩ cs6 ∧
  (0 ≤ (512 : Int) ∧ (512 : Int) ≤ 512 ∧ (1 : Int) * 512 ≤ 281474976710656 ∧ (512 : Int) ≤ 281474976710656) ∧
  New (repCells z5 (Int.toNat 512)) 5 h12 fun h17 =>
  (List.length (cs5 : List Value) = 3 ∧ Cells h17 ⟨h1.size, 0, none⟩ cs5) ∧
  (List.length (cs6 : List Value) = 3 ∧ Cells h17 ⟨h1.size, 0, none⟩ cs6) ∧
  List.length (cs5 : List Value) = 3 ∧
  List.length ([.int .i64 1, .int .i64 1, .slice (some ⟨h12.size, 0, none⟩) (Int.toNat 512) (Int.toNat 512)] : List Value) = 3 ∧
  List.length (cs6 : List Value) = 3 ∧
  New (cs5 ++ ([.int .i64 1, .int .i64 1, .slice (some ⟨h12.size, 0, none⟩) (Int.toNat 512) (Int.toNat 512)] ++ cs6)) 122 h17 fun h18 =>
  ∃ new4 : List Value, List.length new4 = 3 * 3 ∧ SlCells h18 (some ⟨h17.size, 0, none⟩) new4 ∧ (∀ v ∈ new4, v.oneCell' = true) ∧
  AppendP ti122 122 stepsA2 stepsL2 stepsC2 3 new4 h18 fun sA7 sL7 sC7 h19 =>
  ∃ (I3 : Int → Heap → Prop) (M3 : Int → Heap → Nat), I3 0 h19 ∧
  ∀ (n4 : Int), ∀ h20 : Heap, I3 n4 h20 →
  bif (decide (n4 < (sL7 : Int))) then (
  (0 ≤ n4 ∧ n4 < (sL7 : Int)) ∧
  onSome sA7 fun p3 =>
  ∃ cs7 : List Value, List.length cs7 = 3 ∧ Cells h20 (Addr.add p3 ((Int.toNat n4) * 3)) cs7 ∧
  NewRow z122 122 cs7 3 h20 fun h22 =>
  ∃ (n5 : Int), cellOf h22 (Addr.add ⟨h20.size, 0, none⟩ 0) = some (.int .i64 n5) ∧
  bif (n5 == 1) then (
  ∃ (n6 : Int), cellOf h22 (Addr.add ⟨h20.size, 0, none⟩ 1) = some (.int .i64 n6) ∧
  ∃ (sA8 : Option Addr) (sL8 : Nat) (sC8 : Nat), cellOf h22 (Addr.add ⟨h20.size, 0, none⟩ 2) = some (.slice sA8 sL8 sC8) ∧
  C.boleref03_Disk_Write d1 n6 sA8 sL8 sC8 h22 fun r2 h23 =>
  ∃ (n7 : Int), r2 = .int .i64 n7 ∧
  bif (n7 != 0) then (
  K (.int .i64 n7) h23) else (
  I3 (IntKind.wrap .i64 (n4 + 1)) h23 ∧ M3 (IntKind.wrap .i64 (n4 + 1)) h23 < M3 n4 h20)) else (
  C.boleref03_Disk_Flush d1 h22 fun r3 h24 =>
  ∃ (n8 : Int), r3 = .int .i64 n8 ∧
  bif (n8 != 0) then (
  K (.int .i64 n8) h24) else (
  I3 (IntKind.wrap .i64 (n4 + 1)) h24 ∧ M3 (IntKind.wrap .i64 (n4 + 1)) h24 < M3 n4 h20))) else (
  K (.int .i64 0) h20))))
def boleref06_Commit.lo : Nat → List Nat × List (Nat × Ty) := fun n => match n with | 6 => ([0, 1, 6, 18, 19], [(5, .slice), (20, .int .i64)]) | 12 => ([0, 6, 42, 43], [(5, .slice), (44, .int .i64)]) | 18 => ([0, 64, 65], [(66, .int .i64)]) | _ => ([], [])
def boleref06_Commit.od : Nat → Od := fun n => match n with | 10 => (.op 0 [] (.op 1 [] (.op 2 [] (.op 5 [] (.op 3 [1, 5] (.op 4 [] (.op 6 [] (.op 7 [] (.op 8 [] .nil))))))))) | 16 => (.op 0 [] (.op 1 [] (.op 4 [] (.op 2 [1, 4] (.op 3 [] (.op 5 [] (.op 6 [] (.op 7 [] .nil)))))))) | _ => .nil
theorem boleref06_Commit.eq (d1 : Option Addr) (lA1 : Option Addr) (lL1 : Nat) (lC1 : Nat) (K : Value → Heap → Prop) (h : Heap) : fnX (cx boleref06_Commit.lo boleref06_Commit.od) Tryz.f139 (Tryz.f139.body.getD .skip) [.pointer d1, .slice lA1 lL1 lC1] K h = boleref06_Commit d1 lA1 lL1 lC1 K h := by kernel_rfl
theorem boleref06_Commit.chk : fnOk (cx boleref06_Commit.lo boleref06_Commit.od) Tryz.f139 (Tryz.f139.body.getD .skip) 2 = true := by kernel_rfl
theorem boleref06_Commit.ok {d1 : Option Addr} {lA1 : Option Addr} {lL1 : Nat} {lC1 : Nat} {K : Value → Heap → Prop} {h : Heap} (hx : boleref06_Commit d1 lA1 lL1 lC1 K h) : C.boleref06_Commit d1 lA1 lL1 lC1 h K :=
  fn_to (cxOk _ _) Tryz.func139 (by kernel_rfl) boleref06_Commit.chk (by rw [boleref06_Commit.eq]; exact hx)
def boleref03_Disk_Read.k1 (d1 : Option Addr) (i1 : Int) (h3 : Heap) (K : Value → Heap → Prop) : Prop :=
  onSome d1 fun p2 =>
  ∃ (sA1 : Option Addr) (sL1 : Nat) (sC1 : Nat), cellOf h3 (Addr.add p2 1) = some (.slice sA1 sL1 sC1) ∧
  ∃ (I1 : Int → Heap → Prop) (M1 : Int → Heap → Nat), I1 (IntKind.wrap .i64 ((sL1 : Int) - 1)) h3 ∧
  ∀ (j1 : Int), ∀ h4 : Heap, I1 j1 h4 →
  bif (decide (j1 ≥ 0)) then (
  onSome d1 fun p3 =>
  ∃ (sA2 : Option Addr) (sL2 : Nat) (sC2 : Nat), cellOf h4 (Addr.add p3 1) = some (.slice sA2 sL2 sC2) ∧
  (0 ≤ j1 ∧ j1 < (sL2 : Int)) ∧
  onSome sA2 fun p4 =>
  ∃ (n2 : Int), cellOf h4 (Addr.add (Addr.add p4 ((Int.toNat j1) * 3)) 0) = some (.int .i64 n2) ∧
  bif (n2 == 1) then (
  onSome d1 fun p5 =>
  ∃ (sA3 : Option Addr) (sL3 : Nat) (sC3 : Nat), cellOf h4 (Addr.add p5 1) = some (.slice sA3 sL3 sC3) ∧
  (0 ≤ j1 ∧ j1 < (sL3 : Int)) ∧
  onSome sA3 fun p6 =>
  ∃ (n3 : Int), cellOf h4 (Addr.add (Addr.add p6 ((Int.toNat j1) * 3)) 1) = some (.int .i64 n3) ∧
  bif (n3 == i1) then (
  onSome d1 fun p7 =>
  ∃ (sA4 : Option Addr) (sL4 : Nat) (sC4 : Nat), cellOf h4 (Addr.add p7 1) = some (.slice sA4 sL4 sC4) ∧
  (0 ≤ j1 ∧ j1 < (sL4 : Int)) ∧
  onSome sA4 fun p8 =>
  ∃ (sA5 : Option Addr) (sL5 : Nat) (sC5 : Nat), cellOf h4 (Addr.add (Addr.add p8 ((Int.toNat j1) * 3)) 2) = some (.slice sA5 sL5 sC5) ∧
  C.boleref03_copied sA5 sL5 sC5 h4 fun r2 h5 =>
  ∃ (sA6 : Option Addr) (sL6 : Nat) (sC6 : Nat), r2 = .slice sA6 sL6 sC6 ∧
  K (.tuple #[.slice sA6 sL6 sC6, .int .i64 0]) h5) else (
  I1 (IntKind.wrap .i64 (j1 - 1)) h4 ∧ M1 (IntKind.wrap .i64 (j1 - 1)) h4 < M1 j1 h4)) else (
  I1 (IntKind.wrap .i64 (j1 - 1)) h4 ∧ M1 (IntKind.wrap .i64 (j1 - 1)) h4 < M1 j1 h4)) else (
  onSome d1 fun p9 =>
  ∃ (sA7 : Option Addr) (sL7 : Nat) (sC7 : Nat), cellOf h4 (Addr.add p9 0) = some (.slice sA7 sL7 sC7) ∧
  (0 ≤ (IntKind.wrap .i64 (i1 * 512)) ∧ (IntKind.wrap .i64 (i1 * 512)) ≤ (IntKind.wrap .i64 ((IntKind.wrap .i64 (i1 * 512)) + 512)) ∧ (IntKind.wrap .i64 ((IntKind.wrap .i64 (i1 * 512)) + 512)) ≤ (sC7 : Int)) ∧
  C.boleref03_copied (if sC7 = (Int.toNat (IntKind.wrap .i64 (i1 * 512))) then sA7 else Option.map (Addr.add · (Int.toNat (IntKind.wrap .i64 (i1 * 512)))) sA7) ((Int.toNat (IntKind.wrap .i64 ((IntKind.wrap .i64 (i1 * 512)) + 512))) - (Int.toNat (IntKind.wrap .i64 (i1 * 512)))) (sC7 - (Int.toNat (IntKind.wrap .i64 (i1 * 512)))) h4 fun r3 h6 =>
  ∃ (sA8 : Option Addr) (sL8 : Nat) (sC8 : Nat), r3 = .slice sA8 sL8 sC8 ∧
  K (.tuple #[.slice sA8 sL8 sC8, .int .i64 0]) h6)
def boleref03_Disk_Read (d1 : Option Addr) (i1 : Int) (K : Value → Heap → Prop) (h1 : Heap) : Prop :=
  onSome d1 fun p1 =>
  ∃ (b1 : Bool), cellOf h1 (Addr.add p1 4) = some (.bool b1) ∧
  bif b1 then (
  K (.tuple #[.slice none 0 0, .int .i64 30]) h1) else (
  bif (decide (i1 < 0)) then (
  K (.tuple #[.slice none 0 0, .int .i64 31]) h1) else (
  C.boleref03_Disk_Blocks d1 h1 fun r1 h2 =>
  ∃ (n1 : Int), r1 = .int .i64 n1 ∧
  bif (decide (i1 ≥ n1)) then (
  K (.tuple #[.slice none 0 0, .int .i64 31]) h2) else (
  boleref03_Disk_Read.k1 d1 i1 h2 K)))
def boleref03_Disk_Read.lo : Nat → List Nat × List (Nat × Ty) := fun n => match n with | 6 => ([0, 1], [(6, .int .i64)]) | _ => ([], [])
def boleref03_Disk_Read.od : Nat → Od := fun n => match n with | _ => .nil
theorem boleref03_Disk_Read.eq (d1 : Option Addr) (i1 : Int) (K : Value → Heap → Prop) (h : Heap) : fnX (cx boleref03_Disk_Read.lo boleref03_Disk_Read.od) Tryz.f141 (Tryz.f141.body.getD .skip) [.pointer d1, .int .i64 i1] K h = boleref03_Disk_Read d1 i1 K h := by kernel_rfl
theorem boleref03_Disk_Read.chk : fnOk (cx boleref03_Disk_Read.lo boleref03_Disk_Read.od) Tryz.f141 (Tryz.f141.body.getD .skip) 2 = true := by kernel_rfl
theorem boleref03_Disk_Read.ok {d1 : Option Addr} {i1 : Int} {K : Value → Heap → Prop} {h : Heap} (hx : boleref03_Disk_Read d1 i1 K h) : C.boleref03_Disk_Read d1 i1 h K :=
  fn_to (cxOk _ _) Tryz.func141 (by kernel_rfl) boleref03_Disk_Read.chk (by rw [boleref03_Disk_Read.eq]; exact hx)
def maps_Keys_map_int_byte_int_byte (m1 : Option Nat) (K : Value → Heap → Prop) (h1 : Heap) : Prop :=
  New [.map m1] 132 h1 fun h2 =>
  K (.func (.func 198) #[] ⟨[.pointer (some ⟨h1.size, 0, none⟩)]⟩) h2
def maps_Keys_map_int_byte_int_byte.lo : Nat → List Nat × List (Nat × Ty) := fun n => match n with | _ => ([], [])
def maps_Keys_map_int_byte_int_byte.od : Nat → Od := fun n => match n with | _ => .nil
theorem maps_Keys_map_int_byte_int_byte.eq (m1 : Option Nat) (K : Value → Heap → Prop) (h : Heap) : fnX (cx maps_Keys_map_int_byte_int_byte.lo maps_Keys_map_int_byte_int_byte.od) Tryz.f143 (Tryz.f143.body.getD .skip) [.map m1] K h = maps_Keys_map_int_byte_int_byte m1 K h := by kernel_rfl
theorem maps_Keys_map_int_byte_int_byte.chk : fnOk (cx maps_Keys_map_int_byte_int_byte.lo maps_Keys_map_int_byte_int_byte.od) Tryz.f143 (Tryz.f143.body.getD .skip) 1 = true := by kernel_rfl
theorem maps_Keys_map_int_byte_int_byte.ok {m1 : Option Nat} {K : Value → Heap → Prop} {h : Heap} (hx : maps_Keys_map_int_byte_int_byte m1 K h) : C.maps_Keys_map_int_byte_int_byte m1 h K :=
  fn_to (cxOk _ _) Tryz.func143 (by kernel_rfl) maps_Keys_map_int_byte_int_byte.chk (by rw [maps_Keys_map_int_byte_int_byte.eq]; exact hx)
def space_each (t1 : Option Addr) (g1 : List Value) (do1 : Value) (K : Value → Heap → Prop) (h1 : Heap) : Prop :=
  New g1 80 h1 fun h2 =>
  ∃ (n1 : Int), cellOf h2 (Addr.add ⟨h1.size, 0, none⟩ 1) = some (.int .i64 n1) ∧
  ∃ (I1 : Int → Heap → Prop) (M1 : Int → Heap → Nat), I1 n1 h2 ∧
  ∀ (k1 : Int), ∀ h3 : Heap, I1 k1 h3 →
  ∃ (n2 : Int), cellOf h3 (Addr.add ⟨h1.size, 0, none⟩ 2) = some (.int .i64 n2) ∧
  bif (decide (k1 < n2)) then (
  C.txn_Txn_Read t1 k1 h3 fun r1 h4 =>
  ∃ (sA1 : Option Addr) (sL1 : Nat) (sC1 : Nat) (n3 : Int), r1 = .tuple #[.slice sA1 sL1 sC1, .int .i64 n3] ∧
  bif (n3 != 0) then (
  K (.int .i64 n3) h4) else (
  ∃ (n4 : Int), cellOf h4 (Addr.add ⟨h1.size, 0, none⟩ 1) = some (.int .i64 n4) ∧
  HCallsV Tryz.prog do1 [.int .i64 (IntKind.wrap .i64 (4096 * (IntKind.wrap .i64 (k1 - n4)))), .slice sA1 sL1 sC1] h4 fun r2 h5 =>
  ∃ (b1 : Bool), r2 = .bool b1 ∧
  bif (!b1) then (
  K (.int .i64 0) h5) else (
  I1 (IntKind.wrap .i64 (k1 + 1)) h5 ∧ M1 (IntKind.wrap .i64 (k1 + 1)) h5 < M1 k1 h3))) else (
  K (.int .i64 0) h3)
def space_each.lo : Nat → List Nat × List (Nat × Ty) := fun n => match n with | 2 => ([0, 2, 4], [(7, .int .i64)]) | _ => ([], [])
def space_each.od : Nat → Od := fun n => match n with | _ => .nil
theorem space_each.eq (t1 : Option Addr) (g1 : List Value) (do1 : Value) (K : Value → Heap → Prop) (h : Heap) : fnX (cx space_each.lo space_each.od) Tryz.f144 (Tryz.f144.body.getD .skip) [.pointer t1, .agg ⟨g1⟩, do1] K h = space_each t1 g1 do1 K h := by kernel_rfl
theorem space_each.chk : fnOk (cx space_each.lo space_each.od) Tryz.f144 (Tryz.f144.body.getD .skip) 3 = true := by kernel_rfl
theorem space_each.ok {t1 : Option Addr} {g1 : List Value} {do1 : Value} {K : Value → Heap → Prop} {h : Heap} (hx : space_each t1 g1 do1 K h) : C.space_each t1 g1 do1 h K :=
  fn_to (cxOk _ _) Tryz.func144 (by kernel_rfl) space_each.chk (by rw [space_each.eq]; exact hx)
def space_Take_c1 (first1 : Int) (bA1 : Option Addr) (bL1 : Nat) (bC1 : Nat) (cap1 : Option Addr) (cap2 : Option Addr) (K : Value → Heap → Prop) (h1 : Heap) : Prop :=
  onSome cap1 fun p1 =>
  ∃ cs1 : List Value, List.length cs1 = 5 ∧ Cells h1 p1 cs1 ∧
  C.space_rows cs1 first1 bA1 bL1 bC1 (Value.func (.func 147) #[] ⟨[.pointer cap2]⟩) h1 fun r1 h2 =>
  r1 = .tuple #[] ∧
  onSome cap2 fun p2 =>
  ∃ (n1 : Int), cellOf h2 p2 = some (.int .i64 n1) ∧
  K (.bool (n1 == 0)) h2
def space_Take_c1.lo : Nat → List Nat × List (Nat × Ty) := fun n => match n with | _ => ([], [])
def space_Take_c1.od : Nat → Od := fun n => match n with | _ => .nil
theorem space_Take_c1.eq (first1 : Int) (bA1 : Option Addr) (bL1 : Nat) (bC1 : Nat) (cap1 : Option Addr) (cap2 : Option Addr) (K : Value → Heap → Prop) (h : Heap) : fnX (cx space_Take_c1.lo space_Take_c1.od) Tryz.f145 (Tryz.f145.body.getD .skip) [.int .i64 first1, .slice bA1 bL1 bC1, .pointer cap1, .pointer cap2] K h = space_Take_c1 first1 bA1 bL1 bC1 cap1 cap2 K h := by kernel_rfl
theorem space_Take_c1.chk : fnOk (cx space_Take_c1.lo space_Take_c1.od) Tryz.f145 (Tryz.f145.body.getD .skip) 4 = true := by kernel_rfl
theorem space_Take_c1.ok {first1 : Int} {bA1 : Option Addr} {bL1 : Nat} {bC1 : Nat} {cap1 : Option Addr} {cap2 : Option Addr} {K : Value → Heap → Prop} {h : Heap} (hx : space_Take_c1 first1 bA1 bL1 bC1 cap1 cap2 K h) : C.space_Take_c1 first1 bA1 bL1 bC1 cap1 cap2 h K :=
  fn_to (cxOk _ _) Tryz.func145 (by kernel_rfl) space_Take_c1.chk (by rw [space_Take_c1.eq]; exact hx)
end Go.Proofs.YtjdcbblgaoogmaaGreatDoor.W
namespace Go.Proofs.YtjdcbblgaoogmaaGreatDoor.W
open Go Go.Proofs Go.Proofs.YtjdcbblgaoogmaaGreatDoor.Wx
def space_rows (g1 : List Value) (first1 : Int) (bA1 : Option Addr) (bL1 : Nat) (bC1 : Nat) (do1 : Value) (K : Value → Heap → Prop) (h1 : Heap) : Prop :=
  New g1 80 h1 fun h2 =>
  New [.int .i64 first1] 3 h2 fun h3 =>
  New (cellsL do1) 199 h3 fun h4 =>
  C.bits_Runs bA1 bL1 bC1 h4 fun r1 h5 =>
  ∃ (v1 : Value), r1 = v1 ∧
  ∀ (R1 : Loop),
  (∀ (n1 : Int) (n2 : Int), ∀ (h6 : Heap) (k1 : Value → Heap → Prop), LoopOn h6 (h5.size + 1) R1 .ready none →
  (
  LoopOn h6 (h5.size + 1) R1 .ready none ∧
  SetL h6 (h5.size + 1) R1 .busy none fun h7 =>
  ∃ (n3 : Int), cellOf h7 ⟨h2.size, 0, none⟩ = some (.int .i64 n3) ∧
  ∃ (n4 : Int), cellOf h7 (Addr.add ⟨h1.size, 0, none⟩ 3) = some (.int .i64 n4) ∧
  ∃ (n5 : Int), cellOf h7 ⟨h2.size, 0, none⟩ = some (.int .i64 n5) ∧
  ∃ (n6 : Int), cellOf h7 (Addr.add ⟨h1.size, 0, none⟩ 0) = some (.int .i64 n6) ∧
  bif (decide ((if n4 > (IntKind.wrap .i64 (n3 + n1)) then n4 else (IntKind.wrap .i64 (n3 + n1))) < (if n6 < (IntKind.wrap .i64 ((IntKind.wrap .i64 (n5 + n1)) + n2)) then n6 else (IntKind.wrap .i64 ((IntKind.wrap .i64 (n5 + n1)) + n2))))) then (
  ∃ (v2 : Value), cellOf h7 ⟨h3.size, 0, none⟩ = some (v2) ∧
  HCallsV Tryz.prog v2 [.int .i64 (if n4 > (IntKind.wrap .i64 (n3 + n1)) then n4 else (IntKind.wrap .i64 (n3 + n1))), .int .i64 (if n6 < (IntKind.wrap .i64 ((IntKind.wrap .i64 (n5 + n1)) + n2)) then n6 else (IntKind.wrap .i64 ((IntKind.wrap .i64 (n5 + n1)) + n2)))] h7 fun r2 h8 =>
  ∃ (b1 : Bool), r2 = .bool b1 ∧
  bif (!b1) then (
  LoopOn h8 (h5.size + 1) R1 .busy none ∧
  k1 (.bool false) (setLoop h8 (h5.size + 1) R1 .done (some .ret))) else (
  LoopOn h8 (h5.size + 1) R1 .busy none ∧
  k1 (.bool true) (setLoop h8 (h5.size + 1) R1 .ready none))) else (
  LoopOn h7 (h5.size + 1) R1 .busy none ∧
  k1 (.bool true) (setLoop h7 (h5.size + 1) R1 .ready none))) →
  YCalls Tryz.prog (h5.size + 1) [.int .i64 n1, .int .i64 n2] h6 k1) →
  HCallsF Tryz.prog v1 [.func (.yield (h5.size + 1)) #[] #[]] (beginL h5 R1) fun _ h9 =>
  ∃ (st1 : LoopState) (pend1 : Option Code), LoopOn h9 (h5.size + 1) R1 st1 pend1 ∧ st1 ≠ .busy ∧
  pendX pend1 (
  SetL h9 (h5.size + 1) R1 .exhausted pend1 fun h10 =>
  EndD h5.size h10 fun h11 =>
  K (.tuple #[]) h11) (
  SetL h9 (h5.size + 1) R1 .exhausted pend1 fun h12 =>
  EndD h5.size h12 fun h13 =>
  K (.tuple #[]) h13) (fun _ => False)
def space_rows.lo : Nat → List Nat × List (Nat × Ty) := fun n => match n with | 1000002 => ([], [(14, .int .i64), (15, .int .i64)]) | _ => ([], [])
def space_rows.od : Nat → Od := fun n => match n with | 4 => (.op 0 [] (.op 1 [] (.op 2 [] (.op 3 [] (.op 4 [] (.op 5 [] (.op 6 [] (.op 7 [] (.op 8 [] (.op 9 [] (.op 10 [] (.op 11 [] (.op 12 [] (.op 13 [] (.op 14 [] (.op 15 [] .nil)))))))))))))))) | _ => .nil
theorem space_rows.eq (g1 : List Value) (first1 : Int) (bA1 : Option Addr) (bL1 : Nat) (bC1 : Nat) (do1 : Value) (K : Value → Heap → Prop) (h : Heap) : fnX (cx space_rows.lo space_rows.od) Tryz.f146 (Tryz.f146.body.getD .skip) [.agg ⟨g1⟩, .int .i64 first1, .slice bA1 bL1 bC1, do1] K h = space_rows g1 first1 bA1 bL1 bC1 do1 K h := by kernel_rfl
theorem space_rows.chk : fnOk (cx space_rows.lo space_rows.od) Tryz.f146 (Tryz.f146.body.getD .skip) 4 = true := by kernel_rfl
theorem space_rows.ok {g1 : List Value} {first1 : Int} {bA1 : Option Addr} {bL1 : Nat} {bC1 : Nat} {do1 : Value} {K : Value → Heap → Prop} {h : Heap} (hx : space_rows g1 first1 bA1 bL1 bC1 do1 K h) : C.space_rows g1 first1 bA1 bL1 bC1 do1 h K :=
  fn_to (cxOk _ _) Tryz.func146 (by kernel_rfl) space_rows.chk (by rw [space_rows.eq]; exact hx)
def space_Take_c1_c1 (from1 : Int) (x1 : Int) (cap1 : Option Addr) (K : Value → Heap → Prop) (h1 : Heap) : Prop :=
  onSome cap1 fun p1 =>
  Put p1 (.int .i64 from1) h1 fun h2 =>
  K (.bool false) h2
def space_Take_c1_c1.lo : Nat → List Nat × List (Nat × Ty) := fun n => match n with | _ => ([], [])
def space_Take_c1_c1.od : Nat → Od := fun n => match n with | _ => .nil
theorem space_Take_c1_c1.eq (from1 : Int) (x1 : Int) (cap1 : Option Addr) (K : Value → Heap → Prop) (h : Heap) : fnX (cx space_Take_c1_c1.lo space_Take_c1_c1.od) Tryz.f147 (Tryz.f147.body.getD .skip) [.int .i64 from1, .int .i64 x1, .pointer cap1] K h = space_Take_c1_c1 from1 x1 cap1 K h := by kernel_rfl
theorem space_Take_c1_c1.chk : fnOk (cx space_Take_c1_c1.lo space_Take_c1_c1.od) Tryz.f147 (Tryz.f147.body.getD .skip) 3 = true := by kernel_rfl
theorem space_Take_c1_c1.ok {from1 : Int} {x1 : Int} {cap1 : Option Addr} {K : Value → Heap → Prop} {h : Heap} (hx : space_Take_c1_c1 from1 x1 cap1 K h) : C.space_Take_c1_c1 from1 x1 cap1 h K :=
  fn_to (cxOk _ _) Tryz.func147 (by kernel_rfl) space_Take_c1_c1.chk (by rw [space_Take_c1_c1.eq]; exact hx)
def space_Take_c2 (cap1 : Option Addr) (cap2 : Option Addr) (cap3 : Option Addr) (K : Value → Heap → Prop) (h1 : Heap) : Prop :=
  onSome cap1 fun p1 =>
  ∃ (q1 : Option Addr), cellOf h1 p1 = some (.pointer q1) ∧
  onSome cap2 fun p2 =>
  ∃ (n1 : Int), cellOf h1 p2 = some (.int .i64 n1) ∧
  C.space_back q1 n1 cap3 h1 fun r1 h2 =>
  r1 = .tuple #[] ∧
  K (.tuple #[]) h2
def space_Take_c2.lo : Nat → List Nat × List (Nat × Ty) := fun n => match n with | _ => ([], [])
def space_Take_c2.od : Nat → Od := fun n => match n with | _ => .nil
theorem space_Take_c2.eq (cap1 : Option Addr) (cap2 : Option Addr) (cap3 : Option Addr) (K : Value → Heap → Prop) (h : Heap) : fnX (cx space_Take_c2.lo space_Take_c2.od) Tryz.f148 (Tryz.f148.body.getD .skip) [.pointer cap1, .pointer cap2, .pointer cap3] K h = space_Take_c2 cap1 cap2 cap3 K h := by kernel_rfl
theorem space_Take_c2.chkD : fnOkD (cx space_Take_c2.lo space_Take_c2.od) Tryz.f148 (Tryz.f148.body.getD .skip) 3 = true := by kernel_rfl
theorem space_Take_c2.okD {cap1 : Option Addr} {cap2 : Option Addr} {cap3 : Option Addr} {K : Heap → Prop} {h : Heap} (hx : space_Take_c2 cap1 cap2 cap3 (fun _ h' => K h') h) : D.space_Take_c2 cap1 cap2 cap3 h K :=
  fnD_to (cxOk _ _) Tryz.func148 (by kernel_rfl) space_Take_c2.chkD (by rw [space_Take_c2.eq]; exact hx)
def space_back (t1 : Option Addr) (mark1 : Int) (e1 : Option Addr) (K : Value → Heap → Prop) (h1 : Heap) : Prop :=
  onSome e1 fun p1 =>
  ∃ (n1 : Int), cellOf h1 p1 = some (.int .i64 n1) ∧
  bif (n1 != 0) then (
  C.txn_Txn_Back t1 mark1 h1 fun r1 h2 =>
  ∃ (n2 : Int), r1 = .int .i64 n2 ∧
  K (.tuple #[]) h2) else (
  K (.tuple #[]) h1)
def space_back.lo : Nat → List Nat × List (Nat × Ty) := fun n => match n with | _ => ([], [])
def space_back.od : Nat → Od := fun n => match n with | _ => .nil
theorem space_back.eq (t1 : Option Addr) (mark1 : Int) (e1 : Option Addr) (K : Value → Heap → Prop) (h : Heap) : fnX (cx space_back.lo space_back.od) Tryz.f149 (Tryz.f149.body.getD .skip) [.pointer t1, .int .i64 mark1, .pointer e1] K h = space_back t1 mark1 e1 K h := by kernel_rfl
theorem space_back.chk : fnOk (cx space_back.lo space_back.od) Tryz.f149 (Tryz.f149.body.getD .skip) 3 = true := by kernel_rfl
theorem space_back.ok {t1 : Option Addr} {mark1 : Int} {e1 : Option Addr} {K : Value → Heap → Prop} {h : Heap} (hx : space_back t1 mark1 e1 K h) : C.space_back t1 mark1 e1 h K :=
  fn_to (cxOk _ _) Tryz.func149 (by kernel_rfl) space_back.chk (by rw [space_back.eq]; exact hx)
def space_set (t1 : Option Addr) (g1 : List Value) (i1 : Int) (on1 : Bool) (K : Value → Heap → Prop) (h1 : Heap) : Prop :=
  New g1 80 h1 fun h2 =>
  ∃ cs1 : List Value, List.length cs1 = 5 ∧ Cells h2 ⟨h1.size, 0, none⟩ cs1 ∧
  C.space_bit t1 cs1 i1 h2 fun r1 h3 =>
  ∃ (n1 : Int) (sA1 : Option Addr) (sL1 : Nat) (sC1 : Nat) (n2 : Int) (n3 : Int), r1 = .tuple #[.int .i64 n1, .slice sA1 sL1 sC1, .int .i64 n2, .int .i64 n3] ∧
  bif (n3 != 0) then (
  K (.int .i64 n3) h3) else (
  C.bits_Put sA1 sL1 sC1 n2 on1 h3 fun r2 h4 =>
  ∃ (n4 : Int), r2 = .int .i64 n4 ∧
  bif (n4 != 0) then (
  K (.int .i64 n4) h4) else (
  C.txn_Txn_Write t1 n1 sA1 sL1 sC1 h4 fun r3 h5 =>
  ∃ (n5 : Int), r3 = .int .i64 n5 ∧
  K (.int .i64 n5) h5))
def space_set.lo : Nat → List Nat × List (Nat × Ty) := fun n => match n with | _ => ([], [])
def space_set.od : Nat → Od := fun n => match n with | _ => .nil
theorem space_set.eq (t1 : Option Addr) (g1 : List Value) (i1 : Int) (on1 : Bool) (K : Value → Heap → Prop) (h : Heap) : fnX (cx space_set.lo space_set.od) Tryz.f150 (Tryz.f150.body.getD .skip) [.pointer t1, .agg ⟨g1⟩, .int .i64 i1, .bool on1] K h = space_set t1 g1 i1 on1 K h := by kernel_rfl
theorem space_set.chk : fnOk (cx space_set.lo space_set.od) Tryz.f150 (Tryz.f150.body.getD .skip) 4 = true := by kernel_rfl
theorem space_set.ok {t1 : Option Addr} {g1 : List Value} {i1 : Int} {on1 : Bool} {K : Value → Heap → Prop} {h : Heap} (hx : space_set t1 g1 i1 on1 K h) : C.space_set t1 g1 i1 on1 h K :=
  fn_to (cxOk _ _) Tryz.func150 (by kernel_rfl) space_set.chk (by rw [space_set.eq]; exact hx)
def boleref09_bit (t1 : Option Addr) (g1 : List Value) (i1 : Int) (K : Value → Heap → Prop) (h1 : Heap) : Prop :=
  New g1 80 h1 fun h2 =>
  ∃ (n1 : Int), cellOf h2 (Addr.add ⟨h1.size, 0, none⟩ 1) = some (.int .i64 n1) ∧
  C.boleref06_Txn_Read t1 (IntKind.wrap .i64 (n1 + (IntKind.wrap .i64 (Int.tdiv i1 4096)))) h2 fun r1 h3 =>
  ∃ (sA1 : Option Addr) (sL1 : Nat) (sC1 : Nat) (n2 : Int), r1 = .tuple #[.slice sA1 sL1 sC1, .int .i64 n2] ∧
  bif (n2 != 0) then (
  K (.tuple #[.bool false, .int .i64 n2]) h3) else (
  (0 ≤ (IntKind.wrap .i64 (Int.tdiv (Int.tmod i1 4096) 8)) ∧ (IntKind.wrap .i64 (Int.tdiv (Int.tmod i1 4096) 8)) < (sL1 : Int)) ∧
  onSome sA1 fun p1 =>
  ∃ (n3 : Int), cellOf h3 (Addr.add p1 (Int.toNat (IntKind.wrap .i64 (Int.tdiv (Int.tmod i1 4096) 8)))) = some (.int .u8 n3) ∧
  ∃ (I1 : Int → Int → Heap → Prop) (M1 : Int → Int → Heap → Nat), I1 (IntKind.wrap .i64 (n3)) 0 h3 ∧
  ∀ (v1 : Int) (k1 : Int), ∀ h4 : Heap, I1 v1 k1 h4 →
  bif (decide (k1 < (Int.tmod i1 8))) then (
  I1 (IntKind.wrap .i64 (Int.tdiv v1 2)) (IntKind.wrap .i64 (k1 + 1)) h4 ∧ M1 (IntKind.wrap .i64 (Int.tdiv v1 2)) (IntKind.wrap .i64 (k1 + 1)) h4 < M1 v1 k1 h4) else (
  K (.tuple #[.bool ((Int.tmod v1 2) == 1), .int .i64 0]) h4))
def boleref09_bit.lo : Nat → List Nat × List (Nat × Ty) := fun n => match n with | 6 => ([2], [(10, .int .i64), (11, .int .i64)]) | _ => ([], [])
def boleref09_bit.od : Nat → Od := fun n => match n with | _ => .nil
theorem boleref09_bit.eq (t1 : Option Addr) (g1 : List Value) (i1 : Int) (K : Value → Heap → Prop) (h : Heap) : fnX (cx boleref09_bit.lo boleref09_bit.od) Tryz.f151 (Tryz.f151.body.getD .skip) [.pointer t1, .agg ⟨g1⟩, .int .i64 i1] K h = boleref09_bit t1 g1 i1 K h := by kernel_rfl
theorem boleref09_bit.chk : fnOk (cx boleref09_bit.lo boleref09_bit.od) Tryz.f151 (Tryz.f151.body.getD .skip) 3 = true := by kernel_rfl
theorem boleref09_bit.ok {t1 : Option Addr} {g1 : List Value} {i1 : Int} {K : Value → Heap → Prop} {h : Heap} (hx : boleref09_bit t1 g1 i1 K h) : C.boleref09_bit t1 g1 i1 h K :=
  fn_to (cxOk _ _) Tryz.func151 (by kernel_rfl) boleref09_bit.chk (by rw [boleref09_bit.eq]; exact hx)
def boleref09_set (t1 : Option Addr) (g1 : List Value) (i1 : Int) (K : Value → Heap → Prop) (h1 : Heap) : Prop :=
  New g1 80 h1 fun h2 =>
  ∃ (n1 : Int), cellOf h2 (Addr.add ⟨h1.size, 0, none⟩ 1) = some (.int .i64 n1) ∧
  C.boleref06_Txn_Read t1 (IntKind.wrap .i64 (n1 + (IntKind.wrap .i64 (Int.tdiv i1 4096)))) h2 fun r1 h3 =>
  ∃ (sA1 : Option Addr) (sL1 : Nat) (sC1 : Nat) (n2 : Int), r1 = .tuple #[.slice sA1 sL1 sC1, .int .i64 n2] ∧
  bif (n2 != 0) then (
  K (.int .i64 n2) h3) else (
  ∃ (I1 : Int → Int → Heap → Prop) (M1 : Int → Int → Heap → Nat), I1 1 0 h3 ∧
  ∀ (v1 : Int) (k1 : Int), ∀ h4 : Heap, I1 v1 k1 h4 →
  bif (decide (k1 < (Int.tmod i1 8))) then (
  I1 (IntKind.wrap .u8 (v1 * 2)) (IntKind.wrap .i64 (k1 + 1)) h4 ∧ M1 (IntKind.wrap .u8 (v1 * 2)) (IntKind.wrap .i64 (k1 + 1)) h4 < M1 v1 k1 h4) else (
  (0 ≤ (IntKind.wrap .i64 (Int.tdiv (Int.tmod i1 4096) 8)) ∧ (IntKind.wrap .i64 (Int.tdiv (Int.tmod i1 4096) 8)) < (sL1 : Int)) ∧
  onSome sA1 fun p1 =>
  ∃ (n3 : Int), cellOf h4 (Addr.add p1 (Int.toNat (IntKind.wrap .i64 (Int.tdiv (Int.tmod i1 4096) 8)))) = some (.int .u8 n3) ∧
  (0 ≤ (IntKind.wrap .i64 (Int.tdiv (Int.tmod i1 4096) 8)) ∧ (IntKind.wrap .i64 (Int.tdiv (Int.tmod i1 4096) 8)) < (sL1 : Int)) ∧
  onSome sA1 fun p2 =>
  Put (Addr.add p2 (Int.toNat (IntKind.wrap .i64 (Int.tdiv (Int.tmod i1 4096) 8)))) (.int .u8 (bitsI .xor .u8 n3 v1)) h4 fun h5 =>
  ∃ (n4 : Int), cellOf h5 (Addr.add ⟨h1.size, 0, none⟩ 1) = some (.int .i64 n4) ∧
  C.boleref06_Txn_Write t1 (IntKind.wrap .i64 (n4 + (IntKind.wrap .i64 (Int.tdiv i1 4096)))) sA1 sL1 sC1 h5 fun r2 h6 =>
  ∃ (n5 : Int), r2 = .int .i64 n5 ∧
  K (.int .i64 n5) h6))
def boleref09_set.lo : Nat → List Nat × List (Nat × Ty) := fun n => match n with | 6 => ([0, 2, 4, 7], [(9, .int .u8), (10, .int .i64)]) | _ => ([], [])
def boleref09_set.od : Nat → Od := fun n => match n with | _ => .nil
theorem boleref09_set.eq (t1 : Option Addr) (g1 : List Value) (i1 : Int) (K : Value → Heap → Prop) (h : Heap) : fnX (cx boleref09_set.lo boleref09_set.od) Tryz.f152 (Tryz.f152.body.getD .skip) [.pointer t1, .agg ⟨g1⟩, .int .i64 i1] K h = boleref09_set t1 g1 i1 K h := by kernel_rfl
theorem boleref09_set.chk : fnOk (cx boleref09_set.lo boleref09_set.od) Tryz.f152 (Tryz.f152.body.getD .skip) 3 = true := by kernel_rfl
theorem boleref09_set.ok {t1 : Option Addr} {g1 : List Value} {i1 : Int} {K : Value → Heap → Prop} {h : Heap} (hx : boleref09_set t1 g1 i1 K h) : C.boleref09_set t1 g1 i1 h K :=
  fn_to (cxOk _ _) Tryz.func152 (by kernel_rfl) boleref09_set.chk (by rw [boleref09_set.eq]; exact hx)
def space_bit (t1 : Option Addr) (g1 : List Value) (i1 : Int) (K : Value → Heap → Prop) (h1 : Heap) : Prop :=
  New g1 80 h1 fun h2 =>
  ∃ cs1 : List Value, List.length cs1 = 5 ∧ Cells h2 ⟨h1.size, 0, none⟩ cs1 ∧
  C.geo_Bit cs1 i1 h2 fun r1 h3 =>
  ∃ (n1 : Int) (n2 : Int) (n3 : Int), r1 = .tuple #[.int .i64 n1, .int .i64 n2, .int .i64 n3] ∧
  bif (n3 != 0) then (
  K (.tuple #[.int .i64 0, .slice none 0 0, .int .i64 0, .int .i64 n3]) h3) else (
  C.txn_Txn_Read t1 n1 h3 fun r2 h4 =>
  ∃ (sA1 : Option Addr) (sL1 : Nat) (sC1 : Nat) (n4 : Int), r2 = .tuple #[.slice sA1 sL1 sC1, .int .i64 n4] ∧
  K (.tuple #[.int .i64 n1, .slice sA1 sL1 sC1, .int .i64 n2, .int .i64 n4]) h4)
def space_bit.lo : Nat → List Nat × List (Nat × Ty) := fun n => match n with | _ => ([], [])
def space_bit.od : Nat → Od := fun n => match n with | _ => .nil
theorem space_bit.eq (t1 : Option Addr) (g1 : List Value) (i1 : Int) (K : Value → Heap → Prop) (h : Heap) : fnX (cx space_bit.lo space_bit.od) Tryz.f153 (Tryz.f153.body.getD .skip) [.pointer t1, .agg ⟨g1⟩, .int .i64 i1] K h = space_bit t1 g1 i1 K h := by kernel_rfl
theorem space_bit.chk : fnOk (cx space_bit.lo space_bit.od) Tryz.f153 (Tryz.f153.body.getD .skip) 3 = true := by kernel_rfl
theorem space_bit.ok {t1 : Option Addr} {g1 : List Value} {i1 : Int} {K : Value → Heap → Prop} {h : Heap} (hx : space_bit t1 g1 i1 K h) : C.space_bit t1 g1 i1 h K :=
  fn_to (cxOk _ _) Tryz.func153 (by kernel_rfl) space_bit.chk (by rw [space_bit.eq]; exact hx)
def bits_Get (bA1 : Option Addr) (bL1 : Nat) (bC1 : Nat) (i1 : Int) (K : Value → Heap → Prop) (h1 : Heap) : Prop :=
  C.bits_has bA1 bL1 bC1 i1 h1 fun r1 h2 =>
  ∃ (b1 : Bool), r1 = .bool b1 ∧
  bif (!b1) then (
  K (.tuple #[.bool false, .int .i64 80]) h2) else (
  C.bits_on bA1 bL1 bC1 i1 h2 fun r2 h3 =>
  ∃ (b2 : Bool), r2 = .bool b2 ∧
  K (.tuple #[.bool b2, .int .i64 0]) h3)
def bits_Get.lo : Nat → List Nat × List (Nat × Ty) := fun n => match n with | _ => ([], [])
def bits_Get.od : Nat → Od := fun n => match n with | _ => .nil
theorem bits_Get.eq (bA1 : Option Addr) (bL1 : Nat) (bC1 : Nat) (i1 : Int) (K : Value → Heap → Prop) (h : Heap) : fnX (cx bits_Get.lo bits_Get.od) Tryz.f154 (Tryz.f154.body.getD .skip) [.slice bA1 bL1 bC1, .int .i64 i1] K h = bits_Get bA1 bL1 bC1 i1 K h := by kernel_rfl
theorem bits_Get.chk : fnOk (cx bits_Get.lo bits_Get.od) Tryz.f154 (Tryz.f154.body.getD .skip) 2 = true := by kernel_rfl
theorem bits_Get.ok {bA1 : Option Addr} {bL1 : Nat} {bC1 : Nat} {i1 : Int} {K : Value → Heap → Prop} {h : Heap} (hx : bits_Get bA1 bL1 bC1 i1 K h) : C.bits_Get bA1 bL1 bC1 i1 h K :=
  fn_to (cxOk _ _) Tryz.func154 (by kernel_rfl) bits_Get.chk (by rw [bits_Get.eq]; exact hx)
def space_Free_c1 (first1 : Int) (bA1 : Option Addr) (bL1 : Nat) (bC1 : Nat) (cap1 : Option Addr) (cap2 : Option Addr) (K : Value → Heap → Prop) (h1 : Heap) : Prop :=
  onSome cap1 fun p1 =>
  ∃ cs1 : List Value, List.length cs1 = 5 ∧ Cells h1 p1 cs1 ∧
  C.space_rows cs1 first1 bA1 bL1 bC1 (Value.func (.func 156) #[] ⟨[.pointer cap2]⟩) h1 fun r1 h2 =>
  r1 = .tuple #[] ∧
  K (.bool true) h2
def space_Free_c1.lo : Nat → List Nat × List (Nat × Ty) := fun n => match n with | _ => ([], [])
def space_Free_c1.od : Nat → Od := fun n => match n with | _ => .nil
theorem space_Free_c1.eq (first1 : Int) (bA1 : Option Addr) (bL1 : Nat) (bC1 : Nat) (cap1 : Option Addr) (cap2 : Option Addr) (K : Value → Heap → Prop) (h : Heap) : fnX (cx space_Free_c1.lo space_Free_c1.od) Tryz.f155 (Tryz.f155.body.getD .skip) [.int .i64 first1, .slice bA1 bL1 bC1, .pointer cap1, .pointer cap2] K h = space_Free_c1 first1 bA1 bL1 bC1 cap1 cap2 K h := by kernel_rfl
theorem space_Free_c1.chk : fnOk (cx space_Free_c1.lo space_Free_c1.od) Tryz.f155 (Tryz.f155.body.getD .skip) 4 = true := by kernel_rfl
theorem space_Free_c1.ok {first1 : Int} {bA1 : Option Addr} {bL1 : Nat} {bC1 : Nat} {cap1 : Option Addr} {cap2 : Option Addr} {K : Value → Heap → Prop} {h : Heap} (hx : space_Free_c1 first1 bA1 bL1 bC1 cap1 cap2 K h) : C.space_Free_c1 first1 bA1 bL1 bC1 cap1 cap2 h K :=
  fn_to (cxOk _ _) Tryz.func155 (by kernel_rfl) space_Free_c1.chk (by rw [space_Free_c1.eq]; exact hx)
def space_Free_c1_c1 (from1 : Int) (to1 : Int) (cap1 : Option Addr) (K : Value → Heap → Prop) (h1 : Heap) : Prop :=
  onSome cap1 fun p1 =>
  ∃ (n1 : Int), cellOf h1 p1 = some (.int .i64 n1) ∧
  onSome cap1 fun p2 =>
  Put p2 (.int .i64 (IntKind.wrap .i64 (n1 + (IntKind.wrap .i64 (to1 - from1))))) h1 fun h2 =>
  K (.bool true) h2
def space_Free_c1_c1.lo : Nat → List Nat × List (Nat × Ty) := fun n => match n with | _ => ([], [])
def space_Free_c1_c1.od : Nat → Od := fun n => match n with | _ => .nil
theorem space_Free_c1_c1.eq (from1 : Int) (to1 : Int) (cap1 : Option Addr) (K : Value → Heap → Prop) (h : Heap) : fnX (cx space_Free_c1_c1.lo space_Free_c1_c1.od) Tryz.f156 (Tryz.f156.body.getD .skip) [.int .i64 from1, .int .i64 to1, .pointer cap1] K h = space_Free_c1_c1 from1 to1 cap1 K h := by kernel_rfl
theorem space_Free_c1_c1.chk : fnOk (cx space_Free_c1_c1.lo space_Free_c1_c1.od) Tryz.f156 (Tryz.f156.body.getD .skip) 3 = true := by kernel_rfl
theorem space_Free_c1_c1.ok {from1 : Int} {to1 : Int} {cap1 : Option Addr} {K : Value → Heap → Prop} {h : Heap} (hx : space_Free_c1_c1 from1 to1 cap1 K h) : C.space_Free_c1_c1 from1 to1 cap1 h K :=
  fn_to (cxOk _ _) Tryz.func156 (by kernel_rfl) space_Free_c1_c1.chk (by rw [space_Free_c1_c1.eq]; exact hx)
def txn_Txn_Write_c1 (cap1 : Option Addr) (cap2 : Option Addr) (cap3 : Option Addr) (cap4 : Option Addr) (K : Value → Heap → Prop) (h1 : Heap) : Prop :=
  onSome cap1 fun p1 =>
  ∃ (b1 : Bool), cellOf h1 p1 = some (.bool b1) ∧
  bif b1 then (
  onSome cap3 fun p2 =>
  ∃ (q1 : Option Addr), cellOf h1 p2 = some (.pointer q1) ∧
  onSome q1 fun p3 =>
  ∃ (m1 : Option Nat), cellOf h1 (Addr.add p3 1) = some (.map m1) ∧
  onSome cap4 fun p4 =>
  ∃ (n1 : Int), cellOf h1 p4 = some (.int .i64 n1) ∧
  onSome cap2 fun p5 =>
  ∃ (sA1 : Option Addr) (sL1 : Nat) (sC1 : Nat), cellOf h1 p5 = some (.slice sA1 sL1 sC1) ∧
  onSome m1 fun r1 =>
  MapPut (.int .i64) r1 (.i n1) (.slice sA1 sL1 sC1) h1 fun h2 =>
  K (.tuple #[]) h2) else (
  onSome cap3 fun p6 =>
  ∃ (q2 : Option Addr), cellOf h1 p6 = some (.pointer q2) ∧
  onSome q2 fun p7 =>
  ∃ (m2 : Option Nat), cellOf h1 (Addr.add p7 1) = some (.map m2) ∧
  onSome cap4 fun p8 =>
  ∃ (n2 : Int), cellOf h1 p8 = some (.int .i64 n2) ∧
  MapDel (.int .i64) m2 (.i n2) h1 fun h3 =>
  K (.tuple #[]) h3)
def txn_Txn_Write_c1.lo : Nat → List Nat × List (Nat × Ty) := fun n => match n with | _ => ([], [])
def txn_Txn_Write_c1.od : Nat → Od := fun n => match n with | 1 => (.op 0 [] (.op 1 [] (.op 2 [] (.op 3 [] (.op 4 [] (.op 5 [] (.op 6 [] .nil))))))) | 2 => (.op 0 [] (.op 1 [] (.op 2 [] (.op 3 [] (.op 4 [] (.op 5 [] .nil)))))) | _ => .nil
theorem txn_Txn_Write_c1.eq (cap1 : Option Addr) (cap2 : Option Addr) (cap3 : Option Addr) (cap4 : Option Addr) (K : Value → Heap → Prop) (h : Heap) : fnX (cx txn_Txn_Write_c1.lo txn_Txn_Write_c1.od) Tryz.f157 (Tryz.f157.body.getD .skip) [.pointer cap1, .pointer cap2, .pointer cap3, .pointer cap4] K h = txn_Txn_Write_c1 cap1 cap2 cap3 cap4 K h := by kernel_rfl
theorem txn_Txn_Write_c1.chk : fnOk (cx txn_Txn_Write_c1.lo txn_Txn_Write_c1.od) Tryz.f157 (Tryz.f157.body.getD .skip) 4 = true := by kernel_rfl
theorem txn_Txn_Write_c1.ok {cap1 : Option Addr} {cap2 : Option Addr} {cap3 : Option Addr} {cap4 : Option Addr} {K : Value → Heap → Prop} {h : Heap} (hx : txn_Txn_Write_c1 cap1 cap2 cap3 cap4 K h) : C.txn_Txn_Write_c1 cap1 cap2 cap3 cap4 h K :=
  fn_to (cxOk _ _) Tryz.func157 (by kernel_rfl) txn_Txn_Write_c1.chk (by rw [txn_Txn_Write_c1.eq]; exact hx)
end Go.Proofs.YtjdcbblgaoogmaaGreatDoor.W
namespace Go.Proofs.YtjdcbblgaoogmaaGreatDoor.W
open Go Go.Proofs Go.Proofs.YtjdcbblgaoogmaaGreatDoor.Wx
def head_may (numsA1 : Option Addr) (numsL1 : Nat) (numsC1 : Nat) (n1 : Int) (K : Value → Heap → Prop) (h1 : Heap) : Prop :=
  New [.int .i64 n1] 3 h1 fun h2 =>
  New z3 3 h2 fun h3 =>
  Put ⟨h2.size, 0, none⟩ (.int .i64 97) h3 fun h4 =>
  ∃ (I1 : Int → Heap → Prop) (M1 : Int → Heap → Nat), I1 0 h4 ∧
  ∀ (n2 : Int), ∀ h5 : Heap, I1 n2 h5 →
  bif (decide (n2 < (numsL1 : Int))) then (
  (0 ≤ n2 ∧ n2 < (numsL1 : Int)) ∧
  onSome numsA1 fun p1 =>
  ∃ (n3 : Int), cellOf h5 (Addr.add p1 (Int.toNat n2)) = some (.int .i64 n3) ∧
  C.head_may_c1 n3 (some ⟨h2.size, 0, none⟩) (some ⟨h1.size, 0, none⟩) h5 fun r1 h6 =>
  ∃ (b1 : Bool), r1 = .bool b1 ∧
  bif b1 then (
  K (.bool false) h6) else (
  I1 (IntKind.wrap .i64 (n2 + 1)) h6 ∧ M1 (IntKind.wrap .i64 (n2 + 1)) h6 < M1 n2 h5)) else (
  bif (decide ((numsL1 : Int) ≥ 1)) then (
  K (.bool (decide ((numsL1 : Int) ≤ 96))) h5) else (
  K (.bool false) h5))
def head_may.lo : Nat → List Nat × List (Nat × Ty) := fun n => match n with | 4 => ([0, 6, 10, 11], [(12, .int .i64)]) | _ => ([], [])
def head_may.od : Nat → Od := fun n => match n with | _ => .nil
theorem head_may.eq (numsA1 : Option Addr) (numsL1 : Nat) (numsC1 : Nat) (n1 : Int) (K : Value → Heap → Prop) (h : Heap) : fnX (cx head_may.lo head_may.od) Tryz.f176 (Tryz.f176.body.getD .skip) [.slice numsA1 numsL1 numsC1, .int .i64 n1] K h = head_may numsA1 numsL1 numsC1 n1 K h := by kernel_rfl
theorem head_may.chk : fnOk (cx head_may.lo head_may.od) Tryz.f176 (Tryz.f176.body.getD .skip) 2 = true := by kernel_rfl
theorem head_may.ok {numsA1 : Option Addr} {numsL1 : Nat} {numsC1 : Nat} {n1 : Int} {K : Value → Heap → Prop} {h : Heap} (hx : head_may numsA1 numsL1 numsC1 n1 K h) : C.head_may numsA1 numsL1 numsC1 n1 h K :=
  fn_to (cxOk _ _) Tryz.func176 (by kernel_rfl) head_may.chk (by rw [head_may.eq]; exact hx)
def head_areBlocks (dataA1 : Option Addr) (dataL1 : Nat) (dataC1 : Nat) (n1 : Int) (K : Value → Heap → Prop) (h1 : Heap) : Prop :=
  ∃ (I1 : Int → Heap → Prop) (M1 : Int → Heap → Nat), I1 0 h1 ∧
  ∀ (n2 : Int), ∀ h2 : Heap, I1 n2 h2 →
  bif (decide (n2 < (dataL1 : Int))) then (
  (0 ≤ n2 ∧ n2 < (dataL1 : Int)) ∧
  onSome dataA1 fun p1 =>
  ∃ (sA1 : Option Addr) (sL1 : Nat) (sC1 : Nat), cellOf h2 (Addr.add p1 (Int.toNat n2)) = some (.slice sA1 sL1 sC1) ∧
  bif ((sL1 : Int) != 512) then (
  K (.bool false) h2) else (
  I1 (IntKind.wrap .i64 (n2 + 1)) h2 ∧ M1 (IntKind.wrap .i64 (n2 + 1)) h2 < M1 n2 h2)) else (
  K (.bool ((dataL1 : Int) == n1)) h2)
def head_areBlocks.lo : Nat → List Nat × List (Nat × Ty) := fun n => match n with | 2 => ([0, 1, 7, 8], [(9, .int .i64)]) | _ => ([], [])
def head_areBlocks.od : Nat → Od := fun n => match n with | _ => .nil
theorem head_areBlocks.eq (dataA1 : Option Addr) (dataL1 : Nat) (dataC1 : Nat) (n1 : Int) (K : Value → Heap → Prop) (h : Heap) : fnX (cx head_areBlocks.lo head_areBlocks.od) Tryz.f177 (Tryz.f177.body.getD .skip) [.slice dataA1 dataL1 dataC1, .int .i64 n1] K h = head_areBlocks dataA1 dataL1 dataC1 n1 K h := by kernel_rfl
theorem head_areBlocks.chk : fnOk (cx head_areBlocks.lo head_areBlocks.od) Tryz.f177 (Tryz.f177.body.getD .skip) 2 = true := by kernel_rfl
theorem head_areBlocks.ok {dataA1 : Option Addr} {dataL1 : Nat} {dataC1 : Nat} {n1 : Int} {K : Value → Heap → Prop} {h : Heap} (hx : head_areBlocks dataA1 dataL1 dataC1 n1 K h) : C.head_areBlocks dataA1 dataL1 dataC1 n1 h K :=
  fn_to (cxOk _ _) Tryz.func177 (by kernel_rfl) head_areBlocks.chk (by rw [head_areBlocks.eq]; exact hx)
def rec_PutText (bA1 : Option Addr) (bL1 : Nat) (bC1 : Nat) (at1 : Int) (n1 : Int) (s1 : ByteArray) (K : Value → Heap → Prop) (h1 : Heap) : Prop :=
  bif (decide (n1 < 0)) then (
  K (.int .i64 1) h1) else (
  bif (decide ((s1.size : Int) > n1)) then (
  K (.int .i64 1) h1) else (
  NewS s1 5 h1 fun cap1 h2 =>
  C.rec_ahead (some ⟨h1.size, 0, none⟩) s1.size cap1 h2 fun r1 h3 =>
  ∃ (n2 : Int), r1 = .int .i64 n2 ∧
  bif (decide (n2 < (s1.size : Int))) then (
  K (.int .i64 1) h3) else (
  C.rec_lie bA1 bL1 bC1 at1 n1 h3 fun r2 h4 =>
  ∃ (b1 : Bool), r2 = .bool b1 ∧
  bif (!b1) then (
  K (.int .i64 20) h4) else (
  (0 ≤ at1 ∧ at1 ≤ (IntKind.wrap .i64 (at1 + n1)) ∧ (IntKind.wrap .i64 (at1 + n1)) ≤ (bC1 : Int)) ∧
  CopyP ti5 (if bC1 = (Int.toNat at1) then bA1 else Option.map (Addr.add · (Int.toNat at1)) bA1) ((Int.toNat (IntKind.wrap .i64 (at1 + n1))) - (Int.toNat at1)) (.string s1) h4 fun n3 h5 =>
  (0 ≤ (IntKind.wrap .i64 (at1 + (n3 : Int))) ∧ (IntKind.wrap .i64 (at1 + (n3 : Int))) ≤ (IntKind.wrap .i64 (at1 + n1)) ∧ (IntKind.wrap .i64 (at1 + n1)) ≤ (bC1 : Int)) ∧
  ClearP ti5 (if bC1 = (Int.toNat (IntKind.wrap .i64 (at1 + (n3 : Int)))) then bA1 else Option.map (Addr.add · (Int.toNat (IntKind.wrap .i64 (at1 + (n3 : Int))))) bA1) ((Int.toNat (IntKind.wrap .i64 (at1 + n1))) - (Int.toNat (IntKind.wrap .i64 (at1 + (n3 : Int))))) h5 fun h6 =>
  K (.int .i64 0) h6))))
def rec_PutText.lo : Nat → List Nat × List (Nat × Ty) := fun n => match n with | _ => ([], [])
def rec_PutText.od : Nat → Od := fun n => match n with | _ => .nil
theorem rec_PutText.eq (bA1 : Option Addr) (bL1 : Nat) (bC1 : Nat) (at1 : Int) (n1 : Int) (s1 : ByteArray) (K : Value → Heap → Prop) (h : Heap) : fnX (cx rec_PutText.lo rec_PutText.od) Tryz.f178 (Tryz.f178.body.getD .skip) [.slice bA1 bL1 bC1, .int .i64 at1, .int .i64 n1, .string s1] K h = rec_PutText bA1 bL1 bC1 at1 n1 s1 K h := by kernel_rfl
theorem rec_PutText.chk : fnOk (cx rec_PutText.lo rec_PutText.od) Tryz.f178 (Tryz.f178.body.getD .skip) 4 = true := by kernel_rfl
theorem rec_PutText.ok {bA1 : Option Addr} {bL1 : Nat} {bC1 : Nat} {at1 : Int} {n1 : Int} {s1 : ByteArray} {K : Value → Heap → Prop} {h : Heap} (hx : rec_PutText bA1 bL1 bC1 at1 n1 s1 K h) : C.rec_PutText bA1 bL1 bC1 at1 n1 s1 h K :=
  fn_to (cxOk _ _) Tryz.func178 (by kernel_rfl) rec_PutText.chk (by rw [rec_PutText.eq]; exact hx)
def rec_Put (bA1 : Option Addr) (bL1 : Nat) (bC1 : Nat) (at1 : Int) (n1 : Int) (v1 : Int) (K : Value → Heap → Prop) (h1 : Heap) : Prop :=
  C.rec_isWidth n1 h1 fun r1 h2 =>
  ∃ (b1 : Bool), r1 = .bool b1 ∧
  bif (!b1) then (
  K (.int .i64 1) h2) else (
  bif (decide (n1 < 8)) then (
  if (IntKind.wrap .i64 (8 * n1)) < 0 then False else
  bif ((Int.fdiv v1 (2 ^ min (Int.toNat (IntKind.wrap .i64 (8 * n1))) 64)) != 0) then (
  K (.int .i64 1) h2) else (
  C.rec_lie bA1 bL1 bC1 at1 n1 h2 fun r2 h3 =>
  ∃ (b2 : Bool), r2 = .bool b2 ∧
  bif (!b2) then (
  K (.int .i64 20) h3) else (
  ∃ (I1 : Int → Heap → Prop) (M1 : Int → Heap → Nat), I1 0 h3 ∧
  ∀ (n2 : Int), ∀ h4 : Heap, I1 n2 h4 →
  bif (decide (n2 < n1)) then (
  if (IntKind.wrap .i64 (8 * n2)) < 0 then False else
  (0 ≤ (IntKind.wrap .i64 (at1 + n2)) ∧ (IntKind.wrap .i64 (at1 + n2)) < (bL1 : Int)) ∧
  onSome bA1 fun p1 =>
  Put (Addr.add p1 (Int.toNat (IntKind.wrap .i64 (at1 + n2)))) (.int .u8 (IntKind.wrap .u8 ((Int.fdiv v1 (2 ^ min (Int.toNat (IntKind.wrap .i64 (8 * n2))) 64))))) h4 fun h5 =>
  I1 (IntKind.wrap .i64 (n2 + 1)) h5 ∧ M1 (IntKind.wrap .i64 (n2 + 1)) h5 < M1 n2 h4) else (
  K (.int .i64 0) h4)))) else (
  C.rec_lie bA1 bL1 bC1 at1 n1 h2 fun r3 h6 =>
  ∃ (b3 : Bool), r3 = .bool b3 ∧
  bif (!b3) then (
  K (.int .i64 20) h6) else (
  ∃ (I2 : Int → Heap → Prop) (M2 : Int → Heap → Nat), I2 0 h6 ∧
  ∀ (n3 : Int), ∀ h7 : Heap, I2 n3 h7 →
  bif (decide (n3 < n1)) then (
  if (IntKind.wrap .i64 (8 * n3)) < 0 then False else
  (0 ≤ (IntKind.wrap .i64 (at1 + n3)) ∧ (IntKind.wrap .i64 (at1 + n3)) < (bL1 : Int)) ∧
  onSome bA1 fun p2 =>
  Put (Addr.add p2 (Int.toNat (IntKind.wrap .i64 (at1 + n3)))) (.int .u8 (IntKind.wrap .u8 ((Int.fdiv v1 (2 ^ min (Int.toNat (IntKind.wrap .i64 (8 * n3))) 64))))) h7 fun h8 =>
  I2 (IntKind.wrap .i64 (n3 + 1)) h8 ∧ M2 (IntKind.wrap .i64 (n3 + 1)) h8 < M2 n3 h7) else (
  K (.int .i64 0) h7))))
def rec_Put.lo : Nat → List Nat × List (Nat × Ty) := fun n => match n with | 6 => ([0, 1, 3, 31], [(32, .int .i64)]) | _ => ([], [])
def rec_Put.od : Nat → Od := fun n => match n with | _ => .nil
theorem rec_Put.eq (bA1 : Option Addr) (bL1 : Nat) (bC1 : Nat) (at1 : Int) (n1 : Int) (v1 : Int) (K : Value → Heap → Prop) (h : Heap) : fnX (cx rec_Put.lo rec_Put.od) Tryz.f179 (Tryz.f179.body.getD .skip) [.slice bA1 bL1 bC1, .int .i64 at1, .int .i64 n1, .int .u64 v1] K h = rec_Put bA1 bL1 bC1 at1 n1 v1 K h := by kernel_rfl
theorem rec_Put.chk : fnOk (cx rec_Put.lo rec_Put.od) Tryz.f179 (Tryz.f179.body.getD .skip) 4 = true := by kernel_rfl
theorem rec_Put.ok {bA1 : Option Addr} {bL1 : Nat} {bC1 : Nat} {at1 : Int} {n1 : Int} {v1 : Int} {K : Value → Heap → Prop} {h : Heap} (hx : rec_Put bA1 bL1 bC1 at1 n1 v1 K h) : C.rec_Put bA1 bL1 bC1 at1 n1 v1 h K :=
  fn_to (cxOk _ _) Tryz.func179 (by kernel_rfl) rec_Put.chk (by rw [rec_Put.eq]; exact hx)
def head_sumOf (headA1 : Option Addr) (headL1 : Nat) (headC1 : Nat) (piecesA1 : Option Addr) (piecesL1 : Nat) (piecesC1 : Nat) (K : Value → Heap → Prop) (h1 : Heap) : Prop :=
  C.bytes_Clone headA1 headL1 headC1 h1 fun r1 h2 =>
  ∃ (sA1 : Option Addr) (sL1 : Nat) (sC1 : Nat), r1 = .slice sA1 sL1 sC1 ∧
  C.rec_Put sA1 sL1 sC1 12 4 0 h2 fun r2 h3 =>
  ∃ (n1 : Int), r2 = .int .i64 n1 ∧
  C.sum_Of sA1 sL1 sC1 h3 fun r3 h4 =>
  ∃ (n2 : Int), r3 = .int .u32 n2 ∧
  ∃ (I1 : Int → Int → Heap → Prop) (M1 : Int → Int → Heap → Nat), I1 n2 0 h4 ∧
  ∀ (s1 : Int) (n3 : Int), ∀ h5 : Heap, I1 s1 n3 h5 →
  bif (decide (n3 < (piecesL1 : Int))) then (
  (0 ≤ n3 ∧ n3 < (piecesL1 : Int)) ∧
  onSome piecesA1 fun p1 =>
  ∃ (sA2 : Option Addr) (sL2 : Nat) (sC2 : Nat), cellOf h5 (Addr.add p1 (Int.toNat n3)) = some (.slice sA2 sL2 sC2) ∧
  C.sum_Of sA2 sL2 sC2 h5 fun r4 h6 =>
  ∃ (n4 : Int), r4 = .int .u32 n4 ∧
  C.sum_Join s1 n4 (sL2 : Int) h6 fun r5 h7 =>
  ∃ (n5 : Int) (n6 : Int), r5 = .tuple #[.int .u32 n5, .int .i64 n6] ∧
  I1 n5 (IntKind.wrap .i64 (n3 + 1)) h7 ∧ M1 n5 (IntKind.wrap .i64 (n3 + 1)) h7 < M1 s1 n3 h5) else (
  K (.int .u32 s1) h5)
def head_sumOf.lo : Nat → List Nat × List (Nat × Ty) := fun n => match n with | 5 => ([15, 16], [(6, .int .u32), (17, .int .i64)]) | _ => ([], [])
def head_sumOf.od : Nat → Od := fun n => match n with | _ => .nil
theorem head_sumOf.eq (headA1 : Option Addr) (headL1 : Nat) (headC1 : Nat) (piecesA1 : Option Addr) (piecesL1 : Nat) (piecesC1 : Nat) (K : Value → Heap → Prop) (h : Heap) : fnX (cx head_sumOf.lo head_sumOf.od) Tryz.f180 (Tryz.f180.body.getD .skip) [.slice headA1 headL1 headC1, .slice piecesA1 piecesL1 piecesC1] K h = head_sumOf headA1 headL1 headC1 piecesA1 piecesL1 piecesC1 K h := by kernel_rfl
theorem head_sumOf.chk : fnOk (cx head_sumOf.lo head_sumOf.od) Tryz.f180 (Tryz.f180.body.getD .skip) 2 = true := by kernel_rfl
theorem head_sumOf.ok {headA1 : Option Addr} {headL1 : Nat} {headC1 : Nat} {piecesA1 : Option Addr} {piecesL1 : Nat} {piecesC1 : Nat} {K : Value → Heap → Prop} {h : Heap} (hx : head_sumOf headA1 headL1 headC1 piecesA1 piecesL1 piecesC1 K h) : C.head_sumOf headA1 headL1 headC1 piecesA1 piecesL1 piecesC1 h K :=
  fn_to (cxOk _ _) Tryz.func180 (by kernel_rfl) head_sumOf.chk (by rw [head_sumOf.eq]; exact hx)
def wal_steps_write_c1 (d1 : Option Addr) (cap1 : Option Addr) (cap2 : Option Addr) (K : Value → Heap → Prop) (h1 : Heap) : Prop :=
  onSome cap1 fun p1 =>
  ∃ (n1 : Int), cellOf h1 p1 = some (.int .i64 n1) ∧
  onSome cap2 fun p2 =>
  ∃ (sA1 : Option Addr) (sL1 : Nat) (sC1 : Nat), cellOf h1 p2 = some (.slice sA1 sL1 sC1) ∧
  C.adisk_Disk_Write d1 n1 sA1 sL1 sC1 h1 fun r1 h2 =>
  ∃ (n2 : Int), r1 = .int .i64 n2 ∧
  K (.int .i64 n2) h2
def wal_steps_write_c1.lo : Nat → List Nat × List (Nat × Ty) := fun n => match n with | _ => ([], [])
def wal_steps_write_c1.od : Nat → Od := fun n => match n with | _ => .nil
theorem wal_steps_write_c1.eq (d1 : Option Addr) (cap1 : Option Addr) (cap2 : Option Addr) (K : Value → Heap → Prop) (h : Heap) : fnX (cx wal_steps_write_c1.lo wal_steps_write_c1.od) Tryz.f181 (Tryz.f181.body.getD .skip) [.pointer d1, .pointer cap1, .pointer cap2] K h = wal_steps_write_c1 d1 cap1 cap2 K h := by kernel_rfl
theorem wal_steps_write_c1.chk : fnOk (cx wal_steps_write_c1.lo wal_steps_write_c1.od) Tryz.f181 (Tryz.f181.body.getD .skip) 3 = true := by kernel_rfl
theorem wal_steps_write_c1.ok {d1 : Option Addr} {cap1 : Option Addr} {cap2 : Option Addr} {K : Value → Heap → Prop} {h : Heap} (hx : wal_steps_write_c1 d1 cap1 cap2 K h) : C.wal_steps_write_c1 d1 cap1 cap2 h K :=
  fn_to (cxOk _ _) Tryz.func181 (by kernel_rfl) wal_steps_write_c1.chk (by rw [wal_steps_write_c1.eq]; exact hx)
def wal_steps_flush_c1 (d1 : Option Addr) (K : Value → Heap → Prop) (h1 : Heap) : Prop :=
  C.adisk_Disk_Flush d1 h1 fun r1 h2 =>
  ∃ (n1 : Int), r1 = .int .i64 n1 ∧
  K (.int .i64 n1) h2
def wal_steps_flush_c1.lo : Nat → List Nat × List (Nat × Ty) := fun n => match n with | _ => ([], [])
def wal_steps_flush_c1.od : Nat → Od := fun n => match n with | _ => .nil
theorem wal_steps_flush_c1.eq (d1 : Option Addr) (K : Value → Heap → Prop) (h : Heap) : fnX (cx wal_steps_flush_c1.lo wal_steps_flush_c1.od) Tryz.f182 (Tryz.f182.body.getD .skip) [.pointer d1] K h = wal_steps_flush_c1 d1 K h := by kernel_rfl
theorem wal_steps_flush_c1.chk : fnOk (cx wal_steps_flush_c1.lo wal_steps_flush_c1.od) Tryz.f182 (Tryz.f182.body.getD .skip) 1 = true := by kernel_rfl
theorem wal_steps_flush_c1.ok {d1 : Option Addr} {K : Value → Heap → Prop} {h : Heap} (hx : wal_steps_flush_c1 d1 K h) : C.wal_steps_flush_c1 d1 h K :=
  fn_to (cxOk _ _) Tryz.func182 (by kernel_rfl) wal_steps_flush_c1.chk (by rw [wal_steps_flush_c1.eq]; exact hx)
end Go.Proofs.YtjdcbblgaoogmaaGreatDoor.W
namespace Go.Proofs.YtjdcbblgaoogmaaGreatDoor.W
open Go Go.Proofs Go.Proofs.YtjdcbblgaoogmaaGreatDoor.Wx
def boleref06_Header (lA1 : Option Addr) (lL1 : Nat) (lC1 : Nat) (K : Value → Heap → Prop) (h1 : Heap) : Prop :=
  New [.int .u8 66, .int .u8 79, .int .u8 76, .int .u8 69, .int .u8 76, .int .u8 79, .int .u8 71, .int .u8 49] 5 h1 fun h2 =>
  MarkAt ⟨h1.size, 0, none⟩ h2 fun h3 =>
  C.boleref06_low (lL1 : Int) 2 h3 fun r1 h4 =>
  ∃ (sA1 : Option Addr) (sL1 : Nat) (sC1 : Nat), r1 = .slice sA1 sL1 sC1 ∧
  ∃ new1 : List Value, List.length new1 = sL1 * 1 ∧ SlCells h4 sA1 new1 ∧ (∀ v ∈ new1, v.oneCell' = true) ∧
  AppendP ti5 5 (some ⟨h1.size, 0, none⟩) 8 8 sL1 new1 h4 fun sA2 sL2 sC2 h5 =>
  New [.int .u8 0, .int .u8 0] 5 h5 fun h6 =>
  ∃ new2 : List Value, List.length new2 = 2 * 1 ∧ SlCells h6 (some ⟨h5.size, 0, none⟩) new2 ∧ (∀ v ∈ new2, v.oneCell' = true) ∧
  AppendP ti5 5 sA2 sL2 sC2 2 new2 h6 fun sA3 sL3 sC3 h7 =>
  ∃ (I1 : Option Addr → Nat → Nat → Option Addr → Nat → Nat → Int → Heap → Prop) (M1 : Option Addr → Nat → Nat → Option Addr → Nat → Nat → Int → Heap → Nat), I1 none 0 0 none 0 0 0 h7 ∧
  ∀ (backA1 : Option Addr) (backL1 : Nat) (backC1 : Nat) (dataA1 : Option Addr) (dataL1 : Nat) (dataC1 : Nat) (n1 : Int), ∀ h8 : Heap, I1 backA1 backL1 backC1 dataA1 dataL1 dataC1 n1 h8 →
  bif (decide (n1 < (lL1 : Int))) then (
  (0 ≤ n1 ∧ n1 < (lL1 : Int)) ∧
  onSome lA1 fun p1 =>
  ∃ cs1 : List Value, List.length cs1 = 2 ∧ Cells h8 (Addr.add p1 ((Int.toNat n1) * 2)) cs1 ∧
  NewRow z103 103 cs1 2 h8 fun h10 =>
  ∃ (n2 : Int), cellOf h10 (Addr.add ⟨h8.size, 0, none⟩ 0) = some (.int .i64 n2) ∧
  C.boleref06_low n2 4 h10 fun r2 h11 =>
  ∃ (sA4 : Option Addr) (sL4 : Nat) (sC4 : Nat), r2 = .slice sA4 sL4 sC4 ∧
  ∃ new3 : List Value, List.length new3 = sL4 * 1 ∧ SlCells h11 sA4 new3 ∧ (∀ v ∈ new3, v.oneCell' = true) ∧
  AppendP ti5 5 backA1 backL1 backC1 sL4 new3 h11 fun sA5 sL5 sC5 h12 =>
  ∃ (sA6 : Option Addr) (sL6 : Nat) (sC6 : Nat), cellOf h12 (Addr.add ⟨h8.size, 0, none⟩ 1) = some (.slice sA6 sL6 sC6) ∧
  ∃ new4 : List Value, List.length new4 = sL6 * 1 ∧ SlCells h12 sA6 new4 ∧ (∀ v ∈ new4, v.oneCell' = true) ∧
  AppendP ti5 5 dataA1 dataL1 dataC1 sL6 new4 h12 fun sA7 sL7 sC7 h13 =>
  I1 sA5 sL5 sC5 sA7 sL7 sC7 (IntKind.wrap .i64 (n1 + 1)) h13 ∧ M1 sA5 sL5 sC5 sA7 sL7 sC7 (IntKind.wrap .i64 (n1 + 1)) h13 < M1 backA1 backL1 backC1 dataA1 dataL1 dataC1 n1 h8) else (
  ∃ (I2 : Option Addr → Nat → Nat → Heap → Prop) (M2 : Option Addr → Nat → Nat → Heap → Nat), I2 backA1 backL1 backC1 h8 ∧
  ∀ (backA2 : Option Addr) (backL2 : Nat) (backC2 : Nat), ∀ h14 : Heap, I2 backA2 backL2 backC2 h14 →
  bif (decide ((IntKind.wrap .i64 ((IntKind.wrap .i64 ((sL3 : Int) + 4)) + (backL2 : Int))) < 512)) then (
  New [.int .u8 0] 5 h14 fun h15 =>
  ∃ new5 : List Value, List.length new5 = 1 * 1 ∧ SlCells h15 (some ⟨h14.size, 0, none⟩) new5 ∧ (∀ v ∈ new5, v.oneCell' = true) ∧
  AppendP ti5 5 backA2 backL2 backC2 1 new5 h15 fun sA8 sL8 sC8 h16 =>
  I2 sA8 sL8 sC8 h16 ∧ M2 sA8 sL8 sC8 h16 < M2 backA2 backL2 backC2 h14) else (
  ∃ new6 : List Value, List.length new6 = sL3 * 1 ∧ SlCells h14 sA3 new6 ∧ (∀ v ∈ new6, v.oneCell' = true) ∧
  AppendP ti5 5 none 0 0 sL3 new6 h14 fun sA9 sL9 sC9 h17 =>
  New [.int .u8 0, .int .u8 0, .int .u8 0, .int .u8 0] 5 h17 fun h18 =>
  ∃ new7 : List Value, List.length new7 = 4 * 1 ∧ SlCells h18 (some ⟨h17.size, 0, none⟩) new7 ∧ (∀ v ∈ new7, v.oneCell' = true) ∧
  AppendP ti5 5 sA9 sL9 sC9 4 new7 h18 fun sA10 sL10 sC10 h19 =>
  ∃ new8 : List Value, List.length new8 = backL2 * 1 ∧ SlCells h19 backA2 new8 ∧ (∀ v ∈ new8, v.oneCell' = true) ∧
  AppendP ti5 5 sA10 sL10 sC10 backL2 new8 h19 fun sA11 sL11 sC11 h20 =>
  ∃ new9 : List Value, List.length new9 = dataL1 * 1 ∧ SlCells h20 dataA1 new9 ∧ (∀ v ∈ new9, v.oneCell' = true) ∧
  AppendP ti5 5 sA11 sL11 sC11 dataL1 new9 h20 fun sA12 sL12 sC12 h21 =>
  C.boleref06_crc sA12 sL12 sC12 h21 fun r3 h22 =>
  ∃ (n3 : Int), r3 = .int .u32 n3 ∧
  C.boleref06_low (IntKind.wrap .i64 (n3)) 4 h22 fun r4 h23 =>
  ∃ (sA13 : Option Addr) (sL13 : Nat) (sC13 : Nat), r4 = .slice sA13 sL13 sC13 ∧
  ∃ new10 : List Value, List.length new10 = sL13 * 1 ∧ SlCells h23 sA13 new10 ∧ (∀ v ∈ new10, v.oneCell' = true) ∧
  AppendP ti5 5 sA3 sL3 sC3 sL13 new10 h23 fun sA14 sL14 sC14 h24 =>
  ∃ new11 : List Value, List.length new11 = backL2 * 1 ∧ SlCells h24 backA2 new11 ∧ (∀ v ∈ new11, v.oneCell' = true) ∧
  AppendP ti5 5 sA14 sL14 sC14 backL2 new11 h24 fun sA15 sL15 sC15 h25 =>
  K (.slice sA15 sL15 sC15) h25))
def boleref06_Header.lo : Nat → List Nat × List (Nat × Ty) := fun n => match n with | 6 => ([3, 19, 20], [(4, .slice), (5, .slice), (21, .int .i64)]) | 11 => ([3, 5], [(4, .slice)]) | _ => ([], [])
def boleref06_Header.od : Nat → Od := fun n => match n with | _ => .nil
theorem boleref06_Header.eq (lA1 : Option Addr) (lL1 : Nat) (lC1 : Nat) (K : Value → Heap → Prop) (h : Heap) : fnX (cx boleref06_Header.lo boleref06_Header.od) Tryz.f194 (Tryz.f194.body.getD .skip) [.slice lA1 lL1 lC1] K h = boleref06_Header lA1 lL1 lC1 K h := by kernel_rfl
theorem boleref06_Header.chk : fnOk (cx boleref06_Header.lo boleref06_Header.od) Tryz.f194 (Tryz.f194.body.getD .skip) 1 = true := by kernel_rfl
theorem boleref06_Header.ok {lA1 : Option Addr} {lL1 : Nat} {lC1 : Nat} {K : Value → Heap → Prop} {h : Heap} (hx : boleref06_Header lA1 lL1 lC1 K h) : C.boleref06_Header lA1 lL1 lC1 h K :=
  fn_to (cxOk _ _) Tryz.func194 (by kernel_rfl) boleref06_Header.chk (by rw [boleref06_Header.eq]; exact hx)
def bits_Runs (bA1 : Option Addr) (bL1 : Nat) (bC1 : Nat) (K : Value → Heap → Prop) (h1 : Heap) : Prop :=
  New [] 5 h1 fun h2 =>
  ∃ new1 : List Value, List.length new1 = bL1 * 1 ∧ SlCells h2 bA1 new1 ∧ (∀ v ∈ new1, v.oneCell' = true) ∧
  AppendP ti5 5 (some ⟨h1.size, 0, none⟩) 0 0 bL1 new1 h2 fun sA1 sL1 sC1 h3 =>
  New z37 37 h3 fun h4 =>
  Put ⟨h3.size, 0, none⟩ (.slice sA1 sL1 sC1) h4 fun h5 =>
  K (.func (.func 261) #[] ⟨[.pointer (some ⟨h3.size, 0, none⟩)]⟩) h5
def bits_Runs.lo : Nat → List Nat × List (Nat × Ty) := fun n => match n with | _ => ([], [])
def bits_Runs.od : Nat → Od := fun n => match n with | _ => .nil
theorem bits_Runs.eq (bA1 : Option Addr) (bL1 : Nat) (bC1 : Nat) (K : Value → Heap → Prop) (h : Heap) : fnX (cx bits_Runs.lo bits_Runs.od) Tryz.f199 (Tryz.f199.body.getD .skip) [.slice bA1 bL1 bC1] K h = bits_Runs bA1 bL1 bC1 K h := by kernel_rfl
theorem bits_Runs.chk : fnOk (cx bits_Runs.lo bits_Runs.od) Tryz.f199 (Tryz.f199.body.getD .skip) 1 = true := by kernel_rfl
theorem bits_Runs.ok {bA1 : Option Addr} {bL1 : Nat} {bC1 : Nat} {K : Value → Heap → Prop} {h : Heap} (hx : bits_Runs bA1 bL1 bC1 K h) : C.bits_Runs bA1 bL1 bC1 h K :=
  fn_to (cxOk _ _) Tryz.func199 (by kernel_rfl) bits_Runs.chk (by rw [bits_Runs.eq]; exact hx)
def bits_Put (bA1 : Option Addr) (bL1 : Nat) (bC1 : Nat) (i1 : Int) (is1 : Bool) (K : Value → Heap → Prop) (h1 : Heap) : Prop :=
  C.bits_has bA1 bL1 bC1 i1 h1 fun r1 h2 =>
  ∃ (b1 : Bool), r1 = .bool b1 ∧
  bif (!b1) then (
  K (.int .i64 80) h2) else (
  bif is1 then (
  (0 ≤ (IntKind.wrap .i64 (Int.tdiv i1 8)) ∧ (IntKind.wrap .i64 (Int.tdiv i1 8)) < (bL1 : Int)) ∧
  onSome bA1 fun p1 =>
  ∃ (n1 : Int), cellOf h2 (Addr.add p1 (Int.toNat (IntKind.wrap .i64 (Int.tdiv i1 8)))) = some (.int .u8 n1) ∧
  if (Int.tmod i1 8) < 0 then False else
  (0 ≤ (IntKind.wrap .i64 (Int.tdiv i1 8)) ∧ (IntKind.wrap .i64 (Int.tdiv i1 8)) < (bL1 : Int)) ∧
  onSome bA1 fun p2 =>
  Put (Addr.add p2 (Int.toNat (IntKind.wrap .i64 (Int.tdiv i1 8)))) (.int .u8 (bitsI .or .u8 n1 (IntKind.wrap .u8 ((1 * 2 ^ min (Int.toNat (Int.tmod i1 8)) 8))))) h2 fun h3 =>
  K (.int .i64 0) h3) else (
  (0 ≤ (IntKind.wrap .i64 (Int.tdiv i1 8)) ∧ (IntKind.wrap .i64 (Int.tdiv i1 8)) < (bL1 : Int)) ∧
  onSome bA1 fun p3 =>
  ∃ (n2 : Int), cellOf h2 (Addr.add p3 (Int.toNat (IntKind.wrap .i64 (Int.tdiv i1 8)))) = some (.int .u8 n2) ∧
  if (Int.tmod i1 8) < 0 then False else
  (0 ≤ (IntKind.wrap .i64 (Int.tdiv i1 8)) ∧ (IntKind.wrap .i64 (Int.tdiv i1 8)) < (bL1 : Int)) ∧
  onSome bA1 fun p4 =>
  Put (Addr.add p4 (Int.toNat (IntKind.wrap .i64 (Int.tdiv i1 8)))) (.int .u8 (bitsI .andNot .u8 n2 (IntKind.wrap .u8 ((1 * 2 ^ min (Int.toNat (Int.tmod i1 8)) 8))))) h2 fun h4 =>
  K (.int .i64 0) h4))
def bits_Put.lo : Nat → List Nat × List (Nat × Ty) := fun n => match n with | _ => ([], [])
def bits_Put.od : Nat → Od := fun n => match n with | 4 => (.op 0 [] (.op 1 [] (.op 2 [] (.op 3 [] (.op 4 [] (.op 5 [] (.op 6 [] (.op 7 [] (.op 8 [] (.op 9 [] (.op 10 [] .nil))))))))))) | 5 => (.op 0 [] (.op 1 [] (.op 2 [] (.op 3 [] (.op 4 [] (.op 5 [] (.op 6 [] (.op 7 [] (.op 8 [] (.op 9 [] (.op 10 [] .nil))))))))))) | _ => .nil
theorem bits_Put.eq (bA1 : Option Addr) (bL1 : Nat) (bC1 : Nat) (i1 : Int) (is1 : Bool) (K : Value → Heap → Prop) (h : Heap) : fnX (cx bits_Put.lo bits_Put.od) Tryz.f200 (Tryz.f200.body.getD .skip) [.slice bA1 bL1 bC1, .int .i64 i1, .bool is1] K h = bits_Put bA1 bL1 bC1 i1 is1 K h := by kernel_rfl
theorem bits_Put.chk : fnOk (cx bits_Put.lo bits_Put.od) Tryz.f200 (Tryz.f200.body.getD .skip) 3 = true := by kernel_rfl
theorem bits_Put.ok {bA1 : Option Addr} {bL1 : Nat} {bC1 : Nat} {i1 : Int} {is1 : Bool} {K : Value → Heap → Prop} {h : Heap} (hx : bits_Put bA1 bL1 bC1 i1 is1 K h) : C.bits_Put bA1 bL1 bC1 i1 is1 h K :=
  fn_to (cxOk _ _) Tryz.func200 (by kernel_rfl) bits_Put.chk (by rw [bits_Put.eq]; exact hx)
def geo_Bit.k1 (i1 : Int) (h1 : Heap) (h2 : Heap) (K : Value → Heap → Prop) : Prop :=
  ∃ (n2 : Int), cellOf h2 (Addr.add ⟨h1.size, 0, none⟩ 1) = some (.int .i64 n2) ∧
  K (.tuple #[.int .i64 (IntKind.wrap .i64 (n2 + (IntKind.wrap .i64 (Int.tdiv i1 4096)))), .int .i64 (Int.tmod i1 4096), .int .i64 0]) h2
def geo_Bit (g1 : List Value) (i1 : Int) (K : Value → Heap → Prop) (h1 : Heap) : Prop :=
  New g1 80 h1 fun h2 =>
  bif (decide (i1 < 0)) then (
  K (.tuple #[.int .i64 0, .int .i64 0, .int .i64 31]) h2) else (
  ∃ (n1 : Int), cellOf h2 (Addr.add ⟨h1.size, 0, none⟩ 0) = some (.int .i64 n1) ∧
  bif (decide (i1 ≥ n1)) then (
  K (.tuple #[.int .i64 0, .int .i64 0, .int .i64 31]) h2) else (
  geo_Bit.k1 i1 h1 h2 K))
def geo_Bit.lo : Nat → List Nat × List (Nat × Ty) := fun n => match n with | _ => ([], [])
def geo_Bit.od : Nat → Od := fun n => match n with | _ => .nil
theorem geo_Bit.eq (g1 : List Value) (i1 : Int) (K : Value → Heap → Prop) (h : Heap) : fnX (cx geo_Bit.lo geo_Bit.od) Tryz.f201 (Tryz.f201.body.getD .skip) [.agg ⟨g1⟩, .int .i64 i1] K h = geo_Bit g1 i1 K h := by kernel_rfl
theorem geo_Bit.chk : fnOk (cx geo_Bit.lo geo_Bit.od) Tryz.f201 (Tryz.f201.body.getD .skip) 2 = true := by kernel_rfl
theorem geo_Bit.ok {g1 : List Value} {i1 : Int} {K : Value → Heap → Prop} {h : Heap} (hx : geo_Bit g1 i1 K h) : C.geo_Bit g1 i1 h K :=
  fn_to (cxOk _ _) Tryz.func201 (by kernel_rfl) geo_Bit.chk (by rw [geo_Bit.eq]; exact hx)
def bits_has (bA1 : Option Addr) (bL1 : Nat) (bC1 : Nat) (i1 : Int) (K : Value → Heap → Prop) (h1 : Heap) : Prop :=
  bif (decide (i1 ≥ 0)) then (
  K (.bool (decide (i1 < (IntKind.wrap .i64 (8 * (bL1 : Int)))))) h1) else (
  K (.bool false) h1)
def bits_has.lo : Nat → List Nat × List (Nat × Ty) := fun n => match n with | _ => ([], [])
def bits_has.od : Nat → Od := fun n => match n with | _ => .nil
theorem bits_has.eq (bA1 : Option Addr) (bL1 : Nat) (bC1 : Nat) (i1 : Int) (K : Value → Heap → Prop) (h : Heap) : fnX (cx bits_has.lo bits_has.od) Tryz.f202 (Tryz.f202.body.getD .skip) [.slice bA1 bL1 bC1, .int .i64 i1] K h = bits_has bA1 bL1 bC1 i1 K h := by kernel_rfl
theorem bits_has.chk : fnOk (cx bits_has.lo bits_has.od) Tryz.f202 (Tryz.f202.body.getD .skip) 2 = true := by kernel_rfl
theorem bits_has.ok {bA1 : Option Addr} {bL1 : Nat} {bC1 : Nat} {i1 : Int} {K : Value → Heap → Prop} {h : Heap} (hx : bits_has bA1 bL1 bC1 i1 K h) : C.bits_has bA1 bL1 bC1 i1 h K :=
  fn_to (cxOk _ _) Tryz.func202 (by kernel_rfl) bits_has.chk (by rw [bits_has.eq]; exact hx)
def bits_on (bA1 : Option Addr) (bL1 : Nat) (bC1 : Nat) (i1 : Int) (K : Value → Heap → Prop) (h1 : Heap) : Prop :=
  (0 ≤ (IntKind.wrap .i64 (Int.tdiv i1 8)) ∧ (IntKind.wrap .i64 (Int.tdiv i1 8)) < (bL1 : Int)) ∧
  onSome bA1 fun p1 =>
  ∃ (n1 : Int), cellOf h1 (Addr.add p1 (Int.toNat (IntKind.wrap .i64 (Int.tdiv i1 8)))) = some (.int .u8 n1) ∧
  if (Int.tmod i1 8) < 0 then False else
  K (.bool ((bitsI .and .u8 (Int.fdiv n1 (2 ^ min (Int.toNat (Int.tmod i1 8)) 8)) 1) == 1)) h1
def bits_on.lo : Nat → List Nat × List (Nat × Ty) := fun n => match n with | _ => ([], [])
def bits_on.od : Nat → Od := fun n => match n with | _ => .nil
theorem bits_on.eq (bA1 : Option Addr) (bL1 : Nat) (bC1 : Nat) (i1 : Int) (K : Value → Heap → Prop) (h : Heap) : fnX (cx bits_on.lo bits_on.od) Tryz.f203 (Tryz.f203.body.getD .skip) [.slice bA1 bL1 bC1, .int .i64 i1] K h = bits_on bA1 bL1 bC1 i1 K h := by kernel_rfl
theorem bits_on.chk : fnOk (cx bits_on.lo bits_on.od) Tryz.f203 (Tryz.f203.body.getD .skip) 2 = true := by kernel_rfl
theorem bits_on.ok {bA1 : Option Addr} {bL1 : Nat} {bC1 : Nat} {i1 : Int} {K : Value → Heap → Prop} {h : Heap} (hx : bits_on bA1 bL1 bC1 i1 K h) : C.bits_on bA1 bL1 bC1 i1 h K :=
  fn_to (cxOk _ _) Tryz.func203 (by kernel_rfl) bits_on.chk (by rw [bits_on.eq]; exact hx)
end Go.Proofs.YtjdcbblgaoogmaaGreatDoor.W
namespace Go.Proofs.YtjdcbblgaoogmaaGreatDoor.W
open Go Go.Proofs Go.Proofs.YtjdcbblgaoogmaaGreatDoor.Wx
def head_may_c1 (i1 : Int) (cap1 : Option Addr) (cap2 : Option Addr) (K : Value → Heap → Prop) (h1 : Heap) : Prop :=
  onSome cap1 fun p1 =>
  ∃ (n1 : Int), cellOf h1 p1 = some (.int .i64 n1) ∧
  onSome cap1 fun p2 =>
  Put p2 (.int .i64 i1) h1 fun h2 =>
  bif (decide (i1 ≤ n1)) then (
  K (.bool true) h2) else (
  onSome cap2 fun p3 =>
  ∃ (n2 : Int), cellOf h2 p3 = some (.int .i64 n2) ∧
  K (.bool (decide (i1 ≥ n2))) h2)
def head_may_c1.lo : Nat → List Nat × List (Nat × Ty) := fun n => match n with | _ => ([], [])
def head_may_c1.od : Nat → Od := fun n => match n with | _ => .nil
theorem head_may_c1.eq (i1 : Int) (cap1 : Option Addr) (cap2 : Option Addr) (K : Value → Heap → Prop) (h : Heap) : fnX (cx head_may_c1.lo head_may_c1.od) Tryz.f242 (Tryz.f242.body.getD .skip) [.int .i64 i1, .pointer cap1, .pointer cap2] K h = head_may_c1 i1 cap1 cap2 K h := by kernel_rfl
theorem head_may_c1.chk : fnOk (cx head_may_c1.lo head_may_c1.od) Tryz.f242 (Tryz.f242.body.getD .skip) 3 = true := by kernel_rfl
theorem head_may_c1.ok {i1 : Int} {cap1 : Option Addr} {cap2 : Option Addr} {K : Value → Heap → Prop} {h : Heap} (hx : head_may_c1 i1 cap1 cap2 K h) : C.head_may_c1 i1 cap1 cap2 h K :=
  fn_to (cxOk _ _) Tryz.func242 (by kernel_rfl) head_may_c1.chk (by rw [head_may_c1.eq]; exact hx)
def rec_ahead (bA1 : Option Addr) (bL1 : Nat) (bC1 : Nat) (K : Value → Heap → Prop) (h1 : Heap) : Prop :=
  ∃ (I1 : Int → Heap → Prop) (M1 : Int → Heap → Nat), I1 0 h1 ∧
  ∀ (n1 : Int), ∀ h2 : Heap, I1 n1 h2 →
  bif (decide (n1 < (bL1 : Int))) then (
  (0 ≤ n1 ∧ n1 < (bL1 : Int)) ∧
  onSome bA1 fun p1 =>
  ∃ (n2 : Int), cellOf h2 (Addr.add p1 (Int.toNat n1)) = some (.int .u8 n2) ∧
  bif (n2 == 0) then (
  K (.int .i64 n1) h2) else (
  I1 (IntKind.wrap .i64 (n1 + 1)) h2 ∧ M1 (IntKind.wrap .i64 (n1 + 1)) h2 < M1 n1 h2)) else (
  K (.int .i64 (bL1 : Int)) h2)
def rec_ahead.lo : Nat → List Nat × List (Nat × Ty) := fun n => match n with | 2 => ([0, 5, 6], [(7, .int .i64)]) | _ => ([], [])
def rec_ahead.od : Nat → Od := fun n => match n with | _ => .nil
theorem rec_ahead.eq (bA1 : Option Addr) (bL1 : Nat) (bC1 : Nat) (K : Value → Heap → Prop) (h : Heap) : fnX (cx rec_ahead.lo rec_ahead.od) Tryz.f243 (Tryz.f243.body.getD .skip) [.slice bA1 bL1 bC1] K h = rec_ahead bA1 bL1 bC1 K h := by kernel_rfl
theorem rec_ahead.chk : fnOk (cx rec_ahead.lo rec_ahead.od) Tryz.f243 (Tryz.f243.body.getD .skip) 1 = true := by kernel_rfl
theorem rec_ahead.ok {bA1 : Option Addr} {bL1 : Nat} {bC1 : Nat} {K : Value → Heap → Prop} {h : Heap} (hx : rec_ahead bA1 bL1 bC1 K h) : C.rec_ahead bA1 bL1 bC1 h K :=
  fn_to (cxOk _ _) Tryz.func243 (by kernel_rfl) rec_ahead.chk (by rw [rec_ahead.eq]; exact hx)
def rec_lie (bA1 : Option Addr) (bL1 : Nat) (bC1 : Nat) (at1 : Int) (n1 : Int) (K : Value → Heap → Prop) (h1 : Heap) : Prop :=
  bif (decide (at1 ≥ 0)) then (
  bif (decide (n1 ≥ 0)) then (
  bif (decide (at1 ≤ (bL1 : Int))) then (
  K (.bool (decide (n1 ≤ (IntKind.wrap .i64 ((bL1 : Int) - at1))))) h1) else (
  K (.bool false) h1)) else (
  K (.bool false) h1)) else (
  K (.bool false) h1)
def rec_lie.lo : Nat → List Nat × List (Nat × Ty) := fun n => match n with | _ => ([], [])
def rec_lie.od : Nat → Od := fun n => match n with | _ => .nil
theorem rec_lie.eq (bA1 : Option Addr) (bL1 : Nat) (bC1 : Nat) (at1 : Int) (n1 : Int) (K : Value → Heap → Prop) (h : Heap) : fnX (cx rec_lie.lo rec_lie.od) Tryz.f244 (Tryz.f244.body.getD .skip) [.slice bA1 bL1 bC1, .int .i64 at1, .int .i64 n1] K h = rec_lie bA1 bL1 bC1 at1 n1 K h := by kernel_rfl
theorem rec_lie.chk : fnOk (cx rec_lie.lo rec_lie.od) Tryz.f244 (Tryz.f244.body.getD .skip) 3 = true := by kernel_rfl
theorem rec_lie.ok {bA1 : Option Addr} {bL1 : Nat} {bC1 : Nat} {at1 : Int} {n1 : Int} {K : Value → Heap → Prop} {h : Heap} (hx : rec_lie bA1 bL1 bC1 at1 n1 K h) : C.rec_lie bA1 bL1 bC1 at1 n1 h K :=
  fn_to (cxOk _ _) Tryz.func244 (by kernel_rfl) rec_lie.chk (by rw [rec_lie.eq]; exact hx)
def rec_isWidth (n1 : Int) (K : Value → Heap → Prop) (h1 : Heap) : Prop :=
  bif (decide (n1 ≥ 0)) then (
  bif (decide (n1 < 9)) then (
  (0 ≤ n1 ∧ n1 < (9 : Int)) ∧
  ∃ (b1 : Bool), cellOf h1 (Addr.add ⟨0, 0, none⟩ (Int.toNat n1)) = some (.bool b1) ∧
  K (.bool b1) h1) else (
  K (.bool false) h1)) else (
  K (.bool false) h1)
def rec_isWidth.lo : Nat → List Nat × List (Nat × Ty) := fun n => match n with | _ => ([], [])
def rec_isWidth.od : Nat → Od := fun n => match n with | _ => .nil
theorem rec_isWidth.eq (n1 : Int) (K : Value → Heap → Prop) (h : Heap) : fnX (cx rec_isWidth.lo rec_isWidth.od) Tryz.f245 (Tryz.f245.body.getD .skip) [.int .i64 n1] K h = rec_isWidth n1 K h := by kernel_rfl
theorem rec_isWidth.chk : fnOk (cx rec_isWidth.lo rec_isWidth.od) Tryz.f245 (Tryz.f245.body.getD .skip) 1 = true := by kernel_rfl
theorem rec_isWidth.ok {n1 : Int} {K : Value → Heap → Prop} {h : Heap} (hx : rec_isWidth n1 K h) : C.rec_isWidth n1 h K :=
  fn_to (cxOk _ _) Tryz.func245 (by kernel_rfl) rec_isWidth.chk (by rw [rec_isWidth.eq]; exact hx)
def bytes_Clone (bA1 : Option Addr) (bL1 : Nat) (bC1 : Nat) (K : Value → Heap → Prop) (h1 : Heap) : Prop :=
  bif (Option.isNone bA1) then (
  K (.slice none 0 0) h1) else (
  New [] 5 h1 fun h2 =>
  ∃ new1 : List Value, List.length new1 = bL1 * 1 ∧ SlCells h2 bA1 new1 ∧ (∀ v ∈ new1, v.oneCell' = true) ∧
  AppendP ti5 5 (some ⟨h1.size, 0, none⟩) 0 0 bL1 new1 h2 fun sA1 sL1 sC1 h3 =>
  K (.slice sA1 sL1 sC1) h3)
def bytes_Clone.lo : Nat → List Nat × List (Nat × Ty) := fun n => match n with | _ => ([], [])
def bytes_Clone.od : Nat → Od := fun n => match n with | _ => .nil
theorem bytes_Clone.eq (bA1 : Option Addr) (bL1 : Nat) (bC1 : Nat) (K : Value → Heap → Prop) (h : Heap) : fnX (cx bytes_Clone.lo bytes_Clone.od) Tryz.f246 (Tryz.f246.body.getD .skip) [.slice bA1 bL1 bC1] K h = bytes_Clone bA1 bL1 bC1 K h := by kernel_rfl
theorem bytes_Clone.chk : fnOk (cx bytes_Clone.lo bytes_Clone.od) Tryz.f246 (Tryz.f246.body.getD .skip) 1 = true := by kernel_rfl
theorem bytes_Clone.ok {bA1 : Option Addr} {bL1 : Nat} {bC1 : Nat} {K : Value → Heap → Prop} {h : Heap} (hx : bytes_Clone bA1 bL1 bC1 K h) : C.bytes_Clone bA1 bL1 bC1 h K :=
  fn_to (cxOk _ _) Tryz.func246 (by kernel_rfl) bytes_Clone.chk (by rw [bytes_Clone.eq]; exact hx)
def sum_Of (bA1 : Option Addr) (bL1 : Nat) (bC1 : Nat) (K : Value → Heap → Prop) (h1 : Heap) : Prop :=
  ∃ (I1 : Int → Int → Heap → Prop) (M1 : Int → Int → Heap → Nat), I1 4294967295 0 h1 ∧
  ∀ (v1 : Int) (n1 : Int), ∀ h2 : Heap, I1 v1 n1 h2 →
  bif (decide (n1 < (bL1 : Int))) then (
  (0 ≤ n1 ∧ n1 < (bL1 : Int)) ∧
  onSome bA1 fun p1 =>
  ∃ (n2 : Int), cellOf h2 (Addr.add p1 (Int.toNat n1)) = some (.int .u8 n2) ∧
  C.sum_step v1 n2 h2 fun r1 h3 =>
  ∃ (n3 : Int), r1 = .int .u32 n3 ∧
  I1 n3 (IntKind.wrap .i64 (n1 + 1)) h3 ∧ M1 n3 (IntKind.wrap .i64 (n1 + 1)) h3 < M1 v1 n1 h2) else (
  K (.int .u32 (bitsI .xor .u32 (IntKind.max .u32) v1)) h2)
def sum_Of.lo : Nat → List Nat × List (Nat × Ty) := fun n => match n with | 3 => ([6, 7], [(3, .int .u32), (8, .int .i64)]) | _ => ([], [])
def sum_Of.od : Nat → Od := fun n => match n with | _ => .nil
theorem sum_Of.eq (bA1 : Option Addr) (bL1 : Nat) (bC1 : Nat) (K : Value → Heap → Prop) (h : Heap) : fnX (cx sum_Of.lo sum_Of.od) Tryz.f247 (Tryz.f247.body.getD .skip) [.slice bA1 bL1 bC1] K h = sum_Of bA1 bL1 bC1 K h := by kernel_rfl
theorem sum_Of.chk : fnOk (cx sum_Of.lo sum_Of.od) Tryz.f247 (Tryz.f247.body.getD .skip) 1 = true := by kernel_rfl
theorem sum_Of.ok {bA1 : Option Addr} {bL1 : Nat} {bC1 : Nat} {K : Value → Heap → Prop} {h : Heap} (hx : sum_Of bA1 bL1 bC1 K h) : C.sum_Of bA1 bL1 bC1 h K :=
  fn_to (cxOk _ _) Tryz.func247 (by kernel_rfl) sum_Of.chk (by rw [sum_Of.eq]; exact hx)
def sum_Join.k1 (a1 : Int) (b1 : Int) (n1 : Int) (h1 : Heap) (K : Value → Heap → Prop) : Prop :=
  C.sum_behind a1 n1 h1 fun r1 h2 =>
  ∃ (n2 : Int), r1 = .int .u32 n2 ∧
  K (.tuple #[.int .u32 (bitsI .xor .u32 n2 b1), .int .i64 0]) h2
def sum_Join (a1 : Int) (b1 : Int) (n1 : Int) (K : Value → Heap → Prop) (h1 : Heap) : Prop :=
  bif (decide (n1 < 0)) then (
  K (.tuple #[.int .u32 0, .int .i64 1]) h1) else (
  bif (decide (n1 > 1099511627776)) then (
  K (.tuple #[.int .u32 0, .int .i64 1]) h1) else (
  sum_Join.k1 a1 b1 n1 h1 K))
def sum_Join.lo : Nat → List Nat × List (Nat × Ty) := fun n => match n with | _ => ([], [])
def sum_Join.od : Nat → Od := fun n => match n with | _ => .nil
theorem sum_Join.eq (a1 : Int) (b1 : Int) (n1 : Int) (K : Value → Heap → Prop) (h : Heap) : fnX (cx sum_Join.lo sum_Join.od) Tryz.f248 (Tryz.f248.body.getD .skip) [.int .u32 a1, .int .u32 b1, .int .i64 n1] K h = sum_Join a1 b1 n1 K h := by kernel_rfl
theorem sum_Join.chk : fnOk (cx sum_Join.lo sum_Join.od) Tryz.f248 (Tryz.f248.body.getD .skip) 3 = true := by kernel_rfl
theorem sum_Join.ok {a1 : Int} {b1 : Int} {n1 : Int} {K : Value → Heap → Prop} {h : Heap} (hx : sum_Join a1 b1 n1 K h) : C.sum_Join a1 b1 n1 h K :=
  fn_to (cxOk _ _) Tryz.func248 (by kernel_rfl) sum_Join.chk (by rw [sum_Join.eq]; exact hx)
end Go.Proofs.YtjdcbblgaoogmaaGreatDoor.W
