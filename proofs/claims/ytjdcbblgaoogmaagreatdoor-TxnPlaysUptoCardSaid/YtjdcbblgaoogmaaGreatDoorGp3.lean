/-
  TEXTS FOR txnPlays_card: Tab FormsA FormsB FormsC FormsD FormsE FormsF FormsG FormsH FormsI FormsJ FormsK FormsL FormsM SuA.
-/
import Derived.Test.YtjdcbblgaoogmaaGreatDoorGp2
namespace Go.Proofs.YtjdcbblgaoogmaaGreatDoor.W
open Go Go.Proofs Wx
def z1 : List Value := [.nilFunc]
def ti1 : TI := ⟨true, .fn, 1, 8, z1, []⟩
def z3 : List Value := [.int .i64 0]
def ti3 : TI := ⟨true, .int .i64, 1, 8, z3, []⟩
def z4 : List Value := [.bool false]
def ti4 : TI := ⟨true, .bool, 1, 1, z4, []⟩
def z5 : List Value := [.int .u8 0]
def ti5 : TI := ⟨true, .int .u8, 1, 1, z5, []⟩
def z9 : List Value := [.string (mkStr [])]
def ti9 : TI := ⟨true, .str, 1, 16, z9, []⟩
def z22 : List Value := [.slice none 0 0]
def ti22 : TI := ⟨true, .slice 46, 1, 24, z22, []⟩
def z25 : List Value := [.pointer none]
def ti25 : TI := ⟨true, .ptr 112, 1, 8, z25, []⟩
def z26 : List Value := [.int .i64 0]
def ti26 : TI := ⟨true, .int .i64, 1, 8, z26, []⟩
def z29 : List Value := [.pointer none]
def ti29 : TI := ⟨true, .ptr 41, 1, 8, z29, []⟩
def z33 : List Value := [.slice none 0 0]
def ti33 : TI := ⟨true, .slice 37, 1, 24, z33, []⟩
def z34 : List Value := [.slice none 0 0]
def ti34 : TI := ⟨true, .slice 9, 1, 24, z34, []⟩
def z36 : List Value := [.pointer none, .pointer none, .slice none 0 0, .slice none 0 0]
def ti36 : TI := ⟨true, .struct [(0, 25), (1, 29), (2, 33), (3, 34)], 4, 64, z36, []⟩
def z37 : List Value := [.slice none 0 0]
def ti37 : TI := ⟨true, .slice 5, 1, 24, z37, []⟩
def z38 : List Value := [.slice none 0 0]
def ti38 : TI := ⟨true, .slice 122, 1, 24, z38, []⟩
def z39 : List Value := [.slice none 0 0]
def ti39 : TI := ⟨true, .slice 4, 1, 24, z39, []⟩
def z41 : List Value := [.slice none 0 0, .slice none 0 0, .slice none 0 0, .int .i64 0, .bool false, .int .i64 0, .int .i64 0]
def ti41 : TI := ⟨true, .struct [(0, 37), (1, 38), (2, 39), (3, 3), (4, 4), (5, 3), (6, 3)], 7, 104, z41, []⟩
def z42 : List Value := [.slice none 0 0]
def ti42 : TI := ⟨true, .slice 103, 1, 24, z42, []⟩
def z44 : List Value := [.int .i64 0, .slice none 0 0]
def ti44 : TI := ⟨true, .struct [(0, 3), (1, 39)], 2, 32, z44, []⟩
def z46 : List Value := [.int .i64 0, .slice none 0 0, .int .i64 0, .int .u8 0, .slice none 0 0, .int .i64 0, .slice none 0 0]
def ti46 : TI := ⟨true, .struct [(0, 3), (1, 42), (2, 3), (3, 5), (4, 37), (5, 44)], 7, 104, z46, []⟩
def z55 : List Value := [.slice none 0 0]
def ti55 : TI := ⟨true, .slice 67, 1, 24, z55, []⟩
def z57 : List Value := [.pointer none]
def ti57 : TI := ⟨true, .ptr 135, 1, 8, z57, []⟩
def z58 : List Value := [.pointer none]
def ti58 : TI := ⟨true, .ptr 71, 1, 8, z58, []⟩
def z60 : List Value := [.pointer none, .pointer none, .pointer none, .pointer none]
def ti60 : TI := ⟨true, .struct [(0, 25), (1, 29), (2, 57), (3, 58)], 4, 32, z60, []⟩
def z62 : List Value := [.slice none 0 0]
def ti62 : TI := ⟨true, .slice 142, 1, 24, z62, []⟩
def z63 : List Value := [.slice none 0 0]
def ti63 : TI := ⟨true, .slice 137, 1, 24, z63, []⟩
def z65 : List Value := [.slice none 0 0, .slice none 0 0, .slice none 0 0]
def ti65 : TI := ⟨true, .struct [(0, 62), (1, 63), (2, 63)], 3, 72, z65, []⟩
def z67 : List Value := [.int .i64 0, .int .i64 0, .int .u8 0, .slice none 0 0, .slice none 0 0]
def ti67 : TI := ⟨true, .struct [(0, 3), (1, 3), (2, 5), (3, 37), (4, 39)], 5, 72, z67, []⟩
def z69 : List Value := [.slice none 0 0]
def ti69 : TI := ⟨true, .slice 190, 1, 24, z69, []⟩
def z71 : List Value := [.pointer none, .slice none 0 0, .bool false]
def ti71 : TI := ⟨true, .struct [(0, 29), (1, 69), (2, 4)], 3, 40, z71, []⟩
def z73 : List Value := [.slice none 0 0]
def ti73 : TI := ⟨true, .slice 87, 1, 24, z73, []⟩
def z75 : List Value := [.int .i64 0, .slice none 0 0, .int .u8 0, .slice none 0 0]
def ti75 : TI := ⟨true, .struct [(0, 3), (1, 37), (2, 5), (3, 73)], 4, 64, z75, []⟩
def z80 : List Value := [.int .i64 0, .int .i64 0, .int .i64 0, .int .i64 0, .int .i64 0]
def ti80 : TI := ⟨true, .struct [(0, 3), (1, 3), (2, 3), (3, 3), (4, 3)], 5, 40, z80, []⟩
def z84 : List Value := [.pointer none, .pointer none, .pointer none, .pointer none, .int .i64 0, .int .i64 0, .int .i64 0, .int .i64 0, .int .i64 0]
def ti84 : TI := ⟨true, .struct [(0, 25), (1, 29), (2, 57), (3, 58), (4, 80)], 9, 72, z84, []⟩
def z87 : List Value := [.int .i64 0, .int .i64 0, .int .u8 0]
def ti87 : TI := ⟨true, .struct [(0, 3), (1, 3), (2, 5)], 3, 24, z87, []⟩
def z89 : List Value := [.slice none 0 0]
def ti89 : TI := ⟨true, .slice 155, 1, 24, z89, []⟩
def z90 : List Value := [.slice none 0 0]
def ti90 : TI := ⟨true, .slice 97, 1, 24, z90, []⟩
def z92 : List Value := [.int .i64 0, .slice none 0 0, .slice none 0 0]
def ti92 : TI := ⟨true, .struct [(0, 3), (1, 89), (2, 90)], 3, 56, z92, []⟩
def z95 : List Value := [.pointer none, .pointer none, .pointer none, .pointer none, .int .i64 0, .int .i64 0, .int .i64 0, .int .i64 0, .int .i64 0]
def ti95 : TI := ⟨true, .struct [(0, 25), (1, 29), (2, 57), (3, 58), (4, 80)], 9, 72, z95, []⟩
def z97 : List Value := [.int .i64 0, .int .i64 0, .int .i64 0, .int .i64 0, .string (mkStr [])]
def ti97 : TI := ⟨true, .struct [(0, 3), (1, 3), (2, 3), (3, 3), (4, 9)], 5, 48, z97, []⟩
def z103 : List Value := [.int .i64 0, .slice none 0 0]
def ti103 : TI := ⟨true, .struct [(0, 3), (1, 37)], 2, 32, z103, []⟩
def z109 : List Value := [.slice none 0 0]
def ti109 : TI := ⟨true, .slice 125, 1, 24, z109, []⟩
def z110 : List Value := [.slice none 0 0]
def ti110 : TI := ⟨true, .slice 174, 1, 24, z110, []⟩
def z112 : List Value := [.slice none 0 0, .slice none 0 0, .int .i64 0, .slice none 0 0, .bool false, .int .i64 0, .int .i64 0, .slice none 0 0]
def ti112 : TI := ⟨true, .struct [(0, 109), (1, 110), (2, 3), (3, 39), (4, 4), (5, 3), (6, 3), (7, 38)], 8, 128, z112, []⟩
def z122 : List Value := [.int .i64 0, .int .i64 0, .slice none 0 0]
def ti122 : TI := ⟨true, .struct [(0, 3), (1, 3), (2, 37)], 3, 40, z122, []⟩
def z125 : List Value := List.replicate 512 (.int .u8 0)
def ti125 : TI := ⟨true, .arr 512 5, 512, 512, z125, []⟩
def z132 : List Value := [.map none]
def ti132 : TI := ⟨true, .map 3 37, 1, 8, z132, []⟩
def z133 : List Value := [.slice none 0 0]
def ti133 : TI := ⟨true, .slice 1, 1, 24, z133, []⟩
def z135 : List Value := [.pointer none, .map none, .slice none 0 0, .bool false]
def ti135 : TI := ⟨true, .struct [(0, 25), (1, 132), (2, 133), (3, 4)], 4, 48, z135, []⟩
def z137 : List Value := [.slice none 0 0]
def ti137 : TI := ⟨true, .slice 3, 1, 24, z137, []⟩
def z142 : List Value := [.slice none 0 0, .int .i64 0, .int .u8 0, .string (mkStr []), .bool false]
def ti142 : TI := ⟨true, .struct [(0, 37), (1, 3), (2, 5), (3, 9), (4, 4)], 5, 64, z142, []⟩
def z153 : List Value := [.int .i64 0, .int .i64 0, .int .i64 0, .int .i64 0, .int .i64 0, .int .i64 0, .int .i64 0, .int .i64 0, .int .i64 0, .int .i64 0]
def ti153 : TI := ⟨true, .arr 10 3, 10, 80, z153, []⟩
def z155 : List Value := List.replicate 15 (.int .i64 0)
def ti155 : TI := ⟨true, .struct [(0, 3), (1, 3), (2, 3), (3, 153), (13, 3), (14, 3)], 15, 120, z155, [(.int .i64), (.int .i64), (.int .i64), (.int .i64), (.int .i64), (.int .i64), (.int .i64), (.int .i64), (.int .i64), (.int .i64), (.int .i64), (.int .i64), (.int .i64), (.int .i64), (.int .i64)]⟩
def z169 : List Value := [.slice none 0 0]
def ti169 : TI := ⟨true, .slice 172, 1, 24, z169, []⟩
def z172 : List Value := [.nilFunc]
def ti172 : TI := ⟨true, .fn, 1, 8, z172, []⟩
def z174 : List Value := (.int .i64 0) :: List.replicate 512 (.int .u8 0)
def ti174 : TI := ⟨true, .struct [(0, 3), (1, 125)], 513, 520, z174, []⟩
def z190 : List Value := [.int .i64 0, .string (mkStr [])]
def ti190 : TI := ⟨true, .struct [(0, 3), (1, 9)], 2, 24, z190, []⟩
def z199 : List Value := [.nilFunc]
def ti199 : TI := ⟨true, .fn, 1, 8, z199, []⟩
def z202 : List Value := [.pointer none]
def ti202 : TI := ⟨true, .ptr 26, 1, 8, z202, []⟩
def z213 : List Value := [.pointer none, .slice none 0 0]
def ti213 : TI := ⟨true, .struct [(0, 211), (1, 37)], 2, 32, z213, []⟩
def z218 : List Value := [.int .i64 0, .int .i64 0, .int .i64 0, .int .i64 0]
def ti218 : TI := ⟨true, .struct [(0, 3), (1, 3), (2, 3), (3, 3)], 4, 32, z218, []⟩
def z235 : List Value := [.slice none 0 0]
def ti235 : TI := ⟨true, .slice 291, 1, 24, z235, []⟩
def z243 : List Value := [.int .u64 0]
def ti243 : TI := ⟨true, .int .u64, 1, 8, z243, []⟩
def z244 : List Value := [.int .u32 0]
def ti244 : TI := ⟨true, .int .u32, 1, 4, z244, []⟩
def z275 : List Value := [.nilFunc]
def ti275 : TI := ⟨true, .fn, 1, 8, z275, []⟩
def z277 : List Value := [.pointer none]
def ti277 : TI := ⟨true, .ptr 279, 1, 8, z277, []⟩
def z279 : List Value := (.pointer none) :: List.replicate 20 (.int .i64 0)
def ti279 : TI := ⟨true, .struct [(0, 57), (1, 80), (6, 155)], 21, 168, z279, []⟩
def z282 : List Value := [.int .i64 0, .int .i64 0]
def ti282 : TI := ⟨true, .struct [(0, 3), (1, 3)], 2, 16, z282, []⟩
def z291 : List Value := [.int .i64 0, .int .i64 0]
def ti291 : TI := ⟨true, .arr 2 3, 2, 16, z291, []⟩
def z292 : List Value := [.nilFunc]
def ti292 : TI := ⟨true, .fn, 1, 8, z292, []⟩
def z295 : List Value := [.nilFunc]
def ti295 : TI := ⟨true, .fn, 1, 8, z295, []⟩
def z298 : List Value := [.pointer none, .int .i64 0, .int .i64 0, .int .i64 0, .int .i64 0, .int .i64 0, .slice none 0 0, .slice none 0 0, .int .i64 0, .int .i64 0]
def ti298 : TI := ⟨true, .struct [(0, 58), (1, 80), (6, 235), (7, 137), (8, 3), (9, 26)], 10, 112, z298, []⟩
def z320 : List Value := [.slice none 0 0]
def ti320 : TI := ⟨true, .slice 282, 1, 24, z320, []⟩
def z326 : List Value := [.int .i64 0, .int .i64 0, .int .i64 0, .int .i64 0, .int .i64 0, .int .i64 0, .int .i64 0, .int .i64 0, .int .i64 0, .int .i64 0, .int .i64 0, .int .i64 0]
def ti326 : TI := ⟨true, .arr 12 3, 12, 96, z326, []⟩
def z328 : List Value := [.bool false, .bool false, .bool false, .bool false, .bool false, .bool false, .bool false, .bool false, .bool false]
def ti328 : TI := ⟨true, .arr 9 4, 9, 9, z328, []⟩
def z346 : List Value := List.replicate 16 (.int .u32 0)
def ti346 : TI := ⟨true, .arr 16 244, 16, 64, z346, []⟩
def z348 : List Value := List.replicate 32 (.int .u32 0)
def ti348 : TI := ⟨true, .arr 32 244, 32, 128, z348, []⟩
def tiTab : List (Nat × TI) := [(1, ti1), (3, ti3), (4, ti4), (5, ti5), (9, ti9), (22, ti22), (25, ti25), (26, ti26), (29, ti29), (33, ti33), (34, ti34), (36, ti36), (37, ti37), (38, ti38), (39, ti39), (41, ti41), (42, ti42), (44, ti44), (46, ti46), (55, ti55), (57, ti57), (58, ti58), (60, ti60), (62, ti62), (63, ti63), (65, ti65), (67, ti67), (69, ti69), (71, ti71), (73, ti73), (75, ti75), (80, ti80), (84, ti84), (87, ti87), (89, ti89), (90, ti90), (92, ti92), (95, ti95), (97, ti97), (103, ti103), (109, ti109), (110, ti110), (112, ti112), (122, ti122), (125, ti125), (132, ti132), (133, ti133), (135, ti135), (137, ti137), (142, ti142), (153, ti153), (155, ti155), (169, ti169), (172, ti172), (174, ti174), (190, ti190), (199, ti199), (202, ti202), (213, ti213), (218, ti218), (235, ti235), (243, ti243), (244, ti244), (275, ti275), (277, ti277), (279, ti279), (282, ti282), (291, ti291), (292, ti292), (295, ti295), (298, ti298), (320, ti320), (326, ti326), (328, ti328), (346, ti346), (348, ti348)]
def sigTab : List (Nat × List Ty) := [(0, []), (1, [.clo]), (3, [.int .i64]), (4, [.bool]), (9, [.str]), (26, [.int .i64]), (27, [.ptr, .int .i64]), (30, [.ptr, .int .i64]), (37, [.slice]), (38, [.slice]), (39, [.slice]), (42, [.slice]), (48, [.int .i64, .int .i64]), (57, [.ptr]), (58, [.ptr]), (80, [.agg]), (104, [.slice, .int .i64]), (106, [.int .i64, .int .i64]), (122, [.agg]), (137, [.slice]), (142, [.agg]), (149, [.bool, .int .i64]), (155, [.agg]), (157, [.str, .int .i64]), (181, [.slice, .slice, .int .i64]), (195, [.any]), (204, [.int .i64, .slice, .int .i64, .int .i64]), (209, [.agg, .int .i64]), (215, [.any]), (222, [.int .i64, .any]), (228, [.agg, .int .i64, .int .i64]), (236, [.slice, .slice, .int .i64]), (244, [.int .u32]), (249, [.slice, .int .i64]), (252, [.slice, .slice]), (259, [.any]), (262, [.int .i64, .int .i64, .int .i64]), (270, [.int .i64, .slice]), (275, [.clo]), (293, [.slice, .slice, .int .i64]), (304, [.int .u32, .int .i64]), (307, [.int .u64, .int .i64]), (320, [.slice]), (322, [.int .i64, .slice, .int .i64]), (324, [.ptr]), (326, [.agg]), (348, [.agg])]
def natTab : List Nat := []
def panTab : List Nat := [117, 119, 183]
noncomputable def cx (loops : Nat → List Nat × List (Nat × Ty)) (orders : Nat → Od) : Ctx := ⟨Tryz.prog, tiOf tiTab, sigOf sigTab, loops, orders, natTab, panTab⟩
theorem natTab_ok : ∀ g ∈ natTab, NatOk Tryz.prog g := by
  simp only [natTab, List.forall_mem_cons]
  exact fun _ h => absurd h List.not_mem_nil
theorem tiok1 : TIok Tryz.prog 1 ti1 := ⟨by kernel_rfl, by kernel_rfl, by kernel_rfl, by kernel_rfl, by kernel_rfl⟩
theorem tiok3 : TIok Tryz.prog 3 ti3 := ⟨by kernel_rfl, by kernel_rfl, by kernel_rfl, by kernel_rfl, by kernel_rfl⟩
theorem tiok4 : TIok Tryz.prog 4 ti4 := ⟨by kernel_rfl, by kernel_rfl, by kernel_rfl, by kernel_rfl, by kernel_rfl⟩
theorem tiok5 : TIok Tryz.prog 5 ti5 := ⟨by kernel_rfl, by kernel_rfl, by kernel_rfl, by kernel_rfl, by kernel_rfl⟩
theorem tiok9 : TIok Tryz.prog 9 ti9 := ⟨by kernel_rfl, by kernel_rfl, by kernel_rfl, by kernel_rfl, by kernel_rfl⟩
theorem tiok22 : TIok Tryz.prog 22 ti22 := ⟨by kernel_rfl, by kernel_rfl, by kernel_rfl, by kernel_rfl, by kernel_rfl⟩
theorem tiok25 : TIok Tryz.prog 25 ti25 := ⟨by kernel_rfl, by kernel_rfl, by kernel_rfl, by kernel_rfl, by kernel_rfl⟩
theorem tiok26 : TIok Tryz.prog 26 ti26 := ⟨by kernel_rfl, by kernel_rfl, by kernel_rfl, by kernel_rfl, by kernel_rfl⟩
theorem tiok29 : TIok Tryz.prog 29 ti29 := ⟨by kernel_rfl, by kernel_rfl, by kernel_rfl, by kernel_rfl, by kernel_rfl⟩
theorem tiok33 : TIok Tryz.prog 33 ti33 := ⟨by kernel_rfl, by kernel_rfl, by kernel_rfl, by kernel_rfl, by kernel_rfl⟩
theorem tiok34 : TIok Tryz.prog 34 ti34 := ⟨by kernel_rfl, by kernel_rfl, by kernel_rfl, by kernel_rfl, by kernel_rfl⟩
theorem tiok36 : TIok Tryz.prog 36 ti36 := ⟨by kernel_rfl, by kernel_rfl, by kernel_rfl, by kernel_rfl, by kernel_rfl⟩
theorem tiok37 : TIok Tryz.prog 37 ti37 := ⟨by kernel_rfl, by kernel_rfl, by kernel_rfl, by kernel_rfl, by kernel_rfl⟩
theorem tiok38 : TIok Tryz.prog 38 ti38 := ⟨by kernel_rfl, by kernel_rfl, by kernel_rfl, by kernel_rfl, by kernel_rfl⟩
theorem tiok39 : TIok Tryz.prog 39 ti39 := ⟨by kernel_rfl, by kernel_rfl, by kernel_rfl, by kernel_rfl, by kernel_rfl⟩
theorem tiok41 : TIok Tryz.prog 41 ti41 := ⟨by kernel_rfl, by kernel_rfl, by kernel_rfl, by kernel_rfl, by kernel_rfl⟩
theorem tiok42 : TIok Tryz.prog 42 ti42 := ⟨by kernel_rfl, by kernel_rfl, by kernel_rfl, by kernel_rfl, by kernel_rfl⟩
theorem tiok44 : TIok Tryz.prog 44 ti44 := ⟨by kernel_rfl, by kernel_rfl, by kernel_rfl, by kernel_rfl, by kernel_rfl⟩
theorem tiok46 : TIok Tryz.prog 46 ti46 := ⟨by kernel_rfl, by kernel_rfl, by kernel_rfl, by kernel_rfl, by kernel_rfl⟩
theorem tiok55 : TIok Tryz.prog 55 ti55 := ⟨by kernel_rfl, by kernel_rfl, by kernel_rfl, by kernel_rfl, by kernel_rfl⟩
theorem tiok57 : TIok Tryz.prog 57 ti57 := ⟨by kernel_rfl, by kernel_rfl, by kernel_rfl, by kernel_rfl, by kernel_rfl⟩
theorem tiok58 : TIok Tryz.prog 58 ti58 := ⟨by kernel_rfl, by kernel_rfl, by kernel_rfl, by kernel_rfl, by kernel_rfl⟩
theorem tiok60 : TIok Tryz.prog 60 ti60 := ⟨by kernel_rfl, by kernel_rfl, by kernel_rfl, by kernel_rfl, by kernel_rfl⟩
theorem tiok62 : TIok Tryz.prog 62 ti62 := ⟨by kernel_rfl, by kernel_rfl, by kernel_rfl, by kernel_rfl, by kernel_rfl⟩
theorem tiok63 : TIok Tryz.prog 63 ti63 := ⟨by kernel_rfl, by kernel_rfl, by kernel_rfl, by kernel_rfl, by kernel_rfl⟩
theorem tiok65 : TIok Tryz.prog 65 ti65 := ⟨by kernel_rfl, by kernel_rfl, by kernel_rfl, by kernel_rfl, by kernel_rfl⟩
theorem tiok67 : TIok Tryz.prog 67 ti67 := ⟨by kernel_rfl, by kernel_rfl, by kernel_rfl, by kernel_rfl, by kernel_rfl⟩
theorem tiok69 : TIok Tryz.prog 69 ti69 := ⟨by kernel_rfl, by kernel_rfl, by kernel_rfl, by kernel_rfl, by kernel_rfl⟩
theorem tiok71 : TIok Tryz.prog 71 ti71 := ⟨by kernel_rfl, by kernel_rfl, by kernel_rfl, by kernel_rfl, by kernel_rfl⟩
theorem tiok73 : TIok Tryz.prog 73 ti73 := ⟨by kernel_rfl, by kernel_rfl, by kernel_rfl, by kernel_rfl, by kernel_rfl⟩
theorem tiok75 : TIok Tryz.prog 75 ti75 := ⟨by kernel_rfl, by kernel_rfl, by kernel_rfl, by kernel_rfl, by kernel_rfl⟩
theorem tiok80 : TIok Tryz.prog 80 ti80 := ⟨by kernel_rfl, by kernel_rfl, by kernel_rfl, by kernel_rfl, by kernel_rfl⟩
theorem tiok84 : TIok Tryz.prog 84 ti84 := ⟨by kernel_rfl, by kernel_rfl, by kernel_rfl, by kernel_rfl, by kernel_rfl⟩
theorem tiok87 : TIok Tryz.prog 87 ti87 := ⟨by kernel_rfl, by kernel_rfl, by kernel_rfl, by kernel_rfl, by kernel_rfl⟩
theorem tiok89 : TIok Tryz.prog 89 ti89 := ⟨by kernel_rfl, by kernel_rfl, by kernel_rfl, by kernel_rfl, by kernel_rfl⟩
theorem tiok90 : TIok Tryz.prog 90 ti90 := ⟨by kernel_rfl, by kernel_rfl, by kernel_rfl, by kernel_rfl, by kernel_rfl⟩
theorem tiok92 : TIok Tryz.prog 92 ti92 := ⟨by kernel_rfl, by kernel_rfl, by kernel_rfl, by kernel_rfl, by kernel_rfl⟩
theorem tiok95 : TIok Tryz.prog 95 ti95 := ⟨by kernel_rfl, by kernel_rfl, by kernel_rfl, by kernel_rfl, by kernel_rfl⟩
theorem tiok97 : TIok Tryz.prog 97 ti97 := ⟨by kernel_rfl, by kernel_rfl, by kernel_rfl, by kernel_rfl, by kernel_rfl⟩
theorem tiok103 : TIok Tryz.prog 103 ti103 := ⟨by kernel_rfl, by kernel_rfl, by kernel_rfl, by kernel_rfl, by kernel_rfl⟩
theorem tiok109 : TIok Tryz.prog 109 ti109 := ⟨by kernel_rfl, by kernel_rfl, by kernel_rfl, by kernel_rfl, by kernel_rfl⟩
theorem tiok110 : TIok Tryz.prog 110 ti110 := ⟨by kernel_rfl, by kernel_rfl, by kernel_rfl, by kernel_rfl, by kernel_rfl⟩
theorem tiok112 : TIok Tryz.prog 112 ti112 := ⟨by kernel_rfl, by kernel_rfl, by kernel_rfl, by kernel_rfl, by kernel_rfl⟩
theorem tiok122 : TIok Tryz.prog 122 ti122 := ⟨by kernel_rfl, by kernel_rfl, by kernel_rfl, by kernel_rfl, by kernel_rfl⟩
theorem tiok125 : TIok Tryz.prog 125 ti125 := ⟨by kernel_rfl, by kernel_rfl, by kernel_rfl, by kernel_rfl, by kernel_rfl⟩
theorem tiok132 : TIok Tryz.prog 132 ti132 := ⟨by kernel_rfl, by kernel_rfl, by kernel_rfl, by kernel_rfl, by kernel_rfl⟩
theorem tiok133 : TIok Tryz.prog 133 ti133 := ⟨by kernel_rfl, by kernel_rfl, by kernel_rfl, by kernel_rfl, by kernel_rfl⟩
theorem tiok135 : TIok Tryz.prog 135 ti135 := ⟨by kernel_rfl, by kernel_rfl, by kernel_rfl, by kernel_rfl, by kernel_rfl⟩
theorem tiok137 : TIok Tryz.prog 137 ti137 := ⟨by kernel_rfl, by kernel_rfl, by kernel_rfl, by kernel_rfl, by kernel_rfl⟩
theorem tiok142 : TIok Tryz.prog 142 ti142 := ⟨by kernel_rfl, by kernel_rfl, by kernel_rfl, by kernel_rfl, by kernel_rfl⟩
theorem tiok153 : TIok Tryz.prog 153 ti153 := ⟨by kernel_rfl, by kernel_rfl, by kernel_rfl, by kernel_rfl, by kernel_rfl⟩
theorem tiok155 : TIok Tryz.prog 155 ti155 := ⟨by kernel_rfl, by kernel_rfl, by kernel_rfl, by kernel_rfl, by kernel_rfl⟩
theorem tiok169 : TIok Tryz.prog 169 ti169 := ⟨by kernel_rfl, by kernel_rfl, by kernel_rfl, by kernel_rfl, by kernel_rfl⟩
theorem tiok172 : TIok Tryz.prog 172 ti172 := ⟨by kernel_rfl, by kernel_rfl, by kernel_rfl, by kernel_rfl, by kernel_rfl⟩
theorem tiok174 : TIok Tryz.prog 174 ti174 := ⟨by kernel_rfl, by kernel_rfl, by kernel_rfl, by kernel_rfl, by kernel_rfl⟩
theorem tiok190 : TIok Tryz.prog 190 ti190 := ⟨by kernel_rfl, by kernel_rfl, by kernel_rfl, by kernel_rfl, by kernel_rfl⟩
theorem tiok199 : TIok Tryz.prog 199 ti199 := ⟨by kernel_rfl, by kernel_rfl, by kernel_rfl, by kernel_rfl, by kernel_rfl⟩
theorem tiok202 : TIok Tryz.prog 202 ti202 := ⟨by kernel_rfl, by kernel_rfl, by kernel_rfl, by kernel_rfl, by kernel_rfl⟩
theorem tiok213 : TIok Tryz.prog 213 ti213 := ⟨by kernel_rfl, by kernel_rfl, by kernel_rfl, by kernel_rfl, by kernel_rfl⟩
theorem tiok218 : TIok Tryz.prog 218 ti218 := ⟨by kernel_rfl, by kernel_rfl, by kernel_rfl, by kernel_rfl, by kernel_rfl⟩
theorem tiok235 : TIok Tryz.prog 235 ti235 := ⟨by kernel_rfl, by kernel_rfl, by kernel_rfl, by kernel_rfl, by kernel_rfl⟩
theorem tiok243 : TIok Tryz.prog 243 ti243 := ⟨by kernel_rfl, by kernel_rfl, by kernel_rfl, by kernel_rfl, by kernel_rfl⟩
theorem tiok244 : TIok Tryz.prog 244 ti244 := ⟨by kernel_rfl, by kernel_rfl, by kernel_rfl, by kernel_rfl, by kernel_rfl⟩
theorem tiok275 : TIok Tryz.prog 275 ti275 := ⟨by kernel_rfl, by kernel_rfl, by kernel_rfl, by kernel_rfl, by kernel_rfl⟩
theorem tiok277 : TIok Tryz.prog 277 ti277 := ⟨by kernel_rfl, by kernel_rfl, by kernel_rfl, by kernel_rfl, by kernel_rfl⟩
theorem tiok279 : TIok Tryz.prog 279 ti279 := ⟨by kernel_rfl, by kernel_rfl, by kernel_rfl, by kernel_rfl, by kernel_rfl⟩
theorem tiok282 : TIok Tryz.prog 282 ti282 := ⟨by kernel_rfl, by kernel_rfl, by kernel_rfl, by kernel_rfl, by kernel_rfl⟩
theorem tiok291 : TIok Tryz.prog 291 ti291 := ⟨by kernel_rfl, by kernel_rfl, by kernel_rfl, by kernel_rfl, by kernel_rfl⟩
theorem tiok292 : TIok Tryz.prog 292 ti292 := ⟨by kernel_rfl, by kernel_rfl, by kernel_rfl, by kernel_rfl, by kernel_rfl⟩
theorem tiok295 : TIok Tryz.prog 295 ti295 := ⟨by kernel_rfl, by kernel_rfl, by kernel_rfl, by kernel_rfl, by kernel_rfl⟩
theorem tiok298 : TIok Tryz.prog 298 ti298 := ⟨by kernel_rfl, by kernel_rfl, by kernel_rfl, by kernel_rfl, by kernel_rfl⟩
theorem tiok320 : TIok Tryz.prog 320 ti320 := ⟨by kernel_rfl, by kernel_rfl, by kernel_rfl, by kernel_rfl, by kernel_rfl⟩
theorem tiok326 : TIok Tryz.prog 326 ti326 := ⟨by kernel_rfl, by kernel_rfl, by kernel_rfl, by kernel_rfl, by kernel_rfl⟩
theorem tiok328 : TIok Tryz.prog 328 ti328 := ⟨by kernel_rfl, by kernel_rfl, by kernel_rfl, by kernel_rfl, by kernel_rfl⟩
theorem tiok346 : TIok Tryz.prog 346 ti346 := ⟨by kernel_rfl, by kernel_rfl, by kernel_rfl, by kernel_rfl, by kernel_rfl⟩
theorem tiok348 : TIok Tryz.prog 348 ti348 := ⟨by kernel_rfl, by kernel_rfl, by kernel_rfl, by kernel_rfl, by kernel_rfl⟩
theorem tiTab_ok : ∀ x ∈ tiTab, TIok Tryz.prog x.1 x.2 := by
  simp only [tiTab, List.forall_mem_cons]
  exact ⟨tiok1, tiok3, tiok4, tiok5, tiok9, tiok22, tiok25, tiok26, tiok29, tiok33, tiok34, tiok36, tiok37, tiok38, tiok39, tiok41, tiok42, tiok44, tiok46, tiok55, tiok57, tiok58, tiok60, tiok62, tiok63, tiok65, tiok67, tiok69, tiok71, tiok73, tiok75, tiok80, tiok84, tiok87, tiok89, tiok90, tiok92, tiok95, tiok97, tiok103, tiok109, tiok110, tiok112, tiok122, tiok125, tiok132, tiok133, tiok135, tiok137, tiok142, tiok153, tiok155, tiok169, tiok172, tiok174, tiok190, tiok199, tiok202, tiok213, tiok218, tiok235, tiok243, tiok244, tiok275, tiok277, tiok279, tiok282, tiok291, tiok292, tiok295, tiok298, tiok320, tiok326, tiok328, tiok346, tiok348, fun _ h => absurd h List.not_mem_nil⟩
theorem cxOk (loops : Nat → List Nat × List (Nat × Ty)) (orders : Nat → Od) : CtxOk (cx loops orders) := ⟨natTab_ok, tiOf_ok tiTab tiTab_ok, by kernel_rfl⟩
def C.bolelaw06_TxnPlays (n1 : Int) (scriptA1 : Option Addr) (scriptL1 : Nat) (scriptC1 : Nat) (h : Heap) (k : Value → Heap → Prop) : Prop := HCalls Tryz.prog 4 [.int .i64 n1, .slice scriptA1 scriptL1 scriptC1] h k
def C.adisk_New (n1 : Int) (h : Heap) (k : Value → Heap → Prop) : Prop := HCalls Tryz.prog 9 [.int .i64 n1] h k
def C.boleref03_New (n1 : Int) (h : Heap) (k : Value → Heap → Prop) : Prop := HCalls Tryz.prog 10 [.int .i64 n1] h k
def C.adisk_Disk_Down (d1 : Option Addr) (h : Heap) (k : Value → Heap → Prop) : Prop := HCalls Tryz.prog 12 [.pointer d1] h k
def C.adisk_Disk_Steps (d1 : Option Addr) (h : Heap) (k : Value → Heap → Prop) : Prop := HCalls Tryz.prog 13 [.pointer d1] h k
def C.adisk_Disk_Image (d1 : Option Addr) (h : Heap) (k : Value → Heap → Prop) : Prop := HCalls Tryz.prog 18 [.pointer d1] h k
def C.boleref03_Disk_Image (d1 : Option Addr) (h : Heap) (k : Value → Heap → Prop) : Prop := HCalls Tryz.prog 19 [.pointer d1] h k
def C.bolelaw06_mod (v1 : Int) (n1 : Int) (h : Heap) (k : Value → Heap → Prop) : Prop := HCalls Tryz.prog 21 [.int .i64 v1, .int .i64 n1] h k
def C.bolelaw06_Sides_begins (s1 : Option Addr) (h : Heap) (k : Value → Heap → Prop) : Prop := HCalls Tryz.prog 22 [.pointer s1] h k
def C.bolelaw06_Sides_plays (s1 : Option Addr) (o1 : List Value) (k1 : Option Addr) (h : Heap) (k : Value → Heap → Prop) : Prop := HCalls Tryz.prog 23 [.pointer s1, .agg ⟨o1⟩, .pointer k1] h k
def C.txn_Txn_Over (t1 : Option Addr) (h : Heap) (k : Value → Heap → Prop) : Prop := HCalls Tryz.prog 24 [.pointer t1] h k
def C.bolelaw06_Sides_lists (s1 : Option Addr) (o1 : List Value) (k1 : Option Addr) (h : Heap) (k : Value → Heap → Prop) : Prop := HCalls Tryz.prog 25 [.pointer s1, .agg ⟨o1⟩, .pointer k1] h k
def C.bolelaw06_Book_holds (k1 : Option Addr) (h : Heap) (k : Value → Heap → Prop) : Prop := HCalls Tryz.prog 26 [.pointer k1] h k
def C.adisk_Open (imageA1 : Option Addr) (imageL1 : Nat) (imageC1 : Nat) (h : Heap) (k : Value → Heap → Prop) : Prop := HCalls Tryz.prog 28 [.slice imageA1 imageL1 imageC1] h k
def C.boleref03_Of (imageA1 : Option Addr) (imageL1 : Nat) (imageC1 : Nat) (h : Heap) (k : Value → Heap → Prop) : Prop := HCalls Tryz.prog 29 [.slice imageA1 imageL1 imageC1] h k
def C.wal_Commit (d1 : Option Addr) (lA1 : Option Addr) (lL1 : Nat) (lC1 : Nat) (h : Heap) (k : Value → Heap → Prop) : Prop := HCalls Tryz.prog 40 [.pointer d1, .slice lA1 lL1 lC1] h k
def C.adisk_Disk_Read (d1 : Option Addr) (i1 : Int) (h : Heap) (k : Value → Heap → Prop) : Prop := HCalls Tryz.prog 41 [.pointer d1, .int .i64 i1] h k
def C.wal_Recover (d1 : Option Addr) (h : Heap) (k : Value → Heap → Prop) : Prop := HCalls Tryz.prog 42 [.pointer d1] h k
def C.boleref03_Disk_Write (d1 : Option Addr) (i1 : Int) (bA1 : Option Addr) (bL1 : Nat) (bC1 : Nat) (h : Heap) (k : Value → Heap → Prop) : Prop := HCalls Tryz.prog 49 [.pointer d1, .int .i64 i1, .slice bA1 bL1 bC1] h k
def C.adisk_Disk_Write (d1 : Option Addr) (i1 : Int) (bA1 : Option Addr) (bL1 : Nat) (bC1 : Nat) (h : Heap) (k : Value → Heap → Prop) : Prop := HCalls Tryz.prog 50 [.pointer d1, .int .i64 i1, .slice bA1 bL1 bC1] h k
def C.boleref03_Disk_Flush (d1 : Option Addr) (h : Heap) (k : Value → Heap → Prop) : Prop := HCalls Tryz.prog 51 [.pointer d1] h k
def C.adisk_Disk_Flush (d1 : Option Addr) (h : Heap) (k : Value → Heap → Prop) : Prop := HCalls Tryz.prog 52 [.pointer d1] h k
def C.boleref03_Disk_Arm (d1 : Option Addr) (c1 : List Value) (h : Heap) (k : Value → Heap → Prop) : Prop := HCalls Tryz.prog 53 [.pointer d1, .agg ⟨c1⟩] h k
def C.adisk_Disk_Arm (d1 : Option Addr) (c1 : List Value) (h : Heap) (k : Value → Heap → Prop) : Prop := HCalls Tryz.prog 54 [.pointer d1, .agg ⟨c1⟩] h k
def C.slices_Clone_byte_byte (sA1 : Option Addr) (sL1 : Nat) (sC1 : Nat) (h : Heap) (k : Value → Heap → Prop) : Prop := HCalls Tryz.prog 58 [.slice sA1 sL1 sC1] h k
def C.boleref03_copied (bA1 : Option Addr) (bL1 : Nat) (bC1 : Nat) (h : Heap) (k : Value → Heap → Prop) : Prop := HCalls Tryz.prog 59 [.slice bA1 bL1 bC1] h k
def C.boleref03_left (imageA1 : Option Addr) (imageL1 : Nat) (imageC1 : Nat) (actsA1 : Option Addr) (actsL1 : Nat) (actsC1 : Nat) (keepA1 : Option Addr) (keepL1 : Nat) (keepC1 : Nat) (h : Heap) (k : Value → Heap → Prop) : Prop := HCalls Tryz.prog 60 [.slice imageA1 imageL1 imageC1, .slice actsA1 actsL1 actsC1, .slice keepA1 keepL1 keepC1] h k
def C.txn_Begin (d1 : Option Addr) (h : Heap) (k : Value → Heap → Prop) : Prop := HCalls Tryz.prog 61 [.pointer d1] h k
def C.boleref06_Begin (d1 : Option Addr) (h : Heap) (k : Value → Heap → Prop) : Prop := HCalls Tryz.prog 62 [.pointer d1] h k
def C.bolelaw06_Sides_writes (s1 : Option Addr) (o1 : List Value) (h : Heap) (k : Value → Heap → Prop) : Prop := HCalls Tryz.prog 63 [.pointer s1, .agg ⟨o1⟩] h k
def C.txn_Txn_Mark (t1 : Option Addr) (h : Heap) (k : Value → Heap → Prop) : Prop := HCalls Tryz.prog 64 [.pointer t1] h k
def C.boleref06_Txn_Mark (t1 : Option Addr) (h : Heap) (k : Value → Heap → Prop) : Prop := HCalls Tryz.prog 65 [.pointer t1] h k
def C.txn_Txn_Back (t1 : Option Addr) (mark1 : Int) (h : Heap) (k : Value → Heap → Prop) : Prop := HCalls Tryz.prog 66 [.pointer t1, .int .i64 mark1] h k
def C.boleref06_Txn_Back (t1 : Option Addr) (mark1 : Int) (h : Heap) (k : Value → Heap → Prop) : Prop := HCalls Tryz.prog 67 [.pointer t1, .int .i64 mark1] h k
def C.txn_Txn_Commit (t1 : Option Addr) (h : Heap) (k : Value → Heap → Prop) : Prop := HCalls Tryz.prog 68 [.pointer t1] h k
def C.boleref06_Txn_Commit (t1 : Option Addr) (h : Heap) (k : Value → Heap → Prop) : Prop := HCalls Tryz.prog 69 [.pointer t1] h k
def C.txn_Txn_Abort (t1 : Option Addr) (h : Heap) (k : Value → Heap → Prop) : Prop := HCalls Tryz.prog 70 [.pointer t1] h k
def C.boleref06_Txn_Abort (t1 : Option Addr) (h : Heap) (k : Value → Heap → Prop) : Prop := HCalls Tryz.prog 71 [.pointer t1] h k
def C.bolelaw06_Sides_starts (s1 : Option Addr) (h : Heap) (k : Value → Heap → Prop) : Prop := HCalls Tryz.prog 72 [.pointer s1] h k
def C.txn_Txn_Read (t1 : Option Addr) (i1 : Int) (h : Heap) (k : Value → Heap → Prop) : Prop := HCalls Tryz.prog 73 [.pointer t1, .int .i64 i1] h k
def C.boleref06_Txn_Read (t1 : Option Addr) (i1 : Int) (h : Heap) (k : Value → Heap → Prop) : Prop := HCalls Tryz.prog 74 [.pointer t1, .int .i64 i1] h k
def C.bolelaw06_Book_bytes (k1 : Option Addr) (bA1 : Option Addr) (bL1 : Nat) (bC1 : Nat) (h : Heap) (k : Value → Heap → Prop) : Prop := HCalls Tryz.prog 75 [.pointer k1, .slice bA1 bL1 bC1] h k
def C.txn_Txn_Written (t1 : Option Addr) (h : Heap) (k : Value → Heap → Prop) : Prop := HCalls Tryz.prog 76 [.pointer t1] h k
def C.boleref06_Txn_Written (t1 : Option Addr) (h : Heap) (k : Value → Heap → Prop) : Prop := HCalls Tryz.prog 77 [.pointer t1] h k
def C.bolelaw06_sameInts (aA1 : Option Addr) (aL1 : Nat) (aC1 : Nat) (bA1 : Option Addr) (bL1 : Nat) (bC1 : Nat) (h : Heap) (k : Value → Heap → Prop) : Prop := HCalls Tryz.prog 78 [.slice aA1 aL1 aC1, .slice bA1 bL1 bC1] h k
def C.bolelaw06_Book_ints (k1 : Option Addr) (lA1 : Option Addr) (lL1 : Nat) (lC1 : Nat) (h : Heap) (k : Value → Heap → Prop) : Prop := HCalls Tryz.prog 79 [.pointer k1, .slice lA1 lL1 lC1] h k
def C.bolelaw06_Held_grown (h1 : List Value) (h : Heap) (k : Value → Heap → Prop) : Prop := HCalls Tryz.prog 80 [.agg ⟨h1⟩] h k
def C.txn_Txn_Write (t1 : Option Addr) (i1 : Int) (bA1 : Option Addr) (bL1 : Nat) (bC1 : Nat) (h : Heap) (k : Value → Heap → Prop) : Prop := HCalls Tryz.prog 92 [.pointer t1, .int .i64 i1, .slice bA1 bL1 bC1] h k
def C.boleref06_Txn_Write (t1 : Option Addr) (i1 : Int) (bA1 : Option Addr) (bL1 : Nat) (bC1 : Nat) (h : Heap) (k : Value → Heap → Prop) : Prop := HCalls Tryz.prog 94 [.pointer t1, .int .i64 i1, .slice bA1 bL1 bC1] h k
def C.wal_may (lA1 : Option Addr) (lL1 : Nat) (lC1 : Nat) (n1 : Int) (h : Heap) (k : Value → Heap → Prop) : Prop := HCalls Tryz.prog 107 [.slice lA1 lL1 lC1, .int .i64 n1] h k
def C.adisk_Disk_Blocks (d1 : Option Addr) (h : Heap) (k : Value → Heap → Prop) : Prop := HCalls Tryz.prog 108 [.pointer d1] h k
def C.head_Make (numsA1 : Option Addr) (numsL1 : Nat) (numsC1 : Nat) (dataA1 : Option Addr) (dataL1 : Nat) (dataC1 : Nat) (h : Heap) (k : Value → Heap → Prop) : Prop := HCalls Tryz.prog 109 [.slice numsA1 numsL1 numsC1, .slice dataA1 dataL1 dataC1] h k
def C.wal_steps_write (s1 : Option Addr) (i1 : Int) (bA1 : Option Addr) (bL1 : Nat) (bC1 : Nat) (h : Heap) (k : Value → Heap → Prop) : Prop := HCalls Tryz.prog 110 [.pointer s1, .int .i64 i1, .slice bA1 bL1 bC1] h k
def C.wal_steps_flush (s1 : Option Addr) (h : Heap) (k : Value → Heap → Prop) : Prop := HCalls Tryz.prog 111 [.pointer s1] h k
def C.wal_steps_home (s1 : Option Addr) (lA1 : Option Addr) (lL1 : Nat) (lC1 : Nat) (h : Heap) (k : Value → Heap → Prop) : Prop := HCalls Tryz.prog 112 [.pointer s1, .slice lA1 lL1 lC1] h k
def C.wal_steps_do (sA1 : Option Addr) (sL1 : Nat) (sC1 : Nat) (d1 : Option Addr) (h : Heap) (k : Value → Heap → Prop) : Prop := HCalls Tryz.prog 113 [.slice sA1 sL1 sC1, .pointer d1] h k
def C.adisk_Disk_has (d1 : Option Addr) (i1 : Int) (h : Heap) (k : Value → Heap → Prop) : Prop := HCalls Tryz.prog 114 [.pointer d1, .int .i64 i1] h k
def C.wal_held (d1 : Option Addr) (h : Heap) (k kp : Value → Heap → Prop) : Prop := PCalls Tryz.prog 117 [.pointer d1] h k kp
def C.wal_read (d1 : Option Addr) (i1 : Int) (h : Heap) (k kp : Value → Heap → Prop) : Prop := PCalls Tryz.prog 119 [.pointer d1, .int .i64 i1] h k kp
def C.head_Empty  (h : Heap) (k : Value → Heap → Prop) : Prop := HCalls Tryz.prog 120 [] h k
def C.boleref03_Disk_Blocks (d1 : Option Addr) (h : Heap) (k : Value → Heap → Prop) : Prop := HCalls Tryz.prog 121 [.pointer d1] h k
def C.boleref03_fault (blocks1 : Int) (a1 : List Value) (h : Heap) (k : Value → Heap → Prop) : Prop := HCalls Tryz.prog 128 [.int .i64 blocks1, .agg ⟨a1⟩] h k
def C.boleref03_Disk_goes (d1 : Option Addr) (h : Heap) (k : Value → Heap → Prop) : Prop := HCalls Tryz.prog 129 [.pointer d1] h k
def C.adisk_Disk_step (d1 : Option Addr) (done1 : Value) (h : Heap) (k : Value → Heap → Prop) : Prop := HCalls Tryz.prog 130 [.pointer d1, done1] h k
def C.adisk_Disk_Flush_c1 (x1 : Option Addr) (h : Heap) (k : Value → Heap → Prop) : Prop := HCalls Tryz.prog 131 [.pointer x1] h k
def C.boleref03_marks (lA1 : Option Addr) (lL1 : Nat) (lC1 : Nat) (h : Heap) (k : Value → Heap → Prop) : Prop := HCalls Tryz.prog 132 [.slice lA1 lL1 lC1] h k
def C.slices_Clone_bool_bool (sA1 : Option Addr) (sL1 : Nat) (sC1 : Nat) (h : Heap) (k : Value → Heap → Prop) : Prop := HCalls Tryz.prog 133 [.slice sA1 sL1 sC1] h k
def C.adisk_Disk_cut (d1 : Option Addr) (keepA1 : Option Addr) (keepL1 : Nat) (keepC1 : Nat) (h : Heap) (k : Value → Heap → Prop) : Prop := HCalls Tryz.prog 134 [.pointer d1, .slice keepA1 keepL1 keepC1] h k
def C.boleref03_lasts (actsA1 : Option Addr) (actsL1 : Nat) (actsC1 : Nat) (i1 : Int) (keepA1 : Option Addr) (keepL1 : Nat) (keepC1 : Nat) (h : Heap) (k : Value → Heap → Prop) : Prop := HCalls Tryz.prog 135 [.slice actsA1 actsL1 actsC1, .int .i64 i1, .slice keepA1 keepL1 keepC1] h k
def C.bolelaw06_block (x1 : Int) (h : Heap) (k : Value → Heap → Prop) : Prop := HCalls Tryz.prog 136 [.int .u8 x1] h k
def C.txn_Txn_end (t1 : Option Addr) (h : Heap) (k : Value → Heap → Prop) : Prop := HCalls Tryz.prog 137 [.pointer t1] h k
def C.boleref06_Txn_put (t1 : Option Addr) (i1 : Int) (h : Heap) (k : Value → Heap → Prop) : Prop := HCalls Tryz.prog 138 [.pointer t1, .int .i64 i1] h k
def C.boleref06_Commit (d1 : Option Addr) (lA1 : Option Addr) (lL1 : Nat) (lC1 : Nat) (h : Heap) (k : Value → Heap → Prop) : Prop := HCalls Tryz.prog 139 [.pointer d1, .slice lA1 lL1 lC1] h k
def C.boleref06_Behind (imageA1 : Option Addr) (imageL1 : Nat) (imageC1 : Nat) (h : Heap) (k : Value → Heap → Prop) : Prop := HCalls Tryz.prog 140 [.slice imageA1 imageL1 imageC1] h k
def C.boleref03_Disk_Read (d1 : Option Addr) (i1 : Int) (h : Heap) (k : Value → Heap → Prop) : Prop := HCalls Tryz.prog 141 [.pointer d1, .int .i64 i1] h k
def C.slices_Sorted_int (seq1 : Value) (h : Heap) (k : Value → Heap → Prop) : Prop := HCalls Tryz.prog 142 [seq1] h k
def C.maps_Keys_map_int_byte_int_byte (m1 : Option Nat) (h : Heap) (k : Value → Heap → Prop) : Prop := HCalls Tryz.prog 143 [.map m1] h k
def C.txn_Txn_Write_c1 (x1 : Option Addr) (x2 : Option Addr) (x3 : Option Addr) (x4 : Option Addr) (h : Heap) (k : Value → Heap → Prop) : Prop := HCalls Tryz.prog 157 [.pointer x1, .pointer x2, .pointer x3, .pointer x4] h k
def C.head_may (numsA1 : Option Addr) (numsL1 : Nat) (numsC1 : Nat) (n1 : Int) (h : Heap) (k : Value → Heap → Prop) : Prop := HCalls Tryz.prog 176 [.slice numsA1 numsL1 numsC1, .int .i64 n1] h k
def C.head_areBlocks (dataA1 : Option Addr) (dataL1 : Nat) (dataC1 : Nat) (n1 : Int) (h : Heap) (k : Value → Heap → Prop) : Prop := HCalls Tryz.prog 177 [.slice dataA1 dataL1 dataC1, .int .i64 n1] h k
def C.rec_PutText (bA1 : Option Addr) (bL1 : Nat) (bC1 : Nat) (at1 : Int) (n1 : Int) (s1 : ByteArray) (h : Heap) (k : Value → Heap → Prop) : Prop := HCalls Tryz.prog 178 [.slice bA1 bL1 bC1, .int .i64 at1, .int .i64 n1, .string s1] h k
def C.rec_Put (bA1 : Option Addr) (bL1 : Nat) (bC1 : Nat) (at1 : Int) (n1 : Int) (v1 : Int) (h : Heap) (k : Value → Heap → Prop) : Prop := HCalls Tryz.prog 179 [.slice bA1 bL1 bC1, .int .i64 at1, .int .i64 n1, .int .u64 v1] h k
def C.head_sumOf (headA1 : Option Addr) (headL1 : Nat) (headC1 : Nat) (piecesA1 : Option Addr) (piecesL1 : Nat) (piecesC1 : Nat) (h : Heap) (k : Value → Heap → Prop) : Prop := HCalls Tryz.prog 180 [.slice headA1 headL1 headC1, .slice piecesA1 piecesL1 piecesC1] h k
def C.wal_steps_write_c1 (d1 : Option Addr) (x1 : Option Addr) (x2 : Option Addr) (h : Heap) (k : Value → Heap → Prop) : Prop := HCalls Tryz.prog 181 [.pointer d1, .pointer x1, .pointer x2] h k
def C.wal_steps_flush_c1 (d1 : Option Addr) (h : Heap) (k : Value → Heap → Prop) : Prop := HCalls Tryz.prog 182 [.pointer d1] h k
def C.wal_must (ok1 : Bool) (e1 : Int) (h : Heap) (k kp : Value → Heap → Prop) : Prop := PCalls Tryz.prog 183 [.bool ok1, .int .i64 e1] h k kp
def C.head_Nums (headA1 : Option Addr) (headL1 : Nat) (headC1 : Nat) (n1 : Int) (h : Heap) (k : Value → Heap → Prop) : Prop := HCalls Tryz.prog 184 [.slice headA1 headL1 headC1, .int .i64 n1] h k
def C.head_Good (headA1 : Option Addr) (headL1 : Nat) (headC1 : Nat) (n1 : Int) (dataA1 : Option Addr) (dataL1 : Nat) (dataC1 : Nat) (h : Heap) (k : Value → Heap → Prop) : Prop := HCalls Tryz.prog 185 [.slice headA1 headL1 headC1, .int .i64 n1, .slice dataA1 dataL1 dataC1] h k
def C.boleref06_Header (lA1 : Option Addr) (lL1 : Nat) (lC1 : Nat) (h : Heap) (k : Value → Heap → Prop) : Prop := HCalls Tryz.prog 194 [.slice lA1 lL1 lC1] h k
def C.boleref06_number (bA1 : Option Addr) (bL1 : Nat) (bC1 : Nat) (h : Heap) (k : Value → Heap → Prop) : Prop := HCalls Tryz.prog 195 [.slice bA1 bL1 bC1] h k
def C.head_may_c1 (i1 : Int) (x1 : Option Addr) (x2 : Option Addr) (h : Heap) (k : Value → Heap → Prop) : Prop := HCalls Tryz.prog 242 [.int .i64 i1, .pointer x1, .pointer x2] h k
def C.rec_ahead (bA1 : Option Addr) (bL1 : Nat) (bC1 : Nat) (h : Heap) (k : Value → Heap → Prop) : Prop := HCalls Tryz.prog 243 [.slice bA1 bL1 bC1] h k
def C.rec_lie (bA1 : Option Addr) (bL1 : Nat) (bC1 : Nat) (at1 : Int) (n1 : Int) (h : Heap) (k : Value → Heap → Prop) : Prop := HCalls Tryz.prog 244 [.slice bA1 bL1 bC1, .int .i64 at1, .int .i64 n1] h k
def C.rec_isWidth (n1 : Int) (h : Heap) (k : Value → Heap → Prop) : Prop := HCalls Tryz.prog 245 [.int .i64 n1] h k
def C.bytes_Clone (bA1 : Option Addr) (bL1 : Nat) (bC1 : Nat) (h : Heap) (k : Value → Heap → Prop) : Prop := HCalls Tryz.prog 246 [.slice bA1 bL1 bC1] h k
def C.sum_Of (bA1 : Option Addr) (bL1 : Nat) (bC1 : Nat) (h : Heap) (k : Value → Heap → Prop) : Prop := HCalls Tryz.prog 247 [.slice bA1 bL1 bC1] h k
def C.sum_Join (a1 : Int) (b1 : Int) (n1 : Int) (h : Heap) (k : Value → Heap → Prop) : Prop := HCalls Tryz.prog 248 [.int .u32 a1, .int .u32 b1, .int .i64 n1] h k
def C.rec_Zero (bA1 : Option Addr) (bL1 : Nat) (bC1 : Nat) (at1 : Int) (n1 : Int) (h : Heap) (k : Value → Heap → Prop) : Prop := HCalls Tryz.prog 249 [.slice bA1 bL1 bC1, .int .i64 at1, .int .i64 n1] h k
def C.rec_Get (bA1 : Option Addr) (bL1 : Nat) (bC1 : Nat) (at1 : Int) (n1 : Int) (h : Heap) (k : Value → Heap → Prop) : Prop := HCalls Tryz.prog 250 [.slice bA1 bL1 bC1, .int .i64 at1, .int .i64 n1] h k
def C.boleref06_low (n1 : Int) (bytes1 : Int) (h : Heap) (k : Value → Heap → Prop) : Prop := HCalls Tryz.prog 256 [.int .i64 n1, .int .i64 bytes1] h k
def C.boleref06_crc (bA1 : Option Addr) (bL1 : Nat) (bC1 : Nat) (h : Heap) (k : Value → Heap → Prop) : Prop := HCalls Tryz.prog 257 [.slice bA1 bL1 bC1] h k
def C.sum_step (v1 : Int) (b1 : Int) (h : Heap) (k : Value → Heap → Prop) : Prop := HCalls Tryz.prog 278 [.int .u32 v1, .int .u8 b1] h k
def C.sum_behind (v1 : Int) (n1 : Int) (h : Heap) (k : Value → Heap → Prop) : Prop := HCalls Tryz.prog 279 [.int .u32 v1, .int .i64 n1] h k
def C.rec_zeros (bA1 : Option Addr) (bL1 : Nat) (bC1 : Nat) (h : Heap) (k : Value → Heap → Prop) : Prop := HCalls Tryz.prog 280 [.slice bA1 bL1 bC1] h k
def C.sum_matrix_times (m1 : Option Addr) (v1 : Int) (h : Heap) (k : Value → Heap → Prop) : Prop := HCalls Tryz.prog 300 [.pointer m1, .int .u32 v1] h k
def C.sum_matrix_square (m1 : Option Addr) (h : Heap) (k : Value → Heap → Prop) : Prop := HCalls Tryz.prog 301 [.pointer m1] h k
def D.wal_Recover_c1 (x1 : Option Addr) (h : Heap) (k : Heap → Prop) : Prop := DCalls Tryz.prog 115 [.pointer x1] h k
def D.txn_Txn_end (t1 : Option Addr) (h : Heap) (k : Heap → Prop) : Prop := DCalls Tryz.prog 137 [.pointer t1] h k
def PD.wal_Recover_c1 (x1 : Option Addr) (v : Value) (h : Heap) (k : Heap → Prop) : Prop := PDCalls Tryz.prog 115 [.pointer x1] v h k
end Go.Proofs.YtjdcbblgaoogmaaGreatDoor.W
namespace Go.Proofs.YtjdcbblgaoogmaaGreatDoor.W
open Go Go.Proofs Wx
def bolelaw06_TxnPlays.k1 (scriptA1 : Option Addr) (scriptL1 : Nat) (q1 : Option Addr) (h4 : Heap) (q2 : Option Addr) (K : Value → Heap → Prop) : Prop :=
  New [.pointer q1, .pointer q2, .pointer none, .pointer none] 60 h4 fun h5 =>
  C.bolelaw06_Sides_begins (some ⟨h4.size, 0, none⟩) h5 fun r4 h6 =>
  ∃ (b1 : Bool), r4 = .bool b1 ∧
  bif (!b1) then (
  K (.bool false) h6) else (
  New [.slice none 0 0, .slice none 0 0, .slice none 0 0] 65 h6 fun h7 =>
  ∃ (I1 : Int → Heap → Prop) (M1 : Int → Heap → Nat), I1 0 h7 ∧
  ∀ (n5 : Int), ∀ h8 : Heap, I1 n5 h8 →
  bif (decide (n5 < (scriptL1 : Int))) then (
  (0 ≤ n5 ∧ n5 < (scriptL1 : Int)) ∧
  onSome scriptA1 fun p1 =>
  ∃ cs1 : List Value, List.length cs1 = 5 ∧ Cells h8 (Addr.add p1 ((Int.toNat n5) * 5)) cs1 ∧
  NewRow z67 67 cs1 5 h8 fun h10 =>
  ∃ cs2 : List Value, List.length cs2 = 5 ∧ Cells h10 ⟨h8.size, 0, none⟩ cs2 ∧
  C.bolelaw06_Sides_plays (some ⟨h4.size, 0, none⟩) cs2 (some ⟨h6.size, 0, none⟩) h10 fun r5 h11 =>
  ∃ (b2 : Bool), r5 = .bool b2 ∧
  bif (!b2) then (
  K (.bool false) h11) else (
  ∃ (q3 : Option Addr), cellOf h11 (Addr.add ⟨h4.size, 0, none⟩ 0) = some (.pointer q3) ∧
  C.adisk_Disk_Steps q3 h11 fun r6 h12 =>
  ∃ (n6 : Int) (n7 : Int), r6 = .tuple #[.int .i64 n6, .int .i64 n7] ∧
  ∃ (q4 : Option Addr), cellOf h12 (Addr.add ⟨h4.size, 0, none⟩ 1) = some (.pointer q4) ∧
  onSome q4 fun p2 =>
  ∃ (n8 : Int), cellOf h12 (Addr.add p2 5) = some (.int .i64 n8) ∧
  bif (n6 != n8) then (
  K (.bool false) h12) else (
  ∃ (q5 : Option Addr), cellOf h12 (Addr.add ⟨h4.size, 0, none⟩ 1) = some (.pointer q5) ∧
  onSome q5 fun p3 =>
  ∃ (n9 : Int), cellOf h12 (Addr.add p3 6) = some (.int .i64 n9) ∧
  bif (n7 != n9) then (
  K (.bool false) h12) else (
  ∃ (q6 : Option Addr), cellOf h12 (Addr.add ⟨h4.size, 0, none⟩ 0) = some (.pointer q6) ∧
  ∃ (q7 : Option Addr), cellOf h12 (Addr.add ⟨h4.size, 0, none⟩ 1) = some (.pointer q7) ∧
  onSome q7 fun p4 =>
  ∃ (b3 : Bool), cellOf h12 (Addr.add p4 4) = some (.bool b3) ∧
  C.adisk_Disk_Down q6 h12 fun r7 h13 =>
  ∃ (b4 : Bool), r7 = .bool b4 ∧
  (cellOf h13 (Addr.add ⟨h4.size, 0, none⟩ 1) = some (.pointer q7)) ∧
  (cellOf h13 (Addr.add p4 4) = some (.bool b3)) ∧
  bif (!(b4 == b3)) then (
  K (.bool false) h13) else (
  I1 (IntKind.wrap .i64 (n5 + 1)) h13 ∧ M1 (IntKind.wrap .i64 (n5 + 1)) h13 < M1 n5 h8))))) else (
  ∃ (q8 : Option Addr), cellOf h8 (Addr.add ⟨h4.size, 0, none⟩ 2) = some (.pointer q8) ∧
  ∃ (q9 : Option Addr), cellOf h8 (Addr.add ⟨h4.size, 0, none⟩ 3) = some (.pointer q9) ∧
  onSome q9 fun p5 =>
  ∃ (b5 : Bool), cellOf h8 (Addr.add p5 2) = some (.bool b5) ∧
  C.txn_Txn_Over q8 h8 fun r8 h14 =>
  ∃ (b6 : Bool), r8 = .bool b6 ∧
  (cellOf h14 (Addr.add ⟨h4.size, 0, none⟩ 3) = some (.pointer q9)) ∧
  (cellOf h14 (Addr.add p5 2) = some (.bool b5)) ∧
  bif (b6 == b5) then (
  C.bolelaw06_Sides_lists (some ⟨h4.size, 0, none⟩) [.int .i64 3, .int .i64 0, .int .u8 0, .slice none 0 0, .slice none 0 0] (some ⟨h6.size, 0, none⟩) h14 fun r9 h15 =>
  ∃ (b7 : Bool), r9 = .bool b7 ∧
  bif b7 then (
  ∃ (q10 : Option Addr), cellOf h15 (Addr.add ⟨h4.size, 0, none⟩ 0) = some (.pointer q10) ∧
  ∃ (q11 : Option Addr), cellOf h15 (Addr.add ⟨h4.size, 0, none⟩ 1) = some (.pointer q11) ∧
  C.adisk_Disk_Image q10 h15 fun r10 h16 =>
  ∃ (sA1 : Option Addr) (sL1 : Nat) (sC1 : Nat), r10 = .slice sA1 sL1 sC1 ∧
  (cellOf h16 (Addr.add ⟨h4.size, 0, none⟩ 1) = some (.pointer q11)) ∧
  ∃ bs1 : List UInt8, StrAt h16 sA1 sL1 bs1 ∧
  C.boleref03_Disk_Image q11 h16 fun r11 h17 =>
  ∃ (sA2 : Option Addr) (sL2 : Nat) (sC2 : Nat), r11 = .slice sA2 sL2 sC2 ∧
  StrAt h17 sA1 sL1 (ByteArray.toList (mkStr bs1)) ∧
  ∃ bs2 : List UInt8, StrAt h17 sA2 sL2 bs2 ∧
  bif ((mkStr bs1).toList == (mkStr bs2).toList) then (
  C.bolelaw06_Book_holds (some ⟨h6.size, 0, none⟩) h17 fun r12 h18 =>
  ∃ (b8 : Bool), r12 = .bool b8 ∧
  K (.bool b8) h18) else (
  K (.bool false) h17)) else (
  K (.bool false) h15)) else (
  K (.bool false) h14)))
def bolelaw06_TxnPlays (n1 : Int) (scriptA1 : Option Addr) (scriptL1 : Nat) (scriptC1 : Nat) (K : Value → Heap → Prop) (h1 : Heap) : Prop :=
  C.bolelaw06_mod n1 34 h1 fun r1 h2 =>
  ∃ (n2 : Int), r1 = .int .i64 n2 ∧
  C.adisk_New (IntKind.wrap .i64 (90 + n2)) h2 fun r2 h3 =>
  ∃ (q1 : Option Addr) (n3 : Int), r2 = .tuple #[.pointer q1, .int .i64 n3] ∧
  C.boleref03_New (IntKind.wrap .i64 (90 + n2)) h3 fun r3 h4 =>
  ∃ (q2 : Option Addr) (n4 : Int), r3 = .tuple #[.pointer q2, .int .i64 n4] ∧
  bif (n3 != n4) then (
  K (.bool false) h4) else (
  bif (Option.isNone q1) then (
  K (.bool false) h4) else (
  bif (Option.isNone q2) then (
  K (.bool false) h4) else (
  bolelaw06_TxnPlays.k1 scriptA1 scriptL1 q1 h4 q2 K)))
def bolelaw06_TxnPlays.lo : Nat → List Nat × List (Nat × Ty) := fun n => match n with | 11 => ([9, 10, 48, 49], [(50, .int .i64)]) | _ => ([], [])
set_option maxRecDepth 100000 in
def bolelaw06_TxnPlays.od : Nat → Od := fun n => match n with | 16 => (.op 0 [] (.op 1 [] (.op 2 [] (.op 3 [] (.op 4 [] (.op 5 [] (.op 6 [] (.op 7 [] (.op 8 [] (.op 9 [] (.op 10 [] (.op 11 [] (.op 12 [] (.op 13 [] (.op 14 [] (.op 15 [] (.op 16 [] (.op 17 [] (.op 18 [] (.op 19 [] (.op 20 [] (.op 21 [] (.op 22 [] (.op 23 [] (.op 24 [] (.op 26 [] (.op 27 [] (.op 28 [] (.op 29 [] (.op 30 [] (.op 31 [] (.op 32 [] (.op 25 [29, 32] (.op 33 [] (.op 34 [] .nil))))))))))))))))))))))))))))))))))) | 19 => (.op 0 [] (.op 1 [] (.op 2 [] (.op 3 [] (.op 5 [] (.op 6 [] (.op 7 [] (.op 8 [] (.op 9 [] (.op 10 [] (.op 11 [] (.op 4 [8, 11] (.op 12 [] (.op 13 [] (.op 14 [] (.op 15 [] (.op 16 [] (.op 17 [] (.op 18 [] (.op 19 [] (.op 20 [] (.op 21 [] (.op 22 [] (.op 23 [] (.op 26 [] (.op 27 [] (.op 28 [] (.op 29 [] (.op 24 [29] (.op 25 [] (.op 30 [25] (.op 31 [] (.op 32 [] (.op 33 [] (.op 34 [] (.op 35 [] (.op 36 [] (.op 37 [] (.op 38 [] .nil))))))))))))))))))))))))))))))))))))))) | _ => .nil
set_option maxRecDepth 100000 in
set_option maxRecDepth 100000 in
theorem bolelaw06_TxnPlays.ok {n1 : Int} {scriptA1 : Option Addr} {scriptL1 : Nat} {scriptC1 : Nat} {K : Value → Heap → Prop} {h : Heap} (hx : bolelaw06_TxnPlays n1 scriptA1 scriptL1 scriptC1 K h) : C.bolelaw06_TxnPlays n1 scriptA1 scriptL1 scriptC1 h K :=
  fn_to (c := Tryz.f4.body.getD .skip) (cxOk bolelaw06_TxnPlays.lo bolelaw06_TxnPlays.od) Tryz.func4 (by kernel_rfl) (by kernel_rfl) (Eq.mpr (by kernel_rfl) hx)
def adisk_New (n1 : Int) (K : Value → Heap → Prop) (h1 : Heap) : Prop :=
  bif (decide (n1 < 1)) then (
  K (.tuple #[.pointer none, .int .i64 32]) h1) else (
  bif (decide (n1 > 16384)) then (
  K (.tuple #[.pointer none, .int .i64 32]) h1) else (
  (0 ≤ n1 ∧ n1 ≤ n1 ∧ (512 : Int) * n1 ≤ 281474976710656 ∧ n1 ≤ 281474976710656) ∧
  New (repCells z125 (Int.toNat n1)) 125 h1 fun h2 =>
  New [.slice (some ⟨h1.size, 0, none⟩) (Int.toNat n1) (Int.toNat n1), .slice none 0 0, .int .i64 0, .slice none 0 0, .bool false, .int .i64 0, .int .i64 0, .slice none 0 0] 112 h2 fun h3 =>
  K (.tuple #[.pointer (some ⟨h2.size, 0, none⟩), .int .i64 0]) h3))
def adisk_New.lo : Nat → List Nat × List (Nat × Ty) := fun n => match n with | _ => ([], [])
def adisk_New.od : Nat → Od := fun n => match n with | _ => .nil
set_option maxRecDepth 1000000 in
set_option maxRecDepth 1000000 in
theorem adisk_New.ok {n1 : Int} {K : Value → Heap → Prop} {h : Heap} (hx : adisk_New n1 K h) : C.adisk_New n1 h K :=
  fn_to (c := Tryz.f9.body.getD .skip) (cxOk adisk_New.lo adisk_New.od) Tryz.func9 (by kernel_rfl) (by kernel_rfl) (Eq.mpr (by kernel_rfl) hx)
def boleref03_New.k1 (n1 : Int) (h1 : Heap) (K : Value → Heap → Prop) : Prop :=
  (0 ≤ (IntKind.wrap .i64 (n1 * 512)) ∧ (IntKind.wrap .i64 (n1 * 512)) ≤ (IntKind.wrap .i64 (n1 * 512)) ∧ (1 : Int) * (IntKind.wrap .i64 (n1 * 512)) ≤ 281474976710656 ∧ (IntKind.wrap .i64 (n1 * 512)) ≤ 281474976710656) ∧
  New (repCells z5 (Int.toNat (IntKind.wrap .i64 (n1 * 512)))) 5 h1 fun h2 =>
  New [.slice (some ⟨h1.size, 0, none⟩) (Int.toNat (IntKind.wrap .i64 (n1 * 512))) (Int.toNat (IntKind.wrap .i64 (n1 * 512))), .slice none 0 0, .slice none 0 0, .int .i64 0, .bool false, .int .i64 0, .int .i64 0] 41 h2 fun h3 =>
  K (.tuple #[.pointer (some ⟨h2.size, 0, none⟩), .int .i64 0]) h3
def boleref03_New (n1 : Int) (K : Value → Heap → Prop) (h1 : Heap) : Prop :=
  bif (decide (n1 < 1)) then (
  K (.tuple #[.pointer none, .int .i64 32]) h1) else (
  bif (decide (n1 > 16384)) then (
  K (.tuple #[.pointer none, .int .i64 32]) h1) else (
  boleref03_New.k1 n1 h1 K))
def boleref03_New.lo : Nat → List Nat × List (Nat × Ty) := fun n => match n with | _ => ([], [])
def boleref03_New.od : Nat → Od := fun n => match n with | _ => .nil
set_option maxRecDepth 1000000 in
set_option maxRecDepth 1000000 in
theorem boleref03_New.ok {n1 : Int} {K : Value → Heap → Prop} {h : Heap} (hx : boleref03_New n1 K h) : C.boleref03_New n1 h K :=
  fn_to (c := Tryz.f10.body.getD .skip) (cxOk boleref03_New.lo boleref03_New.od) Tryz.func10 (by kernel_rfl) (by kernel_rfl) (Eq.mpr (by kernel_rfl) hx)
def adisk_Disk_Down (d1 : Option Addr) (K : Value → Heap → Prop) (h1 : Heap) : Prop :=
  onSome d1 fun p1 =>
  ∃ (b1 : Bool), cellOf h1 (Addr.add p1 4) = some (.bool b1) ∧
  K (.bool b1) h1
def adisk_Disk_Down.lo : Nat → List Nat × List (Nat × Ty) := fun n => match n with | _ => ([], [])
def adisk_Disk_Down.od : Nat → Od := fun n => match n with | _ => .nil
theorem adisk_Disk_Down.ok {d1 : Option Addr} {K : Value → Heap → Prop} {h : Heap} (hx : adisk_Disk_Down d1 K h) : C.adisk_Disk_Down d1 h K :=
  fn_to (c := Tryz.f12.body.getD .skip) (cxOk adisk_Disk_Down.lo adisk_Disk_Down.od) Tryz.func12 (by kernel_rfl) (by kernel_rfl) (Eq.mpr (by kernel_rfl) hx)
def adisk_Disk_Steps (d1 : Option Addr) (K : Value → Heap → Prop) (h1 : Heap) : Prop :=
  onSome d1 fun p1 =>
  ∃ (n1 : Int), cellOf h1 (Addr.add p1 5) = some (.int .i64 n1) ∧
  onSome d1 fun p2 =>
  ∃ (n2 : Int), cellOf h1 (Addr.add p2 6) = some (.int .i64 n2) ∧
  K (.tuple #[.int .i64 n1, .int .i64 n2]) h1
def adisk_Disk_Steps.lo : Nat → List Nat × List (Nat × Ty) := fun n => match n with | _ => ([], [])
def adisk_Disk_Steps.od : Nat → Od := fun n => match n with | 1 => (.op 0 [] (.op 1 [] (.op 2 [] (.op 3 [] (.op 4 [] (.op 5 [] (.op 6 [] (.op 7 [] (.op 8 [] (.op 9 [] .nil)))))))))) | _ => .nil
theorem adisk_Disk_Steps.ok {d1 : Option Addr} {K : Value → Heap → Prop} {h : Heap} (hx : adisk_Disk_Steps d1 K h) : C.adisk_Disk_Steps d1 h K :=
  fn_to (c := Tryz.f13.body.getD .skip) (cxOk adisk_Disk_Steps.lo adisk_Disk_Steps.od) Tryz.func13 (by kernel_rfl) (by kernel_rfl) (Eq.mpr (by kernel_rfl) hx)
def adisk_Disk_Image (d1 : Option Addr) (K : Value → Heap → Prop) (h1 : Heap) : Prop :=
  onSome d1 fun p1 =>
  ∃ (sA1 : Option Addr) (sL1 : Nat) (sC1 : Nat), cellOf h1 (Addr.add p1 0) = some (.slice sA1 sL1 sC1) ∧
  (0 ≤ (0 : Int) ∧ (0 : Int) ≤ (IntKind.wrap .i64 ((sL1 : Int) * 512)) ∧ (1 : Int) * (IntKind.wrap .i64 ((sL1 : Int) * 512)) ≤ 281474976710656 ∧ (IntKind.wrap .i64 ((sL1 : Int) * 512)) ≤ 281474976710656) ∧
  New (repCells z5 (Int.toNat (IntKind.wrap .i64 ((sL1 : Int) * 512)))) 5 h1 fun h2 =>
  onSome d1 fun p2 =>
  ∃ (sA2 : Option Addr) (sL2 : Nat) (sC2 : Nat), cellOf h2 (Addr.add p2 0) = some (.slice sA2 sL2 sC2) ∧
  ∃ (I1 : Option Addr → Nat → Nat → Int → Heap → Prop) (M1 : Option Addr → Nat → Nat → Int → Heap → Nat), I1 (some ⟨h1.size, 0, none⟩) (Int.toNat 0) (Int.toNat (IntKind.wrap .i64 ((sL1 : Int) * 512))) 0 h2 ∧
  ∀ (imageA1 : Option Addr) (imageL1 : Nat) (imageC1 : Nat) (n1 : Int), ∀ h3 : Heap, I1 imageA1 imageL1 imageC1 n1 h3 →
  bif (decide (n1 < (sL2 : Int))) then (
  (0 ≤ n1 ∧ n1 < (sL2 : Int)) ∧
  onSome sA2 fun p3 =>
  ∃ cs1 : List Value, List.length cs1 = 512 ∧ Cells h3 (Addr.add p3 ((Int.toNat n1) * 512)) cs1 ∧
  NewRow z125 125 cs1 512 h3 fun h5 =>
  ∃ new1 : List Value, List.length new1 = 512 * 1 ∧ SlCells h5 (some ⟨h3.size, 0, none⟩) new1 ∧ (∀ v ∈ new1, v.oneCell' = true) ∧
  AppendP ti5 5 imageA1 imageL1 imageC1 512 new1 h5 fun sA3 sL3 sC3 h6 =>
  I1 sA3 sL3 sC3 (IntKind.wrap .i64 (n1 + 1)) h6 ∧ M1 sA3 sL3 sC3 (IntKind.wrap .i64 (n1 + 1)) h6 < M1 imageA1 imageL1 imageC1 n1 h3) else (
  K (.slice imageA1 imageL1 imageC1) h3)
def adisk_Disk_Image.lo : Nat → List Nat × List (Nat × Ty) := fun n => match n with | 3 => ([16, 17], [(3, .slice), (18, .int .i64)]) | _ => ([], [])
def adisk_Disk_Image.od : Nat → Od := fun n => match n with | _ => .nil
theorem adisk_Disk_Image.ok {d1 : Option Addr} {K : Value → Heap → Prop} {h : Heap} (hx : adisk_Disk_Image d1 K h) : C.adisk_Disk_Image d1 h K :=
  fn_to (c := Tryz.f18.body.getD .skip) (cxOk adisk_Disk_Image.lo adisk_Disk_Image.od) Tryz.func18 (by kernel_rfl) (by kernel_rfl) (Eq.mpr (by kernel_rfl) hx)
def boleref03_Disk_Image (d1 : Option Addr) (K : Value → Heap → Prop) (h1 : Heap) : Prop :=
  onSome d1 fun p1 =>
  ∃ (b1 : Bool), cellOf h1 (Addr.add p1 4) = some (.bool b1) ∧
  bif b1 then (
  onSome d1 fun p2 =>
  ∃ (sA1 : Option Addr) (sL1 : Nat) (sC1 : Nat), cellOf h1 (Addr.add p2 0) = some (.slice sA1 sL1 sC1) ∧
  onSome d1 fun p3 =>
  ∃ (sA2 : Option Addr) (sL2 : Nat) (sC2 : Nat), cellOf h1 (Addr.add p3 1) = some (.slice sA2 sL2 sC2) ∧
  onSome d1 fun p4 =>
  ∃ (sA3 : Option Addr) (sL3 : Nat) (sC3 : Nat), cellOf h1 (Addr.add p4 2) = some (.slice sA3 sL3 sC3) ∧
  C.boleref03_left sA1 sL1 sC1 sA2 sL2 sC2 sA3 sL3 sC3 h1 fun r1 h2 =>
  ∃ (sA4 : Option Addr) (sL4 : Nat) (sC4 : Nat), r1 = .slice sA4 sL4 sC4 ∧
  K (.slice sA4 sL4 sC4) h2) else (
  onSome d1 fun p5 =>
  ∃ (sA5 : Option Addr) (sL5 : Nat) (sC5 : Nat), cellOf h1 (Addr.add p5 0) = some (.slice sA5 sL5 sC5) ∧
  onSome d1 fun p6 =>
  ∃ (sA6 : Option Addr) (sL6 : Nat) (sC6 : Nat), cellOf h1 (Addr.add p6 1) = some (.slice sA6 sL6 sC6) ∧
  C.boleref03_left sA5 sL5 sC5 sA6 sL6 sC6 none 0 0 h1 fun r2 h3 =>
  ∃ (sA7 : Option Addr) (sL7 : Nat) (sC7 : Nat), r2 = .slice sA7 sL7 sC7 ∧
  K (.slice sA7 sL7 sC7) h3)
def boleref03_Disk_Image.lo : Nat → List Nat × List (Nat × Ty) := fun n => match n with | _ => ([], [])
def boleref03_Disk_Image.od : Nat → Od := fun n => match n with | 2 => (.op 0 [] (.op 1 [] (.op 2 [] (.op 3 [] (.op 4 [] (.op 5 [] (.op 6 [] (.op 7 [] (.op 8 [] (.op 9 [] (.op 10 [] (.op 11 [] (.op 12 [] (.op 13 [] .nil)))))))))))))) | 3 => (.op 0 [] (.op 1 [] (.op 2 [] (.op 3 [] (.op 4 [] (.op 5 [] (.op 6 [] (.op 7 [] (.op 8 [] (.op 9 [] .nil)))))))))) | _ => .nil
theorem boleref03_Disk_Image.ok {d1 : Option Addr} {K : Value → Heap → Prop} {h : Heap} (hx : boleref03_Disk_Image d1 K h) : C.boleref03_Disk_Image d1 h K :=
  fn_to (c := Tryz.f19.body.getD .skip) (cxOk boleref03_Disk_Image.lo boleref03_Disk_Image.od) Tryz.func19 (by kernel_rfl) (by kernel_rfl) (Eq.mpr (by kernel_rfl) hx)
end Go.Proofs.YtjdcbblgaoogmaaGreatDoor.W
namespace Go.Proofs.YtjdcbblgaoogmaaGreatDoor.W
open Go Go.Proofs Wx
def bolelaw06_mod (v1 : Int) (n1 : Int) (K : Value → Heap → Prop) (h1 : Heap) : Prop :=
  if n1 = 0 then False else
  bif (decide ((Int.tmod v1 n1) < 0)) then (
  K (.int .i64 (IntKind.wrap .i64 ((Int.tmod v1 n1) + n1))) h1) else (
  K (.int .i64 (Int.tmod v1 n1)) h1)
def bolelaw06_mod.lo : Nat → List Nat × List (Nat × Ty) := fun n => match n with | _ => ([], [])
def bolelaw06_mod.od : Nat → Od := fun n => match n with | _ => .nil
theorem bolelaw06_mod.ok {v1 : Int} {n1 : Int} {K : Value → Heap → Prop} {h : Heap} (hx : bolelaw06_mod v1 n1 K h) : C.bolelaw06_mod v1 n1 h K :=
  fn_to (c := Tryz.f21.body.getD .skip) (cxOk bolelaw06_mod.lo bolelaw06_mod.od) Tryz.func21 (by kernel_rfl) (by kernel_rfl) (Eq.mpr (by kernel_rfl) hx)
def bolelaw06_Sides_begins (s1 : Option Addr) (K : Value → Heap → Prop) (h1 : Heap) : Prop :=
  onSome s1 fun p1 =>
  ∃ (q1 : Option Addr), cellOf h1 (Addr.add p1 0) = some (.pointer q1) ∧
  C.txn_Begin q1 h1 fun r1 h2 =>
  ∃ (q2 : Option Addr), r1 = .pointer q2 ∧
  onSome s1 fun p2 =>
  Put (Addr.add p2 2) (.pointer q2) h2 fun h3 =>
  onSome s1 fun p3 =>
  ∃ (q3 : Option Addr), cellOf h3 (Addr.add p3 1) = some (.pointer q3) ∧
  C.boleref06_Begin q3 h3 fun r2 h4 =>
  ∃ (q4 : Option Addr), r2 = .pointer q4 ∧
  onSome s1 fun p4 =>
  Put (Addr.add p4 3) (.pointer q4) h4 fun h5 =>
  onSome s1 fun p5 =>
  ∃ (q5 : Option Addr), cellOf h5 (Addr.add p5 2) = some (.pointer q5) ∧
  K (.bool (!(Option.isNone q5))) h5
def bolelaw06_Sides_begins.lo : Nat → List Nat × List (Nat × Ty) := fun n => match n with | _ => ([], [])
def bolelaw06_Sides_begins.od : Nat → Od := fun n => match n with | _ => .nil
theorem bolelaw06_Sides_begins.ok {s1 : Option Addr} {K : Value → Heap → Prop} {h : Heap} (hx : bolelaw06_Sides_begins s1 K h) : C.bolelaw06_Sides_begins s1 h K :=
  fn_to (c := Tryz.f22.body.getD .skip) (cxOk bolelaw06_Sides_begins.lo bolelaw06_Sides_begins.od) Tryz.func22 (by kernel_rfl) (by kernel_rfl) (Eq.mpr (by kernel_rfl) hx)
def bolelaw06_Sides_plays (s1 : Option Addr) (o1 : List Value) (k1 : Option Addr) (K : Value → Heap → Prop) (h1 : Heap) : Prop :=
  New o1 67 h1 fun h2 =>
  ∃ (n1 : Int), cellOf h2 (Addr.add ⟨h1.size, 0, none⟩ 0) = some (.int .i64 n1) ∧
  bif (n1 == 2) then (
  ∃ cs1 : List Value, List.length cs1 = 5 ∧ Cells h2 ⟨h1.size, 0, none⟩ cs1 ∧
  C.bolelaw06_Sides_writes s1 cs1 h2 fun r1 h3 =>
  ∃ (b1 : Bool), r1 = .bool b1 ∧
  K (.bool b1) h3) else (
  bif (n1 == 4) then (
  onSome s1 fun p1 =>
  ∃ (q1 : Option Addr), cellOf h2 (Addr.add p1 2) = some (.pointer q1) ∧
  C.txn_Txn_Mark q1 h2 fun r2 h4 =>
  ∃ (n2 : Int) (n3 : Int), r2 = .tuple #[.int .i64 n2, .int .i64 n3] ∧
  onSome s1 fun p2 =>
  ∃ (q2 : Option Addr), cellOf h4 (Addr.add p2 3) = some (.pointer q2) ∧
  C.boleref06_Txn_Mark q2 h4 fun r3 h5 =>
  ∃ (n4 : Int) (n5 : Int), r3 = .tuple #[.int .i64 n4, .int .i64 n5] ∧
  bif (n2 == n4) then (
  K (.bool (n3 == n5)) h5) else (
  K (.bool false) h5)) else (
  bif (n1 == 5) then (
  onSome s1 fun p3 =>
  ∃ (q3 : Option Addr), cellOf h2 (Addr.add p3 2) = some (.pointer q3) ∧
  ∃ (n6 : Int), cellOf h2 (Addr.add ⟨h1.size, 0, none⟩ 1) = some (.int .i64 n6) ∧
  onSome s1 fun p4 =>
  ∃ (q4 : Option Addr), cellOf h2 (Addr.add p4 3) = some (.pointer q4) ∧
  ∃ (n7 : Int), cellOf h2 (Addr.add ⟨h1.size, 0, none⟩ 1) = some (.int .i64 n7) ∧
  C.txn_Txn_Back q3 n6 h2 fun r4 h6 =>
  ∃ (n8 : Int), r4 = .int .i64 n8 ∧
  (cellOf h6 (Addr.add p4 3) = some (.pointer q4)) ∧
  (cellOf h6 (Addr.add ⟨h1.size, 0, none⟩ 1) = some (.int .i64 n7)) ∧
  C.boleref06_Txn_Back q4 n7 h6 fun r5 h7 =>
  ∃ (n9 : Int), r5 = .int .i64 n9 ∧
  K (.bool (n8 == n9)) h7) else (
  bif (n1 == 6) then (
  onSome s1 fun p5 =>
  ∃ (q5 : Option Addr), cellOf h2 (Addr.add p5 2) = some (.pointer q5) ∧
  onSome s1 fun p6 =>
  ∃ (q6 : Option Addr), cellOf h2 (Addr.add p6 3) = some (.pointer q6) ∧
  C.txn_Txn_Commit q5 h2 fun r6 h8 =>
  ∃ (n10 : Int), r6 = .int .i64 n10 ∧
  (cellOf h8 (Addr.add p6 3) = some (.pointer q6)) ∧
  C.boleref06_Txn_Commit q6 h8 fun r7 h9 =>
  ∃ (n11 : Int), r7 = .int .i64 n11 ∧
  K (.bool (n10 == n11)) h9) else (
  bif (n1 == 7) then (
  onSome s1 fun p7 =>
  ∃ (q7 : Option Addr), cellOf h2 (Addr.add p7 2) = some (.pointer q7) ∧
  C.txn_Txn_Abort q7 h2 fun r8 h10 =>
  r8 = .tuple #[] ∧
  onSome s1 fun p8 =>
  ∃ (q8 : Option Addr), cellOf h10 (Addr.add p8 3) = some (.pointer q8) ∧
  C.boleref06_Txn_Abort q8 h10 fun r9 h11 =>
  r9 = .tuple #[] ∧
  ∃ cs2 : List Value, List.length cs2 = 5 ∧ Cells h11 ⟨h1.size, 0, none⟩ cs2 ∧
  C.bolelaw06_Sides_lists s1 cs2 k1 h11 fun r10 h12 =>
  ∃ (b2 : Bool), r10 = .bool b2 ∧
  K (.bool b2) h12) else (
  bif (n1 == 8) then (
  onSome s1 fun p9 =>
  ∃ (q9 : Option Addr), cellOf h2 (Addr.add p9 2) = some (.pointer q9) ∧
  onSome s1 fun p10 =>
  ∃ (q10 : Option Addr), cellOf h2 (Addr.add p10 3) = some (.pointer q10) ∧
  onSome q10 fun p11 =>
  ∃ (b3 : Bool), cellOf h2 (Addr.add p11 2) = some (.bool b3) ∧
  C.txn_Txn_Over q9 h2 fun r11 h13 =>
  ∃ (b4 : Bool), r11 = .bool b4 ∧
  (cellOf h13 (Addr.add p10 3) = some (.pointer q10)) ∧
  (cellOf h13 (Addr.add p11 2) = some (.bool b3)) ∧
  K (.bool (b4 == b3)) h13) else (
  bif (n1 == 9) then (
  onSome s1 fun p12 =>
  ∃ (q11 : Option Addr), cellOf h2 (Addr.add p12 3) = some (.pointer q11) ∧
  onSome q11 fun p13 =>
  ∃ (b5 : Bool), cellOf h2 (Addr.add p13 2) = some (.bool b5) ∧
  bif (!b5) then (
  K (.bool true) h2) else (
  C.bolelaw06_Sides_begins s1 h2 fun r12 h14 =>
  ∃ (b6 : Bool), r12 = .bool b6 ∧
  K (.bool b6) h14)) else (
  bif (n1 == 10) then (
  onSome s1 fun p14 =>
  ∃ (q12 : Option Addr), cellOf h2 (Addr.add p14 0) = some (.pointer q12) ∧
  ∃ (n12 : Int), cellOf h2 (Addr.add ⟨h1.size, 0, none⟩ 1) = some (.int .i64 n12) ∧
  ∃ (sA1 : Option Addr) (sL1 : Nat) (sC1 : Nat), cellOf h2 (Addr.add ⟨h1.size, 0, none⟩ 4) = some (.slice sA1 sL1 sC1) ∧
  onSome s1 fun p15 =>
  ∃ (q13 : Option Addr), cellOf h2 (Addr.add p15 1) = some (.pointer q13) ∧
  ∃ (n13 : Int), cellOf h2 (Addr.add ⟨h1.size, 0, none⟩ 1) = some (.int .i64 n13) ∧
  ∃ (sA2 : Option Addr) (sL2 : Nat) (sC2 : Nat), cellOf h2 (Addr.add ⟨h1.size, 0, none⟩ 4) = some (.slice sA2 sL2 sC2) ∧
  C.adisk_Disk_Arm q12 [.int .i64 n12, .slice sA1 sL1 sC1] h2 fun r13 h15 =>
  ∃ (n14 : Int), r13 = .int .i64 n14 ∧
  (cellOf h15 (Addr.add p15 1) = some (.pointer q13)) ∧
  (cellOf h15 (Addr.add ⟨h1.size, 0, none⟩ 1) = some (.int .i64 n13)) ∧
  (cellOf h15 (Addr.add ⟨h1.size, 0, none⟩ 4) = some (.slice sA2 sL2 sC2)) ∧
  C.boleref03_Disk_Arm q13 [.int .i64 n13, .slice sA2 sL2 sC2] h15 fun r14 h16 =>
  ∃ (n15 : Int), r14 = .int .i64 n15 ∧
  K (.bool (n14 == n15)) h16) else (
  bif (n1 == 11) then (
  onSome s1 fun p16 =>
  ∃ (q14 : Option Addr), cellOf h2 (Addr.add p16 1) = some (.pointer q14) ∧
  onSome q14 fun p17 =>
  ∃ (b7 : Bool), cellOf h2 (Addr.add p17 4) = some (.bool b7) ∧
  bif (!b7) then (
  K (.bool true) h2) else (
  C.bolelaw06_Sides_starts s1 h2 fun r15 h17 =>
  ∃ (b8 : Bool), r15 = .bool b8 ∧
  K (.bool b8) h17)) else (
  ∃ cs3 : List Value, List.length cs3 = 5 ∧ Cells h2 ⟨h1.size, 0, none⟩ cs3 ∧
  C.bolelaw06_Sides_lists s1 cs3 k1 h2 fun r16 h18 =>
  ∃ (b9 : Bool), r16 = .bool b9 ∧
  K (.bool b9) h18)))))))))
def bolelaw06_Sides_plays.lo : Nat → List Nat × List (Nat × Ty) := fun n => match n with | _ => ([], [])
set_option maxRecDepth 100000 in
def bolelaw06_Sides_plays.od : Nat → Od := fun n => match n with | 9 => (.op 0 [] (.op 1 [] (.op 2 [] (.op 3 [] (.op 4 [] (.op 5 [] (.op 7 [] (.op 8 [] (.op 9 [] (.op 10 [] (.op 11 [] (.op 12 [] (.op 6 [10, 12] (.op 13 [] (.op 14 [] (.op 15 [] .nil)))))))))))))))) | 11 => (.op 0 [] (.op 1 [] (.op 2 [] (.op 3 [] (.op 5 [] (.op 6 [] (.op 7 [] (.op 8 [] (.op 4 [8] (.op 9 [] (.op 10 [] (.op 11 [] .nil)))))))))))) | 16 => (.op 0 [] (.op 1 [] (.op 2 [] (.op 3 [] (.op 5 [] (.op 6 [] (.op 7 [] (.op 8 [] (.op 9 [] (.op 10 [] (.op 11 [] (.op 4 [8, 11] (.op 12 [] (.op 13 [] .nil)))))))))))))) | 20 => (.op 0 [] (.op 1 [] (.op 2 [] (.op 3 [] (.op 4 [] (.op 5 [] (.op 6 [] (.op 7 [] (.op 8 [] (.op 10 [] (.op 11 [] (.op 12 [] (.op 13 [] (.op 14 [] (.op 15 [] (.op 16 [] (.op 17 [] (.op 18 [] (.op 9 [13, 15, 17] (.op 19 [] (.op 20 [] (.op 21 [] .nil)))))))))))))))))))))) | _ => .nil
set_option maxRecDepth 100000 in
set_option maxRecDepth 100000 in
theorem bolelaw06_Sides_plays.ok {s1 : Option Addr} {o1 : List Value} {k1 : Option Addr} {K : Value → Heap → Prop} {h : Heap} (hx : bolelaw06_Sides_plays s1 o1 k1 K h) : C.bolelaw06_Sides_plays s1 o1 k1 h K :=
  fn_to (c := Tryz.f23.body.getD .skip) (cxOk bolelaw06_Sides_plays.lo bolelaw06_Sides_plays.od) Tryz.func23 (by kernel_rfl) (by kernel_rfl) (Eq.mpr (by kernel_rfl) hx)
def txn_Txn_Over (t1 : Option Addr) (K : Value → Heap → Prop) (h1 : Heap) : Prop :=
  onSome t1 fun p1 =>
  ∃ (b1 : Bool), cellOf h1 (Addr.add p1 3) = some (.bool b1) ∧
  K (.bool b1) h1
def txn_Txn_Over.lo : Nat → List Nat × List (Nat × Ty) := fun n => match n with | _ => ([], [])
def txn_Txn_Over.od : Nat → Od := fun n => match n with | _ => .nil
theorem txn_Txn_Over.ok {t1 : Option Addr} {K : Value → Heap → Prop} {h : Heap} (hx : txn_Txn_Over t1 K h) : C.txn_Txn_Over t1 h K :=
  fn_to (c := Tryz.f24.body.getD .skip) (cxOk txn_Txn_Over.lo txn_Txn_Over.od) Tryz.func24 (by kernel_rfl) (by kernel_rfl) (Eq.mpr (by kernel_rfl) hx)
def bolelaw06_Sides_lists (s1 : Option Addr) (o1 : List Value) (k1 : Option Addr) (K : Value → Heap → Prop) (h1 : Heap) : Prop :=
  New o1 67 h1 fun h2 =>
  ∃ (n1 : Int), cellOf h2 (Addr.add ⟨h1.size, 0, none⟩ 0) = some (.int .i64 n1) ∧
  bif (n1 == 1) then (
  onSome s1 fun p1 =>
  ∃ (q1 : Option Addr), cellOf h2 (Addr.add p1 2) = some (.pointer q1) ∧
  ∃ (n2 : Int), cellOf h2 (Addr.add ⟨h1.size, 0, none⟩ 1) = some (.int .i64 n2) ∧
  C.txn_Txn_Read q1 n2 h2 fun r1 h3 =>
  ∃ (sA1 : Option Addr) (sL1 : Nat) (sC1 : Nat) (n3 : Int), r1 = .tuple #[.slice sA1 sL1 sC1, .int .i64 n3] ∧
  onSome s1 fun p2 =>
  ∃ (q2 : Option Addr), cellOf h3 (Addr.add p2 2) = some (.pointer q2) ∧
  ∃ (n4 : Int), cellOf h3 (Addr.add ⟨h1.size, 0, none⟩ 1) = some (.int .i64 n4) ∧
  C.txn_Txn_Read q2 n4 h3 fun r2 h4 =>
  ∃ (sA2 : Option Addr) (sL2 : Nat) (sC2 : Nat) (n5 : Int), r2 = .tuple #[.slice sA2 sL2 sC2, .int .i64 n5] ∧
  onSome s1 fun p3 =>
  ∃ (q3 : Option Addr), cellOf h4 (Addr.add p3 3) = some (.pointer q3) ∧
  ∃ (n6 : Int), cellOf h4 (Addr.add ⟨h1.size, 0, none⟩ 1) = some (.int .i64 n6) ∧
  C.boleref06_Txn_Read q3 n6 h4 fun r3 h5 =>
  ∃ (sA3 : Option Addr) (sL3 : Nat) (sC3 : Nat) (n7 : Int), r3 = .tuple #[.slice sA3 sL3 sC3, .int .i64 n7] ∧
  ∃ bs1 : List UInt8, StrAt h5 sA1 sL1 bs1 ∧
  ∃ bs2 : List UInt8, StrAt h5 sA3 sL3 bs2 ∧
  bif (!((mkStr bs1).toList == (mkStr bs2).toList)) then (
  K (.bool false) h5) else (
  ∃ bs3 : List UInt8, StrAt h5 sA2 sL2 bs3 ∧
  ∃ bs4 : List UInt8, StrAt h5 sA3 sL3 bs4 ∧
  bif (!((mkStr bs3).toList == (mkStr bs4).toList)) then (
  K (.bool false) h5) else (
  bif (n3 != n7) then (
  K (.bool false) h5) else (
  bif (n5 != n7) then (
  K (.bool false) h5) else (
  C.bolelaw06_Book_bytes k1 sA1 sL1 sC1 h5 fun r4 h6 =>
  r4 = .tuple #[] ∧
  C.bolelaw06_Book_bytes k1 sA2 sL2 sC2 h6 fun r5 h7 =>
  r5 = .tuple #[] ∧
  K (.bool true) h7))))) else (
  bif (n1 == 3) then (
  onSome s1 fun p4 =>
  ∃ (q4 : Option Addr), cellOf h2 (Addr.add p4 2) = some (.pointer q4) ∧
  C.txn_Txn_Written q4 h2 fun r6 h8 =>
  ∃ (sA4 : Option Addr) (sL4 : Nat) (sC4 : Nat), r6 = .slice sA4 sL4 sC4 ∧
  onSome s1 fun p5 =>
  ∃ (q5 : Option Addr), cellOf h8 (Addr.add p5 2) = some (.pointer q5) ∧
  C.txn_Txn_Written q5 h8 fun r7 h9 =>
  ∃ (sA5 : Option Addr) (sL5 : Nat) (sC5 : Nat), r7 = .slice sA5 sL5 sC5 ∧
  onSome s1 fun p6 =>
  ∃ (q6 : Option Addr), cellOf h9 (Addr.add p6 3) = some (.pointer q6) ∧
  C.boleref06_Txn_Written q6 h9 fun r8 h10 =>
  ∃ (sA6 : Option Addr) (sL6 : Nat) (sC6 : Nat), r8 = .slice sA6 sL6 sC6 ∧
  C.bolelaw06_sameInts sA4 sL4 sC4 sA6 sL6 sC6 h10 fun r9 h11 =>
  ∃ (b1 : Bool), r9 = .bool b1 ∧
  bif (!b1) then (
  K (.bool false) h11) else (
  C.bolelaw06_sameInts sA5 sL5 sC5 sA6 sL6 sC6 h11 fun r10 h12 =>
  ∃ (b2 : Bool), r10 = .bool b2 ∧
  bif (!b2) then (
  K (.bool false) h12) else (
  C.bolelaw06_Book_ints k1 sA4 sL4 sC4 h12 fun r11 h13 =>
  r11 = .tuple #[] ∧
  C.bolelaw06_Book_ints k1 sA5 sL5 sC5 h13 fun r12 h14 =>
  r12 = .tuple #[] ∧
  K (.bool true) h14))) else (
  K (.bool true) h2))
def bolelaw06_Sides_lists.lo : Nat → List Nat × List (Nat × Ty) := fun n => match n with | _ => ([], [])
def bolelaw06_Sides_lists.od : Nat → Od := fun n => match n with | 3 => (.op 0 [] (.op 1 [] (.op 2 [] (.op 3 [] (.op 4 [] (.op 5 [] (.op 6 [] (.op 7 [] (.op 8 [] (.op 9 [] (.op 10 [] (.op 11 [] .nil)))))))))))) | 4 => (.op 0 [] (.op 1 [] (.op 2 [] (.op 3 [] (.op 4 [] (.op 5 [] (.op 6 [] (.op 7 [] (.op 8 [] (.op 9 [] (.op 10 [] (.op 11 [] .nil)))))))))))) | 5 => (.op 0 [] (.op 1 [] (.op 2 [] (.op 3 [] (.op 4 [] (.op 5 [] (.op 6 [] (.op 7 [] (.op 8 [] (.op 9 [] (.op 10 [] (.op 11 [] .nil)))))))))))) | _ => .nil
theorem bolelaw06_Sides_lists.ok {s1 : Option Addr} {o1 : List Value} {k1 : Option Addr} {K : Value → Heap → Prop} {h : Heap} (hx : bolelaw06_Sides_lists s1 o1 k1 K h) : C.bolelaw06_Sides_lists s1 o1 k1 h K :=
  fn_to (c := Tryz.f25.body.getD .skip) (cxOk bolelaw06_Sides_lists.lo bolelaw06_Sides_lists.od) Tryz.func25 (by kernel_rfl) (by kernel_rfl) (Eq.mpr (by kernel_rfl) hx)
def bolelaw06_Book_holds (k1 : Option Addr) (K : Value → Heap → Prop) (h1 : Heap) : Prop :=
  onSome k1 fun p1 =>
  ∃ (sA1 : Option Addr) (sL1 : Nat) (sC1 : Nat), cellOf h1 (Addr.add p1 1) = some (.slice sA1 sL1 sC1) ∧
  ∃ (I1 : Int → Heap → Prop) (M1 : Int → Heap → Nat), I1 0 h1 ∧
  ∀ (n1 : Int), ∀ h2 : Heap, I1 n1 h2 →
  bif (decide (n1 < (sL1 : Int))) then (
  onSome k1 fun p2 =>
  ∃ (sA2 : Option Addr) (sL2 : Nat) (sC2 : Nat), cellOf h2 (Addr.add p2 1) = some (.slice sA2 sL2 sC2) ∧
  (0 ≤ n1 ∧ n1 < (sL2 : Int)) ∧
  onSome sA2 fun p3 =>
  ∃ (sA3 : Option Addr) (sL3 : Nat) (sC3 : Nat), cellOf h2 (Addr.add p3 (Int.toNat n1)) = some (.slice sA3 sL3 sC3) ∧
  onSome k1 fun p4 =>
  ∃ (sA4 : Option Addr) (sL4 : Nat) (sC4 : Nat), cellOf h2 (Addr.add p4 2) = some (.slice sA4 sL4 sC4) ∧
  (0 ≤ n1 ∧ n1 < (sL4 : Int)) ∧
  onSome sA4 fun p5 =>
  ∃ (sA5 : Option Addr) (sL5 : Nat) (sC5 : Nat), cellOf h2 (Addr.add p5 (Int.toNat n1)) = some (.slice sA5 sL5 sC5) ∧
  C.bolelaw06_sameInts sA3 sL3 sC3 sA5 sL5 sC5 h2 fun r1 h3 =>
  ∃ (b1 : Bool), r1 = .bool b1 ∧
  bif (!b1) then (
  K (.bool false) h3) else (
  I1 (IntKind.wrap .i64 (n1 + 1)) h3 ∧ M1 (IntKind.wrap .i64 (n1 + 1)) h3 < M1 n1 h2)) else (
  onSome k1 fun p6 =>
  ∃ (sA6 : Option Addr) (sL6 : Nat) (sC6 : Nat), cellOf h2 (Addr.add p6 0) = some (.slice sA6 sL6 sC6) ∧
  ∃ (I2 : Option Addr → Nat → Nat → Int → Heap → Prop) (M2 : Option Addr → Nat → Nat → Int → Heap → Nat), I2 none 0 0 0 h2 ∧
  ∀ (lA1 : Option Addr) (lL1 : Nat) (lC1 : Nat) (n2 : Int), ∀ h4 : Heap, I2 lA1 lL1 lC1 n2 h4 →
  bif (decide (n2 < (sL6 : Int))) then (
  (0 ≤ n2 ∧ n2 < (sL6 : Int)) ∧
  onSome sA6 fun p7 =>
  ∃ cs1 : List Value, List.length cs1 = 5 ∧ Cells h4 (Addr.add p7 ((Int.toNat n2) * 5)) cs1 ∧
  NewRow z142 142 cs1 5 h4 fun h6 =>
  ∃ (b2 : Bool), cellOf h6 (Addr.add ⟨h4.size, 0, none⟩ 4) = some (.bool b2) ∧
  bif b2 then (
  ∃ (sA7 : Option Addr) (sL7 : Nat) (sC7 : Nat), cellOf h6 (Addr.add ⟨h4.size, 0, none⟩ 0) = some (.slice sA7 sL7 sC7) ∧
  ∃ bs1 : List UInt8, StrAt h6 sA7 sL7 bs1 ∧
  ∃ (s1 : ByteArray), cellOf h6 (Addr.add ⟨h4.size, 0, none⟩ 3) = some (.string s1) ∧
  bif (!((mkStr bs1).toList == s1.toList)) then (
  K (.bool false) h6) else (
  ∃ cs2 : List Value, List.length cs2 = 5 ∧ Cells h6 ⟨h4.size, 0, none⟩ cs2 ∧
  C.bolelaw06_Held_grown cs2 h6 fun r2 h7 =>
  ∃ (cs3 : List Value), r2 = .agg ⟨cs3⟩ ∧
  PutRow ⟨h4.size, 0, none⟩ cs3 5 h7 fun h8 =>
  ∃ cs4 : List Value, List.length cs4 = 5 ∧ Cells h8 ⟨h4.size, 0, none⟩ cs4 ∧
  List.length (cs4 : List Value) = 5 ∧
  New cs4 142 h8 fun h9 =>
  ∃ new1 : List Value, List.length new1 = 1 * 5 ∧ SlCells h9 (some ⟨h8.size, 0, none⟩) new1 ∧ (∀ v ∈ new1, v.oneCell' = true) ∧
  AppendP ti142 142 lA1 lL1 lC1 1 new1 h9 fun sA8 sL8 sC8 h10 =>
  I2 sA8 sL8 sC8 (IntKind.wrap .i64 (n2 + 1)) h10 ∧ M2 sA8 sL8 sC8 (IntKind.wrap .i64 (n2 + 1)) h10 < M2 lA1 lL1 lC1 n2 h4)) else (
  ∃ cs5 : List Value, List.length cs5 = 5 ∧ Cells h6 ⟨h4.size, 0, none⟩ cs5 ∧
  List.length (cs5 : List Value) = 5 ∧
  New cs5 142 h6 fun h11 =>
  ∃ new2 : List Value, List.length new2 = 1 * 5 ∧ SlCells h11 (some ⟨h6.size, 0, none⟩) new2 ∧ (∀ v ∈ new2, v.oneCell' = true) ∧
  AppendP ti142 142 lA1 lL1 lC1 1 new2 h11 fun sA9 sL9 sC9 h12 =>
  I2 sA9 sL9 sC9 (IntKind.wrap .i64 (n2 + 1)) h12 ∧ M2 sA9 sL9 sC9 (IntKind.wrap .i64 (n2 + 1)) h12 < M2 lA1 lL1 lC1 n2 h4)) else (
  onSome k1 fun p8 =>
  ∃ (sA10 : Option Addr) (sL10 : Nat) (sC10 : Nat), cellOf h4 (Addr.add p8 1) = some (.slice sA10 sL10 sC10) ∧
  ∃ (I3 : Int → Heap → Prop) (M3 : Int → Heap → Nat), I3 0 h4 ∧
  ∀ (n3 : Int), ∀ h13 : Heap, I3 n3 h13 →
  bif (decide (n3 < (sL10 : Int))) then (
  onSome k1 fun p9 =>
  ∃ (sA11 : Option Addr) (sL11 : Nat) (sC11 : Nat), cellOf h13 (Addr.add p9 1) = some (.slice sA11 sL11 sC11) ∧
  (0 ≤ n3 ∧ n3 < (sL11 : Int)) ∧
  onSome sA11 fun p10 =>
  ∃ (sA12 : Option Addr) (sL12 : Nat) (sC12 : Nat), cellOf h13 (Addr.add p10 (Int.toNat n3)) = some (.slice sA12 sL12 sC12) ∧
  ∃ (I4 : Int → Heap → Prop) (M4 : Int → Heap → Nat), I4 0 h13 ∧
  ∀ (n4 : Int), ∀ h14 : Heap, I4 n4 h14 →
  bif (decide (n4 < (sL12 : Int))) then (
  onSome k1 fun p11 =>
  ∃ (sA13 : Option Addr) (sL13 : Nat) (sC13 : Nat), cellOf h14 (Addr.add p11 1) = some (.slice sA13 sL13 sC13) ∧
  (0 ≤ n3 ∧ n3 < (sL13 : Int)) ∧
  onSome sA13 fun p12 =>
  ∃ (sA14 : Option Addr) (sL14 : Nat) (sC14 : Nat), cellOf h14 (Addr.add p12 (Int.toNat n3)) = some (.slice sA14 sL14 sC14) ∧
  (0 ≤ n4 ∧ n4 < (sL14 : Int)) ∧
  onSome sA14 fun p13 =>
  Put (Addr.add p13 (Int.toNat n4)) (.int .i64 (IntKind.wrap .i64 ((-1000) - n3))) h14 fun h15 =>
  I4 (IntKind.wrap .i64 (n4 + 1)) h15 ∧ M4 (IntKind.wrap .i64 (n4 + 1)) h15 < M4 n4 h14) else (
  onSome k1 fun p14 =>
  ∃ (sA15 : Option Addr) (sL15 : Nat) (sC15 : Nat), cellOf h14 (Addr.add p14 1) = some (.slice sA15 sL15 sC15) ∧
  onSome k1 fun p15 =>
  ∃ (sA16 : Option Addr) (sL16 : Nat) (sC16 : Nat), cellOf h14 (Addr.add p15 1) = some (.slice sA16 sL16 sC16) ∧
  (0 ≤ n3 ∧ n3 < (sL16 : Int)) ∧
  onSome sA16 fun p16 =>
  ∃ (sA17 : Option Addr) (sL17 : Nat) (sC17 : Nat), cellOf h14 (Addr.add p16 (Int.toNat n3)) = some (.slice sA17 sL17 sC17) ∧
  New [.int .i64 (IntKind.wrap .i64 ((-1000) - n3))] 3 h14 fun h16 =>
  (cellOf h16 (Addr.add p14 1) = some (.slice sA15 sL15 sC15)) ∧
  (cellOf h16 (Addr.add p15 1) = some (.slice sA16 sL16 sC16)) ∧
  (cellOf h16 (Addr.add p16 (Int.toNat n3)) = some (.slice sA17 sL17 sC17)) ∧
  ∃ new3 : List Value, List.length new3 = 1 * 1 ∧ SlCells h16 (some ⟨h14.size, 0, none⟩) new3 ∧ (∀ v ∈ new3, v.oneCell' = true) ∧
  AppendP ti3 3 sA17 sL17 sC17 1 new3 h16 fun sA18 sL18 sC18 h17 =>
  (cellOf h17 (Addr.add p14 1) = some (.slice sA15 sL15 sC15)) ∧
  (0 ≤ n3 ∧ n3 < (sL15 : Int)) ∧
  onSome sA15 fun p17 =>
  Put (Addr.add p17 (Int.toNat n3)) (.slice sA18 sL18 sC18) h17 fun h18 =>
  I3 (IntKind.wrap .i64 (n3 + 1)) h18 ∧ M3 (IntKind.wrap .i64 (n3 + 1)) h18 < M3 n3 h13)) else (
  ∃ (I5 : Int → Heap → Prop) (M5 : Int → Heap → Nat), I5 0 h13 ∧
  ∀ (n5 : Int), ∀ h19 : Heap, I5 n5 h19 →
  bif (decide (n5 < (lL1 : Int))) then (
  (0 ≤ n5 ∧ n5 < (lL1 : Int)) ∧
  onSome lA1 fun p18 =>
  ∃ cs6 : List Value, List.length cs6 = 5 ∧ Cells h19 (Addr.add p18 ((Int.toNat n5) * 5)) cs6 ∧
  NewRow z142 142 cs6 5 h19 fun h21 =>
  ∃ (sA19 : Option Addr) (sL19 : Nat) (sC19 : Nat), cellOf h21 (Addr.add ⟨h19.size, 0, none⟩ 0) = some (.slice sA19 sL19 sC19) ∧
  ∃ (I6 : Int → Heap → Prop) (M6 : Int → Heap → Nat), I6 0 h21 ∧
  ∀ (n6 : Int), ∀ h22 : Heap, I6 n6 h22 →
  bif (decide (n6 < (sL19 : Int))) then (
  (0 ≤ n6 ∧ n6 < (sL19 : Int)) ∧
  onSome sA19 fun p19 =>
  ∃ (n7 : Int), cellOf h22 (Addr.add p19 (Int.toNat n6)) = some (.int .u8 n7) ∧
  ∃ (n8 : Int), cellOf h22 (Addr.add ⟨h19.size, 0, none⟩ 2) = some (.int .u8 n8) ∧
  bif (n7 != n8) then (
  K (.bool false) h22) else (
  I6 (IntKind.wrap .i64 (n6 + 1)) h22 ∧ M6 (IntKind.wrap .i64 (n6 + 1)) h22 < M6 n6 h22)) else (
  ∃ (sA20 : Option Addr) (sL20 : Nat) (sC20 : Nat), cellOf h22 (Addr.add ⟨h19.size, 0, none⟩ 0) = some (.slice sA20 sL20 sC20) ∧
  ∃ (n9 : Int), cellOf h22 (Addr.add ⟨h19.size, 0, none⟩ 1) = some (.int .i64 n9) ∧
  bif ((sL20 : Int) != (IntKind.wrap .i64 (n9 + 3))) then (
  K (.bool false) h22) else (
  I5 (IntKind.wrap .i64 (n5 + 1)) h22 ∧ M5 (IntKind.wrap .i64 (n5 + 1)) h22 < M5 n5 h19))) else (
  onSome k1 fun p20 =>
  ∃ (sA21 : Option Addr) (sL21 : Nat) (sC21 : Nat), cellOf h19 (Addr.add p20 1) = some (.slice sA21 sL21 sC21) ∧
  ∃ (I7 : Int → Heap → Prop) (M7 : Int → Heap → Nat), I7 0 h19 ∧
  ∀ (n10 : Int), ∀ h23 : Heap, I7 n10 h23 →
  bif (decide (n10 < (sL21 : Int))) then (
  onSome k1 fun p21 =>
  ∃ (sA22 : Option Addr) (sL22 : Nat) (sC22 : Nat), cellOf h23 (Addr.add p21 1) = some (.slice sA22 sL22 sC22) ∧
  (0 ≤ n10 ∧ n10 < (sL22 : Int)) ∧
  onSome sA22 fun p22 =>
  ∃ (sA23 : Option Addr) (sL23 : Nat) (sC23 : Nat), cellOf h23 (Addr.add p22 (Int.toNat n10)) = some (.slice sA23 sL23 sC23) ∧
  ∃ (I8 : Int → Heap → Prop) (M8 : Int → Heap → Nat), I8 0 h23 ∧
  ∀ (n11 : Int), ∀ h24 : Heap, I8 n11 h24 →
  bif (decide (n11 < (sL23 : Int))) then (
  (0 ≤ n11 ∧ n11 < (sL23 : Int)) ∧
  onSome sA23 fun p23 =>
  ∃ (n12 : Int), cellOf h24 (Addr.add p23 (Int.toNat n11)) = some (.int .i64 n12) ∧
  bif (n12 != (IntKind.wrap .i64 ((-1000) - n10))) then (
  K (.bool false) h24) else (
  I8 (IntKind.wrap .i64 (n11 + 1)) h24 ∧ M8 (IntKind.wrap .i64 (n11 + 1)) h24 < M8 n11 h24)) else (
  I7 (IntKind.wrap .i64 (n10 + 1)) h24 ∧ M7 (IntKind.wrap .i64 (n10 + 1)) h24 < M7 n10 h23)) else (
  K (.bool true) h23)))))
def bolelaw06_Book_holds.lo : Nat → List Nat × List (Nat × Ty) := fun n => match n with | 2 => ([0, 20], [(21, .int .i64)]) | 9 => ([0, 44, 45], [(4, .slice), (46, .int .i64)]) | 18 => ([0, 4, 69], [(70, .int .i64)]) | 21 => ([0, 4, 7, 69, 70, 80], [(81, .int .i64)]) | 28 => ([0, 114, 115], [(116, .int .i64)]) | 31 => ([0, 10, 114, 115, 116, 121, 122], [(123, .int .i64)]) | 40 => ([0, 144], [(145, .int .i64)]) | 43 => ([0, 13, 144, 145, 154, 155], [(156, .int .i64)]) | _ => ([], [])
def bolelaw06_Book_holds.od : Nat → Od := fun n => match n with | 4 => (.op 0 [] (.op 1 [] (.op 2 [] (.op 3 [] (.op 4 [] (.op 5 [] (.op 6 [] (.op 7 [] (.op 8 [] (.op 9 [] (.op 10 [] (.op 11 [] (.op 12 [] (.op 13 [] (.op 14 [] (.op 15 [] .nil)))))))))))))))) | 25 => (.op 0 [] (.op 1 [] (.op 2 [] (.op 3 [] (.op 4 [] (.op 5 [] (.op 6 [] (.op 7 [] (.op 8 [] (.op 9 [] (.op 10 [] (.op 11 [] (.op 12 [] (.op 13 [] (.op 14 [3, 8, 11] (.op 15 [3] (.op 16 [] (.op 17 [] .nil)))))))))))))))))) | _ => .nil
theorem bolelaw06_Book_holds.ok {k1 : Option Addr} {K : Value → Heap → Prop} {h : Heap} (hx : bolelaw06_Book_holds k1 K h) : C.bolelaw06_Book_holds k1 h K :=
  fn_to (c := Tryz.f26.body.getD .skip) (cxOk bolelaw06_Book_holds.lo bolelaw06_Book_holds.od) Tryz.func26 (by kernel_rfl) (by kernel_rfl) (Eq.mpr (by kernel_rfl) hx)
def adisk_Open (imageA1 : Option Addr) (imageL1 : Nat) (imageC1 : Nat) (K : Value → Heap → Prop) (h1 : Heap) : Prop :=
  bif ((Int.tmod (imageL1 : Int) 512) != 0) then (
  K (.tuple #[.pointer none, .int .i64 32]) h1) else (
  C.adisk_New (IntKind.wrap .i64 (Int.tdiv (imageL1 : Int) 512)) h1 fun r1 h2 =>
  ∃ (q1 : Option Addr) (n1 : Int), r1 = .tuple #[.pointer q1, .int .i64 n1] ∧
  bif (n1 != 0) then (
  K (.tuple #[.pointer none, .int .i64 n1]) h2) else (
  onSome q1 fun p1 =>
  ∃ (sA1 : Option Addr) (sL1 : Nat) (sC1 : Nat), cellOf h2 (Addr.add p1 0) = some (.slice sA1 sL1 sC1) ∧
  ∃ (I1 : Int → Heap → Prop) (M1 : Int → Heap → Nat), I1 0 h2 ∧
  ∀ (n2 : Int), ∀ h3 : Heap, I1 n2 h3 →
  bif (decide (n2 < (sL1 : Int))) then (
  onSome q1 fun p2 =>
  ∃ (sA2 : Option Addr) (sL2 : Nat) (sC2 : Nat), cellOf h3 (Addr.add p2 0) = some (.slice sA2 sL2 sC2) ∧
  (0 ≤ n2 ∧ n2 < (sL2 : Int)) ∧
  onSome sA2 fun p3 =>
  (0 ≤ (IntKind.wrap .i64 (n2 * 512)) ∧ (IntKind.wrap .i64 (n2 * 512)) ≤ (imageL1 : Int)) ∧
  CopyP ti5 (some (Addr.add p3 ((Int.toNat n2) * 512))) 512 (.slice (if imageC1 = (Int.toNat (IntKind.wrap .i64 (n2 * 512))) then imageA1 else Option.map (Addr.add · (Int.toNat (IntKind.wrap .i64 (n2 * 512)))) imageA1) (imageL1 - (Int.toNat (IntKind.wrap .i64 (n2 * 512)))) (imageC1 - (Int.toNat (IntKind.wrap .i64 (n2 * 512))))) h3 fun n3 h4 =>
  I1 (IntKind.wrap .i64 (n2 + 1)) h4 ∧ M1 (IntKind.wrap .i64 (n2 + 1)) h4 < M1 n2 h3) else (
  K (.tuple #[.pointer q1, .int .i64 0]) h3)))
def adisk_Open.lo : Nat → List Nat × List (Nat × Ty) := fun n => match n with | 7 => ([0, 4, 25], [(26, .int .i64)]) | _ => ([], [])
def adisk_Open.od : Nat → Od := fun n => match n with | 9 => (.op 0 [] (.op 1 [] (.op 2 [] (.op 3 [] (.op 4 [] (.op 5 [] (.op 6 [] (.op 7 [] (.op 8 [] (.op 9 [] (.op 10 [] (.op 11 [] .nil)))))))))))) | _ => .nil
theorem adisk_Open.ok {imageA1 : Option Addr} {imageL1 : Nat} {imageC1 : Nat} {K : Value → Heap → Prop} {h : Heap} (hx : adisk_Open imageA1 imageL1 imageC1 K h) : C.adisk_Open imageA1 imageL1 imageC1 h K :=
  fn_to (c := Tryz.f28.body.getD .skip) (cxOk adisk_Open.lo adisk_Open.od) Tryz.func28 (by kernel_rfl) (by kernel_rfl) (Eq.mpr (by kernel_rfl) hx)
def boleref03_Of (imageA1 : Option Addr) (imageL1 : Nat) (imageC1 : Nat) (K : Value → Heap → Prop) (h1 : Heap) : Prop :=
  bif ((imageL1 : Int) == 0) then (
  K (.tuple #[.pointer none, .int .i64 32]) h1) else (
  bif ((Int.tmod (imageL1 : Int) 512) != 0) then (
  K (.tuple #[.pointer none, .int .i64 32]) h1) else (
  bif (decide ((IntKind.wrap .i64 (Int.tdiv (imageL1 : Int) 512)) > 16384)) then (
  K (.tuple #[.pointer none, .int .i64 32]) h1) else (
  C.boleref03_copied imageA1 imageL1 imageC1 h1 fun r1 h2 =>
  ∃ (sA1 : Option Addr) (sL1 : Nat) (sC1 : Nat), r1 = .slice sA1 sL1 sC1 ∧
  New [.slice sA1 sL1 sC1, .slice none 0 0, .slice none 0 0, .int .i64 0, .bool false, .int .i64 0, .int .i64 0] 41 h2 fun h3 =>
  K (.tuple #[.pointer (some ⟨h2.size, 0, none⟩), .int .i64 0]) h3)))
def boleref03_Of.lo : Nat → List Nat × List (Nat × Ty) := fun n => match n with | _ => ([], [])
def boleref03_Of.od : Nat → Od := fun n => match n with | _ => .nil
set_option maxRecDepth 1000000 in
set_option maxRecDepth 1000000 in
theorem boleref03_Of.ok {imageA1 : Option Addr} {imageL1 : Nat} {imageC1 : Nat} {K : Value → Heap → Prop} {h : Heap} (hx : boleref03_Of imageA1 imageL1 imageC1 K h) : C.boleref03_Of imageA1 imageL1 imageC1 h K :=
  fn_to (c := Tryz.f29.body.getD .skip) (cxOk boleref03_Of.lo boleref03_Of.od) Tryz.func29 (by kernel_rfl) (by kernel_rfl) (Eq.mpr (by kernel_rfl) hx)
end Go.Proofs.YtjdcbblgaoogmaaGreatDoor.W
namespace Go.Proofs.YtjdcbblgaoogmaaGreatDoor.W
open Go Go.Proofs Wx
def wal_Commit (d1 : Option Addr) (lA1 : Option Addr) (lL1 : Nat) (lC1 : Nat) (K : Value → Heap → Prop) (h1 : Heap) : Prop :=
  bif ((lL1 : Int) == 0) then (
  K (.int .i64 0) h1) else (
  C.adisk_Disk_Blocks d1 h1 fun r1 h2 =>
  ∃ (n1 : Int), r1 = .int .i64 n1 ∧
  C.wal_may lA1 lL1 lC1 n1 h2 fun r2 h3 =>
  ∃ (b1 : Bool), r2 = .bool b1 ∧
  bif (!b1) then (
  K (.int .i64 40) h3) else (
  ∃ (I1 : Option Addr → Nat → Nat → Option Addr → Nat → Nat → Int → Heap → Prop) (M1 : Option Addr → Nat → Nat → Option Addr → Nat → Nat → Int → Heap → Nat), I1 none 0 0 none 0 0 0 h3 ∧
  ∀ (numsA1 : Option Addr) (numsL1 : Nat) (numsC1 : Nat) (dataA1 : Option Addr) (dataL1 : Nat) (dataC1 : Nat) (n2 : Int), ∀ h4 : Heap, I1 numsA1 numsL1 numsC1 dataA1 dataL1 dataC1 n2 h4 →
  bif (decide (n2 < (lL1 : Int))) then (
  (0 ≤ n2 ∧ n2 < (lL1 : Int)) ∧
  onSome lA1 fun p1 =>
  ∃ cs1 : List Value, List.length cs1 = 2 ∧ Cells h4 (Addr.add p1 ((Int.toNat n2) * 2)) cs1 ∧
  NewRow z103 103 cs1 2 h4 fun h6 =>
  ∃ (n3 : Int), cellOf h6 (Addr.add ⟨h4.size, 0, none⟩ 0) = some (.int .i64 n3) ∧
  New [.int .i64 n3] 3 h6 fun h7 =>
  ∃ new1 : List Value, List.length new1 = 1 * 1 ∧ SlCells h7 (some ⟨h6.size, 0, none⟩) new1 ∧ (∀ v ∈ new1, v.oneCell' = true) ∧
  AppendP ti3 3 numsA1 numsL1 numsC1 1 new1 h7 fun sA1 sL1 sC1 h8 =>
  ∃ (sA2 : Option Addr) (sL2 : Nat) (sC2 : Nat), cellOf h8 (Addr.add ⟨h4.size, 0, none⟩ 1) = some (.slice sA2 sL2 sC2) ∧
  New [.slice sA2 sL2 sC2] 37 h8 fun h9 =>
  ∃ new2 : List Value, List.length new2 = 1 * 1 ∧ SlCells h9 (some ⟨h8.size, 0, none⟩) new2 ∧ (∀ v ∈ new2, v.oneCell' = true) ∧
  AppendP ti37 37 dataA1 dataL1 dataC1 1 new2 h9 fun sA3 sL3 sC3 h10 =>
  I1 sA1 sL1 sC1 sA3 sL3 sC3 (IntKind.wrap .i64 (n2 + 1)) h10 ∧ M1 sA1 sL1 sC1 sA3 sL3 sC3 (IntKind.wrap .i64 (n2 + 1)) h10 < M1 numsA1 numsL1 numsC1 dataA1 dataL1 dataC1 n2 h4) else (
  C.head_Make numsA1 numsL1 numsC1 dataA1 dataL1 dataC1 h4 fun r3 h11 =>
  ∃ (sA4 : Option Addr) (sL4 : Nat) (sC4 : Nat) (n4 : Int), r3 = .tuple #[.slice sA4 sL4 sC4, .int .i64 n4] ∧
  bif (n4 != 0) then (
  K (.int .i64 n4) h11) else (
  C.adisk_Disk_Down d1 h11 fun r4 h12 =>
  ∃ (b2 : Bool), r4 = .bool b2 ∧
  bif b2 then (
  K (.int .i64 30) h12) else (
  New z169 169 h12 fun h13 =>
  ∃ (I2 : Int → Heap → Prop) (M2 : Int → Heap → Nat), I2 0 h13 ∧
  ∀ (n5 : Int), ∀ h14 : Heap, I2 n5 h14 →
  bif (decide (n5 < (lL1 : Int))) then (
  (0 ≤ n5 ∧ n5 < (lL1 : Int)) ∧
  onSome lA1 fun p2 =>
  ∃ cs2 : List Value, List.length cs2 = 2 ∧ Cells h14 (Addr.add p2 ((Int.toNat n5) * 2)) cs2 ∧
  NewRow z103 103 cs2 2 h14 fun h16 =>
  ∃ (sA5 : Option Addr) (sL5 : Nat) (sC5 : Nat), cellOf h16 (Addr.add ⟨h14.size, 0, none⟩ 1) = some (.slice sA5 sL5 sC5) ∧
  C.wal_steps_write (some ⟨h12.size, 0, none⟩) (IntKind.wrap .i64 (2 + n5)) sA5 sL5 sC5 h16 fun r5 h17 =>
  r5 = .tuple #[] ∧
  I2 (IntKind.wrap .i64 (n5 + 1)) h17 ∧ M2 (IntKind.wrap .i64 (n5 + 1)) h17 < M2 n5 h14) else (
  C.wal_steps_flush (some ⟨h12.size, 0, none⟩) h14 fun r6 h18 =>
  r6 = .tuple #[] ∧
  C.wal_steps_write (some ⟨h12.size, 0, none⟩) 1 sA4 sL4 sC4 h18 fun r7 h19 =>
  r7 = .tuple #[] ∧
  C.wal_steps_flush (some ⟨h12.size, 0, none⟩) h19 fun r8 h20 =>
  r8 = .tuple #[] ∧
  C.wal_steps_home (some ⟨h12.size, 0, none⟩) lA1 lL1 lC1 h20 fun r9 h21 =>
  r9 = .tuple #[] ∧
  ∃ (sA6 : Option Addr) (sL6 : Nat) (sC6 : Nat), cellOf h21 ⟨h12.size, 0, none⟩ = some (.slice sA6 sL6 sC6) ∧
  C.wal_steps_do sA6 sL6 sC6 d1 h21 fun r10 h22 =>
  ∃ (n6 : Int), r10 = .int .i64 n6 ∧
  K (.int .i64 n6) h22))))))
def wal_Commit.lo : Nat → List Nat × List (Nat × Ty) := fun n => match n with | 8 => ([0, 1, 22, 23], [(5, .slice), (6, .slice), (24, .int .i64)]) | 20 => ([0, 1, 9, 11, 50, 51], [(52, .int .i64)]) | _ => ([], [])
def wal_Commit.od : Nat → Od := fun n => match n with | _ => .nil
theorem wal_Commit.ok {d1 : Option Addr} {lA1 : Option Addr} {lL1 : Nat} {lC1 : Nat} {K : Value → Heap → Prop} {h : Heap} (hx : wal_Commit d1 lA1 lL1 lC1 K h) : C.wal_Commit d1 lA1 lL1 lC1 h K :=
  fn_to (c := Tryz.f40.body.getD .skip) (cxOk wal_Commit.lo wal_Commit.od) Tryz.func40 (by kernel_rfl) (by kernel_rfl) (Eq.mpr (by kernel_rfl) hx)
def adisk_Disk_Read (d1 : Option Addr) (i1 : Int) (K : Value → Heap → Prop) (h1 : Heap) : Prop :=
  onSome d1 fun p1 =>
  ∃ (b1 : Bool), cellOf h1 (Addr.add p1 4) = some (.bool b1) ∧
  bif b1 then (
  K (.tuple #[.slice none 0 0, .int .i64 30]) h1) else (
  C.adisk_Disk_has d1 i1 h1 fun r1 h2 =>
  ∃ (b2 : Bool), r1 = .bool b2 ∧
  bif (!b2) then (
  K (.tuple #[.slice none 0 0, .int .i64 31]) h2) else (
  onSome d1 fun p2 =>
  ∃ (sA1 : Option Addr) (sL1 : Nat) (sC1 : Nat), cellOf h2 (Addr.add p2 0) = some (.slice sA1 sL1 sC1) ∧
  (0 ≤ i1 ∧ i1 < (sL1 : Int)) ∧
  onSome sA1 fun p3 =>
  ∃ cs1 : List Value, List.length cs1 = 512 ∧ Cells h2 (Addr.add p3 ((Int.toNat i1) * 512)) cs1 ∧
  NewRow z125 125 cs1 512 h2 fun h4 =>
  onSome d1 fun p4 =>
  ∃ (sA2 : Option Addr) (sL2 : Nat) (sC2 : Nat), cellOf h4 (Addr.add p4 1) = some (.slice sA2 sL2 sC2) ∧
  ∃ (I1 : Int → Heap → Prop) (M1 : Int → Heap → Nat), I1 0 h4 ∧
  ∀ (n1 : Int), ∀ h5 : Heap, I1 n1 h5 →
  bif (decide (n1 < (sL2 : Int))) then (
  (0 ≤ n1 ∧ n1 < (sL2 : Int)) ∧
  onSome sA2 fun p5 =>
  ∃ cs2 : List Value, List.length cs2 = 513 ∧ Cells h5 (Addr.add p5 ((Int.toNat n1) * 513)) cs2 ∧
  NewRow z174 174 cs2 513 h5 fun h7 =>
  ∃ (n2 : Int), cellOf h7 (Addr.add ⟨h5.size, 0, none⟩ 0) = some (.int .i64 n2) ∧
  bif (n2 == i1) then (
  ∃ cs3 : List Value, List.length cs3 = 512 ∧ Cells h7 (Addr.add ⟨h5.size, 0, none⟩ 1) cs3 ∧
  PutRow ⟨h2.size, 0, none⟩ cs3 512 h7 fun h8 =>
  I1 (IntKind.wrap .i64 (n1 + 1)) h8 ∧ M1 (IntKind.wrap .i64 (n1 + 1)) h8 < M1 n1 h5) else (
  I1 (IntKind.wrap .i64 (n1 + 1)) h7 ∧ M1 (IntKind.wrap .i64 (n1 + 1)) h7 < M1 n1 h5)) else (
  K (.tuple #[.slice (some ⟨h2.size, 0, none⟩) 512 512, .int .i64 0]) h5)))
def adisk_Disk_Read.lo : Nat → List Nat × List (Nat × Ty) := fun n => match n with | 7 => ([1, 6, 29, 30], [(31, .int .i64)]) | _ => ([], [])
def adisk_Disk_Read.od : Nat → Od := fun n => match n with | _ => .nil
theorem adisk_Disk_Read.ok {d1 : Option Addr} {i1 : Int} {K : Value → Heap → Prop} {h : Heap} (hx : adisk_Disk_Read d1 i1 K h) : C.adisk_Disk_Read d1 i1 h K :=
  fn_to (c := Tryz.f41.body.getD .skip) (cxOk adisk_Disk_Read.lo adisk_Disk_Read.od) Tryz.func41 (by kernel_rfl) (by kernel_rfl) (Eq.mpr (by kernel_rfl) hx)
def wal_Recover (d1 : Option Addr) (K : Value → Heap → Prop) (h1 : Heap) : Prop :=
  New z26 26 h1 fun h2 =>
  C.wal_held d1 h2 (fun r1 h3 =>
  ∃ (sA1 : Option Addr) (sL1 : Nat) (sC1 : Nat), r1 = .slice sA1 sL1 sC1 ∧
  bif ((sL1 : Int) == 0) then (
  Put ⟨h1.size, 0, none⟩ (.int .i64 0) h3 fun h4 =>
  D.wal_Recover_c1 (some ⟨h1.size, 0, none⟩) h4 fun h5 =>
  ∃ (res1 : Int), cellOf h5 ⟨h1.size, 0, none⟩ = some (.int .i64 res1) ∧
  K (.tuple #[.int .i64 0, .int .i64 res1]) h5) else (
  New z169 169 h3 fun h6 =>
  C.wal_steps_home (some ⟨h3.size, 0, none⟩) sA1 sL1 sC1 h6 fun r2 h7 =>
  r2 = .tuple #[] ∧
  ∃ (sA2 : Option Addr) (sL2 : Nat) (sC2 : Nat), cellOf h7 ⟨h3.size, 0, none⟩ = some (.slice sA2 sL2 sC2) ∧
  C.wal_steps_do sA2 sL2 sC2 d1 h7 fun r3 h8 =>
  ∃ (n1 : Int), r3 = .int .i64 n1 ∧
  bif (n1 != 0) then (
  Put ⟨h1.size, 0, none⟩ (.int .i64 n1) h8 fun h9 =>
  D.wal_Recover_c1 (some ⟨h1.size, 0, none⟩) h9 fun h10 =>
  ∃ (res2 : Int), cellOf h10 ⟨h1.size, 0, none⟩ = some (.int .i64 res2) ∧
  K (.tuple #[.int .i64 0, .int .i64 res2]) h10) else (
  Put ⟨h1.size, 0, none⟩ (.int .i64 0) h8 fun h11 =>
  D.wal_Recover_c1 (some ⟨h1.size, 0, none⟩) h11 fun h12 =>
  ∃ (res3 : Int), cellOf h12 ⟨h1.size, 0, none⟩ = some (.int .i64 res3) ∧
  K (.tuple #[.int .i64 (sL1 : Int), .int .i64 res3]) h12))) (fun x1 h13 =>
  PD.wal_Recover_c1 (some ⟨h1.size, 0, none⟩) x1 h13 fun h14 =>
  ∃ (res4 : Int), cellOf h14 ⟨h1.size, 0, none⟩ = some (.int .i64 res4) ∧
  K (.tuple #[.int .i64 0, .int .i64 res4]) h14)
def wal_Recover.lo : Nat → List Nat × List (Nat × Ty) := fun n => match n with | _ => ([], [])
def wal_Recover.od : Nat → Od := fun n => match n with | _ => .nil
theorem wal_Recover.eq (d1 : Option Addr) (K : Value → Heap → Prop) (h : Heap) : fnPX (cx wal_Recover.lo wal_Recover.od) Tryz.f42 (Tryz.f42.body.getD .skip) [.pointer d1] K (fun _ _ => False) h = wal_Recover d1 K h := by kernel_rfl
theorem wal_Recover.chk : fnOk (cx wal_Recover.lo wal_Recover.od) Tryz.f42 (Tryz.f42.body.getD .skip) 1 = true := by kernel_rfl
theorem wal_Recover.ok {d1 : Option Addr} {K : Value → Heap → Prop} {h : Heap} (hx : wal_Recover d1 K h) : C.wal_Recover d1 h K :=
  hcalls_of_p (fnP_to (cxOk _ _) Tryz.func42 (by kernel_rfl) wal_Recover.chk (by rw [wal_Recover.eq]; exact hx))
end Go.Proofs.YtjdcbblgaoogmaaGreatDoor.W
namespace Go.Proofs.YtjdcbblgaoogmaaGreatDoor.W
open Go Go.Proofs Wx
def boleref03_Disk_Write (d1 : Option Addr) (i1 : Int) (bA1 : Option Addr) (bL1 : Nat) (bC1 : Nat) (K : Value → Heap → Prop) (h1 : Heap) : Prop :=
  onSome d1 fun p1 =>
  ∃ (b1 : Bool), cellOf h1 (Addr.add p1 4) = some (.bool b1) ∧
  bif b1 then (
  K (.int .i64 30) h1) else (
  C.boleref03_copied bA1 bL1 bC1 h1 fun r1 h2 =>
  ∃ (sA1 : Option Addr) (sL1 : Nat) (sC1 : Nat), r1 = .slice sA1 sL1 sC1 ∧
  NewRow z122 122 [.int .i64 1, .int .i64 i1, .slice sA1 sL1 sC1] 3 h2 fun h4 =>
  ∃ cs1 : List Value, List.length cs1 = 3 ∧ Cells h4 ⟨h2.size, 0, none⟩ cs1 ∧
  C.boleref03_Disk_Blocks d1 h4 fun r2 h5 =>
  ∃ (n1 : Int), r2 = .int .i64 n1 ∧
  (List.length (cs1 : List Value) = 3 ∧ Cells h5 ⟨h2.size, 0, none⟩ cs1) ∧
  C.boleref03_fault n1 cs1 h5 fun r3 h6 =>
  ∃ (n2 : Int), r3 = .int .i64 n2 ∧
  bif (n2 != 0) then (
  K (.int .i64 n2) h6) else (
  onSome d1 fun p2 =>
  ∃ (n3 : Int), cellOf h6 (Addr.add p2 5) = some (.int .i64 n3) ∧
  onSome d1 fun p3 =>
  Put (Addr.add p3 5) (.int .i64 (IntKind.wrap .i64 (n3 + 1))) h6 fun h7 =>
  onSome d1 fun p4 =>
  ∃ (sA2 : Option Addr) (sL2 : Nat) (sC2 : Nat), cellOf h7 (Addr.add p4 1) = some (.slice sA2 sL2 sC2) ∧
  ∃ cs2 : List Value, List.length cs2 = 3 ∧ Cells h7 ⟨h2.size, 0, none⟩ cs2 ∧
  List.length (cs2 : List Value) = 3 ∧
  New cs2 122 h7 fun h8 =>
  (cellOf h8 (Addr.add p4 1) = some (.slice sA2 sL2 sC2)) ∧
  ∃ new1 : List Value, List.length new1 = 1 * 3 ∧ SlCells h8 (some ⟨h7.size, 0, none⟩) new1 ∧ (∀ v ∈ new1, v.oneCell' = true) ∧
  AppendP ti122 122 sA2 sL2 sC2 1 new1 h8 fun sA3 sL3 sC3 h9 =>
  onSome d1 fun p5 =>
  Put (Addr.add p5 1) (.slice sA3 sL3 sC3) h9 fun h10 =>
  C.boleref03_Disk_goes d1 h10 fun r4 h11 =>
  ∃ (b2 : Bool), r4 = .bool b2 ∧
  bif b2 then (
  K (.int .i64 30) h11) else (
  K (.int .i64 0) h11)))
def boleref03_Disk_Write.lo : Nat → List Nat × List (Nat × Ty) := fun n => match n with | _ => ([], [])
def boleref03_Disk_Write.od : Nat → Od := fun n => match n with | 4 => (.op 0 [] (.op 2 [] (.op 1 [2] (.op 3 [] (.op 4 [] .nil))))) | 8 => (.op 0 [] (.op 1 [] (.op 2 [] (.op 3 [] (.op 4 [] (.op 5 [] (.op 6 [4] (.op 7 [] (.op 8 [] (.op 9 [] (.op 10 [] .nil))))))))))) | _ => .nil
theorem boleref03_Disk_Write.ok {d1 : Option Addr} {i1 : Int} {bA1 : Option Addr} {bL1 : Nat} {bC1 : Nat} {K : Value → Heap → Prop} {h : Heap} (hx : boleref03_Disk_Write d1 i1 bA1 bL1 bC1 K h) : C.boleref03_Disk_Write d1 i1 bA1 bL1 bC1 h K :=
  fn_to (c := Tryz.f49.body.getD .skip) (cxOk boleref03_Disk_Write.lo boleref03_Disk_Write.od) Tryz.func49 (by kernel_rfl) (by kernel_rfl) (Eq.mpr (by kernel_rfl) hx)
def adisk_Disk_Write (d1 : Option Addr) (i1 : Int) (bA1 : Option Addr) (bL1 : Nat) (bC1 : Nat) (K : Value → Heap → Prop) (h1 : Heap) : Prop :=
  onSome d1 fun p1 =>
  ∃ (b1 : Bool), cellOf h1 (Addr.add p1 4) = some (.bool b1) ∧
  bif b1 then (
  K (.int .i64 30) h1) else (
  C.adisk_Disk_has d1 i1 h1 fun r1 h2 =>
  ∃ (b2 : Bool), r1 = .bool b2 ∧
  bif (!b2) then (
  K (.int .i64 31) h2) else (
  bif ((bL1 : Int) != 512) then (
  K (.int .i64 32) h2) else (
  onSome d1 fun p2 =>
  ∃ (sA1 : Option Addr) (sL1 : Nat) (sC1 : Nat), cellOf h2 (Addr.add p2 1) = some (.slice sA1 sL1 sC1) ∧
  512 ≤ bL1 ∧
  onSome bA1 fun p3 =>
  ∃ cs1 : List Value, List.length cs1 = 512 ∧ Cells h2 p3 cs1 ∧
  List.length (cs1 : List Value) = 512 ∧
  List.length (([.int .i64 i1] ++ cs1) : List Value) = 513 ∧
  New ([.int .i64 i1] ++ cs1) 174 h2 fun h3 =>
  (cellOf h3 (Addr.add p2 1) = some (.slice sA1 sL1 sC1)) ∧
  ∃ new1 : List Value, List.length new1 = 1 * 513 ∧ SlCells h3 (some ⟨h2.size, 0, none⟩) new1 ∧ (∀ v ∈ new1, v.oneCell' = true) ∧
  AppendP ti174 174 sA1 sL1 sC1 1 new1 h3 fun sA2 sL2 sC2 h4 =>
  onSome d1 fun p4 =>
  Put (Addr.add p4 1) (.slice sA2 sL2 sC2) h4 fun h5 =>
  onSome d1 fun p5 =>
  ∃ (sA3 : Option Addr) (sL3 : Nat) (sC3 : Nat), cellOf h5 (Addr.add p5 7) = some (.slice sA3 sL3 sC3) ∧
  C.slices_Clone_byte_byte bA1 bL1 bC1 h5 fun r2 h6 =>
  ∃ (sA4 : Option Addr) (sL4 : Nat) (sC4 : Nat), r2 = .slice sA4 sL4 sC4 ∧
  (cellOf h6 (Addr.add p5 7) = some (.slice sA3 sL3 sC3)) ∧
  List.length ([.int .i64 1, .int .i64 i1, .slice sA4 sL4 sC4] : List Value) = 3 ∧
  New [.int .i64 1, .int .i64 i1, .slice sA4 sL4 sC4] 122 h6 fun h7 =>
  (cellOf h7 (Addr.add p5 7) = some (.slice sA3 sL3 sC3)) ∧
  ∃ new2 : List Value, List.length new2 = 1 * 3 ∧ SlCells h7 (some ⟨h6.size, 0, none⟩) new2 ∧ (∀ v ∈ new2, v.oneCell' = true) ∧
  AppendP ti122 122 sA3 sL3 sC3 1 new2 h7 fun sA5 sL5 sC5 h8 =>
  onSome d1 fun p6 =>
  Put (Addr.add p6 7) (.slice sA5 sL5 sC5) h8 fun h9 =>
  onSome d1 fun p7 =>
  ∃ (n1 : Int), cellOf h9 (Addr.add p7 5) = some (.int .i64 n1) ∧
  onSome d1 fun p8 =>
  Put (Addr.add p8 5) (.int .i64 (IntKind.wrap .i64 (n1 + 1))) h9 fun h10 =>
  C.adisk_Disk_step d1 (Value.nilFunc) h10 fun r3 h11 =>
  ∃ (n2 : Int), r3 = .int .i64 n2 ∧
  K (.int .i64 n2) h11)))
def adisk_Disk_Write.lo : Nat → List Nat × List (Nat × Ty) := fun n => match n with | _ => ([], [])
def adisk_Disk_Write.od : Nat → Od := fun n => match n with | 7 => (.op 0 [] (.op 1 [] (.op 2 [] (.op 3 [] (.op 4 [] (.op 5 [] (.op 6 [] (.op 7 [] (.op 8 [] (.op 9 [] (.op 10 [4] (.op 11 [] (.op 12 [] (.op 13 [] (.op 14 [] .nil))))))))))))))) | 8 => (.op 0 [] (.op 1 [] (.op 2 [] (.op 3 [] (.op 4 [] (.op 5 [] (.op 6 [] (.op 7 [4] (.op 8 [] (.op 9 [4] (.op 10 [] (.op 11 [] (.op 12 [] (.op 13 [] .nil)))))))))))))) | _ => .nil
theorem adisk_Disk_Write.ok {d1 : Option Addr} {i1 : Int} {bA1 : Option Addr} {bL1 : Nat} {bC1 : Nat} {K : Value → Heap → Prop} {h : Heap} (hx : adisk_Disk_Write d1 i1 bA1 bL1 bC1 K h) : C.adisk_Disk_Write d1 i1 bA1 bL1 bC1 h K :=
  fn_to (c := Tryz.f50.body.getD .skip) (cxOk adisk_Disk_Write.lo adisk_Disk_Write.od) Tryz.func50 (by kernel_rfl) (by kernel_rfl) (Eq.mpr (by kernel_rfl) hx)
def boleref03_Disk_Flush (d1 : Option Addr) (K : Value → Heap → Prop) (h1 : Heap) : Prop :=
  onSome d1 fun p1 =>
  ∃ (b1 : Bool), cellOf h1 (Addr.add p1 4) = some (.bool b1) ∧
  bif b1 then (
  K (.int .i64 30) h1) else (
  onSome d1 fun p2 =>
  ∃ (n1 : Int), cellOf h1 (Addr.add p2 6) = some (.int .i64 n1) ∧
  onSome d1 fun p3 =>
  Put (Addr.add p3 6) (.int .i64 (IntKind.wrap .i64 (n1 + 1))) h1 fun h2 =>
  C.boleref03_Disk_goes d1 h2 fun r1 h3 =>
  ∃ (b2 : Bool), r1 = .bool b2 ∧
  bif b2 then (
  K (.int .i64 30) h3) else (
  onSome d1 fun p4 =>
  ∃ (sA1 : Option Addr) (sL1 : Nat) (sC1 : Nat), cellOf h3 (Addr.add p4 1) = some (.slice sA1 sL1 sC1) ∧
  List.length ([.int .i64 2, .int .i64 0, .slice none 0 0] : List Value) = 3 ∧
  New [.int .i64 2, .int .i64 0, .slice none 0 0] 122 h3 fun h4 =>
  ∃ new1 : List Value, List.length new1 = 1 * 3 ∧ SlCells h4 (some ⟨h3.size, 0, none⟩) new1 ∧ (∀ v ∈ new1, v.oneCell' = true) ∧
  AppendP ti122 122 sA1 sL1 sC1 1 new1 h4 fun sA2 sL2 sC2 h5 =>
  onSome d1 fun p5 =>
  Put (Addr.add p5 1) (.slice sA2 sL2 sC2) h5 fun h6 =>
  K (.int .i64 0) h6))
def boleref03_Disk_Flush.lo : Nat → List Nat × List (Nat × Ty) := fun n => match n with | _ => ([], [])
def boleref03_Disk_Flush.od : Nat → Od := fun n => match n with | _ => .nil
theorem boleref03_Disk_Flush.ok {d1 : Option Addr} {K : Value → Heap → Prop} {h : Heap} (hx : boleref03_Disk_Flush d1 K h) : C.boleref03_Disk_Flush d1 h K :=
  fn_to (c := Tryz.f51.body.getD .skip) (cxOk boleref03_Disk_Flush.lo boleref03_Disk_Flush.od) Tryz.func51 (by kernel_rfl) (by kernel_rfl) (Eq.mpr (by kernel_rfl) hx)
def adisk_Disk_Flush (d1 : Option Addr) (K : Value → Heap → Prop) (h1 : Heap) : Prop :=
  New [.pointer d1] 25 h1 fun h2 =>
  ∃ (q1 : Option Addr), cellOf h2 ⟨h1.size, 0, none⟩ = some (.pointer q1) ∧
  onSome q1 fun p1 =>
  ∃ (b1 : Bool), cellOf h2 (Addr.add p1 4) = some (.bool b1) ∧
  bif b1 then (
  K (.int .i64 30) h2) else (
  ∃ (q2 : Option Addr), cellOf h2 ⟨h1.size, 0, none⟩ = some (.pointer q2) ∧
  onSome q2 fun p2 =>
  ∃ (n1 : Int), cellOf h2 (Addr.add p2 6) = some (.int .i64 n1) ∧
  onSome q2 fun p3 =>
  Put (Addr.add p3 6) (.int .i64 (IntKind.wrap .i64 (n1 + 1))) h2 fun h3 =>
  ∃ (q3 : Option Addr), cellOf h3 ⟨h1.size, 0, none⟩ = some (.pointer q3) ∧
  C.adisk_Disk_step q3 (Value.func (.func 131) #[] ⟨[.pointer (some ⟨h1.size, 0, none⟩)]⟩) h3 fun r1 h4 =>
  ∃ (n2 : Int), r1 = .int .i64 n2 ∧
  K (.int .i64 n2) h4)
def adisk_Disk_Flush.lo : Nat → List Nat × List (Nat × Ty) := fun n => match n with | _ => ([], [])
def adisk_Disk_Flush.od : Nat → Od := fun n => match n with | _ => .nil
theorem adisk_Disk_Flush.ok {d1 : Option Addr} {K : Value → Heap → Prop} {h : Heap} (hx : adisk_Disk_Flush d1 K h) : C.adisk_Disk_Flush d1 h K :=
  fn_to (c := Tryz.f52.body.getD .skip) (cxOk adisk_Disk_Flush.lo adisk_Disk_Flush.od) Tryz.func52 (by kernel_rfl) (by kernel_rfl) (Eq.mpr (by kernel_rfl) hx)
def boleref03_Disk_Arm (d1 : Option Addr) (c1 : List Value) (K : Value → Heap → Prop) (h1 : Heap) : Prop :=
  New c1 44 h1 fun h2 =>
  onSome d1 fun p1 =>
  ∃ (b1 : Bool), cellOf h2 (Addr.add p1 4) = some (.bool b1) ∧
  bif b1 then (
  K (.int .i64 30) h2) else (
  onSome d1 fun p2 =>
  Put (Addr.add p2 3) (.int .i64 0) h2 fun h3 =>
  ∃ (n1 : Int), cellOf h3 (Addr.add ⟨h1.size, 0, none⟩ 0) = some (.int .i64 n1) ∧
  bif (decide (n1 > 0)) then (
  ∃ (n2 : Int), cellOf h3 (Addr.add ⟨h1.size, 0, none⟩ 0) = some (.int .i64 n2) ∧
  onSome d1 fun p3 =>
  Put (Addr.add p3 3) (.int .i64 n2) h3 fun h4 =>
  ∃ (sA1 : Option Addr) (sL1 : Nat) (sC1 : Nat), cellOf h4 (Addr.add ⟨h1.size, 0, none⟩ 1) = some (.slice sA1 sL1 sC1) ∧
  C.boleref03_marks sA1 sL1 sC1 h4 fun r1 h5 =>
  ∃ (sA2 : Option Addr) (sL2 : Nat) (sC2 : Nat), r1 = .slice sA2 sL2 sC2 ∧
  onSome d1 fun p4 =>
  Put (Addr.add p4 2) (.slice sA2 sL2 sC2) h5 fun h6 =>
  K (.int .i64 0) h6) else (
  K (.int .i64 0) h3))
def boleref03_Disk_Arm.lo : Nat → List Nat × List (Nat × Ty) := fun n => match n with | _ => ([], [])
def boleref03_Disk_Arm.od : Nat → Od := fun n => match n with | _ => .nil
theorem boleref03_Disk_Arm.ok {d1 : Option Addr} {c1 : List Value} {K : Value → Heap → Prop} {h : Heap} (hx : boleref03_Disk_Arm d1 c1 K h) : C.boleref03_Disk_Arm d1 c1 h K :=
  fn_to (c := Tryz.f53.body.getD .skip) (cxOk boleref03_Disk_Arm.lo boleref03_Disk_Arm.od) Tryz.func53 (by kernel_rfl) (by kernel_rfl) (Eq.mpr (by kernel_rfl) hx)
def adisk_Disk_Arm (d1 : Option Addr) (c1 : List Value) (K : Value → Heap → Prop) (h1 : Heap) : Prop :=
  New c1 44 h1 fun h2 =>
  onSome d1 fun p1 =>
  ∃ (b1 : Bool), cellOf h2 (Addr.add p1 4) = some (.bool b1) ∧
  bif b1 then (
  K (.int .i64 30) h2) else (
  ∃ (n1 : Int), cellOf h2 (Addr.add ⟨h1.size, 0, none⟩ 0) = some (.int .i64 n1) ∧
  ∃ (sA1 : Option Addr) (sL1 : Nat) (sC1 : Nat), cellOf h2 (Addr.add ⟨h1.size, 0, none⟩ 1) = some (.slice sA1 sL1 sC1) ∧
  C.slices_Clone_bool_bool sA1 sL1 sC1 h2 fun r1 h3 =>
  ∃ (sA2 : Option Addr) (sL2 : Nat) (sC2 : Nat), r1 = .slice sA2 sL2 sC2 ∧
  (cellOf h3 (Addr.add ⟨h1.size, 0, none⟩ 0) = some (.int .i64 n1)) ∧
  onSome d1 fun p2 =>
  Put (Addr.add p2 2) (.int .i64 (if (0 : Int) > n1 then 0 else n1)) h3 fun h4 =>
  onSome d1 fun p3 =>
  Put (Addr.add p3 3) (.slice sA2 sL2 sC2) h4 fun h5 =>
  K (.int .i64 0) h5)
def adisk_Disk_Arm.lo : Nat → List Nat × List (Nat × Ty) := fun n => match n with | _ => ([], [])
def adisk_Disk_Arm.od : Nat → Od := fun n => match n with | 3 => (.op 0 [] (.op 1 [] (.op 2 [] (.op 3 [] (.op 4 [] (.op 5 [] (.op 6 [] (.op 7 [3] (.op 8 [] (.op 9 [] (.op 10 [] (.op 11 [] (.op 12 [] (.op 13 [] .nil)))))))))))))) | _ => .nil
theorem adisk_Disk_Arm.ok {d1 : Option Addr} {c1 : List Value} {K : Value → Heap → Prop} {h : Heap} (hx : adisk_Disk_Arm d1 c1 K h) : C.adisk_Disk_Arm d1 c1 h K :=
  fn_to (c := Tryz.f54.body.getD .skip) (cxOk adisk_Disk_Arm.lo adisk_Disk_Arm.od) Tryz.func54 (by kernel_rfl) (by kernel_rfl) (Eq.mpr (by kernel_rfl) hx)
def slices_Clone_byte_byte (sA1 : Option Addr) (sL1 : Nat) (sC1 : Nat) (K : Value → Heap → Prop) (h1 : Heap) : Prop :=
  bif (Option.isNone sA1) then (
  K (.slice none 0 0) h1) else (
  New [] 5 h1 fun h2 =>
  ∃ new1 : List Value, List.length new1 = sL1 * 1 ∧ SlCells h2 sA1 new1 ∧ (∀ v ∈ new1, v.oneCell' = true) ∧
  AppendP ti5 5 (some ⟨h1.size, 0, none⟩) 0 0 sL1 new1 h2 fun sA2 sL2 sC2 h3 =>
  K (.slice sA2 sL2 sC2) h3)
def slices_Clone_byte_byte.lo : Nat → List Nat × List (Nat × Ty) := fun n => match n with | _ => ([], [])
def slices_Clone_byte_byte.od : Nat → Od := fun n => match n with | _ => .nil
theorem slices_Clone_byte_byte.ok {sA1 : Option Addr} {sL1 : Nat} {sC1 : Nat} {K : Value → Heap → Prop} {h : Heap} (hx : slices_Clone_byte_byte sA1 sL1 sC1 K h) : C.slices_Clone_byte_byte sA1 sL1 sC1 h K :=
  fn_to (c := Tryz.f58.body.getD .skip) (cxOk slices_Clone_byte_byte.lo slices_Clone_byte_byte.od) Tryz.func58 (by kernel_rfl) (by kernel_rfl) (Eq.mpr (by kernel_rfl) hx)
def boleref03_copied (bA1 : Option Addr) (bL1 : Nat) (bC1 : Nat) (K : Value → Heap → Prop) (h1 : Heap) : Prop :=
  ∃ new1 : List Value, List.length new1 = bL1 * 1 ∧ SlCells h1 bA1 new1 ∧ (∀ v ∈ new1, v.oneCell' = true) ∧
  AppendP ti5 5 none 0 0 bL1 new1 h1 fun sA1 sL1 sC1 h2 =>
  K (.slice sA1 sL1 sC1) h2
def boleref03_copied.lo : Nat → List Nat × List (Nat × Ty) := fun n => match n with | _ => ([], [])
def boleref03_copied.od : Nat → Od := fun n => match n with | _ => .nil
theorem boleref03_copied.ok {bA1 : Option Addr} {bL1 : Nat} {bC1 : Nat} {K : Value → Heap → Prop} {h : Heap} (hx : boleref03_copied bA1 bL1 bC1 K h) : C.boleref03_copied bA1 bL1 bC1 h K :=
  fn_to (c := Tryz.f59.body.getD .skip) (cxOk boleref03_copied.lo boleref03_copied.od) Tryz.func59 (by kernel_rfl) (by kernel_rfl) (Eq.mpr (by kernel_rfl) hx)
def boleref03_left.k1 (sA1 : Option Addr) (sL1 : Nat) (h3 : Heap) (k1 : Int) (h7 : Heap) (I2 : Int → Heap → Prop) (M2 : Int → Heap → Nat) (K : Value → Heap → Prop) : Prop :=
  ∃ (n2 : Int), cellOf h7 (Addr.add ⟨h3.size, 0, none⟩ 1) = some (.int .i64 n2) ∧
  ∃ (sA2 : Option Addr) (sL2 : Nat) (sC2 : Nat), cellOf h7 (Addr.add ⟨h3.size, 0, none⟩ 2) = some (.slice sA2 sL2 sC2) ∧
  (0 ≤ k1 ∧ k1 < (sL2 : Int)) ∧
  onSome sA2 fun p2 =>
  ∃ (n3 : Int), cellOf h7 (Addr.add p2 (Int.toNat k1)) = some (.int .u8 n3) ∧
  (0 ≤ (IntKind.wrap .i64 ((IntKind.wrap .i64 (n2 * 512)) + k1)) ∧ (IntKind.wrap .i64 ((IntKind.wrap .i64 (n2 * 512)) + k1)) < (sL1 : Int)) ∧
  onSome sA1 fun p3 =>
  Put (Addr.add p3 (Int.toNat (IntKind.wrap .i64 ((IntKind.wrap .i64 (n2 * 512)) + k1)))) (.int .u8 n3) h7 fun h8 =>
  I2 (IntKind.wrap .i64 (k1 + 1)) h8 ∧ M2 (IntKind.wrap .i64 (k1 + 1)) h8 < M2 k1 h7
def boleref03_left (imageA1 : Option Addr) (imageL1 : Nat) (imageC1 : Nat) (actsA1 : Option Addr) (actsL1 : Nat) (actsC1 : Nat) (keepA1 : Option Addr) (keepL1 : Nat) (keepC1 : Nat) (K : Value → Heap → Prop) (h1 : Heap) : Prop :=
  C.boleref03_copied imageA1 imageL1 imageC1 h1 fun r1 h2 =>
  ∃ (sA1 : Option Addr) (sL1 : Nat) (sC1 : Nat), r1 = .slice sA1 sL1 sC1 ∧
  ∃ (I1 : Int → Heap → Prop) (M1 : Int → Heap → Nat), I1 0 h2 ∧
  ∀ (i1 : Int), ∀ h3 : Heap, I1 i1 h3 →
  bif (decide (i1 < (actsL1 : Int))) then (
  (0 ≤ i1 ∧ i1 < (actsL1 : Int)) ∧
  onSome actsA1 fun p1 =>
  ∃ cs1 : List Value, List.length cs1 = 3 ∧ Cells h3 (Addr.add p1 ((Int.toNat i1) * 3)) cs1 ∧
  NewRow z122 122 cs1 3 h3 fun h5 =>
  ∃ (n1 : Int), cellOf h5 (Addr.add ⟨h3.size, 0, none⟩ 0) = some (.int .i64 n1) ∧
  bif (n1 != 1) then (
  I1 (IntKind.wrap .i64 (i1 + 1)) h5 ∧ M1 (IntKind.wrap .i64 (i1 + 1)) h5 < M1 i1 h3) else (
  C.boleref03_lasts actsA1 actsL1 actsC1 i1 keepA1 keepL1 keepC1 h5 fun r2 h6 =>
  ∃ (b1 : Bool), r2 = .bool b1 ∧
  ∃ (I2 : Int → Heap → Prop) (M2 : Int → Heap → Nat), I2 0 h6 ∧
  ∀ (k1 : Int), ∀ h7 : Heap, I2 k1 h7 →
  bif (decide (k1 < 512)) then (
  bif b1 then (
  boleref03_left.k1 sA1 sL1 h3 k1 h7 I2 M2 K) else (
  I1 (IntKind.wrap .i64 (i1 + 1)) h7 ∧ M1 (IntKind.wrap .i64 (i1 + 1)) h7 < M1 i1 h3)) else (
  I1 (IntKind.wrap .i64 (i1 + 1)) h7 ∧ M1 (IntKind.wrap .i64 (i1 + 1)) h7 < M1 i1 h3))) else (
  K (.slice sA1 sL1 sC1) h3)
def boleref03_left.lo : Nat → List Nat × List (Nat × Ty) := fun n => match n with | 3 => ([1, 2, 7], [(8, .int .i64)]) | 9 => ([1, 2, 7, 8, 9, 10], [(11, .int .i64)]) | _ => ([], [])
def boleref03_left.od : Nat → Od := fun n => match n with | 11 => (.op 0 [] (.op 1 [] (.op 2 [] (.op 3 [] (.op 4 [] (.op 5 [] (.op 6 [] (.op 7 [] (.op 8 [] (.op 9 [] (.op 10 [] (.op 11 [] (.op 12 [] .nil))))))))))))) | _ => .nil
theorem boleref03_left.ok {imageA1 : Option Addr} {imageL1 : Nat} {imageC1 : Nat} {actsA1 : Option Addr} {actsL1 : Nat} {actsC1 : Nat} {keepA1 : Option Addr} {keepL1 : Nat} {keepC1 : Nat} {K : Value → Heap → Prop} {h : Heap} (hx : boleref03_left imageA1 imageL1 imageC1 actsA1 actsL1 actsC1 keepA1 keepL1 keepC1 K h) : C.boleref03_left imageA1 imageL1 imageC1 actsA1 actsL1 actsC1 keepA1 keepL1 keepC1 h K :=
  fn_to (c := Tryz.f60.body.getD .skip) (cxOk boleref03_left.lo boleref03_left.od) Tryz.func60 (by kernel_rfl) (by kernel_rfl) (Eq.mpr (by kernel_rfl) hx)
def txn_Begin (d1 : Option Addr) (K : Value → Heap → Prop) (h1 : Heap) : Prop :=
  NewM h1 fun h2 =>
  New [.pointer d1, .map (some h1.size), .slice none 0 0, .bool false] 135 h2 fun h3 =>
  K (.pointer (some ⟨h2.size, 0, none⟩)) h3
def txn_Begin.lo : Nat → List Nat × List (Nat × Ty) := fun n => match n with | _ => ([], [])
def txn_Begin.od : Nat → Od := fun n => match n with | _ => .nil
theorem txn_Begin.ok {d1 : Option Addr} {K : Value → Heap → Prop} {h : Heap} (hx : txn_Begin d1 K h) : C.txn_Begin d1 h K :=
  fn_to (c := Tryz.f61.body.getD .skip) (cxOk txn_Begin.lo txn_Begin.od) Tryz.func61 (by kernel_rfl) (by kernel_rfl) (Eq.mpr (by kernel_rfl) hx)
def boleref06_Begin (d1 : Option Addr) (K : Value → Heap → Prop) (h1 : Heap) : Prop :=
  New [.pointer d1, .slice none 0 0, .bool false] 71 h1 fun h2 =>
  K (.pointer (some ⟨h1.size, 0, none⟩)) h2
def boleref06_Begin.lo : Nat → List Nat × List (Nat × Ty) := fun n => match n with | _ => ([], [])
def boleref06_Begin.od : Nat → Od := fun n => match n with | _ => .nil
theorem boleref06_Begin.ok {d1 : Option Addr} {K : Value → Heap → Prop} {h : Heap} (hx : boleref06_Begin d1 K h) : C.boleref06_Begin d1 h K :=
  fn_to (c := Tryz.f62.body.getD .skip) (cxOk boleref06_Begin.lo boleref06_Begin.od) Tryz.func62 (by kernel_rfl) (by kernel_rfl) (Eq.mpr (by kernel_rfl) hx)
def bolelaw06_Sides_writes.k2 (sA4 : Option Addr) (sL4 : Nat) (h9 : Heap) (K : Value → Heap → Prop) : Prop :=
  ∃ (I1 : Int → Heap → Prop) (M1 : Int → Heap → Nat), I1 0 h9 ∧
  ∀ (n7 : Int), ∀ h10 : Heap, I1 n7 h10 →
  bif (decide (n7 < (sL4 : Int))) then (
  (0 ≤ n7 ∧ n7 < (sL4 : Int)) ∧
  onSome sA4 fun p4 =>
  ∃ (n8 : Int), cellOf h10 (Addr.add p4 (Int.toNat n7)) = some (.int .u8 n8) ∧
  (0 ≤ n7 ∧ n7 < (sL4 : Int)) ∧
  onSome sA4 fun p5 =>
  Put (Addr.add p5 (Int.toNat n7)) (.int .u8 (IntKind.wrap .u8 (n8 + 101))) h10 fun h11 =>
  I1 (IntKind.wrap .i64 (n7 + 1)) h11 ∧ M1 (IntKind.wrap .i64 (n7 + 1)) h11 < M1 n7 h10) else (
  K (.bool true) h10)
def bolelaw06_Sides_writes.k1 (s1 : Option Addr) (h1 : Heap) (bA1 : Option Addr) (bL1 : Nat) (bC1 : Nat) (h4 : Heap) (K : Value → Heap → Prop) : Prop :=
  ∃ new1 : List Value, List.length new1 = bL1 * 1 ∧ SlCells h4 bA1 new1 ∧ (∀ v ∈ new1, v.oneCell' = true) ∧
  AppendP ti5 5 none 0 0 bL1 new1 h4 fun sA3 sL3 sC3 h5 =>
  New [.int .u8 165] 5 h5 fun h6 =>
  ∃ new2 : List Value, List.length new2 = 1 * 1 ∧ SlCells h6 (some ⟨h5.size, 0, none⟩) new2 ∧ (∀ v ∈ new2, v.oneCell' = true) ∧
  AppendP ti5 5 sA3 sL3 sC3 1 new2 h6 fun sA4 sL4 sC4 h7 =>
  onSome s1 fun p1 =>
  ∃ (q1 : Option Addr), cellOf h7 (Addr.add p1 2) = some (.pointer q1) ∧
  ∃ (n2 : Int), cellOf h7 (Addr.add ⟨h1.size, 0, none⟩ 1) = some (.int .i64 n2) ∧
  (0 ≤ (bL1 : Int) ∧ (bL1 : Int) ≤ (sC4 : Int)) ∧
  C.txn_Txn_Write q1 n2 sA4 (Int.toNat (bL1 : Int)) sC4 h7 fun r2 h8 =>
  ∃ (n3 : Int), r2 = .int .i64 n3 ∧
  onSome s1 fun p2 =>
  ∃ (q2 : Option Addr), cellOf h8 (Addr.add p2 3) = some (.pointer q2) ∧
  ∃ (n4 : Int), cellOf h8 (Addr.add ⟨h1.size, 0, none⟩ 1) = some (.int .i64 n4) ∧
  C.boleref06_Txn_Write q2 n4 bA1 bL1 bC1 h8 fun r3 h9 =>
  ∃ (n5 : Int), r3 = .int .i64 n5 ∧
  bif (n3 != n5) then (
  K (.bool false) h9) else (
  (0 ≤ (bL1 : Int) ∧ (bL1 : Int) ≤ (sC4 : Int)) ∧
  ∃ bs1 : List UInt8, StrAt h9 sA4 (Int.toNat (bL1 : Int)) bs1 ∧
  ∃ bs2 : List UInt8, StrAt h9 bA1 bL1 bs2 ∧
  bif (!((mkStr bs1).toList == (mkStr bs2).toList)) then (
  K (.bool false) h9) else (
  (0 ≤ (bL1 : Int) ∧ (bL1 : Int) < (sL4 : Int)) ∧
  onSome sA4 fun p3 =>
  ∃ (n6 : Int), cellOf h9 (Addr.add p3 (Int.toNat (bL1 : Int))) = some (.int .u8 n6) ∧
  bif (n6 != 165) then (
  K (.bool false) h9) else (
  bolelaw06_Sides_writes.k2 sA4 sL4 h9 K)))
def bolelaw06_Sides_writes (s1 : Option Addr) (o1 : List Value) (K : Value → Heap → Prop) (h1 : Heap) : Prop :=
  New o1 67 h1 fun h2 =>
  ∃ (sA1 : Option Addr) (sL1 : Nat) (sC1 : Nat), cellOf h2 (Addr.add ⟨h1.size, 0, none⟩ 3) = some (.slice sA1 sL1 sC1) ∧
  bif ((sL1 : Int) == 0) then (
  ∃ (n1 : Int), cellOf h2 (Addr.add ⟨h1.size, 0, none⟩ 2) = some (.int .u8 n1) ∧
  C.bolelaw06_block n1 h2 fun r1 h3 =>
  ∃ (sA2 : Option Addr) (sL2 : Nat) (sC2 : Nat), r1 = .slice sA2 sL2 sC2 ∧
  bolelaw06_Sides_writes.k1 s1 h1 sA2 sL2 sC2 h3 K) else (
  bolelaw06_Sides_writes.k1 s1 h1 sA1 sL1 sC1 h2 K)
def bolelaw06_Sides_writes.lo : Nat → List Nat × List (Nat × Ty) := fun n => match n with | 12 => ([6, 65], [(66, .int .i64)]) | _ => ([], [])
def bolelaw06_Sides_writes.od : Nat → Od := fun n => match n with | 7 => (.op 0 [] (.op 1 [] (.op 2 [] (.op 3 [] (.op 4 [] (.op 5 [] (.op 6 [] (.op 7 [] (.op 8 [] (.op 9 [] (.op 10 [] (.op 11 [] .nil)))))))))))) | 8 => (.op 0 [] (.op 1 [] (.op 2 [] (.op 3 [] (.op 4 [] (.op 5 [] (.op 6 [] (.op 7 [] (.op 8 [] .nil))))))))) | 9 => (.op 0 [] (.op 1 [] (.op 2 [] (.op 3 [] (.op 4 [] (.op 5 [] (.op 6 [] (.op 7 [] (.op 8 [] (.op 9 [] (.op 10 [] (.op 11 [] (.op 12 [] (.op 13 [] (.op 14 [] (.op 15 [] (.op 16 [] (.op 17 [] (.op 18 [] (.op 19 [] (.op 20 [] .nil))))))))))))))))))))) | _ => .nil
theorem bolelaw06_Sides_writes.ok {s1 : Option Addr} {o1 : List Value} {K : Value → Heap → Prop} {h : Heap} (hx : bolelaw06_Sides_writes s1 o1 K h) : C.bolelaw06_Sides_writes s1 o1 h K :=
  fn_to (c := Tryz.f63.body.getD .skip) (cxOk bolelaw06_Sides_writes.lo bolelaw06_Sides_writes.od) Tryz.func63 (by kernel_rfl) (by kernel_rfl) (Eq.mpr (by kernel_rfl) hx)
def txn_Txn_Mark (t1 : Option Addr) (K : Value → Heap → Prop) (h1 : Heap) : Prop :=
  onSome t1 fun p1 =>
  ∃ (b1 : Bool), cellOf h1 (Addr.add p1 3) = some (.bool b1) ∧
  bif b1 then (
  K (.tuple #[.int .i64 0, .int .i64 61]) h1) else (
  onSome t1 fun p2 =>
  ∃ (sA1 : Option Addr) (sL1 : Nat) (sC1 : Nat), cellOf h1 (Addr.add p2 2) = some (.slice sA1 sL1 sC1) ∧
  K (.tuple #[.int .i64 (sL1 : Int), .int .i64 0]) h1)
def txn_Txn_Mark.lo : Nat → List Nat × List (Nat × Ty) := fun n => match n with | _ => ([], [])
def txn_Txn_Mark.od : Nat → Od := fun n => match n with | _ => .nil
theorem txn_Txn_Mark.ok {t1 : Option Addr} {K : Value → Heap → Prop} {h : Heap} (hx : txn_Txn_Mark t1 K h) : C.txn_Txn_Mark t1 h K :=
  fn_to (c := Tryz.f64.body.getD .skip) (cxOk txn_Txn_Mark.lo txn_Txn_Mark.od) Tryz.func64 (by kernel_rfl) (by kernel_rfl) (Eq.mpr (by kernel_rfl) hx)
def boleref06_Txn_Mark (t1 : Option Addr) (K : Value → Heap → Prop) (h1 : Heap) : Prop :=
  onSome t1 fun p1 =>
  ∃ (b1 : Bool), cellOf h1 (Addr.add p1 2) = some (.bool b1) ∧
  bif b1 then (
  K (.tuple #[.int .i64 0, .int .i64 61]) h1) else (
  onSome t1 fun p2 =>
  ∃ (sA1 : Option Addr) (sL1 : Nat) (sC1 : Nat), cellOf h1 (Addr.add p2 1) = some (.slice sA1 sL1 sC1) ∧
  K (.tuple #[.int .i64 (sL1 : Int), .int .i64 0]) h1)
def boleref06_Txn_Mark.lo : Nat → List Nat × List (Nat × Ty) := fun n => match n with | _ => ([], [])
def boleref06_Txn_Mark.od : Nat → Od := fun n => match n with | _ => .nil
theorem boleref06_Txn_Mark.ok {t1 : Option Addr} {K : Value → Heap → Prop} {h : Heap} (hx : boleref06_Txn_Mark t1 K h) : C.boleref06_Txn_Mark t1 h K :=
  fn_to (c := Tryz.f65.body.getD .skip) (cxOk boleref06_Txn_Mark.lo boleref06_Txn_Mark.od) Tryz.func65 (by kernel_rfl) (by kernel_rfl) (Eq.mpr (by kernel_rfl) hx)
def txn_Txn_Back.k1 (t1 : Option Addr) (mark1 : Int) (h1 : Heap) (K : Value → Heap → Prop) : Prop :=
  onSome t1 fun p3 =>
  ∃ (sA2 : Option Addr) (sL2 : Nat) (sC2 : Nat), cellOf h1 (Addr.add p3 2) = some (.slice sA2 sL2 sC2) ∧
  ∃ (I1 : Int → Heap → Prop) (M1 : Int → Heap → Nat), I1 (IntKind.wrap .i64 ((sL2 : Int) - 1)) h1 ∧
  ∀ (k1 : Int), ∀ h2 : Heap, I1 k1 h2 →
  bif (decide (k1 ≥ mark1)) then (
  onSome t1 fun p4 =>
  ∃ (sA3 : Option Addr) (sL3 : Nat) (sC3 : Nat), cellOf h2 (Addr.add p4 2) = some (.slice sA3 sL3 sC3) ∧
  (0 ≤ k1 ∧ k1 < (sL3 : Int)) ∧
  onSome sA3 fun p5 =>
  ∃ (v1 : Value), cellOf h2 (Addr.add p5 (Int.toNat k1)) = some (v1) ∧
  HCallsV Tryz.prog v1 [] h2 fun r1 h3 =>
  r1 = .tuple #[] ∧
  I1 (IntKind.wrap .i64 (k1 - 1)) h3 ∧ M1 (IntKind.wrap .i64 (k1 - 1)) h3 < M1 k1 h2) else (
  onSome t1 fun p6 =>
  ∃ (sA4 : Option Addr) (sL4 : Nat) (sC4 : Nat), cellOf h2 (Addr.add p6 2) = some (.slice sA4 sL4 sC4) ∧
  (0 ≤ mark1 ∧ mark1 ≤ (sC4 : Int)) ∧
  onSome t1 fun p7 =>
  Put (Addr.add p7 2) (.slice sA4 (Int.toNat mark1) sC4) h2 fun h4 =>
  K (.int .i64 0) h4)
def txn_Txn_Back (t1 : Option Addr) (mark1 : Int) (K : Value → Heap → Prop) (h1 : Heap) : Prop :=
  onSome t1 fun p1 =>
  ∃ (b1 : Bool), cellOf h1 (Addr.add p1 3) = some (.bool b1) ∧
  bif b1 then (
  K (.int .i64 61) h1) else (
  bif (decide (mark1 < 0)) then (
  K (.int .i64 62) h1) else (
  onSome t1 fun p2 =>
  ∃ (sA1 : Option Addr) (sL1 : Nat) (sC1 : Nat), cellOf h1 (Addr.add p2 2) = some (.slice sA1 sL1 sC1) ∧
  bif (decide (mark1 > (sL1 : Int))) then (
  K (.int .i64 62) h1) else (
  txn_Txn_Back.k1 t1 mark1 h1 K)))
def txn_Txn_Back.lo : Nat → List Nat × List (Nat × Ty) := fun n => match n with | 6 => ([0, 1], [(5, .int .i64)]) | _ => ([], [])
def txn_Txn_Back.od : Nat → Od := fun n => match n with | _ => .nil
theorem txn_Txn_Back.ok {t1 : Option Addr} {mark1 : Int} {K : Value → Heap → Prop} {h : Heap} (hx : txn_Txn_Back t1 mark1 K h) : C.txn_Txn_Back t1 mark1 h K :=
  fn_to (c := Tryz.f66.body.getD .skip) (cxOk txn_Txn_Back.lo txn_Txn_Back.od) Tryz.func66 (by kernel_rfl) (by kernel_rfl) (Eq.mpr (by kernel_rfl) hx)
def boleref06_Txn_Back.k1 (t1 : Option Addr) (mark1 : Int) (h1 : Heap) (K : Value → Heap → Prop) : Prop :=
  onSome t1 fun p3 =>
  ∃ (sA2 : Option Addr) (sL2 : Nat) (sC2 : Nat), cellOf h1 (Addr.add p3 1) = some (.slice sA2 sL2 sC2) ∧
  (0 ≤ mark1 ∧ mark1 ≤ (sC2 : Int)) ∧
  ∃ new1 : List Value, List.length new1 = (Int.toNat mark1) * 2 ∧ SlCells h1 sA2 new1 ∧ (∀ v ∈ new1, v.oneCell' = true) ∧
  AppendP ti190 190 none 0 0 (Int.toNat mark1) new1 h1 fun sA3 sL3 sC3 h2 =>
  onSome t1 fun p4 =>
  Put (Addr.add p4 1) (.slice sA3 sL3 sC3) h2 fun h3 =>
  K (.int .i64 0) h3
def boleref06_Txn_Back (t1 : Option Addr) (mark1 : Int) (K : Value → Heap → Prop) (h1 : Heap) : Prop :=
  onSome t1 fun p1 =>
  ∃ (b1 : Bool), cellOf h1 (Addr.add p1 2) = some (.bool b1) ∧
  bif b1 then (
  K (.int .i64 61) h1) else (
  bif (decide (mark1 < 0)) then (
  K (.int .i64 62) h1) else (
  onSome t1 fun p2 =>
  ∃ (sA1 : Option Addr) (sL1 : Nat) (sC1 : Nat), cellOf h1 (Addr.add p2 1) = some (.slice sA1 sL1 sC1) ∧
  bif (decide (mark1 > (sL1 : Int))) then (
  K (.int .i64 62) h1) else (
  boleref06_Txn_Back.k1 t1 mark1 h1 K)))
def boleref06_Txn_Back.lo : Nat → List Nat × List (Nat × Ty) := fun n => match n with | _ => ([], [])
def boleref06_Txn_Back.od : Nat → Od := fun n => match n with | _ => .nil
theorem boleref06_Txn_Back.ok {t1 : Option Addr} {mark1 : Int} {K : Value → Heap → Prop} {h : Heap} (hx : boleref06_Txn_Back t1 mark1 K h) : C.boleref06_Txn_Back t1 mark1 h K :=
  fn_to (c := Tryz.f67.body.getD .skip) (cxOk boleref06_Txn_Back.lo boleref06_Txn_Back.od) Tryz.func67 (by kernel_rfl) (by kernel_rfl) (Eq.mpr (by kernel_rfl) hx)
def txn_Txn_Commit (t1 : Option Addr) (K : Value → Heap → Prop) (h1 : Heap) : Prop :=
  onSome t1 fun p1 =>
  ∃ (b1 : Bool), cellOf h1 (Addr.add p1 3) = some (.bool b1) ∧
  bif b1 then (
  K (.int .i64 61) h1) else (
  onSome t1 fun p2 =>
  ∃ (m1 : Option Nat), cellOf h1 (Addr.add p2 1) = some (.map m1) ∧
  MapIn (.int .i64) m1 h1 fun mm1 =>
  bif ((List.length mm1 : Int) == 0) then (
  D.txn_Txn_end t1 h1 fun h2 =>
  K (.int .i64 0) h2) else (
  C.txn_Txn_Written t1 h1 fun r1 h3 =>
  ∃ (sA1 : Option Addr) (sL1 : Nat) (sC1 : Nat), r1 = .slice sA1 sL1 sC1 ∧
  ∃ (I1 : Option Addr → Nat → Nat → Int → Heap → Prop) (M1 : Option Addr → Nat → Nat → Int → Heap → Nat), I1 none 0 0 0 h3 ∧
  ∀ (lA1 : Option Addr) (lL1 : Nat) (lC1 : Nat) (n1 : Int), ∀ h4 : Heap, I1 lA1 lL1 lC1 n1 h4 →
  bif (decide (n1 < (sL1 : Int))) then (
  (0 ≤ n1 ∧ n1 < (sL1 : Int)) ∧
  onSome sA1 fun p3 =>
  ∃ (n2 : Int), cellOf h4 (Addr.add p3 (Int.toNat n1)) = some (.int .i64 n2) ∧
  onSome t1 fun p4 =>
  ∃ (m2 : Option Nat), cellOf h4 (Addr.add p4 1) = some (.map m2) ∧
  MapIn (.int .i64) m2 h4 fun mm2 =>
  ∃ (sA2 : Option Addr) (sL2 : Nat) (sC2 : Nat), Option.getD (mget mm2 (.i n2)) (zeroV ti37) = .slice sA2 sL2 sC2 ∧
  List.length ([.int .i64 n2, .slice sA2 sL2 sC2] : List Value) = 2 ∧
  New [.int .i64 n2, .slice sA2 sL2 sC2] 103 h4 fun h5 =>
  ∃ new1 : List Value, List.length new1 = 1 * 2 ∧ SlCells h5 (some ⟨h4.size, 0, none⟩) new1 ∧ (∀ v ∈ new1, v.oneCell' = true) ∧
  AppendP ti103 103 lA1 lL1 lC1 1 new1 h5 fun sA3 sL3 sC3 h6 =>
  I1 sA3 sL3 sC3 (IntKind.wrap .i64 (n1 + 1)) h6 ∧ M1 sA3 sL3 sC3 (IntKind.wrap .i64 (n1 + 1)) h6 < M1 lA1 lL1 lC1 n1 h4) else (
  onSome t1 fun p5 =>
  ∃ (q1 : Option Addr), cellOf h4 (Addr.add p5 0) = some (.pointer q1) ∧
  C.wal_Commit q1 lA1 lL1 lC1 h4 fun r2 h7 =>
  ∃ (n3 : Int), r2 = .int .i64 n3 ∧
  D.txn_Txn_end t1 h7 fun h8 =>
  K (.int .i64 n3) h8)))
def txn_Txn_Commit.lo : Nat → List Nat × List (Nat × Ty) := fun n => match n with | 8 => ([0, 18, 19], [(3, .slice), (20, .int .i64)]) | _ => ([], [])
def txn_Txn_Commit.od : Nat → Od := fun n => match n with | _ => .nil
theorem txn_Txn_Commit.ok {t1 : Option Addr} {K : Value → Heap → Prop} {h : Heap} (hx : txn_Txn_Commit t1 K h) : C.txn_Txn_Commit t1 h K :=
  fn_to (c := Tryz.f68.body.getD .skip) (cxOk txn_Txn_Commit.lo txn_Txn_Commit.od) Tryz.func68 (by kernel_rfl) (by kernel_rfl) (Eq.mpr (by kernel_rfl) hx)
def boleref06_Txn_Commit (t1 : Option Addr) (K : Value → Heap → Prop) (h1 : Heap) : Prop :=
  onSome t1 fun p1 =>
  ∃ (b1 : Bool), cellOf h1 (Addr.add p1 2) = some (.bool b1) ∧
  bif b1 then (
  K (.int .i64 61) h1) else (
  C.boleref06_Txn_Written t1 h1 fun r1 h2 =>
  ∃ (sA1 : Option Addr) (sL1 : Nat) (sC1 : Nat), r1 = .slice sA1 sL1 sC1 ∧
  ∃ (I1 : Option Addr → Nat → Nat → Int → Heap → Prop) (M1 : Option Addr → Nat → Nat → Int → Heap → Nat), I1 none 0 0 0 h2 ∧
  ∀ (lA1 : Option Addr) (lL1 : Nat) (lC1 : Nat) (n1 : Int), ∀ h3 : Heap, I1 lA1 lL1 lC1 n1 h3 →
  bif (decide (n1 < (sL1 : Int))) then (
  (0 ≤ n1 ∧ n1 < (sL1 : Int)) ∧
  onSome sA1 fun p2 =>
  ∃ (n2 : Int), cellOf h3 (Addr.add p2 (Int.toNat n1)) = some (.int .i64 n2) ∧
  onSome t1 fun p3 =>
  ∃ (sA2 : Option Addr) (sL2 : Nat) (sC2 : Nat), cellOf h3 (Addr.add p3 1) = some (.slice sA2 sL2 sC2) ∧
  C.boleref06_Txn_put t1 n2 h3 fun r2 h4 =>
  ∃ (n3 : Int), r2 = .int .i64 n3 ∧
  (cellOf h4 (Addr.add p3 1) = some (.slice sA2 sL2 sC2)) ∧
  (0 ≤ n3 ∧ n3 < (sL2 : Int)) ∧
  onSome sA2 fun p4 =>
  ∃ (s1 : ByteArray), cellOf h4 (Addr.add (Addr.add p4 ((Int.toNat n3) * 2)) 1) = some (.string s1) ∧
  NewS s1 5 h4 fun cap1 h5 =>
  List.length ([.int .i64 n2, .slice (some ⟨h4.size, 0, none⟩) s1.size cap1] : List Value) = 2 ∧
  New [.int .i64 n2, .slice (some ⟨h4.size, 0, none⟩) s1.size cap1] 103 h5 fun h6 =>
  ∃ new1 : List Value, List.length new1 = 1 * 2 ∧ SlCells h6 (some ⟨h5.size, 0, none⟩) new1 ∧ (∀ v ∈ new1, v.oneCell' = true) ∧
  AppendP ti103 103 lA1 lL1 lC1 1 new1 h6 fun sA3 sL3 sC3 h7 =>
  I1 sA3 sL3 sC3 (IntKind.wrap .i64 (n1 + 1)) h7 ∧ M1 sA3 sL3 sC3 (IntKind.wrap .i64 (n1 + 1)) h7 < M1 lA1 lL1 lC1 n1 h3) else (
  onSome t1 fun p5 =>
  Put (Addr.add p5 2) (.bool true) h3 fun h8 =>
  onSome t1 fun p6 =>
  ∃ (q1 : Option Addr), cellOf h8 (Addr.add p6 0) = some (.pointer q1) ∧
  C.boleref06_Commit q1 lA1 lL1 lC1 h8 fun r3 h9 =>
  ∃ (n4 : Int), r3 = .int .i64 n4 ∧
  K (.int .i64 n4) h9))
def boleref06_Txn_Commit.lo : Nat → List Nat × List (Nat × Ty) := fun n => match n with | 5 => ([0, 11, 12], [(3, .slice), (13, .int .i64)]) | _ => ([], [])
def boleref06_Txn_Commit.od : Nat → Od := fun n => match n with | 7 => (.op 0 [] (.op 1 [] (.op 2 [] (.op 3 [] (.op 4 [] (.op 5 [] (.op 6 [] (.op 7 [] (.op 8 [5] (.op 9 [] (.op 10 [] (.op 11 [] (.op 12 [] (.op 13 [] (.op 14 [] (.op 15 [] (.op 16 [] .nil))))))))))))))))) | _ => .nil
theorem boleref06_Txn_Commit.ok {t1 : Option Addr} {K : Value → Heap → Prop} {h : Heap} (hx : boleref06_Txn_Commit t1 K h) : C.boleref06_Txn_Commit t1 h K :=
  fn_to (c := Tryz.f69.body.getD .skip) (cxOk boleref06_Txn_Commit.lo boleref06_Txn_Commit.od) Tryz.func69 (by kernel_rfl) (by kernel_rfl) (Eq.mpr (by kernel_rfl) hx)
def txn_Txn_Abort (t1 : Option Addr) (K : Value → Heap → Prop) (h1 : Heap) : Prop :=
  C.txn_Txn_end t1 h1 fun r1 h2 =>
  r1 = .tuple #[] ∧
  K (.tuple #[]) h2
def txn_Txn_Abort.lo : Nat → List Nat × List (Nat × Ty) := fun n => match n with | _ => ([], [])
def txn_Txn_Abort.od : Nat → Od := fun n => match n with | _ => .nil
theorem txn_Txn_Abort.ok {t1 : Option Addr} {K : Value → Heap → Prop} {h : Heap} (hx : txn_Txn_Abort t1 K h) : C.txn_Txn_Abort t1 h K :=
  fn_to (c := Tryz.f70.body.getD .skip) (cxOk txn_Txn_Abort.lo txn_Txn_Abort.od) Tryz.func70 (by kernel_rfl) (by kernel_rfl) (Eq.mpr (by kernel_rfl) hx)
def boleref06_Txn_Abort (t1 : Option Addr) (K : Value → Heap → Prop) (h1 : Heap) : Prop :=
  onSome t1 fun p1 =>
  Put (Addr.add p1 2) (.bool true) h1 fun h2 =>
  K (.tuple #[]) h2
def boleref06_Txn_Abort.lo : Nat → List Nat × List (Nat × Ty) := fun n => match n with | _ => ([], [])
def boleref06_Txn_Abort.od : Nat → Od := fun n => match n with | _ => .nil
theorem boleref06_Txn_Abort.ok {t1 : Option Addr} {K : Value → Heap → Prop} {h : Heap} (hx : boleref06_Txn_Abort t1 K h) : C.boleref06_Txn_Abort t1 h K :=
  fn_to (c := Tryz.f71.body.getD .skip) (cxOk boleref06_Txn_Abort.lo boleref06_Txn_Abort.od) Tryz.func71 (by kernel_rfl) (by kernel_rfl) (Eq.mpr (by kernel_rfl) hx)
def bolelaw06_Sides_starts.k3 (s1 : Option Addr) (q4 : Option Addr) (h10 : Heap) (q5 : Option Addr) (K : Value → Heap → Prop) : Prop :=
  onSome s1 fun p3 =>
  Put (Addr.add p3 0) (.pointer q4) h10 fun h11 =>
  onSome s1 fun p4 =>
  Put (Addr.add p4 1) (.pointer q5) h11 fun h12 =>
  C.bolelaw06_Sides_begins s1 h12 fun r9 h13 =>
  ∃ (b1 : Bool), r9 = .bool b1 ∧
  K (.bool b1) h13
def bolelaw06_Sides_starts.k2 (s1 : Option Addr) (sA3 : Option Addr) (sL3 : Nat) (sC3 : Nat) (h8 : Heap) (K : Value → Heap → Prop) : Prop :=
  C.adisk_Open sA3 sL3 sC3 h8 fun r7 h9 =>
  ∃ (q4 : Option Addr) (n4 : Int), r7 = .tuple #[.pointer q4, .int .i64 n4] ∧
  C.boleref03_Of sA3 sL3 sC3 h9 fun r8 h10 =>
  ∃ (q5 : Option Addr) (n5 : Int), r8 = .tuple #[.pointer q5, .int .i64 n5] ∧
  bif (n4 != 0) then (
  K (.bool false) h10) else (
  bif (n5 != 0) then (
  K (.bool false) h10) else (
  bif (Option.isNone q4) then (
  K (.bool false) h10) else (
  bolelaw06_Sides_starts.k3 s1 q4 h10 q5 K)))
def bolelaw06_Sides_starts.k1 (s1 : Option Addr) (sA1 : Option Addr) (sL1 : Nat) (sC1 : Nat) (h4 : Heap) (q3 : Option Addr) (K : Value → Heap → Prop) : Prop :=
  C.wal_Recover q3 h4 fun r4 h5 =>
  ∃ (n2 : Int) (n3 : Int), r4 = .tuple #[.int .i64 n2, .int .i64 n3] ∧
  C.boleref06_Behind sA1 sL1 sC1 h5 fun r5 h6 =>
  ∃ (sA3 : Option Addr) (sL3 : Nat) (sC3 : Nat), r5 = .slice sA3 sL3 sC3 ∧
  bif (n3 != 0) then (
  K (.bool false) h6) else (
  ∃ bs3 : List UInt8, StrAt h6 sA3 sL3 bs3 ∧
  C.adisk_Disk_Image q3 h6 fun r6 h7 =>
  ∃ (sA4 : Option Addr) (sL4 : Nat) (sC4 : Nat), r6 = .slice sA4 sL4 sC4 ∧
  StrAt h7 sA3 sL3 (ByteArray.toList (mkStr bs3)) ∧
  ∃ bs4 : List UInt8, StrAt h7 sA4 sL4 bs4 ∧
  bif (!((mkStr bs4).toList == (mkStr bs3).toList)) then (
  K (.bool false) h7) else (
  bolelaw06_Sides_starts.k2 s1 sA3 sL3 sC3 h7 K))
def bolelaw06_Sides_starts (s1 : Option Addr) (K : Value → Heap → Prop) (h1 : Heap) : Prop :=
  onSome s1 fun p1 =>
  ∃ (q1 : Option Addr), cellOf h1 (Addr.add p1 1) = some (.pointer q1) ∧
  C.boleref03_Disk_Image q1 h1 fun r1 h2 =>
  ∃ (sA1 : Option Addr) (sL1 : Nat) (sC1 : Nat), r1 = .slice sA1 sL1 sC1 ∧
  onSome s1 fun p2 =>
  ∃ (q2 : Option Addr), cellOf h2 (Addr.add p2 0) = some (.pointer q2) ∧
  ∃ bs1 : List UInt8, StrAt h2 sA1 sL1 bs1 ∧
  C.adisk_Disk_Image q2 h2 fun r2 h3 =>
  ∃ (sA2 : Option Addr) (sL2 : Nat) (sC2 : Nat), r2 = .slice sA2 sL2 sC2 ∧
  StrAt h3 sA1 sL1 (ByteArray.toList (mkStr bs1)) ∧
  ∃ bs2 : List UInt8, StrAt h3 sA2 sL2 bs2 ∧
  bif (!((mkStr bs2).toList == (mkStr bs1).toList)) then (
  K (.bool false) h3) else (
  C.adisk_Open sA1 sL1 sC1 h3 fun r3 h4 =>
  ∃ (q3 : Option Addr) (n1 : Int), r3 = .tuple #[.pointer q3, .int .i64 n1] ∧
  bif (n1 != 0) then (
  K (.bool false) h4) else (
  bif (Option.isNone q3) then (
  K (.bool false) h4) else (
  bolelaw06_Sides_starts.k1 s1 sA1 sL1 sC1 h4 q3 K)))
def bolelaw06_Sides_starts.lo : Nat → List Nat × List (Nat × Ty) := fun n => match n with | _ => ([], [])
def bolelaw06_Sides_starts.od : Nat → Od := fun n => match n with | 2 => (.op 0 [] (.op 1 [] (.op 2 [] (.op 3 [] (.op 6 [] (.op 7 [] (.op 4 [7] (.op 5 [] (.op 8 [] .nil))))))))) | 9 => (.op 0 [] (.op 1 [] (.op 2 [] (.op 3 [] (.op 6 [] (.op 7 [] (.op 4 [7] (.op 5 [] (.op 8 [] (.op 9 [] .nil)))))))))) | _ => .nil
theorem bolelaw06_Sides_starts.ok {s1 : Option Addr} {K : Value → Heap → Prop} {h : Heap} (hx : bolelaw06_Sides_starts s1 K h) : C.bolelaw06_Sides_starts s1 h K :=
  fn_to (c := Tryz.f72.body.getD .skip) (cxOk bolelaw06_Sides_starts.lo bolelaw06_Sides_starts.od) Tryz.func72 (by kernel_rfl) (by kernel_rfl) (Eq.mpr (by kernel_rfl) hx)
def txn_Txn_Read.k1 (t1 : Option Addr) (i1 : Int) (h3 : Heap) (K : Value → Heap → Prop) : Prop :=
  onSome t1 fun p3 =>
  ∃ (m1 : Option Nat), cellOf h3 (Addr.add p3 1) = some (.map m1) ∧
  MapIn (.int .i64) m1 h3 fun mm1 =>
  ∃ (sA1 : Option Addr) (sL1 : Nat) (sC1 : Nat), Option.getD (mget mm1 (.i i1)) (zeroV ti37) = .slice sA1 sL1 sC1 ∧
  bif (Option.isSome (mget mm1 (.i i1))) then (
  C.slices_Clone_byte_byte sA1 sL1 sC1 h3 fun r2 h4 =>
  ∃ (sA2 : Option Addr) (sL2 : Nat) (sC2 : Nat), r2 = .slice sA2 sL2 sC2 ∧
  K (.tuple #[.slice sA2 sL2 sC2, .int .i64 0]) h4) else (
  onSome t1 fun p4 =>
  ∃ (q2 : Option Addr), cellOf h3 (Addr.add p4 0) = some (.pointer q2) ∧
  C.adisk_Disk_Read q2 i1 h3 fun r3 h5 =>
  ∃ (sA3 : Option Addr) (sL3 : Nat) (sC3 : Nat) (n2 : Int), r3 = .tuple #[.slice sA3 sL3 sC3, .int .i64 n2] ∧
  K (.tuple #[.slice sA3 sL3 sC3, .int .i64 n2]) h5)
def txn_Txn_Read (t1 : Option Addr) (i1 : Int) (K : Value → Heap → Prop) (h1 : Heap) : Prop :=
  onSome t1 fun p1 =>
  ∃ (b1 : Bool), cellOf h1 (Addr.add p1 3) = some (.bool b1) ∧
  bif b1 then (
  K (.tuple #[.slice none 0 0, .int .i64 61]) h1) else (
  bif (decide (i1 < 0)) then (
  K (.tuple #[.slice none 0 0, .int .i64 31]) h1) else (
  onSome t1 fun p2 =>
  ∃ (q1 : Option Addr), cellOf h1 (Addr.add p2 0) = some (.pointer q1) ∧
  C.adisk_Disk_Blocks q1 h1 fun r1 h2 =>
  ∃ (n1 : Int), r1 = .int .i64 n1 ∧
  bif (decide (i1 ≥ n1)) then (
  K (.tuple #[.slice none 0 0, .int .i64 31]) h2) else (
  txn_Txn_Read.k1 t1 i1 h2 K)))
def txn_Txn_Read.lo : Nat → List Nat × List (Nat × Ty) := fun n => match n with | _ => ([], [])
def txn_Txn_Read.od : Nat → Od := fun n => match n with | _ => .nil
theorem txn_Txn_Read.ok {t1 : Option Addr} {i1 : Int} {K : Value → Heap → Prop} {h : Heap} (hx : txn_Txn_Read t1 i1 K h) : C.txn_Txn_Read t1 i1 h K :=
  fn_to (c := Tryz.f73.body.getD .skip) (cxOk txn_Txn_Read.lo txn_Txn_Read.od) Tryz.func73 (by kernel_rfl) (by kernel_rfl) (Eq.mpr (by kernel_rfl) hx)
def boleref06_Txn_Read.k1 (t1 : Option Addr) (i1 : Int) (h3 : Heap) (K : Value → Heap → Prop) : Prop :=
  C.boleref06_Txn_put t1 i1 h3 fun r2 h4 =>
  ∃ (n2 : Int), r2 = .int .i64 n2 ∧
  bif (decide (n2 ≥ 0)) then (
  onSome t1 fun p3 =>
  ∃ (sA1 : Option Addr) (sL1 : Nat) (sC1 : Nat), cellOf h4 (Addr.add p3 1) = some (.slice sA1 sL1 sC1) ∧
  (0 ≤ n2 ∧ n2 < (sL1 : Int)) ∧
  onSome sA1 fun p4 =>
  ∃ (s1 : ByteArray), cellOf h4 (Addr.add (Addr.add p4 ((Int.toNat n2) * 2)) 1) = some (.string s1) ∧
  NewS s1 5 h4 fun cap1 h5 =>
  K (.tuple #[.slice (some ⟨h4.size, 0, none⟩) s1.size cap1, .int .i64 0]) h5) else (
  onSome t1 fun p5 =>
  ∃ (q2 : Option Addr), cellOf h4 (Addr.add p5 0) = some (.pointer q2) ∧
  C.boleref03_Disk_Read q2 i1 h4 fun r3 h6 =>
  ∃ (sA2 : Option Addr) (sL2 : Nat) (sC2 : Nat) (n3 : Int), r3 = .tuple #[.slice sA2 sL2 sC2, .int .i64 n3] ∧
  K (.tuple #[.slice sA2 sL2 sC2, .int .i64 n3]) h6)
def boleref06_Txn_Read (t1 : Option Addr) (i1 : Int) (K : Value → Heap → Prop) (h1 : Heap) : Prop :=
  onSome t1 fun p1 =>
  ∃ (b1 : Bool), cellOf h1 (Addr.add p1 2) = some (.bool b1) ∧
  bif b1 then (
  K (.tuple #[.slice none 0 0, .int .i64 61]) h1) else (
  bif (decide (i1 < 0)) then (
  K (.tuple #[.slice none 0 0, .int .i64 31]) h1) else (
  onSome t1 fun p2 =>
  ∃ (q1 : Option Addr), cellOf h1 (Addr.add p2 0) = some (.pointer q1) ∧
  C.boleref03_Disk_Blocks q1 h1 fun r1 h2 =>
  ∃ (n1 : Int), r1 = .int .i64 n1 ∧
  bif (decide (i1 ≥ n1)) then (
  K (.tuple #[.slice none 0 0, .int .i64 31]) h2) else (
  boleref06_Txn_Read.k1 t1 i1 h2 K)))
def boleref06_Txn_Read.lo : Nat → List Nat × List (Nat × Ty) := fun n => match n with | _ => ([], [])
def boleref06_Txn_Read.od : Nat → Od := fun n => match n with | _ => .nil
theorem boleref06_Txn_Read.ok {t1 : Option Addr} {i1 : Int} {K : Value → Heap → Prop} {h : Heap} (hx : boleref06_Txn_Read t1 i1 K h) : C.boleref06_Txn_Read t1 i1 h K :=
  fn_to (c := Tryz.f74.body.getD .skip) (cxOk boleref06_Txn_Read.lo boleref06_Txn_Read.od) Tryz.func74 (by kernel_rfl) (by kernel_rfl) (Eq.mpr (by kernel_rfl) hx)
def bolelaw06_Book_bytes.k1 (k1 : Option Addr) (h1 : Heap) (h6 : Heap) (K : Value → Heap → Prop) : Prop :=
  onSome k1 fun p2 =>
  ∃ (sA2 : Option Addr) (sL2 : Nat) (sC2 : Nat), cellOf h6 (Addr.add p2 0) = some (.slice sA2 sL2 sC2) ∧
  ∃ cs3 : List Value, List.length cs3 = 5 ∧ Cells h6 ⟨h1.size, 0, none⟩ cs3 ∧
  List.length (cs3 : List Value) = 5 ∧
  New cs3 142 h6 fun h7 =>
  (cellOf h7 (Addr.add p2 0) = some (.slice sA2 sL2 sC2)) ∧
  ∃ new1 : List Value, List.length new1 = 1 * 5 ∧ SlCells h7 (some ⟨h6.size, 0, none⟩) new1 ∧ (∀ v ∈ new1, v.oneCell' = true) ∧
  AppendP ti142 142 sA2 sL2 sC2 1 new1 h7 fun sA3 sL3 sC3 h8 =>
  onSome k1 fun p3 =>
  Put (Addr.add p3 0) (.slice sA3 sL3 sC3) h8 fun h9 =>
  K (.tuple #[]) h9
def bolelaw06_Book_bytes (k1 : Option Addr) (bA1 : Option Addr) (bL1 : Nat) (bC1 : Nat) (K : Value → Heap → Prop) (h1 : Heap) : Prop :=
  onSome k1 fun p1 =>
  ∃ (sA1 : Option Addr) (sL1 : Nat) (sC1 : Nat), cellOf h1 (Addr.add p1 0) = some (.slice sA1 sL1 sC1) ∧
  ∃ bs1 : List UInt8, StrAt h1 bA1 bL1 bs1 ∧
  NewRow z142 142 [.slice bA1 bL1 bC1, .int .i64 (bL1 : Int), .int .u8 (IntKind.wrap .u8 ((IntKind.wrap .i64 ((IntKind.wrap .i64 ((sL1 : Int) * 2)) + 1)))), .string (mkStr bs1), .bool ((Int.tmod (sL1 : Int) 2) == 0)] 5 h1 fun h3 =>
  ∃ (b1 : Bool), cellOf h3 (Addr.add ⟨h1.size, 0, none⟩ 4) = some (.bool b1) ∧
  bif (!b1) then (
  ∃ cs1 : List Value, List.length cs1 = 5 ∧ Cells h3 ⟨h1.size, 0, none⟩ cs1 ∧
  C.bolelaw06_Held_grown cs1 h3 fun r1 h4 =>
  ∃ (cs2 : List Value), r1 = .agg ⟨cs2⟩ ∧
  PutRow ⟨h1.size, 0, none⟩ cs2 5 h4 fun h5 =>
  bolelaw06_Book_bytes.k1 k1 h1 h5 K) else (
  bolelaw06_Book_bytes.k1 k1 h1 h3 K)
def bolelaw06_Book_bytes.lo : Nat → List Nat × List (Nat × Ty) := fun n => match n with | _ => ([], [])
def bolelaw06_Book_bytes.od : Nat → Od := fun n => match n with | 4 => (.op 0 [] (.op 1 [] (.op 2 [] (.op 3 [] (.op 4 [] (.op 5 [] (.op 6 [4] (.op 7 [] (.op 8 [] (.op 9 [] (.op 10 [] .nil))))))))))) | _ => .nil
theorem bolelaw06_Book_bytes.ok {k1 : Option Addr} {bA1 : Option Addr} {bL1 : Nat} {bC1 : Nat} {K : Value → Heap → Prop} {h : Heap} (hx : bolelaw06_Book_bytes k1 bA1 bL1 bC1 K h) : C.bolelaw06_Book_bytes k1 bA1 bL1 bC1 h K :=
  fn_to (c := Tryz.f75.body.getD .skip) (cxOk bolelaw06_Book_bytes.lo bolelaw06_Book_bytes.od) Tryz.func75 (by kernel_rfl) (by kernel_rfl) (Eq.mpr (by kernel_rfl) hx)
def txn_Txn_Written (t1 : Option Addr) (K : Value → Heap → Prop) (h1 : Heap) : Prop :=
  onSome t1 fun p1 =>
  ∃ (b1 : Bool), cellOf h1 (Addr.add p1 3) = some (.bool b1) ∧
  bif b1 then (
  K (.slice none 0 0) h1) else (
  onSome t1 fun p2 =>
  ∃ (m1 : Option Nat), cellOf h1 (Addr.add p2 1) = some (.map m1) ∧
  C.maps_Keys_map_int_byte_int_byte m1 h1 fun r1 h2 =>
  ∃ (v1 : Value), r1 = v1 ∧
  C.slices_Sorted_int v1 h2 fun r2 h3 =>
  ∃ (sA1 : Option Addr) (sL1 : Nat) (sC1 : Nat), r2 = .slice sA1 sL1 sC1 ∧
  K (.slice sA1 sL1 sC1) h3)
def txn_Txn_Written.lo : Nat → List Nat × List (Nat × Ty) := fun n => match n with | _ => ([], [])
def txn_Txn_Written.od : Nat → Od := fun n => match n with | _ => .nil
theorem txn_Txn_Written.ok {t1 : Option Addr} {K : Value → Heap → Prop} {h : Heap} (hx : txn_Txn_Written t1 K h) : C.txn_Txn_Written t1 h K :=
  fn_to (c := Tryz.f76.body.getD .skip) (cxOk txn_Txn_Written.lo txn_Txn_Written.od) Tryz.func76 (by kernel_rfl) (by kernel_rfl) (Eq.mpr (by kernel_rfl) hx)
end Go.Proofs.YtjdcbblgaoogmaaGreatDoor.W
namespace Go.Proofs.YtjdcbblgaoogmaaGreatDoor.W
open Go Go.Proofs Wx
def boleref06_Txn_Written.k1 (t1 : Option Addr) (lA1 : Option Addr) (lL1 : Nat) (lC1 : Nat) (i1 : Int) (h2 : Heap) (I1 : Option Addr → Nat → Nat → Int → Heap → Prop) (M1 : Option Addr → Nat → Nat → Int → Heap → Nat) (h4 : Heap) (K : Value → Heap → Prop) : Prop :=
  C.boleref06_Txn_put t1 i1 h4 fun r2 h5 =>
  ∃ (n2 : Int), r2 = .int .i64 n2 ∧
  bif (decide (n2 ≥ 0)) then (
  New [.int .i64 i1] 3 h5 fun h6 =>
  ∃ new1 : List Value, List.length new1 = 1 * 1 ∧ SlCells h6 (some ⟨h5.size, 0, none⟩) new1 ∧ (∀ v ∈ new1, v.oneCell' = true) ∧
  AppendP ti3 3 lA1 lL1 lC1 1 new1 h6 fun sA2 sL2 sC2 h7 =>
  I1 sA2 sL2 sC2 (IntKind.wrap .i64 (i1 + 1)) h7 ∧ M1 sA2 sL2 sC2 (IntKind.wrap .i64 (i1 + 1)) h7 < M1 lA1 lL1 lC1 i1 h2) else (
  I1 lA1 lL1 lC1 (IntKind.wrap .i64 (i1 + 1)) h5 ∧ M1 lA1 lL1 lC1 (IntKind.wrap .i64 (i1 + 1)) h5 < M1 lA1 lL1 lC1 i1 h2)
def boleref06_Txn_Written (t1 : Option Addr) (K : Value → Heap → Prop) (h1 : Heap) : Prop :=
  ∃ (I1 : Option Addr → Nat → Nat → Int → Heap → Prop) (M1 : Option Addr → Nat → Nat → Int → Heap → Nat), I1 none 0 0 98 h1 ∧
  ∀ (lA1 : Option Addr) (lL1 : Nat) (lC1 : Nat) (i1 : Int), ∀ h2 : Heap, I1 lA1 lL1 lC1 i1 h2 →
  onSome t1 fun p1 =>
  ∃ (q1 : Option Addr), cellOf h2 (Addr.add p1 0) = some (.pointer q1) ∧
  C.boleref03_Disk_Blocks q1 h2 fun r1 h3 =>
  ∃ (n1 : Int), r1 = .int .i64 n1 ∧
  bif (decide (i1 < n1)) then (
  onSome t1 fun p2 =>
  ∃ (b1 : Bool), cellOf h3 (Addr.add p2 2) = some (.bool b1) ∧
  bif (!b1) then (
  onSome t1 fun p3 =>
  ∃ (sA1 : Option Addr) (sL1 : Nat) (sC1 : Nat), cellOf h3 (Addr.add p3 1) = some (.slice sA1 sL1 sC1) ∧
  bif (decide ((sL1 : Int) > 0)) then (
  boleref06_Txn_Written.k1 t1 lA1 lL1 lC1 i1 h2 I1 M1 h3 K) else (
  K (.slice lA1 lL1 lC1) h3)) else (
  K (.slice lA1 lL1 lC1) h3)) else (
  K (.slice lA1 lL1 lC1) h3)
def boleref06_Txn_Written.lo : Nat → List Nat × List (Nat × Ty) := fun n => match n with | 3 => ([0], [(3, .slice), (4, .int .i64)]) | _ => ([], [])
def boleref06_Txn_Written.od : Nat → Od := fun n => match n with | _ => .nil
theorem boleref06_Txn_Written.ok {t1 : Option Addr} {K : Value → Heap → Prop} {h : Heap} (hx : boleref06_Txn_Written t1 K h) : C.boleref06_Txn_Written t1 h K :=
  fn_to (c := Tryz.f77.body.getD .skip) (cxOk boleref06_Txn_Written.lo boleref06_Txn_Written.od) Tryz.func77 (by kernel_rfl) (by kernel_rfl) (Eq.mpr (by kernel_rfl) hx)
def bolelaw06_sameInts (aA1 : Option Addr) (aL1 : Nat) (aC1 : Nat) (bA1 : Option Addr) (bL1 : Nat) (bC1 : Nat) (K : Value → Heap → Prop) (h1 : Heap) : Prop :=
  bif ((aL1 : Int) != (bL1 : Int)) then (
  K (.bool false) h1) else (
  ∃ (I1 : Int → Heap → Prop) (M1 : Int → Heap → Nat), I1 0 h1 ∧
  ∀ (n1 : Int), ∀ h2 : Heap, I1 n1 h2 →
  bif (decide (n1 < (aL1 : Int))) then (
  (0 ≤ n1 ∧ n1 < (aL1 : Int)) ∧
  onSome aA1 fun p1 =>
  ∃ (n2 : Int), cellOf h2 (Addr.add p1 (Int.toNat n1)) = some (.int .i64 n2) ∧
  (0 ≤ n1 ∧ n1 < (bL1 : Int)) ∧
  onSome bA1 fun p2 =>
  ∃ (n3 : Int), cellOf h2 (Addr.add p2 (Int.toNat n1)) = some (.int .i64 n3) ∧
  bif (n2 != n3) then (
  K (.bool false) h2) else (
  I1 (IntKind.wrap .i64 (n1 + 1)) h2 ∧ M1 (IntKind.wrap .i64 (n1 + 1)) h2 < M1 n1 h2)) else (
  K (.bool true) h2))
def bolelaw06_sameInts.lo : Nat → List Nat × List (Nat × Ty) := fun n => match n with | 4 => ([0, 1, 12], [(13, .int .i64)]) | _ => ([], [])
def bolelaw06_sameInts.od : Nat → Od := fun n => match n with | 6 => (.op 0 [] (.op 1 [] (.op 2 [] (.op 3 [] (.op 4 [] (.op 5 [] (.op 6 [] (.op 7 [] (.op 8 [] .nil))))))))) | _ => .nil
theorem bolelaw06_sameInts.ok {aA1 : Option Addr} {aL1 : Nat} {aC1 : Nat} {bA1 : Option Addr} {bL1 : Nat} {bC1 : Nat} {K : Value → Heap → Prop} {h : Heap} (hx : bolelaw06_sameInts aA1 aL1 aC1 bA1 bL1 bC1 K h) : C.bolelaw06_sameInts aA1 aL1 aC1 bA1 bL1 bC1 h K :=
  fn_to (c := Tryz.f78.body.getD .skip) (cxOk bolelaw06_sameInts.lo bolelaw06_sameInts.od) Tryz.func78 (by kernel_rfl) (by kernel_rfl) (Eq.mpr (by kernel_rfl) hx)
def bolelaw06_Book_ints.k1 (k1 : Option Addr) (lA1 : Option Addr) (lL1 : Nat) (lC1 : Nat) (sA2 : Option Addr) (sL2 : Nat) (sC2 : Nat) (h6 : Heap) (K : Value → Heap → Prop) : Prop :=
  onSome k1 fun p4 =>
  ∃ (sA3 : Option Addr) (sL3 : Nat) (sC3 : Nat), cellOf h6 (Addr.add p4 1) = some (.slice sA3 sL3 sC3) ∧
  New [.slice lA1 lL1 lC1] 137 h6 fun h7 =>
  ∃ new2 : List Value, List.length new2 = 1 * 1 ∧ SlCells h7 (some ⟨h6.size, 0, none⟩) new2 ∧ (∀ v ∈ new2, v.oneCell' = true) ∧
  AppendP ti137 137 sA3 sL3 sC3 1 new2 h7 fun sA4 sL4 sC4 h8 =>
  onSome k1 fun p5 =>
  Put (Addr.add p5 1) (.slice sA4 sL4 sC4) h8 fun h9 =>
  onSome k1 fun p6 =>
  ∃ (sA5 : Option Addr) (sL5 : Nat) (sC5 : Nat), cellOf h9 (Addr.add p6 2) = some (.slice sA5 sL5 sC5) ∧
  New [.slice sA2 sL2 sC2] 137 h9 fun h10 =>
  ∃ new3 : List Value, List.length new3 = 1 * 1 ∧ SlCells h10 (some ⟨h9.size, 0, none⟩) new3 ∧ (∀ v ∈ new3, v.oneCell' = true) ∧
  AppendP ti137 137 sA5 sL5 sC5 1 new3 h10 fun sA6 sL6 sC6 h11 =>
  onSome k1 fun p7 =>
  Put (Addr.add p7 2) (.slice sA6 sL6 sC6) h11 fun h12 =>
  K (.tuple #[]) h12
def bolelaw06_Book_ints (k1 : Option Addr) (lA1 : Option Addr) (lL1 : Nat) (lC1 : Nat) (K : Value → Heap → Prop) (h1 : Heap) : Prop :=
  onSome k1 fun p1 =>
  ∃ (sA1 : Option Addr) (sL1 : Nat) (sC1 : Nat), cellOf h1 (Addr.add p1 1) = some (.slice sA1 sL1 sC1) ∧
  ∃ new1 : List Value, List.length new1 = lL1 * 1 ∧ SlCells h1 lA1 new1 ∧ (∀ v ∈ new1, v.oneCell' = true) ∧
  AppendP ti3 3 none 0 0 lL1 new1 h1 fun sA2 sL2 sC2 h2 =>
  bif ((Int.tmod (sL1 : Int) 2) == 1) then (
  ∃ (I1 : Int → Heap → Prop) (M1 : Int → Heap → Nat), I1 0 h2 ∧
  ∀ (n1 : Int), ∀ h3 : Heap, I1 n1 h3 →
  bif (decide (n1 < (lL1 : Int))) then (
  (0 ≤ n1 ∧ n1 < (lL1 : Int)) ∧
  onSome lA1 fun p2 =>
  Put (Addr.add p2 (Int.toNat n1)) (.int .i64 (IntKind.wrap .i64 ((IntKind.wrap .i64 (0 - (sL1 : Int))) - 1))) h3 fun h4 =>
  (0 ≤ n1 ∧ n1 < (sL2 : Int)) ∧
  onSome sA2 fun p3 =>
  Put (Addr.add p3 (Int.toNat n1)) (.int .i64 (IntKind.wrap .i64 ((IntKind.wrap .i64 (0 - (sL1 : Int))) - 1))) h4 fun h5 =>
  I1 (IntKind.wrap .i64 (n1 + 1)) h5 ∧ M1 (IntKind.wrap .i64 (n1 + 1)) h5 < M1 n1 h3) else (
  bolelaw06_Book_ints.k1 k1 lA1 lL1 lC1 sA2 sL2 sC2 h3 K)) else (
  bolelaw06_Book_ints.k1 k1 lA1 lL1 lC1 sA2 sL2 sC2 h2 K)
def bolelaw06_Book_ints.lo : Nat → List Nat × List (Nat × Ty) := fun n => match n with | 5 => ([0, 1, 4, 5, 19], [(20, .int .i64)]) | _ => ([], [])
def bolelaw06_Book_ints.od : Nat → Od := fun n => match n with | _ => .nil
theorem bolelaw06_Book_ints.ok {k1 : Option Addr} {lA1 : Option Addr} {lL1 : Nat} {lC1 : Nat} {K : Value → Heap → Prop} {h : Heap} (hx : bolelaw06_Book_ints k1 lA1 lL1 lC1 K h) : C.bolelaw06_Book_ints k1 lA1 lL1 lC1 h K :=
  fn_to (c := Tryz.f79.body.getD .skip) (cxOk bolelaw06_Book_ints.lo bolelaw06_Book_ints.od) Tryz.func79 (by kernel_rfl) (by kernel_rfl) (Eq.mpr (by kernel_rfl) hx)
def bolelaw06_Held_grown (h1 : List Value) (K : Value → Heap → Prop) (h2 : Heap) : Prop :=
  New h1 142 h2 fun h3 =>
  New z142 142 h3 fun h4 =>
  ∃ (I1 : Int → Heap → Prop) (M1 : Int → Heap → Nat), I1 0 h4 ∧
  ∀ (i1 : Int), ∀ h5 : Heap, I1 i1 h5 →
  ∃ (n1 : Int), cellOf h5 (Addr.add ⟨h2.size, 0, none⟩ 1) = some (.int .i64 n1) ∧
  bif (decide (i1 < n1)) then (
  ∃ (sA1 : Option Addr) (sL1 : Nat) (sC1 : Nat), cellOf h5 (Addr.add ⟨h2.size, 0, none⟩ 0) = some (.slice sA1 sL1 sC1) ∧
  ∃ (n2 : Int), cellOf h5 (Addr.add ⟨h2.size, 0, none⟩ 2) = some (.int .u8 n2) ∧
  (0 ≤ i1 ∧ i1 < (sL1 : Int)) ∧
  onSome sA1 fun p1 =>
  Put (Addr.add p1 (Int.toNat i1)) (.int .u8 n2) h5 fun h6 =>
  I1 (IntKind.wrap .i64 (i1 + 1)) h6 ∧ M1 (IntKind.wrap .i64 (i1 + 1)) h6 < M1 i1 h5) else (
  ∃ (sA2 : Option Addr) (sL2 : Nat) (sC2 : Nat), cellOf h5 (Addr.add ⟨h2.size, 0, none⟩ 0) = some (.slice sA2 sL2 sC2) ∧
  ∃ (n3 : Int), cellOf h5 (Addr.add ⟨h2.size, 0, none⟩ 2) = some (.int .u8 n3) ∧
  ∃ (n4 : Int), cellOf h5 (Addr.add ⟨h2.size, 0, none⟩ 2) = some (.int .u8 n4) ∧
  ∃ (n5 : Int), cellOf h5 (Addr.add ⟨h2.size, 0, none⟩ 2) = some (.int .u8 n5) ∧
  New [.int .u8 n3, .int .u8 n4, .int .u8 n5] 5 h5 fun h7 =>
  ∃ new1 : List Value, List.length new1 = 3 * 1 ∧ SlCells h7 (some ⟨h5.size, 0, none⟩) new1 ∧ (∀ v ∈ new1, v.oneCell' = true) ∧
  AppendP ti5 5 sA2 sL2 sC2 3 new1 h7 fun sA3 sL3 sC3 h8 =>
  Put (Addr.add ⟨h2.size, 0, none⟩ 0) (.slice sA3 sL3 sC3) h8 fun h9 =>
  ∃ cs1 : List Value, List.length cs1 = 5 ∧ Cells h9 ⟨h2.size, 0, none⟩ cs1 ∧
  PutRow ⟨h3.size, 0, none⟩ cs1 5 h9 fun h10 =>
  ∃ res1 : List Value, List.length res1 = 5 ∧ Cells h10 ⟨h3.size, 0, none⟩ res1 ∧
  K (.agg ⟨res1⟩) h10)
def bolelaw06_Held_grown.lo : Nat → List Nat × List (Nat × Ty) := fun n => match n with | 2 => ([1, 2], [(3, .int .i64)]) | _ => ([], [])
def bolelaw06_Held_grown.od : Nat → Od := fun n => match n with | _ => .nil
theorem bolelaw06_Held_grown.ok {h1 : List Value} {K : Value → Heap → Prop} {h : Heap} (hx : bolelaw06_Held_grown h1 K h) : C.bolelaw06_Held_grown h1 h K :=
  fn_to (c := Tryz.f80.body.getD .skip) (cxOk bolelaw06_Held_grown.lo bolelaw06_Held_grown.od) Tryz.func80 (by kernel_rfl) (by kernel_rfl) (Eq.mpr (by kernel_rfl) hx)
def txn_Txn_Write.k1 (bA1 : Option Addr) (bL1 : Nat) (bC1 : Nat) (h1 : Heap) (h2 : Heap) (was1 : Option Addr) (ok1 : Option Addr) (h8 : Heap) (K : Value → Heap → Prop) : Prop :=
  ∃ (q2 : Option Addr), cellOf h8 ⟨h1.size, 0, none⟩ = some (.pointer q2) ∧
  onSome q2 fun p2 =>
  ∃ (b1 : Bool), cellOf h8 (Addr.add p2 3) = some (.bool b1) ∧
  bif b1 then (
  K (.int .i64 61) h8) else (
  ∃ (n2 : Int), cellOf h8 ⟨h2.size, 0, none⟩ = some (.int .i64 n2) ∧
  bif (decide (n2 < 98)) then (
  K (.int .i64 31) h8) else (
  ∃ (n3 : Int), cellOf h8 ⟨h2.size, 0, none⟩ = some (.int .i64 n3) ∧
  ∃ (q3 : Option Addr), cellOf h8 ⟨h1.size, 0, none⟩ = some (.pointer q3) ∧
  onSome q3 fun p3 =>
  ∃ (q4 : Option Addr), cellOf h8 (Addr.add p3 0) = some (.pointer q4) ∧
  C.adisk_Disk_Blocks q4 h8 fun r1 h9 =>
  ∃ (n4 : Int), r1 = .int .i64 n4 ∧
  (cellOf h9 ⟨h2.size, 0, none⟩ = some (.int .i64 n3)) ∧
  bif (decide (n3 ≥ n4)) then (
  K (.int .i64 31) h9) else (
  bif ((bL1 : Int) != 512) then (
  K (.int .i64 32) h9) else (
  onSome ok1 fun p4 =>
  ∃ (b2 : Bool), cellOf h9 p4 = some (.bool b2) ∧
  bif (!b2) then (
  ∃ (q5 : Option Addr), cellOf h9 ⟨h1.size, 0, none⟩ = some (.pointer q5) ∧
  onSome q5 fun p5 =>
  ∃ (m2 : Option Nat), cellOf h9 (Addr.add p5 1) = some (.map m2) ∧
  MapIn (.int .i64) m2 h9 fun mm2 =>
  bif (decide ((List.length mm2 : Int) ≥ 96)) then (
  K (.int .i64 60) h9) else (
  ∃ (q6 : Option Addr), cellOf h9 ⟨h1.size, 0, none⟩ = some (.pointer q6) ∧
  ∃ (q7 : Option Addr), cellOf h9 ⟨h1.size, 0, none⟩ = some (.pointer q7) ∧
  onSome q7 fun p6 =>
  ∃ (sA2 : Option Addr) (sL2 : Nat) (sC2 : Nat), cellOf h9 (Addr.add p6 2) = some (.slice sA2 sL2 sC2) ∧
  New [.func (.func 157) #[] ⟨[.pointer ok1, .pointer was1, .pointer (some ⟨h1.size, 0, none⟩), .pointer (some ⟨h2.size, 0, none⟩)]⟩] 1 h9 fun h10 =>
  (cellOf h10 ⟨h1.size, 0, none⟩ = some (.pointer q6)) ∧
  (cellOf h10 ⟨h1.size, 0, none⟩ = some (.pointer q7)) ∧
  (cellOf h10 (Addr.add p6 2) = some (.slice sA2 sL2 sC2)) ∧
  ∃ new1 : List Value, List.length new1 = 1 * 1 ∧ SlCells h10 (some ⟨h9.size, 0, none⟩) new1 ∧ (∀ v ∈ new1, v.oneCell' = true) ∧
  AppendP ti1 1 sA2 sL2 sC2 1 new1 h10 fun sA3 sL3 sC3 h11 =>
  (cellOf h11 ⟨h1.size, 0, none⟩ = some (.pointer q6)) ∧
  onSome q6 fun p7 =>
  Put (Addr.add p7 2) (.slice sA3 sL3 sC3) h11 fun h12 =>
  ∃ (q8 : Option Addr), cellOf h12 ⟨h1.size, 0, none⟩ = some (.pointer q8) ∧
  onSome q8 fun p8 =>
  ∃ (m3 : Option Nat), cellOf h12 (Addr.add p8 1) = some (.map m3) ∧
  ∃ (n5 : Int), cellOf h12 ⟨h2.size, 0, none⟩ = some (.int .i64 n5) ∧
  C.slices_Clone_byte_byte bA1 bL1 bC1 h12 fun r2 h13 =>
  ∃ (sA4 : Option Addr) (sL4 : Nat) (sC4 : Nat), r2 = .slice sA4 sL4 sC4 ∧
  (cellOf h13 ⟨h1.size, 0, none⟩ = some (.pointer q8)) ∧
  (cellOf h13 (Addr.add p8 1) = some (.map m3)) ∧
  (cellOf h13 ⟨h2.size, 0, none⟩ = some (.int .i64 n5)) ∧
  onSome m3 fun r3 =>
  MapPut (.int .i64) r3 (.i n5) (.slice sA4 sL4 sC4) h13 fun h14 =>
  K (.int .i64 0) h14)) else (
  ∃ (q9 : Option Addr), cellOf h9 ⟨h1.size, 0, none⟩ = some (.pointer q9) ∧
  ∃ (q10 : Option Addr), cellOf h9 ⟨h1.size, 0, none⟩ = some (.pointer q10) ∧
  onSome q10 fun p9 =>
  ∃ (sA5 : Option Addr) (sL5 : Nat) (sC5 : Nat), cellOf h9 (Addr.add p9 2) = some (.slice sA5 sL5 sC5) ∧
  New [.func (.func 157) #[] ⟨[.pointer ok1, .pointer was1, .pointer (some ⟨h1.size, 0, none⟩), .pointer (some ⟨h2.size, 0, none⟩)]⟩] 1 h9 fun h15 =>
  (cellOf h15 ⟨h1.size, 0, none⟩ = some (.pointer q9)) ∧
  (cellOf h15 ⟨h1.size, 0, none⟩ = some (.pointer q10)) ∧
  (cellOf h15 (Addr.add p9 2) = some (.slice sA5 sL5 sC5)) ∧
  ∃ new2 : List Value, List.length new2 = 1 * 1 ∧ SlCells h15 (some ⟨h9.size, 0, none⟩) new2 ∧ (∀ v ∈ new2, v.oneCell' = true) ∧
  AppendP ti1 1 sA5 sL5 sC5 1 new2 h15 fun sA6 sL6 sC6 h16 =>
  (cellOf h16 ⟨h1.size, 0, none⟩ = some (.pointer q9)) ∧
  onSome q9 fun p10 =>
  Put (Addr.add p10 2) (.slice sA6 sL6 sC6) h16 fun h17 =>
  ∃ (q11 : Option Addr), cellOf h17 ⟨h1.size, 0, none⟩ = some (.pointer q11) ∧
  onSome q11 fun p11 =>
  ∃ (m4 : Option Nat), cellOf h17 (Addr.add p11 1) = some (.map m4) ∧
  ∃ (n6 : Int), cellOf h17 ⟨h2.size, 0, none⟩ = some (.int .i64 n6) ∧
  C.slices_Clone_byte_byte bA1 bL1 bC1 h17 fun r4 h18 =>
  ∃ (sA7 : Option Addr) (sL7 : Nat) (sC7 : Nat), r4 = .slice sA7 sL7 sC7 ∧
  (cellOf h18 ⟨h1.size, 0, none⟩ = some (.pointer q11)) ∧
  (cellOf h18 (Addr.add p11 1) = some (.map m4)) ∧
  (cellOf h18 ⟨h2.size, 0, none⟩ = some (.int .i64 n6)) ∧
  onSome m4 fun r5 =>
  MapPut (.int .i64) r5 (.i n6) (.slice sA7 sL7 sC7) h18 fun h19 =>
  K (.int .i64 0) h19)))))
def txn_Txn_Write (t1 : Option Addr) (i1 : Int) (bA1 : Option Addr) (bL1 : Nat) (bC1 : Nat) (K : Value → Heap → Prop) (h1 : Heap) : Prop :=
  New [.pointer t1] 57 h1 fun h2 =>
  New [.int .i64 i1] 3 h2 fun h3 =>
  ∃ (q1 : Option Addr), cellOf h3 ⟨h1.size, 0, none⟩ = some (.pointer q1) ∧
  onSome q1 fun p1 =>
  ∃ (m1 : Option Nat), cellOf h3 (Addr.add p1 1) = some (.map m1) ∧
  ∃ (n1 : Int), cellOf h3 ⟨h2.size, 0, none⟩ = some (.int .i64 n1) ∧
  (
  MapIn (.int .i64) m1 h3 fun mm1 =>
  ∃ (sA1 : Option Addr) (sL1 : Nat) (sC1 : Nat), Option.getD (mget mm1 (.i n1)) (zeroV ti37) = .slice sA1 sL1 sC1 ∧
  (
  New z37 37 h3 fun h4 =>
  (cellOf h4 ⟨h1.size, 0, none⟩ = some (.pointer q1)) ∧
  (cellOf h4 (Addr.add p1 1) = some (.map m1)) ∧
  (cellOf h4 ⟨h2.size, 0, none⟩ = some (.int .i64 n1)) ∧
  New z4 4 h4 fun h5 =>
  (cellOf h5 ⟨h1.size, 0, none⟩ = some (.pointer q1)) ∧
  (cellOf h5 (Addr.add p1 1) = some (.map m1)) ∧
  (cellOf h5 ⟨h2.size, 0, none⟩ = some (.int .i64 n1)) ∧
  Put ⟨h3.size, 0, none⟩ (.slice sA1 sL1 sC1) h5 fun h6 =>
  Put ⟨h4.size, 0, none⟩ (.bool (Option.isSome (mget mm1 (.i n1)))) h6 fun h7 =>
  txn_Txn_Write.k1 bA1 bL1 bC1 h1 h2 (some ⟨h3.size, 0, none⟩) (some ⟨h4.size, 0, none⟩) h7 K) ∧
  New z4 4 h3 fun h20 =>
  (cellOf h20 ⟨h1.size, 0, none⟩ = some (.pointer q1)) ∧
  (cellOf h20 (Addr.add p1 1) = some (.map m1)) ∧
  (cellOf h20 ⟨h2.size, 0, none⟩ = some (.int .i64 n1)) ∧
  New z37 37 h20 fun h21 =>
  (cellOf h21 ⟨h1.size, 0, none⟩ = some (.pointer q1)) ∧
  (cellOf h21 (Addr.add p1 1) = some (.map m1)) ∧
  (cellOf h21 ⟨h2.size, 0, none⟩ = some (.int .i64 n1)) ∧
  Put ⟨h20.size, 0, none⟩ (.slice sA1 sL1 sC1) h21 fun h22 =>
  Put ⟨h3.size, 0, none⟩ (.bool (Option.isSome (mget mm1 (.i n1)))) h22 fun h23 =>
  txn_Txn_Write.k1 bA1 bL1 bC1 h1 h2 (some ⟨h20.size, 0, none⟩) (some ⟨h3.size, 0, none⟩) h23 K) ∧
  (
  New z37 37 h3 fun h24 =>
  (cellOf h24 ⟨h1.size, 0, none⟩ = some (.pointer q1)) ∧
  (cellOf h24 (Addr.add p1 1) = some (.map m1)) ∧
  (cellOf h24 ⟨h2.size, 0, none⟩ = some (.int .i64 n1)) ∧
  (
  MapIn (.int .i64) m1 h24 fun mm3 =>
  ∃ (sA8 : Option Addr) (sL8 : Nat) (sC8 : Nat), Option.getD (mget mm3 (.i n1)) (zeroV ti37) = .slice sA8 sL8 sC8 ∧
  New z4 4 h24 fun h25 =>
  (cellOf h25 ⟨h1.size, 0, none⟩ = some (.pointer q1)) ∧
  (cellOf h25 (Addr.add p1 1) = some (.map m1)) ∧
  (cellOf h25 ⟨h2.size, 0, none⟩ = some (.int .i64 n1)) ∧
  Put ⟨h3.size, 0, none⟩ (.slice sA8 sL8 sC8) h25 fun h26 =>
  Put ⟨h24.size, 0, none⟩ (.bool (Option.isSome (mget mm3 (.i n1)))) h26 fun h27 =>
  txn_Txn_Write.k1 bA1 bL1 bC1 h1 h2 (some ⟨h3.size, 0, none⟩) (some ⟨h24.size, 0, none⟩) h27 K) ∧
  New z4 4 h24 fun h28 =>
  (cellOf h28 ⟨h1.size, 0, none⟩ = some (.pointer q1)) ∧
  (cellOf h28 (Addr.add p1 1) = some (.map m1)) ∧
  (cellOf h28 ⟨h2.size, 0, none⟩ = some (.int .i64 n1)) ∧
  MapIn (.int .i64) m1 h28 fun mm4 =>
  ∃ (sA9 : Option Addr) (sL9 : Nat) (sC9 : Nat), Option.getD (mget mm4 (.i n1)) (zeroV ti37) = .slice sA9 sL9 sC9 ∧
  Put ⟨h3.size, 0, none⟩ (.slice sA9 sL9 sC9) h28 fun h29 =>
  Put ⟨h24.size, 0, none⟩ (.bool (Option.isSome (mget mm4 (.i n1)))) h29 fun h30 =>
  txn_Txn_Write.k1 bA1 bL1 bC1 h1 h2 (some ⟨h3.size, 0, none⟩) (some ⟨h24.size, 0, none⟩) h30 K) ∧
  New z4 4 h3 fun h31 =>
  (cellOf h31 ⟨h1.size, 0, none⟩ = some (.pointer q1)) ∧
  (cellOf h31 (Addr.add p1 1) = some (.map m1)) ∧
  (cellOf h31 ⟨h2.size, 0, none⟩ = some (.int .i64 n1)) ∧
  (
  MapIn (.int .i64) m1 h31 fun mm5 =>
  ∃ (sA10 : Option Addr) (sL10 : Nat) (sC10 : Nat), Option.getD (mget mm5 (.i n1)) (zeroV ti37) = .slice sA10 sL10 sC10 ∧
  New z37 37 h31 fun h32 =>
  (cellOf h32 ⟨h1.size, 0, none⟩ = some (.pointer q1)) ∧
  (cellOf h32 (Addr.add p1 1) = some (.map m1)) ∧
  (cellOf h32 ⟨h2.size, 0, none⟩ = some (.int .i64 n1)) ∧
  Put ⟨h31.size, 0, none⟩ (.slice sA10 sL10 sC10) h32 fun h33 =>
  Put ⟨h3.size, 0, none⟩ (.bool (Option.isSome (mget mm5 (.i n1)))) h33 fun h34 =>
  txn_Txn_Write.k1 bA1 bL1 bC1 h1 h2 (some ⟨h31.size, 0, none⟩) (some ⟨h3.size, 0, none⟩) h34 K) ∧
  New z37 37 h31 fun h35 =>
  (cellOf h35 ⟨h1.size, 0, none⟩ = some (.pointer q1)) ∧
  (cellOf h35 (Addr.add p1 1) = some (.map m1)) ∧
  (cellOf h35 ⟨h2.size, 0, none⟩ = some (.int .i64 n1)) ∧
  MapIn (.int .i64) m1 h35 fun mm6 =>
  ∃ (sA11 : Option Addr) (sL11 : Nat) (sC11 : Nat), Option.getD (mget mm6 (.i n1)) (zeroV ti37) = .slice sA11 sL11 sC11 ∧
  Put ⟨h31.size, 0, none⟩ (.slice sA11 sL11 sC11) h35 fun h36 =>
  Put ⟨h3.size, 0, none⟩ (.bool (Option.isSome (mget mm6 (.i n1)))) h36 fun h37 =>
  txn_Txn_Write.k1 bA1 bL1 bC1 h1 h2 (some ⟨h31.size, 0, none⟩) (some ⟨h3.size, 0, none⟩) h37 K
def txn_Txn_Write.lo : Nat → List Nat × List (Nat × Ty) := fun n => match n with | _ => ([], [])
set_option maxRecDepth 100000 in
def txn_Txn_Write.od : Nat → Od := fun n => match n with | 1 => (.op 0 [] (.op 1 [] (.op 2 [] (.op 3 [] (.op 4 [] (.alt 5 [] (.op 6 [] (.op 7 [] (.op 8 [] (.alt 9 [0, 3, 4] (.op 10 [0, 3, 4] (.op 11 [] (.op 12 [] .nil))) (.op 10 [0, 3, 4] (.op 9 [0, 3, 4] (.op 11 [] (.op 12 [] .nil)))))))) (.alt 9 [0, 3, 4] (.alt 5 [] (.op 6 [] (.op 7 [] (.op 8 [] (.op 10 [0, 3, 4] (.op 11 [] (.op 12 [] .nil)))))) (.op 10 [0, 3, 4] (.op 5 [] (.op 6 [] (.op 7 [] (.op 8 [] (.op 11 [] (.op 12 [] .nil)))))))) (.op 10 [0, 3, 4] (.alt 5 [] (.op 6 [] (.op 7 [] (.op 8 [] (.op 9 [0, 3, 4] (.op 11 [] (.op 12 [] .nil)))))) (.op 9 [0, 3, 4] (.op 5 [] (.op 6 [] (.op 7 [] (.op 8 [] (.op 11 [] (.op 12 [] .nil)))))))))))))))) | 4 => (.op 0 [] (.op 1 [] (.op 2 [] (.op 3 [] (.op 4 [] (.op 5 [] (.op 6 [] (.op 7 [] (.op 8 [3] (.op 9 [] (.op 10 [] (.op 11 [] .nil)))))))))))) | 10 => (.op 0 [] (.op 1 [] (.op 2 [] (.op 3 [] (.op 4 [] (.op 5 [] (.op 6 [0, 1, 4] (.op 7 [0] (.op 8 [] (.op 9 [] (.op 10 [] .nil))))))))))) | 11 => (.op 0 [] (.op 1 [] (.op 2 [] (.op 3 [] (.op 4 [] (.op 5 [] (.op 6 [0, 3, 4] (.op 7 [] .nil)))))))) | _ => .nil
set_option maxRecDepth 100000 in
set_option maxRecDepth 100000 in
theorem txn_Txn_Write.ok {t1 : Option Addr} {i1 : Int} {bA1 : Option Addr} {bL1 : Nat} {bC1 : Nat} {K : Value → Heap → Prop} {h : Heap} (hx : txn_Txn_Write t1 i1 bA1 bL1 bC1 K h) : C.txn_Txn_Write t1 i1 bA1 bL1 bC1 h K :=
  fn_to (c := Tryz.f92.body.getD .skip) (cxOk txn_Txn_Write.lo txn_Txn_Write.od) Tryz.func92 (by kernel_rfl) (by kernel_rfl) (Eq.mpr (by kernel_rfl) hx)
def boleref06_Txn_Write.k2 (t1 : Option Addr) (i1 : Int) (bA1 : Option Addr) (bL1 : Nat) (h5 : Heap) (K : Value → Heap → Prop) : Prop :=
  onSome t1 fun p3 =>
  ∃ (sA2 : Option Addr) (sL2 : Nat) (sC2 : Nat), cellOf h5 (Addr.add p3 1) = some (.slice sA2 sL2 sC2) ∧
  ∃ bs1 : List UInt8, StrAt h5 bA1 bL1 bs1 ∧
  List.length ([.int .i64 i1, .string (mkStr bs1)] : List Value) = 2 ∧
  New [.int .i64 i1, .string (mkStr bs1)] 190 h5 fun h6 =>
  (cellOf h6 (Addr.add p3 1) = some (.slice sA2 sL2 sC2)) ∧
  ∃ new1 : List Value, List.length new1 = 1 * 2 ∧ SlCells h6 (some ⟨h5.size, 0, none⟩) new1 ∧ (∀ v ∈ new1, v.oneCell' = true) ∧
  AppendP ti190 190 sA2 sL2 sC2 1 new1 h6 fun sA3 sL3 sC3 h7 =>
  onSome t1 fun p4 =>
  Put (Addr.add p4 1) (.slice sA3 sL3 sC3) h7 fun h8 =>
  K (.int .i64 0) h8
def boleref06_Txn_Write.k1 (t1 : Option Addr) (i1 : Int) (bA1 : Option Addr) (bL1 : Nat) (h3 : Heap) (K : Value → Heap → Prop) : Prop :=
  bif ((bL1 : Int) != 512) then (
  K (.int .i64 32) h3) else (
  C.boleref06_Txn_put t1 i1 h3 fun r2 h4 =>
  ∃ (n2 : Int), r2 = .int .i64 n2 ∧
  C.boleref06_Txn_Written t1 h4 fun r3 h5 =>
  ∃ (sA1 : Option Addr) (sL1 : Nat) (sC1 : Nat), r3 = .slice sA1 sL1 sC1 ∧
  bif (decide (n2 < 0)) then (
  bif (decide ((sL1 : Int) ≥ 96)) then (
  K (.int .i64 60) h5) else (
  boleref06_Txn_Write.k2 t1 i1 bA1 bL1 h5 K)) else (
  boleref06_Txn_Write.k2 t1 i1 bA1 bL1 h5 K))
def boleref06_Txn_Write (t1 : Option Addr) (i1 : Int) (bA1 : Option Addr) (bL1 : Nat) (bC1 : Nat) (K : Value → Heap → Prop) (h1 : Heap) : Prop :=
  onSome t1 fun p1 =>
  ∃ (b1 : Bool), cellOf h1 (Addr.add p1 2) = some (.bool b1) ∧
  bif b1 then (
  K (.int .i64 61) h1) else (
  bif (decide (i1 < 98)) then (
  K (.int .i64 31) h1) else (
  onSome t1 fun p2 =>
  ∃ (q1 : Option Addr), cellOf h1 (Addr.add p2 0) = some (.pointer q1) ∧
  C.boleref03_Disk_Blocks q1 h1 fun r1 h2 =>
  ∃ (n1 : Int), r1 = .int .i64 n1 ∧
  bif (decide (i1 ≥ n1)) then (
  K (.int .i64 31) h2) else (
  boleref06_Txn_Write.k1 t1 i1 bA1 bL1 h2 K)))
def boleref06_Txn_Write.lo : Nat → List Nat × List (Nat × Ty) := fun n => match n with | _ => ([], [])
def boleref06_Txn_Write.od : Nat → Od := fun n => match n with | 11 => (.op 0 [] (.op 1 [] (.op 2 [] (.op 3 [] (.op 4 [] (.op 5 [] (.op 6 [] (.op 7 [] (.op 8 [] (.op 9 [4] (.op 10 [] (.op 11 [] (.op 12 [] (.op 13 [] .nil)))))))))))))) | _ => .nil
theorem boleref06_Txn_Write.ok {t1 : Option Addr} {i1 : Int} {bA1 : Option Addr} {bL1 : Nat} {bC1 : Nat} {K : Value → Heap → Prop} {h : Heap} (hx : boleref06_Txn_Write t1 i1 bA1 bL1 bC1 K h) : C.boleref06_Txn_Write t1 i1 bA1 bL1 bC1 h K :=
  fn_to (c := Tryz.f94.body.getD .skip) (cxOk boleref06_Txn_Write.lo boleref06_Txn_Write.od) Tryz.func94 (by kernel_rfl) (by kernel_rfl) (Eq.mpr (by kernel_rfl) hx)
end Go.Proofs.YtjdcbblgaoogmaaGreatDoor.W
namespace Go.Proofs.YtjdcbblgaoogmaaGreatDoor.W
open Go Go.Proofs Wx
def wal_may (lA1 : Option Addr) (lL1 : Nat) (lC1 : Nat) (n1 : Int) (K : Value → Heap → Prop) (h1 : Heap) : Prop :=
  ∃ (I1 : Int → Int → Heap → Prop) (M1 : Int → Int → Heap → Nat), I1 97 0 h1 ∧
  ∀ (last1 : Int) (n2 : Int), ∀ h2 : Heap, I1 last1 n2 h2 →
  bif (decide (n2 < (lL1 : Int))) then (
  (0 ≤ n2 ∧ n2 < (lL1 : Int)) ∧
  onSome lA1 fun p1 =>
  ∃ cs1 : List Value, List.length cs1 = 2 ∧ Cells h2 (Addr.add p1 ((Int.toNat n2) * 2)) cs1 ∧
  NewRow z103 103 cs1 2 h2 fun h4 =>
  ∃ (n3 : Int), cellOf h4 (Addr.add ⟨h2.size, 0, none⟩ 0) = some (.int .i64 n3) ∧
  bif (decide (n3 ≤ last1)) then (
  K (.bool false) h4) else (
  ∃ (n4 : Int), cellOf h4 (Addr.add ⟨h2.size, 0, none⟩ 0) = some (.int .i64 n4) ∧
  bif (decide (n4 ≥ n1)) then (
  K (.bool false) h4) else (
  ∃ (n5 : Int), cellOf h4 (Addr.add ⟨h2.size, 0, none⟩ 0) = some (.int .i64 n5) ∧
  I1 n5 (IntKind.wrap .i64 (n2 + 1)) h4 ∧ M1 n5 (IntKind.wrap .i64 (n2 + 1)) h4 < M1 last1 n2 h2))) else (
  K (.bool (decide ((lL1 : Int) ≤ 96))) h2)
def wal_may.lo : Nat → List Nat × List (Nat × Ty) := fun n => match n with | 3 => ([0, 1, 8, 9], [(5, .int .i64), (10, .int .i64)]) | _ => ([], [])
def wal_may.od : Nat → Od := fun n => match n with | _ => .nil
theorem wal_may.ok {lA1 : Option Addr} {lL1 : Nat} {lC1 : Nat} {n1 : Int} {K : Value → Heap → Prop} {h : Heap} (hx : wal_may lA1 lL1 lC1 n1 K h) : C.wal_may lA1 lL1 lC1 n1 h K :=
  fn_to (c := Tryz.f107.body.getD .skip) (cxOk wal_may.lo wal_may.od) Tryz.func107 (by kernel_rfl) (by kernel_rfl) (Eq.mpr (by kernel_rfl) hx)
def adisk_Disk_Blocks (d1 : Option Addr) (K : Value → Heap → Prop) (h1 : Heap) : Prop :=
  onSome d1 fun p1 =>
  ∃ (sA1 : Option Addr) (sL1 : Nat) (sC1 : Nat), cellOf h1 (Addr.add p1 0) = some (.slice sA1 sL1 sC1) ∧
  K (.int .i64 (sL1 : Int)) h1
def adisk_Disk_Blocks.lo : Nat → List Nat × List (Nat × Ty) := fun n => match n with | _ => ([], [])
def adisk_Disk_Blocks.od : Nat → Od := fun n => match n with | _ => .nil
theorem adisk_Disk_Blocks.ok {d1 : Option Addr} {K : Value → Heap → Prop} {h : Heap} (hx : adisk_Disk_Blocks d1 K h) : C.adisk_Disk_Blocks d1 h K :=
  fn_to (c := Tryz.f108.body.getD .skip) (cxOk adisk_Disk_Blocks.lo adisk_Disk_Blocks.od) Tryz.func108 (by kernel_rfl) (by kernel_rfl) (Eq.mpr (by kernel_rfl) hx)
def head_Make (numsA1 : Option Addr) (numsL1 : Nat) (numsC1 : Nat) (dataA1 : Option Addr) (dataL1 : Nat) (dataC1 : Nat) (K : Value → Heap → Prop) (h1 : Heap) : Prop :=
  C.head_may numsA1 numsL1 numsC1 16384 h1 fun r1 h2 =>
  ∃ (b1 : Bool), r1 = .bool b1 ∧
  bif (!b1) then (
  K (.tuple #[.slice none 0 0, .int .i64 40]) h2) else (
  C.head_areBlocks dataA1 dataL1 dataC1 (numsL1 : Int) h2 fun r2 h3 =>
  ∃ (b2 : Bool), r2 = .bool b2 ∧
  bif (!b2) then (
  K (.tuple #[.slice none 0 0, .int .i64 32]) h3) else (
  C.head_Empty  h3 fun r3 h4 =>
  ∃ (sA1 : Option Addr) (sL1 : Nat) (sC1 : Nat), r3 = .slice sA1 sL1 sC1 ∧
  C.rec_PutText sA1 sL1 sC1 0 8 (mkStr [66, 79, 76, 69, 76, 79, 71, 49]) h4 fun r4 h5 =>
  ∃ (n1 : Int), r4 = .int .i64 n1 ∧
  C.rec_Put sA1 sL1 sC1 8 2 (IntKind.wrap .u64 ((numsL1 : Int))) h5 fun r5 h6 =>
  ∃ (n2 : Int), r5 = .int .i64 n2 ∧
  ∃ (I1 : Int → Heap → Prop) (M1 : Int → Heap → Nat), I1 0 h6 ∧
  ∀ (n3 : Int), ∀ h7 : Heap, I1 n3 h7 →
  bif (decide (n3 < (numsL1 : Int))) then (
  (0 ≤ n3 ∧ n3 < (numsL1 : Int)) ∧
  onSome numsA1 fun p1 =>
  ∃ (n4 : Int), cellOf h7 (Addr.add p1 (Int.toNat n3)) = some (.int .i64 n4) ∧
  C.rec_Put sA1 sL1 sC1 (IntKind.wrap .i64 (16 + (IntKind.wrap .i64 (4 * n3)))) 4 (IntKind.wrap .u64 (n4)) h7 fun r6 h8 =>
  ∃ (n5 : Int), r6 = .int .i64 n5 ∧
  I1 (IntKind.wrap .i64 (n3 + 1)) h8 ∧ M1 (IntKind.wrap .i64 (n3 + 1)) h8 < M1 n3 h7) else (
  C.head_sumOf sA1 sL1 sC1 dataA1 dataL1 dataC1 h7 fun r7 h9 =>
  ∃ (n6 : Int), r7 = .int .u32 n6 ∧
  C.rec_Put sA1 sL1 sC1 12 4 (IntKind.wrap .u64 (n6)) h9 fun r8 h10 =>
  ∃ (n7 : Int), r8 = .int .i64 n7 ∧
  K (.tuple #[.slice sA1 sL1 sC1, .int .i64 0]) h10)))
def head_Make.lo : Nat → List Nat × List (Nat × Ty) := fun n => match n with | 9 => ([1, 6, 27, 28], [(29, .int .i64)]) | _ => ([], [])
def head_Make.od : Nat → Od := fun n => match n with | _ => .nil
set_option maxRecDepth 1000000 in
set_option maxRecDepth 1000000 in
theorem head_Make.ok {numsA1 : Option Addr} {numsL1 : Nat} {numsC1 : Nat} {dataA1 : Option Addr} {dataL1 : Nat} {dataC1 : Nat} {K : Value → Heap → Prop} {h : Heap} (hx : head_Make numsA1 numsL1 numsC1 dataA1 dataL1 dataC1 K h) : C.head_Make numsA1 numsL1 numsC1 dataA1 dataL1 dataC1 h K :=
  fn_to (c := Tryz.f109.body.getD .skip) (cxOk head_Make.lo head_Make.od) Tryz.func109 (by kernel_rfl) (by kernel_rfl) (Eq.mpr (by kernel_rfl) hx)
def wal_steps_write (s1 : Option Addr) (i1 : Int) (bA1 : Option Addr) (bL1 : Nat) (bC1 : Nat) (K : Value → Heap → Prop) (h1 : Heap) : Prop :=
  New [.int .i64 i1] 3 h1 fun h2 =>
  New [.slice bA1 bL1 bC1] 37 h2 fun h3 =>
  onSome s1 fun p1 =>
  ∃ (sA1 : Option Addr) (sL1 : Nat) (sC1 : Nat), cellOf h3 p1 = some (.slice sA1 sL1 sC1) ∧
  New [.func (.func 181) #[] ⟨[.pointer (some ⟨h1.size, 0, none⟩), .pointer (some ⟨h2.size, 0, none⟩)]⟩] 172 h3 fun h4 =>
  ∃ new1 : List Value, List.length new1 = 1 * 1 ∧ SlCells h4 (some ⟨h3.size, 0, none⟩) new1 ∧ (∀ v ∈ new1, v.oneCell' = true) ∧
  AppendP ti172 172 sA1 sL1 sC1 1 new1 h4 fun sA2 sL2 sC2 h5 =>
  onSome s1 fun p2 =>
  Put p2 (.slice sA2 sL2 sC2) h5 fun h6 =>
  K (.tuple #[]) h6
def wal_steps_write.lo : Nat → List Nat × List (Nat × Ty) := fun n => match n with | _ => ([], [])
def wal_steps_write.od : Nat → Od := fun n => match n with | _ => .nil
theorem wal_steps_write.ok {s1 : Option Addr} {i1 : Int} {bA1 : Option Addr} {bL1 : Nat} {bC1 : Nat} {K : Value → Heap → Prop} {h : Heap} (hx : wal_steps_write s1 i1 bA1 bL1 bC1 K h) : C.wal_steps_write s1 i1 bA1 bL1 bC1 h K :=
  fn_to (c := Tryz.f110.body.getD .skip) (cxOk wal_steps_write.lo wal_steps_write.od) Tryz.func110 (by kernel_rfl) (by kernel_rfl) (Eq.mpr (by kernel_rfl) hx)
def wal_steps_flush (s1 : Option Addr) (K : Value → Heap → Prop) (h1 : Heap) : Prop :=
  onSome s1 fun p1 =>
  ∃ (sA1 : Option Addr) (sL1 : Nat) (sC1 : Nat), cellOf h1 p1 = some (.slice sA1 sL1 sC1) ∧
  New [.func (.func 182) #[] ⟨[]⟩] 172 h1 fun h2 =>
  ∃ new1 : List Value, List.length new1 = 1 * 1 ∧ SlCells h2 (some ⟨h1.size, 0, none⟩) new1 ∧ (∀ v ∈ new1, v.oneCell' = true) ∧
  AppendP ti172 172 sA1 sL1 sC1 1 new1 h2 fun sA2 sL2 sC2 h3 =>
  onSome s1 fun p2 =>
  Put p2 (.slice sA2 sL2 sC2) h3 fun h4 =>
  K (.tuple #[]) h4
def wal_steps_flush.lo : Nat → List Nat × List (Nat × Ty) := fun n => match n with | _ => ([], [])
def wal_steps_flush.od : Nat → Od := fun n => match n with | _ => .nil
theorem wal_steps_flush.ok {s1 : Option Addr} {K : Value → Heap → Prop} {h : Heap} (hx : wal_steps_flush s1 K h) : C.wal_steps_flush s1 h K :=
  fn_to (c := Tryz.f111.body.getD .skip) (cxOk wal_steps_flush.lo wal_steps_flush.od) Tryz.func111 (by kernel_rfl) (by kernel_rfl) (Eq.mpr (by kernel_rfl) hx)
def wal_steps_home (s1 : Option Addr) (lA1 : Option Addr) (lL1 : Nat) (lC1 : Nat) (K : Value → Heap → Prop) (h1 : Heap) : Prop :=
  ∃ (I1 : Int → Heap → Prop) (M1 : Int → Heap → Nat), I1 0 h1 ∧
  ∀ (n1 : Int), ∀ h2 : Heap, I1 n1 h2 →
  bif (decide (n1 < (lL1 : Int))) then (
  (0 ≤ n1 ∧ n1 < (lL1 : Int)) ∧
  onSome lA1 fun p1 =>
  ∃ cs1 : List Value, List.length cs1 = 2 ∧ Cells h2 (Addr.add p1 ((Int.toNat n1) * 2)) cs1 ∧
  NewRow z103 103 cs1 2 h2 fun h4 =>
  ∃ (n2 : Int), cellOf h4 (Addr.add ⟨h2.size, 0, none⟩ 0) = some (.int .i64 n2) ∧
  ∃ (sA1 : Option Addr) (sL1 : Nat) (sC1 : Nat), cellOf h4 (Addr.add ⟨h2.size, 0, none⟩ 1) = some (.slice sA1 sL1 sC1) ∧
  C.wal_steps_write s1 n2 sA1 sL1 sC1 h4 fun r1 h5 =>
  r1 = .tuple #[] ∧
  I1 (IntKind.wrap .i64 (n1 + 1)) h5 ∧ M1 (IntKind.wrap .i64 (n1 + 1)) h5 < M1 n1 h2) else (
  C.wal_steps_flush s1 h2 fun r2 h6 =>
  r2 = .tuple #[] ∧
  C.head_Empty  h6 fun r3 h7 =>
  ∃ (sA2 : Option Addr) (sL2 : Nat) (sC2 : Nat), r3 = .slice sA2 sL2 sC2 ∧
  C.wal_steps_write s1 1 sA2 sL2 sC2 h7 fun r4 h8 =>
  r4 = .tuple #[] ∧
  C.wal_steps_flush s1 h8 fun r5 h9 =>
  r5 = .tuple #[] ∧
  K (.tuple #[]) h9)
def wal_steps_home.lo : Nat → List Nat × List (Nat × Ty) := fun n => match n with | 1 => ([0, 6, 7], [(8, .int .i64)]) | _ => ([], [])
def wal_steps_home.od : Nat → Od := fun n => match n with | _ => .nil
theorem wal_steps_home.ok {s1 : Option Addr} {lA1 : Option Addr} {lL1 : Nat} {lC1 : Nat} {K : Value → Heap → Prop} {h : Heap} (hx : wal_steps_home s1 lA1 lL1 lC1 K h) : C.wal_steps_home s1 lA1 lL1 lC1 h K :=
  fn_to (c := Tryz.f112.body.getD .skip) (cxOk wal_steps_home.lo wal_steps_home.od) Tryz.func112 (by kernel_rfl) (by kernel_rfl) (Eq.mpr (by kernel_rfl) hx)
def wal_steps_do (sA1 : Option Addr) (sL1 : Nat) (sC1 : Nat) (d1 : Option Addr) (K : Value → Heap → Prop) (h1 : Heap) : Prop :=
  ∃ (I1 : Int → Heap → Prop) (M1 : Int → Heap → Nat), I1 0 h1 ∧
  ∀ (n1 : Int), ∀ h2 : Heap, I1 n1 h2 →
  bif (decide (n1 < (sL1 : Int))) then (
  (0 ≤ n1 ∧ n1 < (sL1 : Int)) ∧
  onSome sA1 fun p1 =>
  ∃ (v1 : Value), cellOf h2 (Addr.add p1 (Int.toNat n1)) = some (v1) ∧
  HCallsV Tryz.prog v1 [.pointer d1] h2 fun r1 h3 =>
  ∃ (n2 : Int), r1 = .int .i64 n2 ∧
  bif (n2 != 0) then (
  K (.int .i64 n2) h3) else (
  I1 (IntKind.wrap .i64 (n1 + 1)) h3 ∧ M1 (IntKind.wrap .i64 (n1 + 1)) h3 < M1 n1 h2)) else (
  K (.int .i64 0) h2)
def wal_steps_do.lo : Nat → List Nat × List (Nat × Ty) := fun n => match n with | 2 => ([1, 8, 9], [(10, .int .i64)]) | _ => ([], [])
def wal_steps_do.od : Nat → Od := fun n => match n with | _ => .nil
theorem wal_steps_do.ok {sA1 : Option Addr} {sL1 : Nat} {sC1 : Nat} {d1 : Option Addr} {K : Value → Heap → Prop} {h : Heap} (hx : wal_steps_do sA1 sL1 sC1 d1 K h) : C.wal_steps_do sA1 sL1 sC1 d1 h K :=
  fn_to (c := Tryz.f113.body.getD .skip) (cxOk wal_steps_do.lo wal_steps_do.od) Tryz.func113 (by kernel_rfl) (by kernel_rfl) (Eq.mpr (by kernel_rfl) hx)
def adisk_Disk_has (d1 : Option Addr) (i1 : Int) (K : Value → Heap → Prop) (h1 : Heap) : Prop :=
  bif (decide (i1 ≥ 0)) then (
  onSome d1 fun p1 =>
  ∃ (sA1 : Option Addr) (sL1 : Nat) (sC1 : Nat), cellOf h1 (Addr.add p1 0) = some (.slice sA1 sL1 sC1) ∧
  K (.bool (decide (i1 < (sL1 : Int)))) h1) else (
  K (.bool false) h1)
def adisk_Disk_has.lo : Nat → List Nat × List (Nat × Ty) := fun n => match n with | _ => ([], [])
def adisk_Disk_has.od : Nat → Od := fun n => match n with | _ => .nil
theorem adisk_Disk_has.ok {d1 : Option Addr} {i1 : Int} {K : Value → Heap → Prop} {h : Heap} (hx : adisk_Disk_has d1 i1 K h) : C.adisk_Disk_has d1 i1 h K :=
  fn_to (c := Tryz.f114.body.getD .skip) (cxOk adisk_Disk_has.lo adisk_Disk_has.od) Tryz.func114 (by kernel_rfl) (by kernel_rfl) (Eq.mpr (by kernel_rfl) hx)
def wal_held (d1 : Option Addr) (K KP : Value → Heap → Prop) (h1 : Heap) : Prop :=
  C.adisk_Disk_Down d1 h1 fun r1 h2 =>
  ∃ (b1 : Bool), r1 = .bool b1 ∧
  C.wal_must (!b1) 30 h2 (fun r2 h3 =>
  r2 = .tuple #[] ∧
  C.adisk_Disk_Blocks d1 h3 fun r3 h4 =>
  ∃ (n1 : Int), r3 = .int .i64 n1 ∧
  C.wal_must (decide (n1 ≥ 98)) 31 h4 (fun r4 h5 =>
  r4 = .tuple #[] ∧
  C.wal_read d1 1 h5 (fun r5 h6 =>
  ∃ (sA1 : Option Addr) (sL1 : Nat) (sC1 : Nat), r5 = .slice sA1 sL1 sC1 ∧
  C.adisk_Disk_Blocks d1 h6 fun r6 h7 =>
  ∃ (n2 : Int), r6 = .int .i64 n2 ∧
  C.head_Nums sA1 sL1 sC1 n2 h7 fun r7 h8 =>
  ∃ (sA2 : Option Addr) (sL2 : Nat) (sC2 : Nat) (n3 : Int), r7 = .tuple #[.slice sA2 sL2 sC2, .int .i64 n3] ∧
  C.wal_must (n3 == 0) 41 h8 (fun r8 h9 =>
  r8 = .tuple #[] ∧
  ∃ (I1 : Option Addr → Nat → Nat → Option Addr → Nat → Nat → Int → Heap → Prop) (M1 : Option Addr → Nat → Nat → Option Addr → Nat → Nat → Int → Heap → Nat), I1 none 0 0 none 0 0 0 h9 ∧
  ∀ (lA1 : Option Addr) (lL1 : Nat) (lC1 : Nat) (dataA1 : Option Addr) (dataL1 : Nat) (dataC1 : Nat) (n4 : Int), ∀ h10 : Heap, I1 lA1 lL1 lC1 dataA1 dataL1 dataC1 n4 h10 →
  bif (decide (n4 < (sL2 : Int))) then (
  (0 ≤ n4 ∧ n4 < (sL2 : Int)) ∧
  onSome sA2 fun p1 =>
  ∃ (n5 : Int), cellOf h10 (Addr.add p1 (Int.toNat n4)) = some (.int .i64 n5) ∧
  C.wal_read d1 (IntKind.wrap .i64 (2 + n4)) h10 (fun r9 h11 =>
  ∃ (sA3 : Option Addr) (sL3 : Nat) (sC3 : Nat), r9 = .slice sA3 sL3 sC3 ∧
  List.length ([.int .i64 n5, .slice sA3 sL3 sC3] : List Value) = 2 ∧
  New [.int .i64 n5, .slice sA3 sL3 sC3] 103 h11 fun h12 =>
  ∃ new1 : List Value, List.length new1 = 1 * 2 ∧ SlCells h12 (some ⟨h11.size, 0, none⟩) new1 ∧ (∀ v ∈ new1, v.oneCell' = true) ∧
  AppendP ti103 103 lA1 lL1 lC1 1 new1 h12 fun sA4 sL4 sC4 h13 =>
  New [.slice sA3 sL3 sC3] 37 h13 fun h14 =>
  ∃ new2 : List Value, List.length new2 = 1 * 1 ∧ SlCells h14 (some ⟨h13.size, 0, none⟩) new2 ∧ (∀ v ∈ new2, v.oneCell' = true) ∧
  AppendP ti37 37 dataA1 dataL1 dataC1 1 new2 h14 fun sA5 sL5 sC5 h15 =>
  I1 sA4 sL4 sC4 sA5 sL5 sC5 (IntKind.wrap .i64 (n4 + 1)) h15 ∧ M1 sA4 sL4 sC4 sA5 sL5 sC5 (IntKind.wrap .i64 (n4 + 1)) h15 < M1 lA1 lL1 lC1 dataA1 dataL1 dataC1 n4 h10) (fun x1 h16 =>
  KP x1 h16)) else (
  bif ((sL2 : Int) == 0) then (
  C.wal_must true 41 h10 (fun r10 h17 =>
  r10 = .tuple #[] ∧
  K (.slice lA1 lL1 lC1) h17) (fun x2 h18 =>
  KP x2 h18)) else (
  C.adisk_Disk_Blocks d1 h10 fun r11 h19 =>
  ∃ (n6 : Int), r11 = .int .i64 n6 ∧
  C.head_Good sA1 sL1 sC1 n6 dataA1 dataL1 dataC1 h19 fun r12 h20 =>
  ∃ (b2 : Bool), r12 = .bool b2 ∧
  C.wal_must b2 41 h20 (fun r13 h21 =>
  r13 = .tuple #[] ∧
  K (.slice lA1 lL1 lC1) h21) (fun x3 h22 =>
  KP x3 h22)))) (fun x4 h23 =>
  KP x4 h23)) (fun x5 h24 =>
  KP x5 h24)) (fun x6 h25 =>
  KP x6 h25)) (fun x7 h26 =>
  KP x7 h26)
def wal_held.lo : Nat → List Nat × List (Nat × Ty) := fun n => match n with | 9 => ([0, 2, 3, 4, 31, 32], [(6, .slice), (7, .slice), (33, .int .i64)]) | _ => ([], [])
def wal_held.od : Nat → Od := fun n => match n with | _ => .nil
theorem wal_held.eq (d1 : Option Addr) (K KP : Value → Heap → Prop) (h : Heap) : fnPX (cx wal_held.lo wal_held.od) Tryz.f117 (Tryz.f117.body.getD .skip) [.pointer d1] K KP h = wal_held d1 K KP h := by kernel_rfl
theorem wal_held.chk : fnOk (cx wal_held.lo wal_held.od) Tryz.f117 (Tryz.f117.body.getD .skip) 1 = true := by kernel_rfl
theorem wal_held.ok {d1 : Option Addr} {K KP : Value → Heap → Prop} {h : Heap} (hx : wal_held d1 K KP h) : C.wal_held d1 h K KP :=
  fnP_to (cxOk _ _) Tryz.func117 (by kernel_rfl) wal_held.chk (by rw [wal_held.eq]; exact hx)
def wal_read (d1 : Option Addr) (i1 : Int) (K KP : Value → Heap → Prop) (h1 : Heap) : Prop :=
  C.adisk_Disk_Read d1 i1 h1 fun r1 h2 =>
  ∃ (sA1 : Option Addr) (sL1 : Nat) (sC1 : Nat) (n1 : Int), r1 = .tuple #[.slice sA1 sL1 sC1, .int .i64 n1] ∧
  C.wal_must (n1 == 0) n1 h2 (fun r2 h3 =>
  r2 = .tuple #[] ∧
  K (.slice sA1 sL1 sC1) h3) (fun x1 h4 =>
  KP x1 h4)
def wal_read.lo : Nat → List Nat × List (Nat × Ty) := fun n => match n with | _ => ([], [])
def wal_read.od : Nat → Od := fun n => match n with | _ => .nil
theorem wal_read.eq (d1 : Option Addr) (i1 : Int) (K KP : Value → Heap → Prop) (h : Heap) : fnPX (cx wal_read.lo wal_read.od) Tryz.f119 (Tryz.f119.body.getD .skip) [.pointer d1, .int .i64 i1] K KP h = wal_read d1 i1 K KP h := by kernel_rfl
theorem wal_read.chk : fnOk (cx wal_read.lo wal_read.od) Tryz.f119 (Tryz.f119.body.getD .skip) 2 = true := by kernel_rfl
theorem wal_read.ok {d1 : Option Addr} {i1 : Int} {K KP : Value → Heap → Prop} {h : Heap} (hx : wal_read d1 i1 K KP h) : C.wal_read d1 i1 h K KP :=
  fnP_to (cxOk _ _) Tryz.func119 (by kernel_rfl) wal_read.chk (by rw [wal_read.eq]; exact hx)
def head_Empty  (K : Value → Heap → Prop) (h1 : Heap) : Prop :=
  (0 ≤ (512 : Int) ∧ (512 : Int) ≤ 512 ∧ (1 : Int) * 512 ≤ 281474976710656 ∧ (512 : Int) ≤ 281474976710656) ∧
  New (repCells z5 (Int.toNat 512)) 5 h1 fun h2 =>
  K (.slice (some ⟨h1.size, 0, none⟩) (Int.toNat 512) (Int.toNat 512)) h2
def head_Empty.lo : Nat → List Nat × List (Nat × Ty) := fun n => match n with | _ => ([], [])
def head_Empty.od : Nat → Od := fun n => match n with | _ => .nil
theorem head_Empty.ok  {K : Value → Heap → Prop} {h : Heap} (hx : head_Empty  K h) : C.head_Empty  h K :=
  fn_to (c := Tryz.f120.body.getD .skip) (cxOk head_Empty.lo head_Empty.od) Tryz.func120 (by kernel_rfl) (by kernel_rfl) (Eq.mpr (by kernel_rfl) hx)
def boleref03_Disk_Blocks (d1 : Option Addr) (K : Value → Heap → Prop) (h1 : Heap) : Prop :=
  onSome d1 fun p1 =>
  ∃ (sA1 : Option Addr) (sL1 : Nat) (sC1 : Nat), cellOf h1 (Addr.add p1 0) = some (.slice sA1 sL1 sC1) ∧
  K (.int .i64 (IntKind.wrap .i64 (Int.tdiv (sL1 : Int) 512))) h1
def boleref03_Disk_Blocks.lo : Nat → List Nat × List (Nat × Ty) := fun n => match n with | _ => ([], [])
def boleref03_Disk_Blocks.od : Nat → Od := fun n => match n with | _ => .nil
theorem boleref03_Disk_Blocks.ok {d1 : Option Addr} {K : Value → Heap → Prop} {h : Heap} (hx : boleref03_Disk_Blocks d1 K h) : C.boleref03_Disk_Blocks d1 h K :=
  fn_to (c := Tryz.f121.body.getD .skip) (cxOk boleref03_Disk_Blocks.lo boleref03_Disk_Blocks.od) Tryz.func121 (by kernel_rfl) (by kernel_rfl) (Eq.mpr (by kernel_rfl) hx)
end Go.Proofs.YtjdcbblgaoogmaaGreatDoor.W
namespace Go.Proofs.YtjdcbblgaoogmaaGreatDoor.W
open Go Go.Proofs Wx
def boleref03_fault (blocks1 : Int) (a1 : List Value) (K : Value → Heap → Prop) (h1 : Heap) : Prop :=
  New a1 122 h1 fun h2 =>
  ∃ (n1 : Int), cellOf h2 (Addr.add ⟨h1.size, 0, none⟩ 0) = some (.int .i64 n1) ∧
  bif (n1 == 2) then (
  K (.int .i64 0) h2) else (
  bif (n1 == 1) then (
  ∃ (n2 : Int), cellOf h2 (Addr.add ⟨h1.size, 0, none⟩ 1) = some (.int .i64 n2) ∧
  bif (decide (n2 < 0)) then (
  K (.int .i64 31) h2) else (
  ∃ (n3 : Int), cellOf h2 (Addr.add ⟨h1.size, 0, none⟩ 1) = some (.int .i64 n3) ∧
  bif (decide (n3 ≥ blocks1)) then (
  K (.int .i64 31) h2) else (
  ∃ (sA1 : Option Addr) (sL1 : Nat) (sC1 : Nat), cellOf h2 (Addr.add ⟨h1.size, 0, none⟩ 2) = some (.slice sA1 sL1 sC1) ∧
  bif ((sL1 : Int) != 512) then (
  K (.int .i64 32) h2) else (
  K (.int .i64 0) h2)))) else (
  K (.int .i64 1) h2))
def boleref03_fault.lo : Nat → List Nat × List (Nat × Ty) := fun n => match n with | _ => ([], [])
def boleref03_fault.od : Nat → Od := fun n => match n with | _ => .nil
theorem boleref03_fault.ok {blocks1 : Int} {a1 : List Value} {K : Value → Heap → Prop} {h : Heap} (hx : boleref03_fault blocks1 a1 K h) : C.boleref03_fault blocks1 a1 h K :=
  fn_to (c := Tryz.f128.body.getD .skip) (cxOk boleref03_fault.lo boleref03_fault.od) Tryz.func128 (by kernel_rfl) (by kernel_rfl) (Eq.mpr (by kernel_rfl) hx)
def boleref03_Disk_goes (d1 : Option Addr) (K : Value → Heap → Prop) (h1 : Heap) : Prop :=
  onSome d1 fun p1 =>
  ∃ (n1 : Int), cellOf h1 (Addr.add p1 3) = some (.int .i64 n1) ∧
  bif (n1 == 0) then (
  K (.bool false) h1) else (
  onSome d1 fun p2 =>
  ∃ (n2 : Int), cellOf h1 (Addr.add p2 3) = some (.int .i64 n2) ∧
  onSome d1 fun p3 =>
  Put (Addr.add p3 3) (.int .i64 (IntKind.wrap .i64 (n2 - 1))) h1 fun h2 =>
  onSome d1 fun p4 =>
  ∃ (n3 : Int), cellOf h2 (Addr.add p4 3) = some (.int .i64 n3) ∧
  onSome d1 fun p5 =>
  Put (Addr.add p5 4) (.bool (n3 == 0)) h2 fun h3 =>
  onSome d1 fun p6 =>
  ∃ (b1 : Bool), cellOf h3 (Addr.add p6 4) = some (.bool b1) ∧
  K (.bool b1) h3)
def boleref03_Disk_goes.lo : Nat → List Nat × List (Nat × Ty) := fun n => match n with | _ => ([], [])
def boleref03_Disk_goes.od : Nat → Od := fun n => match n with | _ => .nil
theorem boleref03_Disk_goes.ok {d1 : Option Addr} {K : Value → Heap → Prop} {h : Heap} (hx : boleref03_Disk_goes d1 K h) : C.boleref03_Disk_goes d1 h K :=
  fn_to (c := Tryz.f129.body.getD .skip) (cxOk boleref03_Disk_goes.lo boleref03_Disk_goes.od) Tryz.func129 (by kernel_rfl) (by kernel_rfl) (Eq.mpr (by kernel_rfl) hx)
def adisk_Disk_step (d1 : Option Addr) (done1 : Value) (K : Value → Heap → Prop) (h1 : Heap) : Prop :=
  onSome d1 fun p1 =>
  ∃ (n1 : Int), cellOf h1 (Addr.add p1 2) = some (.int .i64 n1) ∧
  bif (decide (n1 > 0)) then (
  onSome d1 fun p2 =>
  ∃ (n2 : Int), cellOf h1 (Addr.add p2 2) = some (.int .i64 n2) ∧
  onSome d1 fun p3 =>
  Put (Addr.add p3 2) (.int .i64 (IntKind.wrap .i64 (n2 - 1))) h1 fun h2 =>
  onSome d1 fun p4 =>
  ∃ (n3 : Int), cellOf h2 (Addr.add p4 2) = some (.int .i64 n3) ∧
  bif (n3 == 0) then (
  onSome d1 fun p5 =>
  ∃ (sA1 : Option Addr) (sL1 : Nat) (sC1 : Nat), cellOf h2 (Addr.add p5 3) = some (.slice sA1 sL1 sC1) ∧
  C.adisk_Disk_cut d1 sA1 sL1 sC1 h2 fun r1 h3 =>
  r1 = .tuple #[] ∧
  K (.int .i64 30) h3) else (
  isFnV done1 = true ∧
  bif (!(isNilFn done1)) then (
  HCallsV Tryz.prog done1 [] h2 fun r2 h4 =>
  r2 = .tuple #[] ∧
  K (.int .i64 0) h4) else (
  K (.int .i64 0) h2))) else (
  isFnV done1 = true ∧
  bif (!(isNilFn done1)) then (
  HCallsV Tryz.prog done1 [] h1 fun r3 h5 =>
  r3 = .tuple #[] ∧
  K (.int .i64 0) h5) else (
  K (.int .i64 0) h1))
def adisk_Disk_step.lo : Nat → List Nat × List (Nat × Ty) := fun n => match n with | _ => ([], [])
def adisk_Disk_step.od : Nat → Od := fun n => match n with | _ => .nil
theorem adisk_Disk_step.ok {d1 : Option Addr} {done1 : Value} {K : Value → Heap → Prop} {h : Heap} (hx : adisk_Disk_step d1 done1 K h) : C.adisk_Disk_step d1 done1 h K :=
  fn_to (c := Tryz.f130.body.getD .skip) (cxOk adisk_Disk_step.lo adisk_Disk_step.od) Tryz.func130 (by kernel_rfl) (by kernel_rfl) (Eq.mpr (by kernel_rfl) hx)
def adisk_Disk_Flush_c1 (cap1 : Option Addr) (K : Value → Heap → Prop) (h1 : Heap) : Prop :=
  onSome cap1 fun p1 =>
  ∃ (q1 : Option Addr), cellOf h1 p1 = some (.pointer q1) ∧
  onSome q1 fun p2 =>
  ∃ (sA1 : Option Addr) (sL1 : Nat) (sC1 : Nat), cellOf h1 (Addr.add p2 1) = some (.slice sA1 sL1 sC1) ∧
  ∃ (I1 : Int → Heap → Prop) (M1 : Int → Heap → Nat), I1 0 h1 ∧
  ∀ (n1 : Int), ∀ h2 : Heap, I1 n1 h2 →
  bif (decide (n1 < (sL1 : Int))) then (
  (0 ≤ n1 ∧ n1 < (sL1 : Int)) ∧
  onSome sA1 fun p3 =>
  ∃ cs1 : List Value, List.length cs1 = 513 ∧ Cells h2 (Addr.add p3 ((Int.toNat n1) * 513)) cs1 ∧
  NewRow z174 174 cs1 513 h2 fun h4 =>
  onSome cap1 fun p4 =>
  ∃ (q2 : Option Addr), cellOf h4 p4 = some (.pointer q2) ∧
  onSome q2 fun p5 =>
  ∃ (sA2 : Option Addr) (sL2 : Nat) (sC2 : Nat), cellOf h4 (Addr.add p5 0) = some (.slice sA2 sL2 sC2) ∧
  ∃ (n2 : Int), cellOf h4 (Addr.add ⟨h2.size, 0, none⟩ 0) = some (.int .i64 n2) ∧
  ∃ cs2 : List Value, List.length cs2 = 512 ∧ Cells h4 (Addr.add ⟨h2.size, 0, none⟩ 1) cs2 ∧
  (0 ≤ n2 ∧ n2 < (sL2 : Int)) ∧
  onSome sA2 fun p6 =>
  PutRow (Addr.add p6 ((Int.toNat n2) * 512)) cs2 512 h4 fun h5 =>
  I1 (IntKind.wrap .i64 (n1 + 1)) h5 ∧ M1 (IntKind.wrap .i64 (n1 + 1)) h5 < M1 n1 h2) else (
  onSome cap1 fun p7 =>
  ∃ (q3 : Option Addr), cellOf h2 p7 = some (.pointer q3) ∧
  onSome q3 fun p8 =>
  Put (Addr.add p8 1) (.slice none 0 0) h2 fun h6 =>
  onSome cap1 fun p9 =>
  ∃ (q4 : Option Addr), cellOf h6 p9 = some (.pointer q4) ∧
  onSome cap1 fun p10 =>
  ∃ (q5 : Option Addr), cellOf h6 p10 = some (.pointer q5) ∧
  onSome q5 fun p11 =>
  ∃ (sA3 : Option Addr) (sL3 : Nat) (sC3 : Nat), cellOf h6 (Addr.add p11 7) = some (.slice sA3 sL3 sC3) ∧
  List.length ([.int .i64 2, .int .i64 0, .slice none 0 0] : List Value) = 3 ∧
  New [.int .i64 2, .int .i64 0, .slice none 0 0] 122 h6 fun h7 =>
  (onSome cap1 fun p12 => cellOf h7 p12 = some (.pointer q4)) ∧
  (onSome cap1 fun p13 => cellOf h7 p13 = some (.pointer q5)) ∧
  (cellOf h7 (Addr.add p11 7) = some (.slice sA3 sL3 sC3)) ∧
  ∃ new1 : List Value, List.length new1 = 1 * 3 ∧ SlCells h7 (some ⟨h6.size, 0, none⟩) new1 ∧ (∀ v ∈ new1, v.oneCell' = true) ∧
  AppendP ti122 122 sA3 sL3 sC3 1 new1 h7 fun sA4 sL4 sC4 h8 =>
  (onSome cap1 fun p14 => cellOf h8 p14 = some (.pointer q4)) ∧
  onSome q4 fun p15 =>
  Put (Addr.add p15 7) (.slice sA4 sL4 sC4) h8 fun h9 =>
  K (.tuple #[]) h9)
def adisk_Disk_Flush_c1.lo : Nat → List Nat × List (Nat × Ty) := fun n => match n with | 1 => ([0, 6, 7], [(8, .int .i64)]) | _ => ([], [])
def adisk_Disk_Flush_c1.od : Nat → Od := fun n => match n with | 3 => (.op 0 [] (.op 1 [] (.op 2 [] (.op 3 [] (.op 4 [] (.op 5 [] (.op 6 [] (.op 7 [] (.op 8 [] (.op 9 [] .nil)))))))))) | 6 => (.op 0 [] (.op 1 [] (.op 2 [] (.op 3 [] (.op 4 [] (.op 5 [] (.op 6 [0, 1, 4] (.op 7 [0] (.op 8 [] (.op 9 [] (.op 10 [] .nil))))))))))) | _ => .nil
theorem adisk_Disk_Flush_c1.ok {cap1 : Option Addr} {K : Value → Heap → Prop} {h : Heap} (hx : adisk_Disk_Flush_c1 cap1 K h) : C.adisk_Disk_Flush_c1 cap1 h K :=
  fn_to (c := Tryz.f131.body.getD .skip) (cxOk adisk_Disk_Flush_c1.lo adisk_Disk_Flush_c1.od) Tryz.func131 (by kernel_rfl) (by kernel_rfl) (Eq.mpr (by kernel_rfl) hx)
def boleref03_marks (lA1 : Option Addr) (lL1 : Nat) (lC1 : Nat) (K : Value → Heap → Prop) (h1 : Heap) : Prop :=
  ∃ new1 : List Value, List.length new1 = lL1 * 1 ∧ SlCells h1 lA1 new1 ∧ (∀ v ∈ new1, v.oneCell' = true) ∧
  AppendP ti4 4 none 0 0 lL1 new1 h1 fun sA1 sL1 sC1 h2 =>
  K (.slice sA1 sL1 sC1) h2
def boleref03_marks.lo : Nat → List Nat × List (Nat × Ty) := fun n => match n with | _ => ([], [])
def boleref03_marks.od : Nat → Od := fun n => match n with | _ => .nil
theorem boleref03_marks.ok {lA1 : Option Addr} {lL1 : Nat} {lC1 : Nat} {K : Value → Heap → Prop} {h : Heap} (hx : boleref03_marks lA1 lL1 lC1 K h) : C.boleref03_marks lA1 lL1 lC1 h K :=
  fn_to (c := Tryz.f132.body.getD .skip) (cxOk boleref03_marks.lo boleref03_marks.od) Tryz.func132 (by kernel_rfl) (by kernel_rfl) (Eq.mpr (by kernel_rfl) hx)
def slices_Clone_bool_bool (sA1 : Option Addr) (sL1 : Nat) (sC1 : Nat) (K : Value → Heap → Prop) (h1 : Heap) : Prop :=
  bif (Option.isNone sA1) then (
  K (.slice none 0 0) h1) else (
  New [] 4 h1 fun h2 =>
  ∃ new1 : List Value, List.length new1 = sL1 * 1 ∧ SlCells h2 sA1 new1 ∧ (∀ v ∈ new1, v.oneCell' = true) ∧
  AppendP ti4 4 (some ⟨h1.size, 0, none⟩) 0 0 sL1 new1 h2 fun sA2 sL2 sC2 h3 =>
  K (.slice sA2 sL2 sC2) h3)
def slices_Clone_bool_bool.lo : Nat → List Nat × List (Nat × Ty) := fun n => match n with | _ => ([], [])
def slices_Clone_bool_bool.od : Nat → Od := fun n => match n with | _ => .nil
theorem slices_Clone_bool_bool.ok {sA1 : Option Addr} {sL1 : Nat} {sC1 : Nat} {K : Value → Heap → Prop} {h : Heap} (hx : slices_Clone_bool_bool sA1 sL1 sC1 K h) : C.slices_Clone_bool_bool sA1 sL1 sC1 h K :=
  fn_to (c := Tryz.f133.body.getD .skip) (cxOk slices_Clone_bool_bool.lo slices_Clone_bool_bool.od) Tryz.func133 (by kernel_rfl) (by kernel_rfl) (Eq.mpr (by kernel_rfl) hx)
def adisk_Disk_cut (d1 : Option Addr) (keepA1 : Option Addr) (keepL1 : Nat) (keepC1 : Nat) (K : Value → Heap → Prop) (h1 : Heap) : Prop :=
  onSome d1 fun p1 =>
  ∃ (sA1 : Option Addr) (sL1 : Nat) (sC1 : Nat), cellOf h1 (Addr.add p1 1) = some (.slice sA1 sL1 sC1) ∧
  ∃ (I1 : Int → Heap → Prop) (M1 : Int → Heap → Nat), I1 0 h1 ∧
  ∀ (n1 : Int), ∀ h2 : Heap, I1 n1 h2 →
  bif (decide (n1 < (if (sL1 : Int) < (keepL1 : Int) then (sL1 : Int) else (keepL1 : Int)))) then (
  onSome d1 fun p2 =>
  ∃ (sA2 : Option Addr) (sL2 : Nat) (sC2 : Nat), cellOf h2 (Addr.add p2 1) = some (.slice sA2 sL2 sC2) ∧
  (0 ≤ n1 ∧ n1 < (sL2 : Int)) ∧
  onSome sA2 fun p3 =>
  ∃ cs1 : List Value, List.length cs1 = 513 ∧ Cells h2 (Addr.add p3 ((Int.toNat n1) * 513)) cs1 ∧
  NewRow z174 174 cs1 513 h2 fun h4 =>
  (0 ≤ n1 ∧ n1 < (keepL1 : Int)) ∧
  onSome keepA1 fun p4 =>
  ∃ (b1 : Bool), cellOf h4 (Addr.add p4 (Int.toNat n1)) = some (.bool b1) ∧
  bif b1 then (
  onSome d1 fun p5 =>
  ∃ (sA3 : Option Addr) (sL3 : Nat) (sC3 : Nat), cellOf h4 (Addr.add p5 0) = some (.slice sA3 sL3 sC3) ∧
  ∃ (n2 : Int), cellOf h4 (Addr.add ⟨h2.size, 0, none⟩ 0) = some (.int .i64 n2) ∧
  ∃ cs2 : List Value, List.length cs2 = 512 ∧ Cells h4 (Addr.add ⟨h2.size, 0, none⟩ 1) cs2 ∧
  (0 ≤ n2 ∧ n2 < (sL3 : Int)) ∧
  onSome sA3 fun p6 =>
  PutRow (Addr.add p6 ((Int.toNat n2) * 512)) cs2 512 h4 fun h5 =>
  I1 (IntKind.wrap .i64 (n1 + 1)) h5 ∧ M1 (IntKind.wrap .i64 (n1 + 1)) h5 < M1 n1 h2) else (
  I1 (IntKind.wrap .i64 (n1 + 1)) h4 ∧ M1 (IntKind.wrap .i64 (n1 + 1)) h4 < M1 n1 h2)) else (
  onSome d1 fun p7 =>
  Put (Addr.add p7 1) (.slice none 0 0) h2 fun h6 =>
  onSome d1 fun p8 =>
  Put (Addr.add p8 3) (.slice none 0 0) h6 fun h7 =>
  onSome d1 fun p9 =>
  Put (Addr.add p9 2) (.int .i64 0) h7 fun h8 =>
  onSome d1 fun p10 =>
  Put (Addr.add p10 4) (.bool true) h8 fun h9 =>
  K (.tuple #[]) h9)
def adisk_Disk_cut.lo : Nat → List Nat × List (Nat × Ty) := fun n => match n with | 1 => ([0, 1, 13], [(14, .int .i64)]) | _ => ([], [])
def adisk_Disk_cut.od : Nat → Od := fun n => match n with | 5 => (.op 0 [] (.op 1 [] (.op 2 [] (.op 3 [] (.op 4 [] (.op 5 [] (.op 6 [] (.op 7 [] (.op 8 [] (.op 9 [] .nil)))))))))) | _ => .nil
theorem adisk_Disk_cut.ok {d1 : Option Addr} {keepA1 : Option Addr} {keepL1 : Nat} {keepC1 : Nat} {K : Value → Heap → Prop} {h : Heap} (hx : adisk_Disk_cut d1 keepA1 keepL1 keepC1 K h) : C.adisk_Disk_cut d1 keepA1 keepL1 keepC1 h K :=
  fn_to (c := Tryz.f134.body.getD .skip) (cxOk adisk_Disk_cut.lo adisk_Disk_cut.od) Tryz.func134 (by kernel_rfl) (by kernel_rfl) (Eq.mpr (by kernel_rfl) hx)
def boleref03_lasts.k1 (keepA1 : Option Addr) (keepL1 : Nat) (number2 : Int) (h4 : Heap) (K : Value → Heap → Prop) : Prop :=
  bif (decide (number2 < (keepL1 : Int))) then (
  (0 ≤ number2 ∧ number2 < (keepL1 : Int)) ∧
  onSome keepA1 fun p3 =>
  ∃ (b1 : Bool), cellOf h4 (Addr.add p3 (Int.toNat number2)) = some (.bool b1) ∧
  K (.bool b1) h4) else (
  K (.bool false) h4)
def boleref03_lasts (actsA1 : Option Addr) (actsL1 : Nat) (actsC1 : Nat) (i1 : Int) (keepA1 : Option Addr) (keepL1 : Nat) (keepC1 : Nat) (K : Value → Heap → Prop) (h1 : Heap) : Prop :=
  ∃ (I1 : Int → Heap → Prop) (M1 : Int → Heap → Nat), I1 (IntKind.wrap .i64 (i1 + 1)) h1 ∧
  ∀ (j1 : Int), ∀ h2 : Heap, I1 j1 h2 →
  bif (decide (j1 < (actsL1 : Int))) then (
  (0 ≤ j1 ∧ j1 < (actsL1 : Int)) ∧
  onSome actsA1 fun p1 =>
  ∃ (n1 : Int), cellOf h2 (Addr.add (Addr.add p1 ((Int.toNat j1) * 3)) 0) = some (.int .i64 n1) ∧
  bif (n1 == 2) then (
  K (.bool true) h2) else (
  I1 (IntKind.wrap .i64 (j1 + 1)) h2 ∧ M1 (IntKind.wrap .i64 (j1 + 1)) h2 < M1 j1 h2)) else (
  ∃ (I2 : Int → Int → Heap → Prop) (M2 : Int → Int → Heap → Nat), I2 0 (IntKind.wrap .i64 (i1 - 1)) h2 ∧
  ∀ (number1 : Int) (j2 : Int), ∀ h3 : Heap, I2 number1 j2 h3 →
  bif (decide (j2 ≥ 0)) then (
  (0 ≤ j2 ∧ j2 < (actsL1 : Int)) ∧
  onSome actsA1 fun p2 =>
  ∃ (n2 : Int), cellOf h3 (Addr.add (Addr.add p2 ((Int.toNat j2) * 3)) 0) = some (.int .i64 n2) ∧
  bif (n2 == 1) then (
  I2 (IntKind.wrap .i64 (number1 + 1)) (IntKind.wrap .i64 (j2 - 1)) h3 ∧ M2 (IntKind.wrap .i64 (number1 + 1)) (IntKind.wrap .i64 (j2 - 1)) h3 < M2 number1 j2 h3) else (
  boleref03_lasts.k1 keepA1 keepL1 number1 h3 K)) else (
  boleref03_lasts.k1 keepA1 keepL1 number1 h3 K))
def boleref03_lasts.lo : Nat → List Nat × List (Nat × Ty) := fun n => match n with | 2 => ([0, 1, 2], [(7, .int .i64)]) | 8 => ([0, 2], [(8, .int .i64), (9, .int .i64)]) | _ => ([], [])
def boleref03_lasts.od : Nat → Od := fun n => match n with | _ => .nil
theorem boleref03_lasts.ok {actsA1 : Option Addr} {actsL1 : Nat} {actsC1 : Nat} {i1 : Int} {keepA1 : Option Addr} {keepL1 : Nat} {keepC1 : Nat} {K : Value → Heap → Prop} {h : Heap} (hx : boleref03_lasts actsA1 actsL1 actsC1 i1 keepA1 keepL1 keepC1 K h) : C.boleref03_lasts actsA1 actsL1 actsC1 i1 keepA1 keepL1 keepC1 h K :=
  fn_to (c := Tryz.f135.body.getD .skip) (cxOk boleref03_lasts.lo boleref03_lasts.od) Tryz.func135 (by kernel_rfl) (by kernel_rfl) (Eq.mpr (by kernel_rfl) hx)
def bolelaw06_block (x1 : Int) (K : Value → Heap → Prop) (h1 : Heap) : Prop :=
  (0 ≤ (512 : Int) ∧ (512 : Int) ≤ 512 ∧ (1 : Int) * 512 ≤ 281474976710656 ∧ (512 : Int) ≤ 281474976710656) ∧
  New (repCells z5 (Int.toNat 512)) 5 h1 fun h2 =>
  ∃ (I1 : Int → Heap → Prop) (M1 : Int → Heap → Nat), I1 0 h2 ∧
  ∀ (n1 : Int), ∀ h3 : Heap, I1 n1 h3 →
  bif (decide (n1 < ((Int.toNat 512) : Int))) then (
  (0 ≤ n1 ∧ n1 < ((Int.toNat 512) : Int)) ∧
  Put (Addr.add ⟨h1.size, 0, none⟩ (Int.toNat n1)) (.int .u8 x1) h3 fun h4 =>
  I1 (IntKind.wrap .i64 (n1 + 1)) h4 ∧ M1 (IntKind.wrap .i64 (n1 + 1)) h4 < M1 n1 h3) else (
  K (.slice (some ⟨h1.size, 0, none⟩) (Int.toNat 512) (Int.toNat 512)) h3)
def bolelaw06_block.lo : Nat → List Nat × List (Nat × Ty) := fun n => match n with | 3 => ([0, 3, 7], [(8, .int .i64)]) | _ => ([], [])
def bolelaw06_block.od : Nat → Od := fun n => match n with | _ => .nil
theorem bolelaw06_block.ok {x1 : Int} {K : Value → Heap → Prop} {h : Heap} (hx : bolelaw06_block x1 K h) : C.bolelaw06_block x1 h K :=
  fn_to (c := Tryz.f136.body.getD .skip) (cxOk bolelaw06_block.lo bolelaw06_block.od) Tryz.func136 (by kernel_rfl) (by kernel_rfl) (Eq.mpr (by kernel_rfl) hx)
def txn_Txn_end (t1 : Option Addr) (K : Value → Heap → Prop) (h1 : Heap) : Prop :=
  onSome t1 fun p1 =>
  Put (Addr.add p1 1) (.map none) h1 fun h2 =>
  onSome t1 fun p2 =>
  Put (Addr.add p2 2) (.slice none 0 0) h2 fun h3 =>
  onSome t1 fun p3 =>
  Put (Addr.add p3 3) (.bool true) h3 fun h4 =>
  K (.tuple #[]) h4
def txn_Txn_end.lo : Nat → List Nat × List (Nat × Ty) := fun n => match n with | _ => ([], [])
def txn_Txn_end.od : Nat → Od := fun n => match n with | _ => .nil
theorem txn_Txn_end.eq (t1 : Option Addr) (K : Value → Heap → Prop) (h : Heap) : fnX (cx txn_Txn_end.lo txn_Txn_end.od) Tryz.f137 (Tryz.f137.body.getD .skip) [.pointer t1] K h = txn_Txn_end t1 K h := by kernel_rfl
theorem txn_Txn_end.chk : fnOk (cx txn_Txn_end.lo txn_Txn_end.od) Tryz.f137 (Tryz.f137.body.getD .skip) 1 = true := by kernel_rfl
theorem txn_Txn_end.ok {t1 : Option Addr} {K : Value → Heap → Prop} {h : Heap} (hx : txn_Txn_end t1 K h) : C.txn_Txn_end t1 h K :=
  fn_to (cxOk _ _) Tryz.func137 (by kernel_rfl) txn_Txn_end.chk (by rw [txn_Txn_end.eq]; exact hx)
theorem txn_Txn_end.chkD : fnOkD (cx txn_Txn_end.lo txn_Txn_end.od) Tryz.f137 (Tryz.f137.body.getD .skip) 1 = true := by kernel_rfl
theorem txn_Txn_end.okD {t1 : Option Addr} {K : Heap → Prop} {h : Heap} (hx : txn_Txn_end t1 (fun _ h' => K h') h) : D.txn_Txn_end t1 h K :=
  fnD_to (cxOk _ _) Tryz.func137 (by kernel_rfl) txn_Txn_end.chkD (by rw [txn_Txn_end.eq]; exact hx)
def boleref06_Txn_put (t1 : Option Addr) (i1 : Int) (K : Value → Heap → Prop) (h1 : Heap) : Prop :=
  ∃ (I1 : Int → Int → Heap → Prop) (M1 : Int → Int → Heap → Nat), I1 (-1) 0 h1 ∧
  ∀ (at1 : Int) (k1 : Int), ∀ h2 : Heap, I1 at1 k1 h2 →
  onSome t1 fun p1 =>
  ∃ (sA1 : Option Addr) (sL1 : Nat) (sC1 : Nat), cellOf h2 (Addr.add p1 1) = some (.slice sA1 sL1 sC1) ∧
  bif (decide (k1 < (sL1 : Int))) then (
  onSome t1 fun p2 =>
  ∃ (sA2 : Option Addr) (sL2 : Nat) (sC2 : Nat), cellOf h2 (Addr.add p2 1) = some (.slice sA2 sL2 sC2) ∧
  (0 ≤ k1 ∧ k1 < (sL2 : Int)) ∧
  onSome sA2 fun p3 =>
  ∃ (n1 : Int), cellOf h2 (Addr.add (Addr.add p3 ((Int.toNat k1) * 2)) 0) = some (.int .i64 n1) ∧
  bif (n1 == i1) then (
  I1 k1 (IntKind.wrap .i64 (k1 + 1)) h2 ∧ M1 k1 (IntKind.wrap .i64 (k1 + 1)) h2 < M1 at1 k1 h2) else (
  I1 at1 (IntKind.wrap .i64 (k1 + 1)) h2 ∧ M1 at1 (IntKind.wrap .i64 (k1 + 1)) h2 < M1 at1 k1 h2)) else (
  K (.int .i64 at1) h2)
def boleref06_Txn_put.lo : Nat → List Nat × List (Nat × Ty) := fun n => match n with | 3 => ([0, 1], [(5, .int .i64), (6, .int .i64)]) | _ => ([], [])
def boleref06_Txn_put.od : Nat → Od := fun n => match n with | _ => .nil
theorem boleref06_Txn_put.ok {t1 : Option Addr} {i1 : Int} {K : Value → Heap → Prop} {h : Heap} (hx : boleref06_Txn_put t1 i1 K h) : C.boleref06_Txn_put t1 i1 h K :=
  fn_to (c := Tryz.f138.body.getD .skip) (cxOk boleref06_Txn_put.lo boleref06_Txn_put.od) Tryz.func138 (by kernel_rfl) (by kernel_rfl) (Eq.mpr (by kernel_rfl) hx)
def boleref06_Commit (d1 : Option Addr) (lA1 : Option Addr) (lL1 : Nat) (lC1 : Nat) (K : Value → Heap → Prop) (h1 : Heap) : Prop :=
  bif ((lL1 : Int) == 0) then (
  K (.int .i64 0) h1) else (
  NewRow z122 122 [.int .i64 2, .int .i64 0, .slice none 0 0] 3 h1 fun h3 =>
  ∃ (I1 : Option Addr → Nat → Nat → Int → Heap → Prop) (M1 : Option Addr → Nat → Nat → Int → Heap → Nat), I1 none 0 0 0 h3 ∧
  ∀ (stepsA1 : Option Addr) (stepsL1 : Nat) (stepsC1 : Nat) (n1 : Int), ∀ h4 : Heap, I1 stepsA1 stepsL1 stepsC1 n1 h4 →
  bif (decide (n1 < (lL1 : Int))) then (
  (0 ≤ n1 ∧ n1 < (lL1 : Int)) ∧
  onSome lA1 fun p1 =>
  ∃ cs1 : List Value, List.length cs1 = 2 ∧ Cells h4 (Addr.add p1 ((Int.toNat n1) * 2)) cs1 ∧
  NewRow z103 103 cs1 2 h4 fun h6 =>
  ∃ (sA1 : Option Addr) (sL1 : Nat) (sC1 : Nat), cellOf h6 (Addr.add ⟨h4.size, 0, none⟩ 1) = some (.slice sA1 sL1 sC1) ∧
  List.length ([.int .i64 1, .int .i64 (IntKind.wrap .i64 (2 + n1)), .slice sA1 sL1 sC1] : List Value) = 3 ∧
  New [.int .i64 1, .int .i64 (IntKind.wrap .i64 (2 + n1)), .slice sA1 sL1 sC1] 122 h6 fun h7 =>
  ∃ new1 : List Value, List.length new1 = 1 * 3 ∧ SlCells h7 (some ⟨h6.size, 0, none⟩) new1 ∧ (∀ v ∈ new1, v.oneCell' = true) ∧
  AppendP ti122 122 stepsA1 stepsL1 stepsC1 1 new1 h7 fun sA2 sL2 sC2 h8 =>
  I1 sA2 sL2 sC2 (IntKind.wrap .i64 (n1 + 1)) h8 ∧ M1 sA2 sL2 sC2 (IntKind.wrap .i64 (n1 + 1)) h8 < M1 stepsA1 stepsL1 stepsC1 n1 h4) else (
  ∃ cs2 : List Value, List.length cs2 = 3 ∧ Cells h4 ⟨h1.size, 0, none⟩ cs2 ∧
  ∃ cs3 : List Value, List.length cs3 = 3 ∧ Cells h4 ⟨h1.size, 0, none⟩ cs3 ∧
  C.boleref06_Header lA1 lL1 lC1 h4 fun r1 h9 =>
  ∃ (sA3 : Option Addr) (sL3 : Nat) (sC3 : Nat), r1 = .slice sA3 sL3 sC3 ∧
  (List.length (cs2 : List Value) = 3 ∧ Cells h9 ⟨h1.size, 0, none⟩ cs2) ∧
  (List.length (cs3 : List Value) = 3 ∧ Cells h9 ⟨h1.size, 0, none⟩ cs3) ∧
  List.length (cs2 : List Value) = 3 ∧
  List.length ([.int .i64 1, .int .i64 1, .slice sA3 sL3 sC3] : List Value) = 3 ∧
  List.length (cs3 : List Value) = 3 ∧
  New (cs2 ++ ([.int .i64 1, .int .i64 1, .slice sA3 sL3 sC3] ++ cs3)) 122 h9 fun h10 =>
  ∃ new2 : List Value, List.length new2 = 3 * 3 ∧ SlCells h10 (some ⟨h9.size, 0, none⟩) new2 ∧ (∀ v ∈ new2, v.oneCell' = true) ∧
  AppendP ti122 122 stepsA1 stepsL1 stepsC1 3 new2 h10 fun sA4 sL4 sC4 h11 =>
  ∃ (I2 : Option Addr → Nat → Nat → Int → Heap → Prop) (M2 : Option Addr → Nat → Nat → Int → Heap → Nat), I2 sA4 sL4 sC4 0 h11 ∧
  ∀ (stepsA2 : Option Addr) (stepsL2 : Nat) (stepsC2 : Nat) (n2 : Int), ∀ h12 : Heap, I2 stepsA2 stepsL2 stepsC2 n2 h12 →
  bif (decide (n2 < (lL1 : Int))) then (
  (0 ≤ n2 ∧ n2 < (lL1 : Int)) ∧
  onSome lA1 fun p2 =>
  ∃ cs4 : List Value, List.length cs4 = 2 ∧ Cells h12 (Addr.add p2 ((Int.toNat n2) * 2)) cs4 ∧
  NewRow z103 103 cs4 2 h12 fun h14 =>
  ∃ (n3 : Int), cellOf h14 (Addr.add ⟨h12.size, 0, none⟩ 0) = some (.int .i64 n3) ∧
  ∃ (sA5 : Option Addr) (sL5 : Nat) (sC5 : Nat), cellOf h14 (Addr.add ⟨h12.size, 0, none⟩ 1) = some (.slice sA5 sL5 sC5) ∧
  List.length ([.int .i64 1, .int .i64 n3, .slice sA5 sL5 sC5] : List Value) = 3 ∧
  New [.int .i64 1, .int .i64 n3, .slice sA5 sL5 sC5] 122 h14 fun h15 =>
  ∃ new3 : List Value, List.length new3 = 1 * 3 ∧ SlCells h15 (some ⟨h14.size, 0, none⟩) new3 ∧ (∀ v ∈ new3, v.oneCell' = true) ∧
  AppendP ti122 122 stepsA2 stepsL2 stepsC2 1 new3 h15 fun sA6 sL6 sC6 h16 =>
  I2 sA6 sL6 sC6 (IntKind.wrap .i64 (n2 + 1)) h16 ∧ M2 sA6 sL6 sC6 (IntKind.wrap .i64 (n2 + 1)) h16 < M2 stepsA2 stepsL2 stepsC2 n2 h12) else (
  ∃ cs5 : List Value, List.length cs5 = 3 ∧ Cells h12 ⟨h1.size, 0, none⟩ cs5 ∧
  ∃ cs6 : List Value, List.length cs6 = 3 ∧ Cells h12 ⟨h1.size, 0, none⟩ cs6 ∧
  (0 ≤ (512 : Int) ∧ (512 : Int) ≤ 512 ∧ (1 : Int) * 512 ≤ 281474976710656 ∧ (512 : Int) ≤ 281474976710656) ∧
  New (repCells z5 (Int.toNat 512)) 5 h12 fun h17 =>
  (List.length (cs5 : List Value) = 3 ∧ Cells h17 ⟨h1.size, 0, none⟩ cs5) ∧
  (List.length (cs6 : List Value) = 3 ∧ Cells h17 ⟨h1.size, 0, none⟩ cs6) ∧
  List.length (cs5 : List Value) = 3 ∧
  List.length ([.int .i64 1, .int .i64 1, .slice (some ⟨h12.size, 0, none⟩) (Int.toNat 512) (Int.toNat 512)] : List Value) = 3 ∧
  List.length (cs6 : List Value) = 3 ∧
  New (cs5 ++ ([.int .i64 1, .int .i64 1, .slice (some ⟨h12.size, 0, none⟩) (Int.toNat 512) (Int.toNat 512)] ++ cs6)) 122 h17 fun h18 =>
  ∃ new4 : List Value, List.length new4 = 3 * 3 ∧ SlCells h18 (some ⟨h17.size, 0, none⟩) new4 ∧ (∀ v ∈ new4, v.oneCell' = true) ∧
  AppendP ti122 122 stepsA2 stepsL2 stepsC2 3 new4 h18 fun sA7 sL7 sC7 h19 =>
  ∃ (I3 : Int → Heap → Prop) (M3 : Int → Heap → Nat), I3 0 h19 ∧
  ∀ (n4 : Int), ∀ h20 : Heap, I3 n4 h20 →
  bif (decide (n4 < (sL7 : Int))) then (
  (0 ≤ n4 ∧ n4 < (sL7 : Int)) ∧
  onSome sA7 fun p3 =>
  ∃ cs7 : List Value, List.length cs7 = 3 ∧ Cells h20 (Addr.add p3 ((Int.toNat n4) * 3)) cs7 ∧
  NewRow z122 122 cs7 3 h20 fun h22 =>
  ∃ (n5 : Int), cellOf h22 (Addr.add ⟨h20.size, 0, none⟩ 0) = some (.int .i64 n5) ∧
  bif (n5 == 1) then (
  ∃ (n6 : Int), cellOf h22 (Addr.add ⟨h20.size, 0, none⟩ 1) = some (.int .i64 n6) ∧
  ∃ (sA8 : Option Addr) (sL8 : Nat) (sC8 : Nat), cellOf h22 (Addr.add ⟨h20.size, 0, none⟩ 2) = some (.slice sA8 sL8 sC8) ∧
  C.boleref03_Disk_Write d1 n6 sA8 sL8 sC8 h22 fun r2 h23 =>
  ∃ (n7 : Int), r2 = .int .i64 n7 ∧
  bif (n7 != 0) then (
  K (.int .i64 n7) h23) else (
  I3 (IntKind.wrap .i64 (n4 + 1)) h23 ∧ M3 (IntKind.wrap .i64 (n4 + 1)) h23 < M3 n4 h20)) else (
  C.boleref03_Disk_Flush d1 h22 fun r3 h24 =>
  ∃ (n8 : Int), r3 = .int .i64 n8 ∧
  bif (n8 != 0) then (
  K (.int .i64 n8) h24) else (
  I3 (IntKind.wrap .i64 (n4 + 1)) h24 ∧ M3 (IntKind.wrap .i64 (n4 + 1)) h24 < M3 n4 h20))) else (
  K (.int .i64 0) h20))))
def boleref06_Commit.lo : Nat → List Nat × List (Nat × Ty) := fun n => match n with | 6 => ([0, 1, 6, 18, 19], [(5, .slice), (20, .int .i64)]) | 12 => ([0, 6, 42, 43], [(5, .slice), (44, .int .i64)]) | 18 => ([0, 64, 65], [(66, .int .i64)]) | _ => ([], [])
def boleref06_Commit.od : Nat → Od := fun n => match n with | 10 => (.op 0 [] (.op 1 [] (.op 2 [] (.op 5 [] (.op 3 [1, 5] (.op 4 [] (.op 6 [] (.op 7 [] (.op 8 [] .nil))))))))) | 16 => (.op 0 [] (.op 1 [] (.op 4 [] (.op 2 [1, 4] (.op 3 [] (.op 5 [] (.op 6 [] (.op 7 [] .nil)))))))) | _ => .nil
theorem boleref06_Commit.ok {d1 : Option Addr} {lA1 : Option Addr} {lL1 : Nat} {lC1 : Nat} {K : Value → Heap → Prop} {h : Heap} (hx : boleref06_Commit d1 lA1 lL1 lC1 K h) : C.boleref06_Commit d1 lA1 lL1 lC1 h K :=
  fn_to (c := Tryz.f139.body.getD .skip) (cxOk boleref06_Commit.lo boleref06_Commit.od) Tryz.func139 (by kernel_rfl) (by kernel_rfl) (Eq.mpr (by kernel_rfl) hx)
def boleref06_Behind.k1 (imageA1 : Option Addr) (imageL1 : Nat) (imageC1 : Nat) (sA1 : Option Addr) (sL1 : Nat) (sC1 : Nat) (h2 : Heap) (K : Value → Heap → Prop) : Prop :=
  ∃ (I1 : Int → Heap → Prop) (M1 : Int → Heap → Nat), I1 0 h2 ∧
  ∀ (k1 : Int), ∀ h3 : Heap, I1 k1 h3 →
  (0 ≤ (520 : Int) ∧ (520 : Int) ≤ (522 : Int) ∧ (522 : Int) ≤ (imageC1 : Int)) ∧
  C.boleref06_number (if imageC1 = (Int.toNat 520) then imageA1 else Option.map (Addr.add · (Int.toNat 520)) imageA1) ((Int.toNat 522) - (Int.toNat 520)) (imageC1 - (Int.toNat 520)) h3 fun r1 h4 =>
  ∃ (n2 : Int), r1 = .int .i64 n2 ∧
  bif (decide (k1 < n2)) then (
  (0 ≤ (IntKind.wrap .i64 (528 + (IntKind.wrap .i64 (4 * k1)))) ∧ (IntKind.wrap .i64 (528 + (IntKind.wrap .i64 (4 * k1)))) ≤ (IntKind.wrap .i64 (532 + (IntKind.wrap .i64 (4 * k1)))) ∧ (IntKind.wrap .i64 (532 + (IntKind.wrap .i64 (4 * k1)))) ≤ (imageC1 : Int)) ∧
  C.boleref06_number (if imageC1 = (Int.toNat (IntKind.wrap .i64 (528 + (IntKind.wrap .i64 (4 * k1))))) then imageA1 else Option.map (Addr.add · (Int.toNat (IntKind.wrap .i64 (528 + (IntKind.wrap .i64 (4 * k1)))))) imageA1) ((Int.toNat (IntKind.wrap .i64 (532 + (IntKind.wrap .i64 (4 * k1))))) - (Int.toNat (IntKind.wrap .i64 (528 + (IntKind.wrap .i64 (4 * k1)))))) (imageC1 - (Int.toNat (IntKind.wrap .i64 (528 + (IntKind.wrap .i64 (4 * k1)))))) h4 fun r2 h5 =>
  ∃ (n3 : Int), r2 = .int .i64 n3 ∧
  ∃ (I2 : Int → Heap → Prop) (M2 : Int → Heap → Nat), I2 0 h5 ∧
  ∀ (j1 : Int), ∀ h6 : Heap, I2 j1 h6 →
  bif (decide (j1 < 512)) then (
  (0 ≤ (IntKind.wrap .i64 ((IntKind.wrap .i64 ((IntKind.wrap .i64 (2 + k1)) * 512)) + j1)) ∧ (IntKind.wrap .i64 ((IntKind.wrap .i64 ((IntKind.wrap .i64 (2 + k1)) * 512)) + j1)) < (imageL1 : Int)) ∧
  onSome imageA1 fun p2 =>
  ∃ (n4 : Int), cellOf h6 (Addr.add p2 (Int.toNat (IntKind.wrap .i64 ((IntKind.wrap .i64 ((IntKind.wrap .i64 (2 + k1)) * 512)) + j1)))) = some (.int .u8 n4) ∧
  (0 ≤ (IntKind.wrap .i64 ((IntKind.wrap .i64 (n3 * 512)) + j1)) ∧ (IntKind.wrap .i64 ((IntKind.wrap .i64 (n3 * 512)) + j1)) < (sL1 : Int)) ∧
  onSome sA1 fun p3 =>
  Put (Addr.add p3 (Int.toNat (IntKind.wrap .i64 ((IntKind.wrap .i64 (n3 * 512)) + j1)))) (.int .u8 n4) h6 fun h7 =>
  I2 (IntKind.wrap .i64 (j1 + 1)) h7 ∧ M2 (IntKind.wrap .i64 (j1 + 1)) h7 < M2 j1 h6) else (
  I1 (IntKind.wrap .i64 (k1 + 1)) h6 ∧ M1 (IntKind.wrap .i64 (k1 + 1)) h6 < M1 k1 h3)) else (
  ∃ (I3 : Int → Heap → Prop) (M3 : Int → Heap → Nat), I3 0 h4 ∧
  ∀ (j2 : Int), ∀ h8 : Heap, I3 j2 h8 →
  bif (decide (j2 < 512)) then (
  (0 ≤ (IntKind.wrap .i64 (512 + j2)) ∧ (IntKind.wrap .i64 (512 + j2)) < (sL1 : Int)) ∧
  onSome sA1 fun p4 =>
  Put (Addr.add p4 (Int.toNat (IntKind.wrap .i64 (512 + j2)))) (.int .u8 0) h8 fun h9 =>
  I3 (IntKind.wrap .i64 (j2 + 1)) h9 ∧ M3 (IntKind.wrap .i64 (j2 + 1)) h9 < M3 j2 h8) else (
  K (.slice sA1 sL1 sC1) h8))
def boleref06_Behind (imageA1 : Option Addr) (imageL1 : Nat) (imageC1 : Nat) (K : Value → Heap → Prop) (h1 : Heap) : Prop :=
  ∃ new1 : List Value, List.length new1 = imageL1 * 1 ∧ SlCells h1 imageA1 new1 ∧ (∀ v ∈ new1, v.oneCell' = true) ∧
  AppendP ti5 5 none 0 0 imageL1 new1 h1 fun sA1 sL1 sC1 h2 =>
  bif (decide ((imageL1 : Int) < 50176)) then (
  K (.slice sA1 sL1 sC1) h2) else (
  (0 ≤ (512 : Int) ∧ 512 < (imageL1 : Int)) ∧
  onSome imageA1 fun p1 =>
  ∃ (n1 : Int), cellOf h2 (Addr.add p1 (Int.toNat 512)) = some (.int .u8 n1) ∧
  bif (n1 == 0) then (
  K (.slice sA1 sL1 sC1) h2) else (
  boleref06_Behind.k1 imageA1 imageL1 imageC1 sA1 sL1 sC1 h2 K))
def boleref06_Behind.lo : Nat → List Nat × List (Nat × Ty) := fun n => match n with | 6 => ([0, 3], [(4, .int .i64)]) | 10 => ([0, 3, 4, 5], [(6, .int .i64)]) | 14 => ([3], [(7, .int .i64)]) | _ => ([], [])
def boleref06_Behind.od : Nat → Od := fun n => match n with | _ => .nil
set_option maxRecDepth 1000000 in
set_option maxRecDepth 1000000 in
theorem boleref06_Behind.ok {imageA1 : Option Addr} {imageL1 : Nat} {imageC1 : Nat} {K : Value → Heap → Prop} {h : Heap} (hx : boleref06_Behind imageA1 imageL1 imageC1 K h) : C.boleref06_Behind imageA1 imageL1 imageC1 h K :=
  fn_to (c := Tryz.f140.body.getD .skip) (cxOk boleref06_Behind.lo boleref06_Behind.od) Tryz.func140 (by kernel_rfl) (by kernel_rfl) (Eq.mpr (by kernel_rfl) hx)
def boleref03_Disk_Read.k1 (d1 : Option Addr) (i1 : Int) (h3 : Heap) (K : Value → Heap → Prop) : Prop :=
  onSome d1 fun p2 =>
  ∃ (sA1 : Option Addr) (sL1 : Nat) (sC1 : Nat), cellOf h3 (Addr.add p2 1) = some (.slice sA1 sL1 sC1) ∧
  ∃ (I1 : Int → Heap → Prop) (M1 : Int → Heap → Nat), I1 (IntKind.wrap .i64 ((sL1 : Int) - 1)) h3 ∧
  ∀ (j1 : Int), ∀ h4 : Heap, I1 j1 h4 →
  bif (decide (j1 ≥ 0)) then (
  onSome d1 fun p3 =>
  ∃ (sA2 : Option Addr) (sL2 : Nat) (sC2 : Nat), cellOf h4 (Addr.add p3 1) = some (.slice sA2 sL2 sC2) ∧
  (0 ≤ j1 ∧ j1 < (sL2 : Int)) ∧
  onSome sA2 fun p4 =>
  ∃ (n2 : Int), cellOf h4 (Addr.add (Addr.add p4 ((Int.toNat j1) * 3)) 0) = some (.int .i64 n2) ∧
  bif (n2 == 1) then (
  onSome d1 fun p5 =>
  ∃ (sA3 : Option Addr) (sL3 : Nat) (sC3 : Nat), cellOf h4 (Addr.add p5 1) = some (.slice sA3 sL3 sC3) ∧
  (0 ≤ j1 ∧ j1 < (sL3 : Int)) ∧
  onSome sA3 fun p6 =>
  ∃ (n3 : Int), cellOf h4 (Addr.add (Addr.add p6 ((Int.toNat j1) * 3)) 1) = some (.int .i64 n3) ∧
  bif (n3 == i1) then (
  onSome d1 fun p7 =>
  ∃ (sA4 : Option Addr) (sL4 : Nat) (sC4 : Nat), cellOf h4 (Addr.add p7 1) = some (.slice sA4 sL4 sC4) ∧
  (0 ≤ j1 ∧ j1 < (sL4 : Int)) ∧
  onSome sA4 fun p8 =>
  ∃ (sA5 : Option Addr) (sL5 : Nat) (sC5 : Nat), cellOf h4 (Addr.add (Addr.add p8 ((Int.toNat j1) * 3)) 2) = some (.slice sA5 sL5 sC5) ∧
  C.boleref03_copied sA5 sL5 sC5 h4 fun r2 h5 =>
  ∃ (sA6 : Option Addr) (sL6 : Nat) (sC6 : Nat), r2 = .slice sA6 sL6 sC6 ∧
  K (.tuple #[.slice sA6 sL6 sC6, .int .i64 0]) h5) else (
  I1 (IntKind.wrap .i64 (j1 - 1)) h4 ∧ M1 (IntKind.wrap .i64 (j1 - 1)) h4 < M1 j1 h4)) else (
  I1 (IntKind.wrap .i64 (j1 - 1)) h4 ∧ M1 (IntKind.wrap .i64 (j1 - 1)) h4 < M1 j1 h4)) else (
  onSome d1 fun p9 =>
  ∃ (sA7 : Option Addr) (sL7 : Nat) (sC7 : Nat), cellOf h4 (Addr.add p9 0) = some (.slice sA7 sL7 sC7) ∧
  (0 ≤ (IntKind.wrap .i64 (i1 * 512)) ∧ (IntKind.wrap .i64 (i1 * 512)) ≤ (IntKind.wrap .i64 ((IntKind.wrap .i64 (i1 * 512)) + 512)) ∧ (IntKind.wrap .i64 ((IntKind.wrap .i64 (i1 * 512)) + 512)) ≤ (sC7 : Int)) ∧
  C.boleref03_copied (if sC7 = (Int.toNat (IntKind.wrap .i64 (i1 * 512))) then sA7 else Option.map (Addr.add · (Int.toNat (IntKind.wrap .i64 (i1 * 512)))) sA7) ((Int.toNat (IntKind.wrap .i64 ((IntKind.wrap .i64 (i1 * 512)) + 512))) - (Int.toNat (IntKind.wrap .i64 (i1 * 512)))) (sC7 - (Int.toNat (IntKind.wrap .i64 (i1 * 512)))) h4 fun r3 h6 =>
  ∃ (sA8 : Option Addr) (sL8 : Nat) (sC8 : Nat), r3 = .slice sA8 sL8 sC8 ∧
  K (.tuple #[.slice sA8 sL8 sC8, .int .i64 0]) h6)
def boleref03_Disk_Read (d1 : Option Addr) (i1 : Int) (K : Value → Heap → Prop) (h1 : Heap) : Prop :=
  onSome d1 fun p1 =>
  ∃ (b1 : Bool), cellOf h1 (Addr.add p1 4) = some (.bool b1) ∧
  bif b1 then (
  K (.tuple #[.slice none 0 0, .int .i64 30]) h1) else (
  bif (decide (i1 < 0)) then (
  K (.tuple #[.slice none 0 0, .int .i64 31]) h1) else (
  C.boleref03_Disk_Blocks d1 h1 fun r1 h2 =>
  ∃ (n1 : Int), r1 = .int .i64 n1 ∧
  bif (decide (i1 ≥ n1)) then (
  K (.tuple #[.slice none 0 0, .int .i64 31]) h2) else (
  boleref03_Disk_Read.k1 d1 i1 h2 K)))
def boleref03_Disk_Read.lo : Nat → List Nat × List (Nat × Ty) := fun n => match n with | 6 => ([0, 1], [(6, .int .i64)]) | _ => ([], [])
def boleref03_Disk_Read.od : Nat → Od := fun n => match n with | _ => .nil
theorem boleref03_Disk_Read.ok {d1 : Option Addr} {i1 : Int} {K : Value → Heap → Prop} {h : Heap} (hx : boleref03_Disk_Read d1 i1 K h) : C.boleref03_Disk_Read d1 i1 h K :=
  fn_to (c := Tryz.f141.body.getD .skip) (cxOk boleref03_Disk_Read.lo boleref03_Disk_Read.od) Tryz.func141 (by kernel_rfl) (by kernel_rfl) (Eq.mpr (by kernel_rfl) hx)
def maps_Keys_map_int_byte_int_byte (m1 : Option Nat) (K : Value → Heap → Prop) (h1 : Heap) : Prop :=
  New [.map m1] 132 h1 fun h2 =>
  K (.func (.func 198) #[] ⟨[.pointer (some ⟨h1.size, 0, none⟩)]⟩) h2
def maps_Keys_map_int_byte_int_byte.lo : Nat → List Nat × List (Nat × Ty) := fun n => match n with | _ => ([], [])
def maps_Keys_map_int_byte_int_byte.od : Nat → Od := fun n => match n with | _ => .nil
theorem maps_Keys_map_int_byte_int_byte.ok {m1 : Option Nat} {K : Value → Heap → Prop} {h : Heap} (hx : maps_Keys_map_int_byte_int_byte m1 K h) : C.maps_Keys_map_int_byte_int_byte m1 h K :=
  fn_to (c := Tryz.f143.body.getD .skip) (cxOk maps_Keys_map_int_byte_int_byte.lo maps_Keys_map_int_byte_int_byte.od) Tryz.func143 (by kernel_rfl) (by kernel_rfl) (Eq.mpr (by kernel_rfl) hx)
end Go.Proofs.YtjdcbblgaoogmaaGreatDoor.W
namespace Go.Proofs.YtjdcbblgaoogmaaGreatDoor.W
open Go Go.Proofs Wx
def txn_Txn_Write_c1 (cap1 : Option Addr) (cap2 : Option Addr) (cap3 : Option Addr) (cap4 : Option Addr) (K : Value → Heap → Prop) (h1 : Heap) : Prop :=
  onSome cap1 fun p1 =>
  ∃ (b1 : Bool), cellOf h1 p1 = some (.bool b1) ∧
  bif b1 then (
  onSome cap3 fun p2 =>
  ∃ (q1 : Option Addr), cellOf h1 p2 = some (.pointer q1) ∧
  onSome q1 fun p3 =>
  ∃ (m1 : Option Nat), cellOf h1 (Addr.add p3 1) = some (.map m1) ∧
  onSome cap4 fun p4 =>
  ∃ (n1 : Int), cellOf h1 p4 = some (.int .i64 n1) ∧
  onSome cap2 fun p5 =>
  ∃ (sA1 : Option Addr) (sL1 : Nat) (sC1 : Nat), cellOf h1 p5 = some (.slice sA1 sL1 sC1) ∧
  onSome m1 fun r1 =>
  MapPut (.int .i64) r1 (.i n1) (.slice sA1 sL1 sC1) h1 fun h2 =>
  K (.tuple #[]) h2) else (
  onSome cap3 fun p6 =>
  ∃ (q2 : Option Addr), cellOf h1 p6 = some (.pointer q2) ∧
  onSome q2 fun p7 =>
  ∃ (m2 : Option Nat), cellOf h1 (Addr.add p7 1) = some (.map m2) ∧
  onSome cap4 fun p8 =>
  ∃ (n2 : Int), cellOf h1 p8 = some (.int .i64 n2) ∧
  MapDel (.int .i64) m2 (.i n2) h1 fun h3 =>
  K (.tuple #[]) h3)
def txn_Txn_Write_c1.lo : Nat → List Nat × List (Nat × Ty) := fun n => match n with | _ => ([], [])
def txn_Txn_Write_c1.od : Nat → Od := fun n => match n with | 1 => (.op 0 [] (.op 1 [] (.op 2 [] (.op 3 [] (.op 4 [] (.op 5 [] (.op 6 [] .nil))))))) | 2 => (.op 0 [] (.op 1 [] (.op 2 [] (.op 3 [] (.op 4 [] (.op 5 [] .nil)))))) | _ => .nil
theorem txn_Txn_Write_c1.ok {cap1 : Option Addr} {cap2 : Option Addr} {cap3 : Option Addr} {cap4 : Option Addr} {K : Value → Heap → Prop} {h : Heap} (hx : txn_Txn_Write_c1 cap1 cap2 cap3 cap4 K h) : C.txn_Txn_Write_c1 cap1 cap2 cap3 cap4 h K :=
  fn_to (c := Tryz.f157.body.getD .skip) (cxOk txn_Txn_Write_c1.lo txn_Txn_Write_c1.od) Tryz.func157 (by kernel_rfl) (by kernel_rfl) (Eq.mpr (by kernel_rfl) hx)
end Go.Proofs.YtjdcbblgaoogmaaGreatDoor.W
namespace Go.Proofs.YtjdcbblgaoogmaaGreatDoor.W
open Go Go.Proofs Wx
def head_may (numsA1 : Option Addr) (numsL1 : Nat) (numsC1 : Nat) (n1 : Int) (K : Value → Heap → Prop) (h1 : Heap) : Prop :=
  New [.int .i64 n1] 3 h1 fun h2 =>
  New z3 3 h2 fun h3 =>
  Put ⟨h2.size, 0, none⟩ (.int .i64 97) h3 fun h4 =>
  ∃ (I1 : Int → Heap → Prop) (M1 : Int → Heap → Nat), I1 0 h4 ∧
  ∀ (n2 : Int), ∀ h5 : Heap, I1 n2 h5 →
  bif (decide (n2 < (numsL1 : Int))) then (
  (0 ≤ n2 ∧ n2 < (numsL1 : Int)) ∧
  onSome numsA1 fun p1 =>
  ∃ (n3 : Int), cellOf h5 (Addr.add p1 (Int.toNat n2)) = some (.int .i64 n3) ∧
  C.head_may_c1 n3 (some ⟨h2.size, 0, none⟩) (some ⟨h1.size, 0, none⟩) h5 fun r1 h6 =>
  ∃ (b1 : Bool), r1 = .bool b1 ∧
  bif b1 then (
  K (.bool false) h6) else (
  I1 (IntKind.wrap .i64 (n2 + 1)) h6 ∧ M1 (IntKind.wrap .i64 (n2 + 1)) h6 < M1 n2 h5)) else (
  bif (decide ((numsL1 : Int) ≥ 1)) then (
  K (.bool (decide ((numsL1 : Int) ≤ 96))) h5) else (
  K (.bool false) h5))
def head_may.lo : Nat → List Nat × List (Nat × Ty) := fun n => match n with | 4 => ([0, 6, 10, 11], [(12, .int .i64)]) | _ => ([], [])
def head_may.od : Nat → Od := fun n => match n with | _ => .nil
theorem head_may.ok {numsA1 : Option Addr} {numsL1 : Nat} {numsC1 : Nat} {n1 : Int} {K : Value → Heap → Prop} {h : Heap} (hx : head_may numsA1 numsL1 numsC1 n1 K h) : C.head_may numsA1 numsL1 numsC1 n1 h K :=
  fn_to (c := Tryz.f176.body.getD .skip) (cxOk head_may.lo head_may.od) Tryz.func176 (by kernel_rfl) (by kernel_rfl) (Eq.mpr (by kernel_rfl) hx)
def head_areBlocks (dataA1 : Option Addr) (dataL1 : Nat) (dataC1 : Nat) (n1 : Int) (K : Value → Heap → Prop) (h1 : Heap) : Prop :=
  ∃ (I1 : Int → Heap → Prop) (M1 : Int → Heap → Nat), I1 0 h1 ∧
  ∀ (n2 : Int), ∀ h2 : Heap, I1 n2 h2 →
  bif (decide (n2 < (dataL1 : Int))) then (
  (0 ≤ n2 ∧ n2 < (dataL1 : Int)) ∧
  onSome dataA1 fun p1 =>
  ∃ (sA1 : Option Addr) (sL1 : Nat) (sC1 : Nat), cellOf h2 (Addr.add p1 (Int.toNat n2)) = some (.slice sA1 sL1 sC1) ∧
  bif ((sL1 : Int) != 512) then (
  K (.bool false) h2) else (
  I1 (IntKind.wrap .i64 (n2 + 1)) h2 ∧ M1 (IntKind.wrap .i64 (n2 + 1)) h2 < M1 n2 h2)) else (
  K (.bool ((dataL1 : Int) == n1)) h2)
def head_areBlocks.lo : Nat → List Nat × List (Nat × Ty) := fun n => match n with | 2 => ([0, 1, 7, 8], [(9, .int .i64)]) | _ => ([], [])
def head_areBlocks.od : Nat → Od := fun n => match n with | _ => .nil
theorem head_areBlocks.ok {dataA1 : Option Addr} {dataL1 : Nat} {dataC1 : Nat} {n1 : Int} {K : Value → Heap → Prop} {h : Heap} (hx : head_areBlocks dataA1 dataL1 dataC1 n1 K h) : C.head_areBlocks dataA1 dataL1 dataC1 n1 h K :=
  fn_to (c := Tryz.f177.body.getD .skip) (cxOk head_areBlocks.lo head_areBlocks.od) Tryz.func177 (by kernel_rfl) (by kernel_rfl) (Eq.mpr (by kernel_rfl) hx)
def rec_PutText (bA1 : Option Addr) (bL1 : Nat) (bC1 : Nat) (at1 : Int) (n1 : Int) (s1 : ByteArray) (K : Value → Heap → Prop) (h1 : Heap) : Prop :=
  bif (decide (n1 < 0)) then (
  K (.int .i64 1) h1) else (
  bif (decide ((s1.size : Int) > n1)) then (
  K (.int .i64 1) h1) else (
  NewS s1 5 h1 fun cap1 h2 =>
  C.rec_ahead (some ⟨h1.size, 0, none⟩) s1.size cap1 h2 fun r1 h3 =>
  ∃ (n2 : Int), r1 = .int .i64 n2 ∧
  bif (decide (n2 < (s1.size : Int))) then (
  K (.int .i64 1) h3) else (
  C.rec_lie bA1 bL1 bC1 at1 n1 h3 fun r2 h4 =>
  ∃ (b1 : Bool), r2 = .bool b1 ∧
  bif (!b1) then (
  K (.int .i64 20) h4) else (
  (0 ≤ at1 ∧ at1 ≤ (IntKind.wrap .i64 (at1 + n1)) ∧ (IntKind.wrap .i64 (at1 + n1)) ≤ (bC1 : Int)) ∧
  CopyP ti5 (if bC1 = (Int.toNat at1) then bA1 else Option.map (Addr.add · (Int.toNat at1)) bA1) ((Int.toNat (IntKind.wrap .i64 (at1 + n1))) - (Int.toNat at1)) (.string s1) h4 fun n3 h5 =>
  (0 ≤ (IntKind.wrap .i64 (at1 + (n3 : Int))) ∧ (IntKind.wrap .i64 (at1 + (n3 : Int))) ≤ (IntKind.wrap .i64 (at1 + n1)) ∧ (IntKind.wrap .i64 (at1 + n1)) ≤ (bC1 : Int)) ∧
  ClearP ti5 (if bC1 = (Int.toNat (IntKind.wrap .i64 (at1 + (n3 : Int)))) then bA1 else Option.map (Addr.add · (Int.toNat (IntKind.wrap .i64 (at1 + (n3 : Int))))) bA1) ((Int.toNat (IntKind.wrap .i64 (at1 + n1))) - (Int.toNat (IntKind.wrap .i64 (at1 + (n3 : Int))))) h5 fun h6 =>
  K (.int .i64 0) h6))))
def rec_PutText.lo : Nat → List Nat × List (Nat × Ty) := fun n => match n with | _ => ([], [])
def rec_PutText.od : Nat → Od := fun n => match n with | _ => .nil
theorem rec_PutText.ok {bA1 : Option Addr} {bL1 : Nat} {bC1 : Nat} {at1 : Int} {n1 : Int} {s1 : ByteArray} {K : Value → Heap → Prop} {h : Heap} (hx : rec_PutText bA1 bL1 bC1 at1 n1 s1 K h) : C.rec_PutText bA1 bL1 bC1 at1 n1 s1 h K :=
  fn_to (c := Tryz.f178.body.getD .skip) (cxOk rec_PutText.lo rec_PutText.od) Tryz.func178 (by kernel_rfl) (by kernel_rfl) (Eq.mpr (by kernel_rfl) hx)
def rec_Put (bA1 : Option Addr) (bL1 : Nat) (bC1 : Nat) (at1 : Int) (n1 : Int) (v1 : Int) (K : Value → Heap → Prop) (h1 : Heap) : Prop :=
  C.rec_isWidth n1 h1 fun r1 h2 =>
  ∃ (b1 : Bool), r1 = .bool b1 ∧
  bif (!b1) then (
  K (.int .i64 1) h2) else (
  bif (decide (n1 < 8)) then (
  if (IntKind.wrap .i64 (8 * n1)) < 0 then False else
  bif ((Int.fdiv v1 (2 ^ min (Int.toNat (IntKind.wrap .i64 (8 * n1))) 64)) != 0) then (
  K (.int .i64 1) h2) else (
  C.rec_lie bA1 bL1 bC1 at1 n1 h2 fun r2 h3 =>
  ∃ (b2 : Bool), r2 = .bool b2 ∧
  bif (!b2) then (
  K (.int .i64 20) h3) else (
  ∃ (I1 : Int → Heap → Prop) (M1 : Int → Heap → Nat), I1 0 h3 ∧
  ∀ (n2 : Int), ∀ h4 : Heap, I1 n2 h4 →
  bif (decide (n2 < n1)) then (
  if (IntKind.wrap .i64 (8 * n2)) < 0 then False else
  (0 ≤ (IntKind.wrap .i64 (at1 + n2)) ∧ (IntKind.wrap .i64 (at1 + n2)) < (bL1 : Int)) ∧
  onSome bA1 fun p1 =>
  Put (Addr.add p1 (Int.toNat (IntKind.wrap .i64 (at1 + n2)))) (.int .u8 (IntKind.wrap .u8 ((Int.fdiv v1 (2 ^ min (Int.toNat (IntKind.wrap .i64 (8 * n2))) 64))))) h4 fun h5 =>
  I1 (IntKind.wrap .i64 (n2 + 1)) h5 ∧ M1 (IntKind.wrap .i64 (n2 + 1)) h5 < M1 n2 h4) else (
  K (.int .i64 0) h4)))) else (
  C.rec_lie bA1 bL1 bC1 at1 n1 h2 fun r3 h6 =>
  ∃ (b3 : Bool), r3 = .bool b3 ∧
  bif (!b3) then (
  K (.int .i64 20) h6) else (
  ∃ (I2 : Int → Heap → Prop) (M2 : Int → Heap → Nat), I2 0 h6 ∧
  ∀ (n3 : Int), ∀ h7 : Heap, I2 n3 h7 →
  bif (decide (n3 < n1)) then (
  if (IntKind.wrap .i64 (8 * n3)) < 0 then False else
  (0 ≤ (IntKind.wrap .i64 (at1 + n3)) ∧ (IntKind.wrap .i64 (at1 + n3)) < (bL1 : Int)) ∧
  onSome bA1 fun p2 =>
  Put (Addr.add p2 (Int.toNat (IntKind.wrap .i64 (at1 + n3)))) (.int .u8 (IntKind.wrap .u8 ((Int.fdiv v1 (2 ^ min (Int.toNat (IntKind.wrap .i64 (8 * n3))) 64))))) h7 fun h8 =>
  I2 (IntKind.wrap .i64 (n3 + 1)) h8 ∧ M2 (IntKind.wrap .i64 (n3 + 1)) h8 < M2 n3 h7) else (
  K (.int .i64 0) h7))))
def rec_Put.lo : Nat → List Nat × List (Nat × Ty) := fun n => match n with | 6 => ([0, 1, 3, 31], [(32, .int .i64)]) | _ => ([], [])
def rec_Put.od : Nat → Od := fun n => match n with | _ => .nil
theorem rec_Put.ok {bA1 : Option Addr} {bL1 : Nat} {bC1 : Nat} {at1 : Int} {n1 : Int} {v1 : Int} {K : Value → Heap → Prop} {h : Heap} (hx : rec_Put bA1 bL1 bC1 at1 n1 v1 K h) : C.rec_Put bA1 bL1 bC1 at1 n1 v1 h K :=
  fn_to (c := Tryz.f179.body.getD .skip) (cxOk rec_Put.lo rec_Put.od) Tryz.func179 (by kernel_rfl) (by kernel_rfl) (Eq.mpr (by kernel_rfl) hx)
def head_sumOf (headA1 : Option Addr) (headL1 : Nat) (headC1 : Nat) (piecesA1 : Option Addr) (piecesL1 : Nat) (piecesC1 : Nat) (K : Value → Heap → Prop) (h1 : Heap) : Prop :=
  C.bytes_Clone headA1 headL1 headC1 h1 fun r1 h2 =>
  ∃ (sA1 : Option Addr) (sL1 : Nat) (sC1 : Nat), r1 = .slice sA1 sL1 sC1 ∧
  C.rec_Put sA1 sL1 sC1 12 4 0 h2 fun r2 h3 =>
  ∃ (n1 : Int), r2 = .int .i64 n1 ∧
  C.sum_Of sA1 sL1 sC1 h3 fun r3 h4 =>
  ∃ (n2 : Int), r3 = .int .u32 n2 ∧
  ∃ (I1 : Int → Int → Heap → Prop) (M1 : Int → Int → Heap → Nat), I1 n2 0 h4 ∧
  ∀ (s1 : Int) (n3 : Int), ∀ h5 : Heap, I1 s1 n3 h5 →
  bif (decide (n3 < (piecesL1 : Int))) then (
  (0 ≤ n3 ∧ n3 < (piecesL1 : Int)) ∧
  onSome piecesA1 fun p1 =>
  ∃ (sA2 : Option Addr) (sL2 : Nat) (sC2 : Nat), cellOf h5 (Addr.add p1 (Int.toNat n3)) = some (.slice sA2 sL2 sC2) ∧
  C.sum_Of sA2 sL2 sC2 h5 fun r4 h6 =>
  ∃ (n4 : Int), r4 = .int .u32 n4 ∧
  C.sum_Join s1 n4 (sL2 : Int) h6 fun r5 h7 =>
  ∃ (n5 : Int) (n6 : Int), r5 = .tuple #[.int .u32 n5, .int .i64 n6] ∧
  I1 n5 (IntKind.wrap .i64 (n3 + 1)) h7 ∧ M1 n5 (IntKind.wrap .i64 (n3 + 1)) h7 < M1 s1 n3 h5) else (
  K (.int .u32 s1) h5)
def head_sumOf.lo : Nat → List Nat × List (Nat × Ty) := fun n => match n with | 5 => ([15, 16], [(6, .int .u32), (17, .int .i64)]) | _ => ([], [])
def head_sumOf.od : Nat → Od := fun n => match n with | _ => .nil
theorem head_sumOf.ok {headA1 : Option Addr} {headL1 : Nat} {headC1 : Nat} {piecesA1 : Option Addr} {piecesL1 : Nat} {piecesC1 : Nat} {K : Value → Heap → Prop} {h : Heap} (hx : head_sumOf headA1 headL1 headC1 piecesA1 piecesL1 piecesC1 K h) : C.head_sumOf headA1 headL1 headC1 piecesA1 piecesL1 piecesC1 h K :=
  fn_to (c := Tryz.f180.body.getD .skip) (cxOk head_sumOf.lo head_sumOf.od) Tryz.func180 (by kernel_rfl) (by kernel_rfl) (Eq.mpr (by kernel_rfl) hx)
def wal_steps_write_c1 (d1 : Option Addr) (cap1 : Option Addr) (cap2 : Option Addr) (K : Value → Heap → Prop) (h1 : Heap) : Prop :=
  onSome cap1 fun p1 =>
  ∃ (n1 : Int), cellOf h1 p1 = some (.int .i64 n1) ∧
  onSome cap2 fun p2 =>
  ∃ (sA1 : Option Addr) (sL1 : Nat) (sC1 : Nat), cellOf h1 p2 = some (.slice sA1 sL1 sC1) ∧
  C.adisk_Disk_Write d1 n1 sA1 sL1 sC1 h1 fun r1 h2 =>
  ∃ (n2 : Int), r1 = .int .i64 n2 ∧
  K (.int .i64 n2) h2
def wal_steps_write_c1.lo : Nat → List Nat × List (Nat × Ty) := fun n => match n with | _ => ([], [])
def wal_steps_write_c1.od : Nat → Od := fun n => match n with | _ => .nil
theorem wal_steps_write_c1.ok {d1 : Option Addr} {cap1 : Option Addr} {cap2 : Option Addr} {K : Value → Heap → Prop} {h : Heap} (hx : wal_steps_write_c1 d1 cap1 cap2 K h) : C.wal_steps_write_c1 d1 cap1 cap2 h K :=
  fn_to (c := Tryz.f181.body.getD .skip) (cxOk wal_steps_write_c1.lo wal_steps_write_c1.od) Tryz.func181 (by kernel_rfl) (by kernel_rfl) (Eq.mpr (by kernel_rfl) hx)
def wal_steps_flush_c1 (d1 : Option Addr) (K : Value → Heap → Prop) (h1 : Heap) : Prop :=
  C.adisk_Disk_Flush d1 h1 fun r1 h2 =>
  ∃ (n1 : Int), r1 = .int .i64 n1 ∧
  K (.int .i64 n1) h2
def wal_steps_flush_c1.lo : Nat → List Nat × List (Nat × Ty) := fun n => match n with | _ => ([], [])
def wal_steps_flush_c1.od : Nat → Od := fun n => match n with | _ => .nil
theorem wal_steps_flush_c1.ok {d1 : Option Addr} {K : Value → Heap → Prop} {h : Heap} (hx : wal_steps_flush_c1 d1 K h) : C.wal_steps_flush_c1 d1 h K :=
  fn_to (c := Tryz.f182.body.getD .skip) (cxOk wal_steps_flush_c1.lo wal_steps_flush_c1.od) Tryz.func182 (by kernel_rfl) (by kernel_rfl) (Eq.mpr (by kernel_rfl) hx)
def head_Nums.k1 (headA1 : Option Addr) (headL1 : Nat) (headC1 : Nat) (n1 : Int) (h3 : Heap) (n3 : Int) (K : Value → Heap → Prop) : Prop :=
  ∃ (I1 : Option Addr → Nat → Nat → Int → Heap → Prop) (M1 : Option Addr → Nat → Nat → Int → Heap → Nat), I1 none 0 0 0 h3 ∧
  ∀ (numsA1 : Option Addr) (numsL1 : Nat) (numsC1 : Nat) (n5 : Int), ∀ h4 : Heap, I1 numsA1 numsL1 numsC1 n5 h4 →
  bif (decide (n5 < (IntKind.wrap .i64 (n3)))) then (
  C.rec_Get headA1 headL1 headC1 (IntKind.wrap .i64 (16 + (IntKind.wrap .i64 (4 * n5)))) 4 h4 fun r3 h5 =>
  ∃ (n6 : Int) (n7 : Int), r3 = .tuple #[.int .u64 n6, .int .i64 n7] ∧
  New [.int .i64 (IntKind.wrap .i64 (n6))] 3 h5 fun h6 =>
  ∃ new1 : List Value, List.length new1 = 1 * 1 ∧ SlCells h6 (some ⟨h5.size, 0, none⟩) new1 ∧ (∀ v ∈ new1, v.oneCell' = true) ∧
  AppendP ti3 3 numsA1 numsL1 numsC1 1 new1 h6 fun sA1 sL1 sC1 h7 =>
  I1 sA1 sL1 sC1 (IntKind.wrap .i64 (n5 + 1)) h7 ∧ M1 sA1 sL1 sC1 (IntKind.wrap .i64 (n5 + 1)) h7 < M1 numsA1 numsL1 numsC1 n5 h4) else (
  C.rec_Zero headA1 headL1 headC1 10 2 h4 fun r4 h8 =>
  ∃ (b2 : Bool) (n8 : Int), r4 = .tuple #[.bool b2, .int .i64 n8] ∧
  C.rec_Zero headA1 headL1 headC1 (IntKind.wrap .i64 (16 + (IntKind.wrap .i64 (4 * (numsL1 : Int))))) (IntKind.wrap .i64 (512 - (IntKind.wrap .i64 (16 + (IntKind.wrap .i64 (4 * (numsL1 : Int))))))) h8 fun r5 h9 =>
  ∃ (b3 : Bool) (n9 : Int), r5 = .tuple #[.bool b3, .int .i64 n9] ∧
  bif (!b2) then (
  K (.tuple #[.slice none 0 0, .int .i64 41]) h9) else (
  bif (!b3) then (
  K (.tuple #[.slice none 0 0, .int .i64 41]) h9) else (
  C.head_may numsA1 numsL1 numsC1 n1 h9 fun r6 h10 =>
  ∃ (b4 : Bool), r6 = .bool b4 ∧
  bif (!b4) then (
  K (.tuple #[.slice none 0 0, .int .i64 41]) h10) else (
  K (.tuple #[.slice numsA1 numsL1 numsC1, .int .i64 0]) h10))))
def head_Nums (headA1 : Option Addr) (headL1 : Nat) (headC1 : Nat) (n1 : Int) (K : Value → Heap → Prop) (h1 : Heap) : Prop :=
  bif ((headL1 : Int) != 512) then (
  K (.tuple #[.slice none 0 0, .int .i64 32]) h1) else (
  C.rec_Zero headA1 headL1 headC1 0 512 h1 fun r1 h2 =>
  ∃ (b1 : Bool) (n2 : Int), r1 = .tuple #[.bool b1, .int .i64 n2] ∧
  bif b1 then (
  K (.tuple #[.slice none 0 0, .int .i64 0]) h2) else (
  C.rec_Get headA1 headL1 headC1 8 2 h2 fun r2 h3 =>
  ∃ (n3 : Int) (n4 : Int), r2 = .tuple #[.int .u64 n3, .int .i64 n4] ∧
  (0 ≤ (8 : Int) ∧ (8 : Int) ≤ (headC1 : Int)) ∧
  ∃ bs1 : List UInt8, StrAt h3 headA1 (Int.toNat 8) bs1 ∧
  bif (!((mkStr bs1).toList == (mkStr [66, 79, 76, 69, 76, 79, 71, 49]).toList)) then (
  K (.tuple #[.slice none 0 0, .int .i64 41]) h3) else (
  bif (decide (n3 > 96)) then (
  K (.tuple #[.slice none 0 0, .int .i64 41]) h3) else (
  head_Nums.k1 headA1 headL1 headC1 n1 h3 n3 K))))
def head_Nums.lo : Nat → List Nat × List (Nat × Ty) := fun n => match n with | 11 => ([0, 1, 42], [(10, .slice), (43, .int .i64)]) | _ => ([], [])
def head_Nums.od : Nat → Od := fun n => match n with | _ => .nil
theorem head_Nums.ok {headA1 : Option Addr} {headL1 : Nat} {headC1 : Nat} {n1 : Int} {K : Value → Heap → Prop} {h : Heap} (hx : head_Nums headA1 headL1 headC1 n1 K h) : C.head_Nums headA1 headL1 headC1 n1 h K :=
  fn_to (c := Tryz.f184.body.getD .skip) (cxOk head_Nums.lo head_Nums.od) Tryz.func184 (by kernel_rfl) (by kernel_rfl) (Eq.mpr (by kernel_rfl) hx)
def head_Good.k1 (headA1 : Option Addr) (headL1 : Nat) (headC1 : Nat) (dataA1 : Option Addr) (dataL1 : Nat) (dataC1 : Nat) (h4 : Heap) (K : Value → Heap → Prop) : Prop :=
  C.rec_Get headA1 headL1 headC1 12 4 h4 fun r3 h5 =>
  ∃ (n3 : Int) (n4 : Int), r3 = .tuple #[.int .u64 n3, .int .i64 n4] ∧
  C.head_sumOf headA1 headL1 headC1 dataA1 dataL1 dataC1 h5 fun r4 h6 =>
  ∃ (n5 : Int), r4 = .int .u32 n5 ∧
  K (.bool ((IntKind.wrap .u32 (n3)) == n5)) h6
def head_Good (headA1 : Option Addr) (headL1 : Nat) (headC1 : Nat) (n1 : Int) (dataA1 : Option Addr) (dataL1 : Nat) (dataC1 : Nat) (K : Value → Heap → Prop) (h1 : Heap) : Prop :=
  C.head_Nums headA1 headL1 headC1 n1 h1 fun r1 h2 =>
  ∃ (sA1 : Option Addr) (sL1 : Nat) (sC1 : Nat) (n2 : Int), r1 = .tuple #[.slice sA1 sL1 sC1, .int .i64 n2] ∧
  bif (n2 != 0) then (
  K (.bool false) h2) else (
  bif ((sL1 : Int) == 0) then (
  K (.bool false) h2) else (
  C.head_areBlocks dataA1 dataL1 dataC1 (sL1 : Int) h2 fun r2 h3 =>
  ∃ (b1 : Bool), r2 = .bool b1 ∧
  bif (!b1) then (
  K (.bool false) h3) else (
  head_Good.k1 headA1 headL1 headC1 dataA1 dataL1 dataC1 h3 K)))
def head_Good.lo : Nat → List Nat × List (Nat × Ty) := fun n => match n with | _ => ([], [])
def head_Good.od : Nat → Od := fun n => match n with | _ => .nil
theorem head_Good.ok {headA1 : Option Addr} {headL1 : Nat} {headC1 : Nat} {n1 : Int} {dataA1 : Option Addr} {dataL1 : Nat} {dataC1 : Nat} {K : Value → Heap → Prop} {h : Heap} (hx : head_Good headA1 headL1 headC1 n1 dataA1 dataL1 dataC1 K h) : C.head_Good headA1 headL1 headC1 n1 dataA1 dataL1 dataC1 h K :=
  fn_to (c := Tryz.f185.body.getD .skip) (cxOk head_Good.lo head_Good.od) Tryz.func185 (by kernel_rfl) (by kernel_rfl) (Eq.mpr (by kernel_rfl) hx)
end Go.Proofs.YtjdcbblgaoogmaaGreatDoor.W
namespace Go.Proofs.YtjdcbblgaoogmaaGreatDoor.W
open Go Go.Proofs Wx
def boleref06_Header (lA1 : Option Addr) (lL1 : Nat) (lC1 : Nat) (K : Value → Heap → Prop) (h1 : Heap) : Prop :=
  New [.int .u8 66, .int .u8 79, .int .u8 76, .int .u8 69, .int .u8 76, .int .u8 79, .int .u8 71, .int .u8 49] 5 h1 fun h2 =>
  MarkAt ⟨h1.size, 0, none⟩ h2 fun h3 =>
  C.boleref06_low (lL1 : Int) 2 h3 fun r1 h4 =>
  ∃ (sA1 : Option Addr) (sL1 : Nat) (sC1 : Nat), r1 = .slice sA1 sL1 sC1 ∧
  ∃ new1 : List Value, List.length new1 = sL1 * 1 ∧ SlCells h4 sA1 new1 ∧ (∀ v ∈ new1, v.oneCell' = true) ∧
  AppendP ti5 5 (some ⟨h1.size, 0, none⟩) 8 8 sL1 new1 h4 fun sA2 sL2 sC2 h5 =>
  New [.int .u8 0, .int .u8 0] 5 h5 fun h6 =>
  ∃ new2 : List Value, List.length new2 = 2 * 1 ∧ SlCells h6 (some ⟨h5.size, 0, none⟩) new2 ∧ (∀ v ∈ new2, v.oneCell' = true) ∧
  AppendP ti5 5 sA2 sL2 sC2 2 new2 h6 fun sA3 sL3 sC3 h7 =>
  ∃ (I1 : Option Addr → Nat → Nat → Option Addr → Nat → Nat → Int → Heap → Prop) (M1 : Option Addr → Nat → Nat → Option Addr → Nat → Nat → Int → Heap → Nat), I1 none 0 0 none 0 0 0 h7 ∧
  ∀ (backA1 : Option Addr) (backL1 : Nat) (backC1 : Nat) (dataA1 : Option Addr) (dataL1 : Nat) (dataC1 : Nat) (n1 : Int), ∀ h8 : Heap, I1 backA1 backL1 backC1 dataA1 dataL1 dataC1 n1 h8 →
  bif (decide (n1 < (lL1 : Int))) then (
  (0 ≤ n1 ∧ n1 < (lL1 : Int)) ∧
  onSome lA1 fun p1 =>
  ∃ cs1 : List Value, List.length cs1 = 2 ∧ Cells h8 (Addr.add p1 ((Int.toNat n1) * 2)) cs1 ∧
  NewRow z103 103 cs1 2 h8 fun h10 =>
  ∃ (n2 : Int), cellOf h10 (Addr.add ⟨h8.size, 0, none⟩ 0) = some (.int .i64 n2) ∧
  C.boleref06_low n2 4 h10 fun r2 h11 =>
  ∃ (sA4 : Option Addr) (sL4 : Nat) (sC4 : Nat), r2 = .slice sA4 sL4 sC4 ∧
  ∃ new3 : List Value, List.length new3 = sL4 * 1 ∧ SlCells h11 sA4 new3 ∧ (∀ v ∈ new3, v.oneCell' = true) ∧
  AppendP ti5 5 backA1 backL1 backC1 sL4 new3 h11 fun sA5 sL5 sC5 h12 =>
  ∃ (sA6 : Option Addr) (sL6 : Nat) (sC6 : Nat), cellOf h12 (Addr.add ⟨h8.size, 0, none⟩ 1) = some (.slice sA6 sL6 sC6) ∧
  ∃ new4 : List Value, List.length new4 = sL6 * 1 ∧ SlCells h12 sA6 new4 ∧ (∀ v ∈ new4, v.oneCell' = true) ∧
  AppendP ti5 5 dataA1 dataL1 dataC1 sL6 new4 h12 fun sA7 sL7 sC7 h13 =>
  I1 sA5 sL5 sC5 sA7 sL7 sC7 (IntKind.wrap .i64 (n1 + 1)) h13 ∧ M1 sA5 sL5 sC5 sA7 sL7 sC7 (IntKind.wrap .i64 (n1 + 1)) h13 < M1 backA1 backL1 backC1 dataA1 dataL1 dataC1 n1 h8) else (
  ∃ (I2 : Option Addr → Nat → Nat → Heap → Prop) (M2 : Option Addr → Nat → Nat → Heap → Nat), I2 backA1 backL1 backC1 h8 ∧
  ∀ (backA2 : Option Addr) (backL2 : Nat) (backC2 : Nat), ∀ h14 : Heap, I2 backA2 backL2 backC2 h14 →
  bif (decide ((IntKind.wrap .i64 ((IntKind.wrap .i64 ((sL3 : Int) + 4)) + (backL2 : Int))) < 512)) then (
  New [.int .u8 0] 5 h14 fun h15 =>
  ∃ new5 : List Value, List.length new5 = 1 * 1 ∧ SlCells h15 (some ⟨h14.size, 0, none⟩) new5 ∧ (∀ v ∈ new5, v.oneCell' = true) ∧
  AppendP ti5 5 backA2 backL2 backC2 1 new5 h15 fun sA8 sL8 sC8 h16 =>
  I2 sA8 sL8 sC8 h16 ∧ M2 sA8 sL8 sC8 h16 < M2 backA2 backL2 backC2 h14) else (
  ∃ new6 : List Value, List.length new6 = sL3 * 1 ∧ SlCells h14 sA3 new6 ∧ (∀ v ∈ new6, v.oneCell' = true) ∧
  AppendP ti5 5 none 0 0 sL3 new6 h14 fun sA9 sL9 sC9 h17 =>
  New [.int .u8 0, .int .u8 0, .int .u8 0, .int .u8 0] 5 h17 fun h18 =>
  ∃ new7 : List Value, List.length new7 = 4 * 1 ∧ SlCells h18 (some ⟨h17.size, 0, none⟩) new7 ∧ (∀ v ∈ new7, v.oneCell' = true) ∧
  AppendP ti5 5 sA9 sL9 sC9 4 new7 h18 fun sA10 sL10 sC10 h19 =>
  ∃ new8 : List Value, List.length new8 = backL2 * 1 ∧ SlCells h19 backA2 new8 ∧ (∀ v ∈ new8, v.oneCell' = true) ∧
  AppendP ti5 5 sA10 sL10 sC10 backL2 new8 h19 fun sA11 sL11 sC11 h20 =>
  ∃ new9 : List Value, List.length new9 = dataL1 * 1 ∧ SlCells h20 dataA1 new9 ∧ (∀ v ∈ new9, v.oneCell' = true) ∧
  AppendP ti5 5 sA11 sL11 sC11 dataL1 new9 h20 fun sA12 sL12 sC12 h21 =>
  C.boleref06_crc sA12 sL12 sC12 h21 fun r3 h22 =>
  ∃ (n3 : Int), r3 = .int .u32 n3 ∧
  C.boleref06_low (IntKind.wrap .i64 (n3)) 4 h22 fun r4 h23 =>
  ∃ (sA13 : Option Addr) (sL13 : Nat) (sC13 : Nat), r4 = .slice sA13 sL13 sC13 ∧
  ∃ new10 : List Value, List.length new10 = sL13 * 1 ∧ SlCells h23 sA13 new10 ∧ (∀ v ∈ new10, v.oneCell' = true) ∧
  AppendP ti5 5 sA3 sL3 sC3 sL13 new10 h23 fun sA14 sL14 sC14 h24 =>
  ∃ new11 : List Value, List.length new11 = backL2 * 1 ∧ SlCells h24 backA2 new11 ∧ (∀ v ∈ new11, v.oneCell' = true) ∧
  AppendP ti5 5 sA14 sL14 sC14 backL2 new11 h24 fun sA15 sL15 sC15 h25 =>
  K (.slice sA15 sL15 sC15) h25))
def boleref06_Header.lo : Nat → List Nat × List (Nat × Ty) := fun n => match n with | 6 => ([3, 19, 20], [(4, .slice), (5, .slice), (21, .int .i64)]) | 11 => ([3, 5], [(4, .slice)]) | _ => ([], [])
def boleref06_Header.od : Nat → Od := fun n => match n with | _ => .nil
theorem boleref06_Header.ok {lA1 : Option Addr} {lL1 : Nat} {lC1 : Nat} {K : Value → Heap → Prop} {h : Heap} (hx : boleref06_Header lA1 lL1 lC1 K h) : C.boleref06_Header lA1 lL1 lC1 h K :=
  fn_to (c := Tryz.f194.body.getD .skip) (cxOk boleref06_Header.lo boleref06_Header.od) Tryz.func194 (by kernel_rfl) (by kernel_rfl) (Eq.mpr (by kernel_rfl) hx)
def boleref06_number (bA1 : Option Addr) (bL1 : Nat) (bC1 : Nat) (K : Value → Heap → Prop) (h1 : Heap) : Prop :=
  ∃ (I1 : Int → Int → Heap → Prop) (M1 : Int → Int → Heap → Nat), I1 0 (IntKind.wrap .i64 ((bL1 : Int) - 1)) h1 ∧
  ∀ (n1 : Int) (i1 : Int), ∀ h2 : Heap, I1 n1 i1 h2 →
  bif (decide (i1 ≥ 0)) then (
  (0 ≤ i1 ∧ i1 < (bL1 : Int)) ∧
  onSome bA1 fun p1 =>
  ∃ (n2 : Int), cellOf h2 (Addr.add p1 (Int.toNat i1)) = some (.int .u8 n2) ∧
  I1 (IntKind.wrap .i64 ((IntKind.wrap .i64 (n1 * 256)) + (IntKind.wrap .i64 (n2)))) (IntKind.wrap .i64 (i1 - 1)) h2 ∧ M1 (IntKind.wrap .i64 ((IntKind.wrap .i64 (n1 * 256)) + (IntKind.wrap .i64 (n2)))) (IntKind.wrap .i64 (i1 - 1)) h2 < M1 n1 i1 h2) else (
  K (.int .i64 n1) h2)
def boleref06_number.lo : Nat → List Nat × List (Nat × Ty) := fun n => match n with | 3 => ([0], [(3, .int .i64), (4, .int .i64)]) | _ => ([], [])
def boleref06_number.od : Nat → Od := fun n => match n with | _ => .nil
theorem boleref06_number.ok {bA1 : Option Addr} {bL1 : Nat} {bC1 : Nat} {K : Value → Heap → Prop} {h : Heap} (hx : boleref06_number bA1 bL1 bC1 K h) : C.boleref06_number bA1 bL1 bC1 h K :=
  fn_to (c := Tryz.f195.body.getD .skip) (cxOk boleref06_number.lo boleref06_number.od) Tryz.func195 (by kernel_rfl) (by kernel_rfl) (Eq.mpr (by kernel_rfl) hx)
end Go.Proofs.YtjdcbblgaoogmaaGreatDoor.W
namespace Go.Proofs.YtjdcbblgaoogmaaGreatDoor.W
open Go Go.Proofs Wx
def head_may_c1 (i1 : Int) (cap1 : Option Addr) (cap2 : Option Addr) (K : Value → Heap → Prop) (h1 : Heap) : Prop :=
  onSome cap1 fun p1 =>
  ∃ (n1 : Int), cellOf h1 p1 = some (.int .i64 n1) ∧
  onSome cap1 fun p2 =>
  Put p2 (.int .i64 i1) h1 fun h2 =>
  bif (decide (i1 ≤ n1)) then (
  K (.bool true) h2) else (
  onSome cap2 fun p3 =>
  ∃ (n2 : Int), cellOf h2 p3 = some (.int .i64 n2) ∧
  K (.bool (decide (i1 ≥ n2))) h2)
def head_may_c1.lo : Nat → List Nat × List (Nat × Ty) := fun n => match n with | _ => ([], [])
def head_may_c1.od : Nat → Od := fun n => match n with | _ => .nil
theorem head_may_c1.ok {i1 : Int} {cap1 : Option Addr} {cap2 : Option Addr} {K : Value → Heap → Prop} {h : Heap} (hx : head_may_c1 i1 cap1 cap2 K h) : C.head_may_c1 i1 cap1 cap2 h K :=
  fn_to (c := Tryz.f242.body.getD .skip) (cxOk head_may_c1.lo head_may_c1.od) Tryz.func242 (by kernel_rfl) (by kernel_rfl) (Eq.mpr (by kernel_rfl) hx)
def rec_ahead (bA1 : Option Addr) (bL1 : Nat) (bC1 : Nat) (K : Value → Heap → Prop) (h1 : Heap) : Prop :=
  ∃ (I1 : Int → Heap → Prop) (M1 : Int → Heap → Nat), I1 0 h1 ∧
  ∀ (n1 : Int), ∀ h2 : Heap, I1 n1 h2 →
  bif (decide (n1 < (bL1 : Int))) then (
  (0 ≤ n1 ∧ n1 < (bL1 : Int)) ∧
  onSome bA1 fun p1 =>
  ∃ (n2 : Int), cellOf h2 (Addr.add p1 (Int.toNat n1)) = some (.int .u8 n2) ∧
  bif (n2 == 0) then (
  K (.int .i64 n1) h2) else (
  I1 (IntKind.wrap .i64 (n1 + 1)) h2 ∧ M1 (IntKind.wrap .i64 (n1 + 1)) h2 < M1 n1 h2)) else (
  K (.int .i64 (bL1 : Int)) h2)
def rec_ahead.lo : Nat → List Nat × List (Nat × Ty) := fun n => match n with | 2 => ([0, 5, 6], [(7, .int .i64)]) | _ => ([], [])
def rec_ahead.od : Nat → Od := fun n => match n with | _ => .nil
theorem rec_ahead.ok {bA1 : Option Addr} {bL1 : Nat} {bC1 : Nat} {K : Value → Heap → Prop} {h : Heap} (hx : rec_ahead bA1 bL1 bC1 K h) : C.rec_ahead bA1 bL1 bC1 h K :=
  fn_to (c := Tryz.f243.body.getD .skip) (cxOk rec_ahead.lo rec_ahead.od) Tryz.func243 (by kernel_rfl) (by kernel_rfl) (Eq.mpr (by kernel_rfl) hx)
def rec_lie (bA1 : Option Addr) (bL1 : Nat) (bC1 : Nat) (at1 : Int) (n1 : Int) (K : Value → Heap → Prop) (h1 : Heap) : Prop :=
  bif (decide (at1 ≥ 0)) then (
  bif (decide (n1 ≥ 0)) then (
  bif (decide (at1 ≤ (bL1 : Int))) then (
  K (.bool (decide (n1 ≤ (IntKind.wrap .i64 ((bL1 : Int) - at1))))) h1) else (
  K (.bool false) h1)) else (
  K (.bool false) h1)) else (
  K (.bool false) h1)
def rec_lie.lo : Nat → List Nat × List (Nat × Ty) := fun n => match n with | _ => ([], [])
def rec_lie.od : Nat → Od := fun n => match n with | _ => .nil
theorem rec_lie.ok {bA1 : Option Addr} {bL1 : Nat} {bC1 : Nat} {at1 : Int} {n1 : Int} {K : Value → Heap → Prop} {h : Heap} (hx : rec_lie bA1 bL1 bC1 at1 n1 K h) : C.rec_lie bA1 bL1 bC1 at1 n1 h K :=
  fn_to (c := Tryz.f244.body.getD .skip) (cxOk rec_lie.lo rec_lie.od) Tryz.func244 (by kernel_rfl) (by kernel_rfl) (Eq.mpr (by kernel_rfl) hx)
def rec_isWidth (n1 : Int) (K : Value → Heap → Prop) (h1 : Heap) : Prop :=
  bif (decide (n1 ≥ 0)) then (
  bif (decide (n1 < 9)) then (
  (0 ≤ n1 ∧ n1 < (9 : Int)) ∧
  ∃ (b1 : Bool), cellOf h1 (Addr.add ⟨0, 0, none⟩ (Int.toNat n1)) = some (.bool b1) ∧
  K (.bool b1) h1) else (
  K (.bool false) h1)) else (
  K (.bool false) h1)
def rec_isWidth.lo : Nat → List Nat × List (Nat × Ty) := fun n => match n with | _ => ([], [])
def rec_isWidth.od : Nat → Od := fun n => match n with | _ => .nil
theorem rec_isWidth.ok {n1 : Int} {K : Value → Heap → Prop} {h : Heap} (hx : rec_isWidth n1 K h) : C.rec_isWidth n1 h K :=
  fn_to (c := Tryz.f245.body.getD .skip) (cxOk rec_isWidth.lo rec_isWidth.od) Tryz.func245 (by kernel_rfl) (by kernel_rfl) (Eq.mpr (by kernel_rfl) hx)
def bytes_Clone (bA1 : Option Addr) (bL1 : Nat) (bC1 : Nat) (K : Value → Heap → Prop) (h1 : Heap) : Prop :=
  bif (Option.isNone bA1) then (
  K (.slice none 0 0) h1) else (
  New [] 5 h1 fun h2 =>
  ∃ new1 : List Value, List.length new1 = bL1 * 1 ∧ SlCells h2 bA1 new1 ∧ (∀ v ∈ new1, v.oneCell' = true) ∧
  AppendP ti5 5 (some ⟨h1.size, 0, none⟩) 0 0 bL1 new1 h2 fun sA1 sL1 sC1 h3 =>
  K (.slice sA1 sL1 sC1) h3)
def bytes_Clone.lo : Nat → List Nat × List (Nat × Ty) := fun n => match n with | _ => ([], [])
def bytes_Clone.od : Nat → Od := fun n => match n with | _ => .nil
theorem bytes_Clone.ok {bA1 : Option Addr} {bL1 : Nat} {bC1 : Nat} {K : Value → Heap → Prop} {h : Heap} (hx : bytes_Clone bA1 bL1 bC1 K h) : C.bytes_Clone bA1 bL1 bC1 h K :=
  fn_to (c := Tryz.f246.body.getD .skip) (cxOk bytes_Clone.lo bytes_Clone.od) Tryz.func246 (by kernel_rfl) (by kernel_rfl) (Eq.mpr (by kernel_rfl) hx)
def sum_Of (bA1 : Option Addr) (bL1 : Nat) (bC1 : Nat) (K : Value → Heap → Prop) (h1 : Heap) : Prop :=
  ∃ (I1 : Int → Int → Heap → Prop) (M1 : Int → Int → Heap → Nat), I1 4294967295 0 h1 ∧
  ∀ (v1 : Int) (n1 : Int), ∀ h2 : Heap, I1 v1 n1 h2 →
  bif (decide (n1 < (bL1 : Int))) then (
  (0 ≤ n1 ∧ n1 < (bL1 : Int)) ∧
  onSome bA1 fun p1 =>
  ∃ (n2 : Int), cellOf h2 (Addr.add p1 (Int.toNat n1)) = some (.int .u8 n2) ∧
  C.sum_step v1 n2 h2 fun r1 h3 =>
  ∃ (n3 : Int), r1 = .int .u32 n3 ∧
  I1 n3 (IntKind.wrap .i64 (n1 + 1)) h3 ∧ M1 n3 (IntKind.wrap .i64 (n1 + 1)) h3 < M1 v1 n1 h2) else (
  K (.int .u32 (bitsI .xor .u32 (IntKind.max .u32) v1)) h2)
def sum_Of.lo : Nat → List Nat × List (Nat × Ty) := fun n => match n with | 3 => ([6, 7], [(3, .int .u32), (8, .int .i64)]) | _ => ([], [])
def sum_Of.od : Nat → Od := fun n => match n with | _ => .nil
theorem sum_Of.ok {bA1 : Option Addr} {bL1 : Nat} {bC1 : Nat} {K : Value → Heap → Prop} {h : Heap} (hx : sum_Of bA1 bL1 bC1 K h) : C.sum_Of bA1 bL1 bC1 h K :=
  fn_to (c := Tryz.f247.body.getD .skip) (cxOk sum_Of.lo sum_Of.od) Tryz.func247 (by kernel_rfl) (by kernel_rfl) (Eq.mpr (by kernel_rfl) hx)
def sum_Join.k1 (a1 : Int) (b1 : Int) (n1 : Int) (h1 : Heap) (K : Value → Heap → Prop) : Prop :=
  C.sum_behind a1 n1 h1 fun r1 h2 =>
  ∃ (n2 : Int), r1 = .int .u32 n2 ∧
  K (.tuple #[.int .u32 (bitsI .xor .u32 n2 b1), .int .i64 0]) h2
def sum_Join (a1 : Int) (b1 : Int) (n1 : Int) (K : Value → Heap → Prop) (h1 : Heap) : Prop :=
  bif (decide (n1 < 0)) then (
  K (.tuple #[.int .u32 0, .int .i64 1]) h1) else (
  bif (decide (n1 > 1099511627776)) then (
  K (.tuple #[.int .u32 0, .int .i64 1]) h1) else (
  sum_Join.k1 a1 b1 n1 h1 K))
def sum_Join.lo : Nat → List Nat × List (Nat × Ty) := fun n => match n with | _ => ([], [])
def sum_Join.od : Nat → Od := fun n => match n with | _ => .nil
theorem sum_Join.ok {a1 : Int} {b1 : Int} {n1 : Int} {K : Value → Heap → Prop} {h : Heap} (hx : sum_Join a1 b1 n1 K h) : C.sum_Join a1 b1 n1 h K :=
  fn_to (c := Tryz.f248.body.getD .skip) (cxOk sum_Join.lo sum_Join.od) Tryz.func248 (by kernel_rfl) (by kernel_rfl) (Eq.mpr (by kernel_rfl) hx)
def rec_Zero (bA1 : Option Addr) (bL1 : Nat) (bC1 : Nat) (at1 : Int) (n1 : Int) (K : Value → Heap → Prop) (h1 : Heap) : Prop :=
  bif (decide (n1 < 0)) then (
  K (.tuple #[.bool false, .int .i64 1]) h1) else (
  C.rec_lie bA1 bL1 bC1 at1 n1 h1 fun r1 h2 =>
  ∃ (b1 : Bool), r1 = .bool b1 ∧
  bif (!b1) then (
  K (.tuple #[.bool false, .int .i64 20]) h2) else (
  (0 ≤ at1 ∧ at1 ≤ (IntKind.wrap .i64 (at1 + n1)) ∧ (IntKind.wrap .i64 (at1 + n1)) ≤ (bC1 : Int)) ∧
  C.rec_zeros (if bC1 = (Int.toNat at1) then bA1 else Option.map (Addr.add · (Int.toNat at1)) bA1) ((Int.toNat (IntKind.wrap .i64 (at1 + n1))) - (Int.toNat at1)) (bC1 - (Int.toNat at1)) h2 fun r2 h3 =>
  ∃ (b2 : Bool), r2 = .bool b2 ∧
  K (.tuple #[.bool b2, .int .i64 0]) h3))
def rec_Zero.lo : Nat → List Nat × List (Nat × Ty) := fun n => match n with | _ => ([], [])
def rec_Zero.od : Nat → Od := fun n => match n with | _ => .nil
theorem rec_Zero.ok {bA1 : Option Addr} {bL1 : Nat} {bC1 : Nat} {at1 : Int} {n1 : Int} {K : Value → Heap → Prop} {h : Heap} (hx : rec_Zero bA1 bL1 bC1 at1 n1 K h) : C.rec_Zero bA1 bL1 bC1 at1 n1 h K :=
  fn_to (c := Tryz.f249.body.getD .skip) (cxOk rec_Zero.lo rec_Zero.od) Tryz.func249 (by kernel_rfl) (by kernel_rfl) (Eq.mpr (by kernel_rfl) hx)
def rec_Get (bA1 : Option Addr) (bL1 : Nat) (bC1 : Nat) (at1 : Int) (n1 : Int) (K : Value → Heap → Prop) (h1 : Heap) : Prop :=
  C.rec_isWidth n1 h1 fun r1 h2 =>
  ∃ (b1 : Bool), r1 = .bool b1 ∧
  bif (!b1) then (
  K (.tuple #[.int .u64 0, .int .i64 1]) h2) else (
  C.rec_lie bA1 bL1 bC1 at1 n1 h2 fun r2 h3 =>
  ∃ (b2 : Bool), r2 = .bool b2 ∧
  bif (!b2) then (
  K (.tuple #[.int .u64 0, .int .i64 20]) h3) else (
  ∃ (I1 : Int → Int → Heap → Prop) (M1 : Int → Int → Heap → Nat), I1 0 0 h3 ∧
  ∀ (v1 : Int) (n2 : Int), ∀ h4 : Heap, I1 v1 n2 h4 →
  bif (decide (n2 < n1)) then (
  (0 ≤ (IntKind.wrap .i64 (at1 + n2)) ∧ (IntKind.wrap .i64 (at1 + n2)) < (bL1 : Int)) ∧
  onSome bA1 fun p1 =>
  ∃ (n3 : Int), cellOf h4 (Addr.add p1 (Int.toNat (IntKind.wrap .i64 (at1 + n2)))) = some (.int .u8 n3) ∧
  if (IntKind.wrap .i64 (8 * n2)) < 0 then False else
  I1 (bitsI .or .u64 v1 (IntKind.wrap .u64 (((IntKind.wrap .u64 (n3)) * 2 ^ min (Int.toNat (IntKind.wrap .i64 (8 * n2))) 64)))) (IntKind.wrap .i64 (n2 + 1)) h4 ∧ M1 (bitsI .or .u64 v1 (IntKind.wrap .u64 (((IntKind.wrap .u64 (n3)) * 2 ^ min (Int.toNat (IntKind.wrap .i64 (8 * n2))) 64)))) (IntKind.wrap .i64 (n2 + 1)) h4 < M1 v1 n2 h4) else (
  K (.tuple #[.int .u64 v1, .int .i64 0]) h4)))
def rec_Get.lo : Nat → List Nat × List (Nat × Ty) := fun n => match n with | 7 => ([0, 1, 20], [(8, .int .u64), (21, .int .i64)]) | _ => ([], [])
def rec_Get.od : Nat → Od := fun n => match n with | _ => .nil
theorem rec_Get.ok {bA1 : Option Addr} {bL1 : Nat} {bC1 : Nat} {at1 : Int} {n1 : Int} {K : Value → Heap → Prop} {h : Heap} (hx : rec_Get bA1 bL1 bC1 at1 n1 K h) : C.rec_Get bA1 bL1 bC1 at1 n1 h K :=
  fn_to (c := Tryz.f250.body.getD .skip) (cxOk rec_Get.lo rec_Get.od) Tryz.func250 (by kernel_rfl) (by kernel_rfl) (Eq.mpr (by kernel_rfl) hx)
end Go.Proofs.YtjdcbblgaoogmaaGreatDoor.W
namespace Go.Proofs.YtjdcbblgaoogmaaGreatDoor.W
open Go Go.Proofs Wx
def boleref06_low (n1 : Int) (bytes1 : Int) (K : Value → Heap → Prop) (h1 : Heap) : Prop :=
  ∃ (I1 : Int → Option Addr → Nat → Nat → Int → Heap → Prop) (M1 : Int → Option Addr → Nat → Nat → Int → Heap → Nat), I1 n1 none 0 0 0 h1 ∧
  ∀ (n2 : Int) (bA1 : Option Addr) (bL1 : Nat) (bC1 : Nat) (i1 : Int), ∀ h2 : Heap, I1 n2 bA1 bL1 bC1 i1 h2 →
  bif (decide (i1 < bytes1)) then (
  New [.int .u8 (IntKind.wrap .u8 ((Int.tmod n2 256)))] 5 h2 fun h3 =>
  ∃ new1 : List Value, List.length new1 = 1 * 1 ∧ SlCells h3 (some ⟨h2.size, 0, none⟩) new1 ∧ (∀ v ∈ new1, v.oneCell' = true) ∧
  AppendP ti5 5 bA1 bL1 bC1 1 new1 h3 fun sA1 sL1 sC1 h4 =>
  I1 (IntKind.wrap .i64 (Int.tdiv n2 256)) sA1 sL1 sC1 (IntKind.wrap .i64 (i1 + 1)) h4 ∧ M1 (IntKind.wrap .i64 (Int.tdiv n2 256)) sA1 sL1 sC1 (IntKind.wrap .i64 (i1 + 1)) h4 < M1 n2 bA1 bL1 bC1 i1 h2) else (
  K (.slice bA1 bL1 bC1) h2)
def boleref06_low.lo : Nat → List Nat × List (Nat × Ty) := fun n => match n with | 3 => ([1], [(0, .int .i64), (5, .slice), (6, .int .i64)]) | _ => ([], [])
def boleref06_low.od : Nat → Od := fun n => match n with | _ => .nil
theorem boleref06_low.ok {n1 : Int} {bytes1 : Int} {K : Value → Heap → Prop} {h : Heap} (hx : boleref06_low n1 bytes1 K h) : C.boleref06_low n1 bytes1 h K :=
  fn_to (c := Tryz.f256.body.getD .skip) (cxOk boleref06_low.lo boleref06_low.od) Tryz.func256 (by kernel_rfl) (by kernel_rfl) (Eq.mpr (by kernel_rfl) hx)
def boleref06_crc (bA1 : Option Addr) (bL1 : Nat) (bC1 : Nat) (K : Value → Heap → Prop) (h1 : Heap) : Prop :=
  ∃ (I1 : Int → Int → Heap → Prop) (M1 : Int → Int → Heap → Nat), I1 4294967295 0 h1 ∧
  ∀ (c1 : Int) (i1 : Int), ∀ h2 : Heap, I1 c1 i1 h2 →
  bif (decide (i1 < (bL1 : Int))) then (
  (0 ≤ i1 ∧ i1 < (bL1 : Int)) ∧
  onSome bA1 fun p1 =>
  ∃ (n1 : Int), cellOf h2 (Addr.add p1 (Int.toNat i1)) = some (.int .u8 n1) ∧
  ∃ (I2 : Int → Int → Heap → Prop) (M2 : Int → Int → Heap → Nat), I2 (bitsI .xor .u32 c1 (IntKind.wrap .u32 (n1))) 0 h2 ∧
  ∀ (c2 : Int) (k1 : Int), ∀ h3 : Heap, I2 c2 k1 h3 →
  bif (decide (k1 < 8)) then (
  bif ((Int.tmod c2 2) == 1) then (
  I2 (bitsI .xor .u32 (IntKind.wrap .u32 (Int.tdiv c2 2)) 3988292384) (IntKind.wrap .i64 (k1 + 1)) h3 ∧ M2 (bitsI .xor .u32 (IntKind.wrap .u32 (Int.tdiv c2 2)) 3988292384) (IntKind.wrap .i64 (k1 + 1)) h3 < M2 c2 k1 h3) else (
  I2 (IntKind.wrap .u32 (Int.tdiv c2 2)) (IntKind.wrap .i64 (k1 + 1)) h3 ∧ M2 (IntKind.wrap .u32 (Int.tdiv c2 2)) (IntKind.wrap .i64 (k1 + 1)) h3 < M2 c2 k1 h3)) else (
  I1 c2 (IntKind.wrap .i64 (i1 + 1)) h3 ∧ M1 c2 (IntKind.wrap .i64 (i1 + 1)) h3 < M1 c1 i1 h2)) else (
  K (.int .u32 (bitsI .xor .u32 (IntKind.max .u32) c1)) h2)
def boleref06_crc.lo : Nat → List Nat × List (Nat × Ty) := fun n => match n with | 3 => ([0], [(3, .int .u32), (4, .int .i64)]) | 7 => ([0, 4], [(3, .int .u32), (5, .int .i64)]) | _ => ([], [])
def boleref06_crc.od : Nat → Od := fun n => match n with | _ => .nil
theorem boleref06_crc.ok {bA1 : Option Addr} {bL1 : Nat} {bC1 : Nat} {K : Value → Heap → Prop} {h : Heap} (hx : boleref06_crc bA1 bL1 bC1 K h) : C.boleref06_crc bA1 bL1 bC1 h K :=
  fn_to (c := Tryz.f257.body.getD .skip) (cxOk boleref06_crc.lo boleref06_crc.od) Tryz.func257 (by kernel_rfl) (by kernel_rfl) (Eq.mpr (by kernel_rfl) hx)
end Go.Proofs.YtjdcbblgaoogmaaGreatDoor.W
namespace Go.Proofs.YtjdcbblgaoogmaaGreatDoor.W
open Go Go.Proofs Wx
def sum_step (v1 : Int) (b1 : Int) (K : Value → Heap → Prop) (h1 : Heap) : Prop :=
  (0 ≤ (bitsI .and .u32 (bitsI .xor .u32 v1 (IntKind.wrap .u32 (b1))) 15) ∧ (bitsI .and .u32 (bitsI .xor .u32 v1 (IntKind.wrap .u32 (b1))) 15) < (16 : Int)) ∧
  ∃ (n1 : Int), cellOf h1 (Addr.add ⟨1, 0, none⟩ (Int.toNat (bitsI .and .u32 (bitsI .xor .u32 v1 (IntKind.wrap .u32 (b1))) 15))) = some (.int .u32 n1) ∧
  (0 ≤ (bitsI .and .u32 (bitsI .xor .u32 n1 (Int.fdiv (bitsI .xor .u32 v1 (IntKind.wrap .u32 (b1))) (2 ^ min (Int.toNat 4) 32))) 15) ∧ (bitsI .and .u32 (bitsI .xor .u32 n1 (Int.fdiv (bitsI .xor .u32 v1 (IntKind.wrap .u32 (b1))) (2 ^ min (Int.toNat 4) 32))) 15) < (16 : Int)) ∧
  ∃ (n2 : Int), cellOf h1 (Addr.add ⟨1, 0, none⟩ (Int.toNat (bitsI .and .u32 (bitsI .xor .u32 n1 (Int.fdiv (bitsI .xor .u32 v1 (IntKind.wrap .u32 (b1))) (2 ^ min (Int.toNat 4) 32))) 15))) = some (.int .u32 n2) ∧
  K (.int .u32 (bitsI .xor .u32 n2 (Int.fdiv (bitsI .xor .u32 n1 (Int.fdiv (bitsI .xor .u32 v1 (IntKind.wrap .u32 (b1))) (2 ^ min (Int.toNat 4) 32))) (2 ^ min (Int.toNat 4) 32)))) h1
def sum_step.lo : Nat → List Nat × List (Nat × Ty) := fun n => match n with | _ => ([], [])
def sum_step.od : Nat → Od := fun n => match n with | _ => .nil
theorem sum_step.ok {v1 : Int} {b1 : Int} {K : Value → Heap → Prop} {h : Heap} (hx : sum_step v1 b1 K h) : C.sum_step v1 b1 h K :=
  fn_to (c := Tryz.f278.body.getD .skip) (cxOk sum_step.lo sum_step.od) Tryz.func278 (by kernel_rfl) (by kernel_rfl) (Eq.mpr (by kernel_rfl) hx)
def sum_behind (v1 : Int) (n1 : Int) (K : Value → Heap → Prop) (h1 : Heap) : Prop :=
  New z348 348 h1 fun h2 =>
  ∃ (I1 : Int → Heap → Prop) (M1 : Int → Heap → Nat), I1 0 h2 ∧
  ∀ (n2 : Int), ∀ h3 : Heap, I1 n2 h3 →
  bif (decide (n2 < 32)) then (
  if n2 < 0 then False else
  C.sum_step (IntKind.wrap .u32 ((1 * 2 ^ min (Int.toNat n2) 32))) 0 h3 fun r1 h4 =>
  ∃ (n3 : Int), r1 = .int .u32 n3 ∧
  (0 ≤ n2 ∧ n2 < (32 : Int)) ∧
  Put (Addr.add ⟨h1.size, 0, none⟩ (Int.toNat n2)) (.int .u32 n3) h4 fun h5 =>
  I1 (IntKind.wrap .i64 (n2 + 1)) h5 ∧ M1 (IntKind.wrap .i64 (n2 + 1)) h5 < M1 n2 h3) else (
  ∃ (I2 : Int → Int → Heap → Prop) (M2 : Int → Int → Heap → Nat), I2 v1 n1 h3 ∧
  ∀ (v2 : Int) (n4 : Int), ∀ h6 : Heap, I2 v2 n4 h6 →
  bif (decide (n4 > 0)) then (
  bif ((bitsI .and .i64 n4 1) == 1) then (
  C.sum_matrix_times (some ⟨h1.size, 0, none⟩) v2 h6 fun r2 h7 =>
  ∃ (n5 : Int), r2 = .int .u32 n5 ∧
  C.sum_matrix_square (some ⟨h1.size, 0, none⟩) h7 fun r3 h8 =>
  ∃ (cs1 : List Value), r3 = .agg ⟨cs1⟩ ∧
  PutRow ⟨h1.size, 0, none⟩ cs1 32 h8 fun h9 =>
  I2 n5 (Int.fdiv n4 (2 ^ min (Int.toNat 1) 64)) h9 ∧ M2 n5 (Int.fdiv n4 (2 ^ min (Int.toNat 1) 64)) h9 < M2 v2 n4 h6) else (
  C.sum_matrix_square (some ⟨h1.size, 0, none⟩) h6 fun r4 h10 =>
  ∃ (cs2 : List Value), r4 = .agg ⟨cs2⟩ ∧
  PutRow ⟨h1.size, 0, none⟩ cs2 32 h10 fun h11 =>
  I2 v2 (Int.fdiv n4 (2 ^ min (Int.toNat 1) 64)) h11 ∧ M2 v2 (Int.fdiv n4 (2 ^ min (Int.toNat 1) 64)) h11 < M2 v2 n4 h6)) else (
  K (.int .u32 v2) h6))
def sum_behind.lo : Nat → List Nat × List (Nat × Ty) := fun n => match n with | 3 => ([0, 1, 5], [(7, .int .i64)]) | 7 => ([5], [(0, .int .u32), (1, .int .i64)]) | _ => ([], [])
def sum_behind.od : Nat → Od := fun n => match n with | _ => .nil
theorem sum_behind.ok {v1 : Int} {n1 : Int} {K : Value → Heap → Prop} {h : Heap} (hx : sum_behind v1 n1 K h) : C.sum_behind v1 n1 h K :=
  fn_to (c := Tryz.f279.body.getD .skip) (cxOk sum_behind.lo sum_behind.od) Tryz.func279 (by kernel_rfl) (by kernel_rfl) (Eq.mpr (by kernel_rfl) hx)
def rec_zeros (bA1 : Option Addr) (bL1 : Nat) (bC1 : Nat) (K : Value → Heap → Prop) (h1 : Heap) : Prop :=
  ∃ (I1 : Int → Heap → Prop) (M1 : Int → Heap → Nat), I1 0 h1 ∧
  ∀ (n1 : Int), ∀ h2 : Heap, I1 n1 h2 →
  bif (decide (n1 < (bL1 : Int))) then (
  (0 ≤ n1 ∧ n1 < (bL1 : Int)) ∧
  onSome bA1 fun p1 =>
  ∃ (n2 : Int), cellOf h2 (Addr.add p1 (Int.toNat n1)) = some (.int .u8 n2) ∧
  bif (n2 != 0) then (
  K (.bool false) h2) else (
  I1 (IntKind.wrap .i64 (n1 + 1)) h2 ∧ M1 (IntKind.wrap .i64 (n1 + 1)) h2 < M1 n1 h2)) else (
  K (.bool true) h2)
def rec_zeros.lo : Nat → List Nat × List (Nat × Ty) := fun n => match n with | 2 => ([5, 6], [(7, .int .i64)]) | _ => ([], [])
def rec_zeros.od : Nat → Od := fun n => match n with | _ => .nil
theorem rec_zeros.ok {bA1 : Option Addr} {bL1 : Nat} {bC1 : Nat} {K : Value → Heap → Prop} {h : Heap} (hx : rec_zeros bA1 bL1 bC1 K h) : C.rec_zeros bA1 bL1 bC1 h K :=
  fn_to (c := Tryz.f280.body.getD .skip) (cxOk rec_zeros.lo rec_zeros.od) Tryz.func280 (by kernel_rfl) (by kernel_rfl) (Eq.mpr (by kernel_rfl) hx)
def sum_matrix_times (m1 : Option Addr) (v1 : Int) (K : Value → Heap → Prop) (h1 : Heap) : Prop :=
  ∃ (I1 : Int → Int → Int → Heap → Prop) (M1 : Int → Int → Int → Heap → Nat), I1 v1 0 0 h1 ∧
  ∀ (v2 : Int) (r1 : Int) (i1 : Int), ∀ h2 : Heap, I1 v2 r1 i1 h2 →
  bif (v2 != 0) then (
  bif ((bitsI .and .u32 v2 1) == 1) then (
  onSome m1 fun p1 =>
  (0 ≤ i1 ∧ i1 < (32 : Int)) ∧
  ∃ (n1 : Int), cellOf h2 (Addr.add p1 (Int.toNat i1)) = some (.int .u32 n1) ∧
  I1 (Int.fdiv v2 (2 ^ min (Int.toNat 1) 32)) (bitsI .xor .u32 r1 n1) (IntKind.wrap .i64 (i1 + 1)) h2 ∧ M1 (Int.fdiv v2 (2 ^ min (Int.toNat 1) 32)) (bitsI .xor .u32 r1 n1) (IntKind.wrap .i64 (i1 + 1)) h2 < M1 v2 r1 i1 h2) else (
  I1 (Int.fdiv v2 (2 ^ min (Int.toNat 1) 32)) r1 (IntKind.wrap .i64 (i1 + 1)) h2 ∧ M1 (Int.fdiv v2 (2 ^ min (Int.toNat 1) 32)) r1 (IntKind.wrap .i64 (i1 + 1)) h2 < M1 v2 r1 i1 h2)) else (
  K (.int .u32 r1) h2)
def sum_matrix_times.lo : Nat → List Nat × List (Nat × Ty) := fun n => match n with | 3 => ([0], [(1, .int .u32), (5, .int .u32), (6, .int .i64)]) | _ => ([], [])
def sum_matrix_times.od : Nat → Od := fun n => match n with | _ => .nil
theorem sum_matrix_times.ok {m1 : Option Addr} {v1 : Int} {K : Value → Heap → Prop} {h : Heap} (hx : sum_matrix_times m1 v1 K h) : C.sum_matrix_times m1 v1 h K :=
  fn_to (c := Tryz.f300.body.getD .skip) (cxOk sum_matrix_times.lo sum_matrix_times.od) Tryz.func300 (by kernel_rfl) (by kernel_rfl) (Eq.mpr (by kernel_rfl) hx)
def sum_matrix_square (m1 : Option Addr) (K : Value → Heap → Prop) (h1 : Heap) : Prop :=
  New z348 348 h1 fun h2 =>
  New z348 348 h2 fun h3 =>
  ∃ (I1 : Int → Heap → Prop) (M1 : Int → Heap → Nat), I1 0 h3 ∧
  ∀ (n1 : Int), ∀ h4 : Heap, I1 n1 h4 →
  bif (decide (n1 < 32)) then (
  onSome m1 fun p1 =>
  (0 ≤ n1 ∧ n1 < (32 : Int)) ∧
  ∃ (n2 : Int), cellOf h4 (Addr.add p1 (Int.toNat n1)) = some (.int .u32 n2) ∧
  C.sum_matrix_times m1 n2 h4 fun r1 h5 =>
  ∃ (n3 : Int), r1 = .int .u32 n3 ∧
  (0 ≤ n1 ∧ n1 < (32 : Int)) ∧
  Put (Addr.add ⟨h2.size, 0, none⟩ (Int.toNat n1)) (.int .u32 n3) h5 fun h6 =>
  I1 (IntKind.wrap .i64 (n1 + 1)) h6 ∧ M1 (IntKind.wrap .i64 (n1 + 1)) h6 < M1 n1 h4) else (
  ∃ cs1 : List Value, List.length cs1 = 32 ∧ Cells h4 ⟨h2.size, 0, none⟩ cs1 ∧
  PutRow ⟨h1.size, 0, none⟩ cs1 32 h4 fun h7 =>
  ∃ res1 : List Value, List.length res1 = 32 ∧ Cells h7 ⟨h1.size, 0, none⟩ res1 ∧
  K (.agg ⟨res1⟩) h7)
def sum_matrix_square.lo : Nat → List Nat × List (Nat × Ty) := fun n => match n with | 3 => ([0, 2, 3], [(5, .int .i64)]) | _ => ([], [])
def sum_matrix_square.od : Nat → Od := fun n => match n with | _ => .nil
theorem sum_matrix_square.ok {m1 : Option Addr} {K : Value → Heap → Prop} {h : Heap} (hx : sum_matrix_square m1 K h) : C.sum_matrix_square m1 h K :=
  fn_to (c := Tryz.f301.body.getD .skip) (cxOk sum_matrix_square.lo sum_matrix_square.od) Tryz.func301 (by kernel_rfl) (by kernel_rfl) (Eq.mpr (by kernel_rfl) hx)
end Go.Proofs.YtjdcbblgaoogmaaGreatDoor.W
namespace Go.Proofs.YtjdcbblgaoogmaaGreatDoor.Su
open Go Go.Proofs Wx Hp W
def U32 (n : Int) : Prop := 0 ≤ n ∧ n < 4294967296
theorem wrap_u32 {n : Int} (h : U32 n) : IntKind.wrap .u32 n = n := by
  obtain ⟨h1, h2⟩ := h
  show n % 4294967296 = n
  exact Int.emod_eq_of_lt h1 h2
theorem wrap_u32_range (n : Int) : U32 (IntKind.wrap .u32 n) := by
  show 0 ≤ n % 4294967296 ∧ n % 4294967296 < 4294967296
  exact ⟨Int.emod_nonneg _ (by decide), Int.emod_lt_of_pos _ (by decide)⟩
theorem bits_range (op : BinOp) (a b : Int) : U32 (bitsI op .u32 a b) := by
  unfold bitsI; split <;> exact wrap_u32_range _
theorem and_le (x : Int) (k : Nat) (hk : k < 4294967296) : 0 ≤ bitsI .and .u32 x k ∧ bitsI .and .u32 x k ≤ k := by
  refine ⟨(bits_range _ _ _).1, ?_⟩
  show IntKind.wrap .u32 (((BitVec.ofInt 32 x &&& BitVec.ofInt 32 (k : Int)).toNat : Nat) : Int) ≤ k
  have h1 : (BitVec.ofInt 32 x &&& BitVec.ofInt 32 (k : Int)).toNat ≤ k := by
    rw [BitVec.toNat_and]
    refine Nat.le_trans Nat.and_le_right ?_
    rw [BitVec.ofInt_natCast, BitVec.toNat_ofNat]
    exact Nat.mod_le _ _
  rw [wrap_u32 ⟨by omega, by omega⟩]
  omega
theorem and15 (x : Int) : 0 ≤ bitsI .and .u32 x 15 ∧ bitsI .and .u32 x 15 < ((16 : Nat) : Int) := by
  have := and_le x 15 (by decide)
  have h2 : bitsI .and .u32 x ((15 : Nat) : Int) ≤ ((15 : Nat) : Int) := this.2
  exact ⟨this.1, by have e : ((15 : Nat) : Int) = 15 := rfl; rw [e] at h2; omega⟩
def halfL : List Int := [0, 498536548, 997073096, 651767980, 1994146192, 1802195444, 1303535960, 1342533948, 3988292384, 4027552580, 3604390888, 3412177804, 2607071920, 2262029012, 2685067896, 3183342108]
def Half (h : Heap) : Prop := rd h 1 = halfL.map fun n => .int .u32 n
theorem Half.lt {h : Heap} (g : Half h) : 1 < h.size := rd_lt (show (rd h 1)[0]? = some (.int .u32 0) by rw [g]; rfl)
theorem Half.fr {h h' : Heap} {F : Nat → Prop} (g : Half h) (f : Fr F h h') (hF : ¬ F 1) : Half h' := (f.rd g.lt hF).trans g
def half (i : Int) : Int := halfL.getD i.toNat 0
theorem half_cell {h : Heap} (g : Half h) {i : Int} (h0 : 0 ≤ i) (h1 : i < ((16 : Nat) : Int)) : cellOf h (Addr.add ⟨1, 0, none⟩ (Int.toNat i)) = some (.int .u32 (half i)) := by
  refine rda g ?_
  have h2 : i.toNat < halfL.length := by show i.toNat < 16; omega
  rw [Nat.zero_add, List.getElem?_map, List.getElem?_eq_getElem h2, half, List.getD_eq_getElem?_getD, List.getElem?_eq_getElem h2]; rfl
def stepM (v : Int) (b : UInt8) : Int :=
  bitsI .xor .u32 (half (bitsI .and .u32 (bitsI .xor .u32 (half (bitsI .and .u32 (bitsI .xor .u32 v (IntKind.wrap .u32 (b.toNat : Int))) 15)) (Int.fdiv (bitsI .xor .u32 v (IntKind.wrap .u32 (b.toNat : Int))) (2 ^ min (Int.toNat 4) 32))) 15))
    (Int.fdiv (bitsI .xor .u32 (half (bitsI .and .u32 (bitsI .xor .u32 v (IntKind.wrap .u32 (b.toNat : Int))) 15)) (Int.fdiv (bitsI .xor .u32 v (IntKind.wrap .u32 (b.toNat : Int))) (2 ^ min (Int.toNat 4) 32))) (2 ^ min (Int.toNat 4) 32))
theorem step_range (v : Int) (b : UInt8) : U32 (stepM v b) := bits_range _ _ _
theorem step_spec {v : Int} {b : UInt8} {h : Heap} {K : Value → Heap → Prop} (g : Half h) (hK : K (.int .u32 (stepM v b)) h) : C.sum_step v (b.toNat : Int) h K :=
  sum_step.ok ⟨and15 _, _, half_cell g (and15 _).1 (and15 _).2, and15 _, _, half_cell g (and15 _).1 (and15 _).2, hK⟩
def ofM (bs : List UInt8) : Int := bitsI .xor .u32 (IntKind.max .u32) (bs.foldl stepM 4294967295)
theorem of_range (bs : List UInt8) : U32 (ofM bs) := bits_range _ _ _
theorem Of_spec {a : Option Addr} {l c : Nat} {bs : List UInt8} {h : Heap} {K : Value → Heap → Prop} (g : Half h) (B : StrAt h a l bs) (hl : l ≤ 140737488355328) (hK : K (.int .u32 (ofM bs)) h) : C.sum_Of a l c h K := by
  have hb := B.1
  refine sum_Of.ok ⟨fun v n hh => 0 ≤ n ∧ n ≤ l ∧ h = hh ∧ v = (bs.take n.toNat).foldl stepM 4294967295, fun _ n _ => ((l : Int) - n).toNat, ⟨by omega, by omega, rfl, rfl⟩, ?_⟩
  rintro v n _ ⟨n0, n1, rfl, rfl⟩
  refine cd (fun hn => ?_) fun hn => ?_
  · have hn' : n.toNat < bs.length := by omega
    obtain ⟨_, B2⟩ := B
    cases a with
    | none => have B2 : bs.map bv = [] := B2; have := List.map_eq_nil_iff.mp B2; rw [this] at hn'; exact absurd hn' (by simp)
    | some p =>
      refine ⟨⟨n0, hn⟩, os ⟨_, B2 n.toNat (bv bs[n.toNat]) (by rw [List.getElem?_map, List.getElem?_eq_getElem hn']; rfl), step_spec g ⟨_, rfl, ?_⟩⟩⟩
      rw [wrap_i64 (by omega) (by omega)]
      have ht : (n + 1).toNat = n.toNat + 1 := by omega
      refine ⟨⟨by omega, by omega, rfl, ?_⟩, falls hn⟩
      rw [ht, List.take_succ_eq_append_getElem hn', List.foldl_append]; rfl
  · have e : (bs.take n.toNat) = bs := List.take_of_length_le (by omega)
    rw [e]; exact hK
def timesGo (m : List Int) : Nat → Int → Int → Nat → Int
  | 0, _, r, _ => r
  | f + 1, v, r, i => bif v != 0 then timesGo m f (Int.fdiv v (2 ^ min (Int.toNat 1) 32)) (bif bitsI .and .u32 v 1 == 1 then bitsI .xor .u32 r (m.getD i 0) else r) (i + 1) else r
def timesM (m : List Int) (v : Int) : Int := timesGo m 33 v 0 0
theorem times_range (m : List Int) : ∀ (f : Nat) (v r : Int) (i : Nat), U32 r → U32 (timesGo m f v r i) := by
  intro f
  induction f with
  | zero => intro v r i h; exact h
  | succ f ih =>
    intro v r i h
    unfold timesGo
    cases hv : (v != 0) with
    | false => exact h
    | true =>
      refine ih _ _ _ ?_
      cases hb : (bitsI .and .u32 v 1 == 1) with
      | false => exact h
      | true => exact (show U32 (bitsI .xor .u32 r (m.getD i 0)) from bits_range _ _ _)
theorem timesM_range (m : List Int) (v : Int) : U32 (timesM m v) := times_range m _ _ _ _ ⟨by decide, by decide⟩
def mat (m : List Int) : List Value := m.map fun n => .int .u32 n
theorem times_spec {p : Addr} {m : List Int} {v : Int} {h : Heap} {K : Value → Heap → Prop} (hv : U32 v) (hm : m.length = 32) (M : Cells h p (mat m)) (hK : K (.int .u32 (timesM m v)) h) : C.sum_matrix_times (some p) v h K := by
  refine sum_matrix_times.ok ⟨fun v2 r i hh => 0 ≤ i ∧ i ≤ 32 ∧ 0 ≤ v2 ∧ v2 < ((2 ^ (32 - i.toNat) : Nat) : Int) ∧ h = hh ∧ timesM m v = timesGo m (33 - i.toNat) v2 r i.toNat, fun v2 _ _ _ => v2.toNat,
    ⟨by omega, by omega, hv.1, by have := hv.2; exact this, rfl, rfl⟩, ?_⟩
  rintro v2 r i _ ⟨i0, i1, v0, v1, rfl, e⟩
  have e1 : (2 ^ min (Int.toNat 1) 32 : Int) = 2 := by decide
  cases hb : (v2 != 0) with
  | false =>
    have e2 : 33 - i.toNat = (32 - i.toNat) + 1 := by omega
    rw [e2, timesGo, hb] at e
    rw [e] at hK
    exact hK
  | true =>
    have hne : v2 ≠ 0 := by simpa using hb
    have hi : i < 32 := by
      rcases Int.lt_or_le i 32 with h | h
      · exact h
      · have : 32 - i.toNat = 0 := by omega
        rw [this] at v1
        have v1 : v2 < 1 := v1
        omega
    have e2 : 33 - i.toNat = (33 - (i + 1).toNat) + 1 := by omega
    have e3 : (i + 1).toNat = i.toNat + 1 := by omega
    rw [e2, timesGo, hb] at e
    have hp : ((2 ^ (32 - i.toNat) : Nat) : Int) = 2 * ((2 ^ (32 - (i + 1).toNat) : Nat) : Int) := by
      rw [show 32 - i.toNat = (32 - (i + 1).toNat) + 1 by omega, Nat.pow_succ]; omega
    have hd : Int.fdiv v2 2 = v2 / 2 := Int.fdiv_eq_ediv_of_nonneg _ (by decide)
    rw [wrap_i64 (n := i + 1) (by omega) (by omega), e1, hd]
    rw [e1, hd] at e
    have nx : ∀ r', timesM m v = timesGo m (33 - (i + 1).toNat) (v2 / 2) r' (i.toNat + 1) → (0 ≤ i + 1 ∧ i + 1 ≤ 32 ∧ 0 ≤ v2 / 2 ∧ v2 / 2 < ((2 ^ (32 - (i + 1).toNat) : Nat) : Int) ∧ h = h ∧ timesM m v = timesGo m (33 - (i + 1).toNat) (v2 / 2) r' (i + 1).toNat) ∧ (v2 / 2).toNat < v2.toNat :=
      fun r' h => ⟨⟨by omega, by omega, by omega, by omega, rfl, by rw [e3] at h ⊢; exact h⟩, by omega⟩
    refine ct rfl ?_
    cases hbit : (bitsI .and .u32 v2 1 == 1) with
    | true =>
      rw [hbit] at e
      refine ct rfl (os ⟨⟨i0, hi⟩, m.getD i.toNat 0, ?_, nx _ e⟩)
      exact Cells.cell M (by rw [mat, List.getElem?_map, List.getD_eq_getElem?_getD, List.getElem?_eq_getElem (by omega)]; rfl)
    | false =>
      rw [hbit] at e
      exact cf rfl (nx _ e)
def squareM (m : List Int) : List Int := m.map (timesM m)
theorem square_range (m : List Int) : ∀ x ∈ squareM m, U32 x := by
  intro x hx; obtain ⟨y, _, rfl⟩ := List.mem_map.mp hx; exact timesM_range _ _
theorem mat_one (m : List Int) : ∀ v ∈ mat m, v.oneCell' = true := by
  intro v hv; obtain ⟨b, _, rfl⟩ := List.mem_map.mp hv; rfl
theorem mat_zero : (mat (List.replicate 32 0)).length = 32 := by rw [mat, List.length_map, List.length_replicate]
theorem fill_snoc {α : Type} (xs : List α) (n : Nat) (hn : n < xs.length) (f : α → Value) (z : Value) : ((xs.take n).map f ++ List.replicate (xs.length - n) z).set n (f xs[n]) = (xs.take (n + 1)).map f ++ List.replicate (xs.length - (n + 1)) z := by
  have hl : ((xs.take n).map f).length = n := by rw [List.length_map, List.length_take]; omega
  rw [List.set_append_right _ _ (by rw [hl]; exact Nat.le_refl _), hl, Nat.sub_self, show xs.length - n = (xs.length - (n + 1)) + 1 by omega, List.replicate_succ, List.set_cons_zero, List.take_succ_eq_append_getElem hn, List.map_append, List.append_assoc]
  rfl
theorem square_spec {p : Addr} {m : List Int} {h : Heap} {K : Value → Heap → Prop} (hr : ∀ x ∈ m, U32 x) (hm : m.length = 32) (M : Cells h p (mat m)) (hK : ∀ h', Fr No h h' → K (.agg ⟨mat (squareM m)⟩) h') : C.sum_matrix_square (some p) h K := by
  refine sum_matrix_square.ok (New.intro fun h2 n2 => New.intro fun h3 n3 => ?_)
  have hs2 := n2.size
  have hs3 := n3.size
  have F3 : Fr No h h3 := n2.fr.no n3.fr
  have hsl : (squareM m).length = 32 := by rw [squareM, List.length_map, hm]
  have z0 : rd h3 h.size = mat (List.replicate 32 0) := (n3.at_ n2.own.lt).trans n2.rd
  refine ⟨fun n hh => 0 ≤ n ∧ n ≤ 32 ∧ Fr No h hh ∧ Own hh h2.size ∧ Own hh h.size ∧ (rd hh h.size).length = 32 ∧ rd hh h2.size = ((squareM m).take n.toNat).map (fun n => .int .u32 n) ++ List.replicate ((squareM m).length - n.toNat) (.int .u32 0), fun n _ => ((32 : Nat) - n).toNat,
    ⟨by omega, by omega, F3, n3.own, n3.ow n2.own, by rw [z0]; exact mat_zero, by rw [n3.rd, hsl]; rfl⟩, ?_⟩
  rintro n h4 ⟨k0, k1, f4, o4, o1, l1, r4⟩
  have hs4 := f4.size
  refine cd (fun hn => ?_) fun hn => ?_
  · have hn : n < 32 := hn
    have hn' : n.toNat < m.length := by omega
    have M4 := Cells.fr f4 M (fun x => x)
    refine os ⟨⟨k0, hn⟩, m[n.toNat], Cells.cell M4 (by rw [mat, List.getElem?_map, List.getElem?_eq_getElem hn']; rfl), times_spec (hr _ (List.getElem_mem hn')) hm M4 ⟨_, rfl, ⟨k0, hn⟩, Put.add o4 (by rw [r4, List.length_append, List.length_map, List.length_take, List.length_replicate]; omega) fun h6 d6 => ?_⟩⟩
    rw [wrap_i64 (by omega) (by omega)]
    refine ⟨⟨by omega, by omega, f4.did d6 (fun x => by omega), d6.own, d6.ow o1, by rw [d6.at_ (by have := o1.lt; omega) (by omega)]; exact l1, ?_⟩, falls (m := 32) hn⟩
    have hns : n.toNat < (squareM m).length := by omega
    have ee : (squareM m)[n.toNat] = timesM m m[n.toNat] := by simp only [squareM, List.getElem_map]
    rw [d6.rd, r4, Nat.zero_add, ← ee, fill_snoc (squareM m) n.toNat hns (fun n => .int .u32 n), show (n + 1).toNat = n.toNat + 1 by omega]
  · have hn : ¬ n < 32 := hn
    have e : n.toNat = 32 := by omega
    rw [e, ← hsl, List.take_length, Nat.sub_self, List.replicate_zero, List.append_nil] at r4
    have r4 : rd h4 h2.size = mat (squareM m) := r4
    have ml : (mat (squareM m)).length = 32 := by rw [mat, List.length_map, hsl]
    refine ⟨mat (squareM m), ml, cellsAll r4, PutRow.intro o1 ml (mat_one _) (by rw [l1]; exact Nat.le_refl _) fun h7 d7 => ⟨mat (squareM m), ml, cellsAll ?_, hK h7 (f4.did d7 fun x => by omega)⟩⟩
    rw [d7.rd, put_all _ _ (by rw [l1, ml])]
def m0 : List Int := (List.range 32).map fun i => stepM (IntKind.wrap .u32 (1 * 2 ^ min i 32)) 0
def behindGo : Nat → List Int → Int → Int → Int
  | 0, _, v, _ => v
  | f + 1, m, v, n => bif decide (n > 0) then behindGo f (squareM m) (bif bitsI .and .i64 n 1 == 1 then timesM m v else v) (n / 2) else v
def behindM (v n : Int) : Int := behindGo 64 m0 v n
theorem behind_spec {v n : Int} {h : Heap} {K : Value → Heap → Prop} (g : Half h) (hv : U32 v) (hn0 : 0 ≤ n) (hn : n ≤ 9223372036854775807) (hK : ∀ h', Fr No h h' → K (.int .u32 (behindM v n)) h') : C.sum_behind v n h K := by
  refine sum_behind.ok (New.intro fun h2 n2 => ?_)
  have hs2 := n2.size
  have hml : m0.length = 32 := by rw [m0, List.length_map, List.length_range]
  have hmr : ∀ x ∈ m0, U32 x := by intro x hx; obtain ⟨y, _, rfl⟩ := List.mem_map.mp hx; exact step_range _ _
  refine ⟨fun k hh => 0 ≤ k ∧ k ≤ 32 ∧ Fr No h hh ∧ Own hh h.size ∧ rd hh h.size = (m0.take k.toNat).map (fun n => .int .u32 n) ++ List.replicate (m0.length - k.toNat) (.int .u32 0), fun k _ => ((32 : Nat) - k).toNat,
    ⟨by omega, by omega, n2.fr, n2.own, by rw [n2.rd, hml]; rfl⟩, ?_⟩
  rintro k h3 ⟨k0, k1, f3, o3, r3⟩
  have hs3 := f3.size
  have g3 := g.fr f3 fun x => x
  refine cd (fun hk => ?_) fun hk => ?_
  · have hk : k < 32 := hk
    rw [if_neg (by omega)]
    have hk' : k.toNat < m0.length := by omega
    refine step_spec (b := 0) g3 ⟨_, rfl, ⟨k0, hk⟩, Put.add o3 (by rw [r3, List.length_append, List.length_map, List.length_take, List.length_replicate]; omega) fun h5 d5 => ?_⟩
    rw [wrap_i64 (by omega) (by omega)]
    refine ⟨⟨by omega, by omega, f3.did d5 (fun x => by omega), d5.own, ?_⟩, falls (m := 32) hk⟩
    have ee : m0[k.toNat] = stepM (IntKind.wrap .u32 (1 * 2 ^ min (Int.toNat k) 32)) 0 := by simp only [m0, List.getElem_map, List.getElem_range]
    rw [d5.rd, r3, Nat.zero_add, ← ee, fill_snoc m0 k.toNat hk' (fun n => .int .u32 n), show (k + 1).toNat = k.toNat + 1 by omega]
  · have hk : ¬ k < 32 := hk
    have e : k.toNat = 32 := by omega
    rw [e, ← hml, List.take_length, Nat.sub_self, List.replicate_zero, List.append_nil] at r3
    refine ⟨fun v2 n2 hh => 0 ≤ n2 ∧ Fr No h hh ∧ Own hh h.size ∧ U32 v2 ∧ ∃ f m, n2 < ((2 ^ f : Nat) : Int) ∧ m.length = 32 ∧ (∀ x ∈ m, U32 x) ∧ rd hh h.size = mat m ∧ behindM v n = behindGo f m v2 n2, fun _ n2 _ => n2.toNat,
      ⟨hn0, f3, o3, hv, 64, m0, by show n < 18446744073709551616; omega, hml, hmr, r3, rfl⟩, ?_⟩
    rintro v2 n4 h6 ⟨p0, f6, o6, hv2, f, m, hf, hm, hr, r6, eb⟩
    have hs6 := f6.size
    have e1 : (2 ^ min (Int.toNat 1) 64 : Int) = 2 := by decide
    refine cd (fun hpos => ?_) fun hpos => ?_
    rotate_left
    · have : v2 = behindM v n := by
        rw [eb]
        cases f with
        | zero => rfl
        | succ f => rw [behindGo, decide_eq_false hpos]; rfl
      rw [this]; exact hK h6 f6
    have hd : Int.fdiv n4 2 = n4 / 2 := Int.fdiv_eq_ediv_of_nonneg _ (by decide)
    rw [e1, hd]
    cases f with
    | zero => have hf : n4 < 1 := hf; omega
    | succ f =>
    rw [behindGo, decide_eq_true hpos] at eb
    have hf2 : n4 / 2 < ((2 ^ f : Nat) : Int) := by rw [Nat.pow_succ] at hf; omega
    have sqm : (squareM m).length = 32 := by rw [squareM, List.length_map, hm]
    have ml : (mat (squareM m)).length = 32 := by rw [mat, List.length_map, sqm]
    have ml2 : (mat m).length = 32 := by rw [mat, List.length_map, hm]
    have M6 : Cells h6 ⟨h.size, 0, none⟩ (mat m) := cellsAll r6
    have nx : ∀ v3, U32 v3 → behindM v n = behindGo f (squareM m) v3 (n4 / 2) → ∀ h8, Fr No h6 h8 → PutRow ⟨h.size, 0, none⟩ (mat (squareM m)) 32 h8 fun h9 =>
        (0 ≤ n4 / 2 ∧ Fr No h h9 ∧ Own h9 h.size ∧ U32 v3 ∧ ∃ f m, n4 / 2 < ((2 ^ f : Nat) : Int) ∧ m.length = 32 ∧ (∀ x ∈ m, U32 x) ∧ rd h9 h.size = mat m ∧ behindM v n = behindGo f m v3 (n4 / 2)) ∧ (n4 / 2).toNat < n4.toNat := by
      intro v3 hv3 e3 h8 f8
      have r8 := (f8.rd o6.lt fun x => x).trans r6
      refine PutRow.intro (f8.own o6.lt (fun x => x) o6) ml (mat_one _) (by rw [r8, ml2]; exact Nat.le_refl _) fun h9 d9 => ?_
      exact ⟨⟨by omega, (f6.no f8).did d9 (fun x => by omega), d9.own, hv3, f, squareM m, hf2, sqm, square_range m, by rw [d9.rd, put_all _ _ (by rw [r8, ml, ml2])], e3⟩, by omega⟩
    cases hb : (bitsI .and .i64 n4 1 == 1) with
    | true =>
      rw [hb] at eb
      exact ct rfl (times_spec hv2 hm M6 ⟨_, rfl, square_spec hr hm M6 fun h8 f8 => ⟨_, rfl, nx _ (timesM_range _ _) eb h8 f8⟩⟩)
    | false =>
      rw [hb] at eb
      exact cf rfl (square_spec hr hm M6 fun h8 f8 => ⟨_, rfl, nx _ hv2 eb h8 f8⟩)
def joinM (a b n : Int) : Int := bitsI .xor .u32 (behindM a n) b
theorem join_range (a b n : Int) : U32 (joinM a b n) := bits_range _ _ _
theorem Join_spec {a b n : Int} {h : Heap} {K : Value → Heap → Prop} (g : Half h) (ha : U32 a) (h0 : 0 ≤ n) (h1 : n ≤ 1099511627776) (hK : ∀ h', Fr No h h' → K (.tuple #[.int .u32 (joinM a b n), .int .i64 0]) h') : C.sum_Join a b n h K :=
  sum_Join.ok (cd (fun x => by omega) fun _ => cd (fun x => by omega) fun _ => behind_spec g ha h0 (by omega) fun h' f => ⟨_, rfl, hK h' f⟩)
end Go.Proofs.YtjdcbblgaoogmaaGreatDoor.Su
