/-
  TEXTS FOR bmapOwn_card: Tab FormsA FormsB FormsC FormsD FormsE FormsF FormsG ReI InW Tb8 AdM DkF.
-/
import Derived.Test.YtcdpakjhjmchhaaDoorCards
import Derived.Test.YtcdpakjhjmchhaaDoorTie
import Derived.Lib.SmallJoins
import Derived.Test.YtcdpakjhjmchhaaDoorGp2
namespace Go.Proofs.YtcdpakjhjmchhaaDoor.W
open Go Go.Proofs Go.Proofs.YtcdpakjhjmchhaaDoor.Wx
def z1 : List Value := [.nilFunc]
def ti1 : TI := ⟨true, .fn, 1, 8, z1, []⟩
def z3 : List Value := [.int .i64 0]
def ti3 : TI := ⟨true, .int .i64, 1, 8, z3, []⟩
def z4 : List Value := [.bool false]
def ti4 : TI := ⟨true, .bool, 1, 1, z4, []⟩
def z5 : List Value := [.int .u8 0]
def ti5 : TI := ⟨true, .int .u8, 1, 1, z5, []⟩
def z9 : List Value := [.string (mkStr [])]
def ti9 : TI := ⟨true, .str, 1, 16, z9, []⟩
def z22 : List Value := [.slice none 0 0]
def ti22 : TI := ⟨true, .slice 3, 1, 24, z22, []⟩
def z23 : List Value := [.slice none 0 0]
def ti23 : TI := ⟨true, .slice 137, 1, 24, z23, []⟩
def z25 : List Value := [.int .i64 0, .slice none 0 0, .slice none 0 0]
def ti25 : TI := ⟨true, .struct [(0, 3), (1, 22), (2, 23)], 3, 56, z25, []⟩
def z26 : List Value := [.pointer none]
def ti26 : TI := ⟨true, .ptr 152, 1, 8, z26, []⟩
def z27 : List Value := [.pointer none]
def ti27 : TI := ⟨true, .ptr 155, 1, 8, z27, []⟩
def z29 : List Value := [.int .i64 0, .int .i64 0, .int .i64 0, .int .i64 0, .int .i64 0]
def ti29 : TI := ⟨true, .struct [(0, 3), (1, 3), (2, 3), (3, 3), (4, 3)], 5, 40, z29, []⟩
def z33 : List Value := [.int .i64 0, .int .i64 0, .int .i64 0, .int .i64 0, .int .i64 0, .int .i64 0, .int .i64 0, .int .i64 0, .int .i64 0, .int .i64 0]
def ti33 : TI := ⟨true, .arr 10 3, 10, 80, z33, []⟩
def z35 : List Value := List.replicate 15 (.int .i64 0)
def ti35 : TI := ⟨true, .struct [(0, 3), (1, 3), (2, 3), (3, 33), (13, 3), (14, 3)], 15, 120, z35, [(.int .i64), (.int .i64), (.int .i64), (.int .i64), (.int .i64), (.int .i64), (.int .i64), (.int .i64), (.int .i64), (.int .i64), (.int .i64), (.int .i64), (.int .i64), (.int .i64), (.int .i64)]⟩
def z36 : List Value := [.map none]
def ti36 : TI := ⟨true, .map 3 3, 1, 8, z36, []⟩
def z39 : List Value := [.int .i64 0]
def ti39 : TI := ⟨true, .int .i64, 1, 8, z39, []⟩
def z47 : List Value := List.replicate 30 (.int .i64 0)
def ti47 : TI := ⟨true, .arr 2 35, 30, 240, z47, []⟩
def z48 : List Value := [.slice none 0 0]
def ti48 : TI := ⟨true, .slice 22, 1, 24, z48, []⟩
def z49 : List Value := [.slice none 0 0]
def ti49 : TI := ⟨true, .slice 51, 1, 24, z49, []⟩
def z50 : List Value := [.slice none 0 0]
def ti50 : TI := ⟨true, .slice 35, 1, 24, z50, []⟩
def z51 : List Value := [.slice none 0 0]
def ti51 : TI := ⟨true, .slice 56, 1, 24, z51, []⟩
def z56 : List Value := [.int .i64 0, .int .i64 0]
def ti56 : TI := ⟨true, .arr 2 3, 2, 16, z56, [(.int .i64), (.int .i64)]⟩
def z62 : List Value := [.pointer none]
def ti62 : TI := ⟨true, .ptr 143, 1, 8, z62, []⟩
def z63 : List Value := [.pointer none]
def ti63 : TI := ⟨true, .ptr 148, 1, 8, z63, []⟩
def z65 : List Value := [.int .i64 0, .int .i64 0, .int .i64 0, .int .i64 0, .int .i64 0, .pointer none, .pointer none, .pointer none, .pointer none, .slice none 0 0]
def ti65 : TI := ⟨true, .struct [(0, 29), (5, 62), (6, 63), (7, 26), (8, 27), (9, 51)], 10, 96, z65, []⟩
def z72 : List Value := [.slice none 0 0]
def ti72 : TI := ⟨true, .slice 5, 1, 24, z72, []⟩
def z73 : List Value := [.slice none 0 0]
def ti73 : TI := ⟨true, .slice 76, 1, 24, z73, []⟩
def z76 : List Value := (List.replicate 18 (.int .i64 0) ++ [.int .u8 0])
def ti76 : TI := ⟨true, .struct [(0, 3), (1, 3), (2, 3), (3, 35), (18, 5)], 19, 152, z76, []⟩
def z88 : List Value := [.int .u64 0]
def ti88 : TI := ⟨true, .int .u64, 1, 8, z88, []⟩
def z89 : List Value := [.nilFunc]
def ti89 : TI := ⟨true, .fn, 1, 8, z89, []⟩
def z91 : List Value := [.pointer none]
def ti91 : TI := ⟨true, .ptr 93, 1, 8, z91, []⟩
def z93 : List Value := (.pointer none) :: List.replicate 20 (.int .i64 0)
def ti93 : TI := ⟨true, .struct [(0, 26), (1, 29), (6, 35)], 21, 168, z93, []⟩
def z96 : List Value := [.int .i64 0, .int .i64 0]
def ti96 : TI := ⟨true, .struct [(0, 3), (1, 3)], 2, 16, z96, []⟩
def z101 : List Value := [.nilFunc]
def ti101 : TI := ⟨true, .fn, 1, 8, z101, []⟩
def z107 : List Value := [.nilFunc]
def ti107 : TI := ⟨true, .fn, 1, 8, z107, []⟩
def z110 : List Value := [.nilFunc]
def ti110 : TI := ⟨true, .fn, 1, 8, z110, []⟩
def z137 : List Value := [.int .i64 0, .slice none 0 0]
def ti137 : TI := ⟨true, .struct [(0, 3), (1, 72)], 2, 32, z137, []⟩
def z138 : List Value := [.slice none 0 0]
def ti138 : TI := ⟨true, .slice 145, 1, 24, z138, []⟩
def z139 : List Value := [.slice none 0 0]
def ti139 : TI := ⟨true, .slice 199, 1, 24, z139, []⟩
def z140 : List Value := [.slice none 0 0]
def ti140 : TI := ⟨true, .slice 4, 1, 24, z140, []⟩
def z141 : List Value := [.slice none 0 0]
def ti141 : TI := ⟨true, .slice 201, 1, 24, z141, []⟩
def z143 : List Value := [.slice none 0 0, .slice none 0 0, .int .i64 0, .slice none 0 0, .bool false, .int .i64 0, .int .i64 0, .slice none 0 0]
def ti143 : TI := ⟨true, .struct [(0, 138), (1, 139), (2, 3), (3, 140), (4, 4), (5, 3), (6, 3), (7, 141)], 8, 128, z143, []⟩
def z145 : List Value := List.replicate 512 (.int .u8 0)
def ti145 : TI := ⟨true, .arr 512 5, 512, 512, z145, []⟩
def z148 : List Value := [.slice none 0 0, .slice none 0 0, .slice none 0 0, .int .i64 0, .bool false, .int .i64 0, .int .i64 0]
def ti148 : TI := ⟨true, .struct [(0, 72), (1, 141), (2, 140), (3, 3), (4, 4), (5, 3), (6, 3)], 7, 104, z148, []⟩
def z149 : List Value := [.map none]
def ti149 : TI := ⟨true, .map 3 72, 1, 8, z149, []⟩
def z150 : List Value := [.slice none 0 0]
def ti150 : TI := ⟨true, .slice 1, 1, 24, z150, []⟩
def z152 : List Value := [.pointer none, .map none, .slice none 0 0, .bool false]
def ti152 : TI := ⟨true, .struct [(0, 62), (1, 149), (2, 150), (3, 4)], 4, 48, z152, []⟩
def z153 : List Value := [.slice none 0 0]
def ti153 : TI := ⟨true, .slice 188, 1, 24, z153, []⟩
def z155 : List Value := [.pointer none, .slice none 0 0, .bool false]
def ti155 : TI := ⟨true, .struct [(0, 63), (1, 153), (2, 4)], 3, 40, z155, []⟩
def z158 : List Value := [.slice none 0 0]
def ti158 : TI := ⟨true, .slice 96, 1, 24, z158, []⟩
def z168 : List Value := [.int .u64 0]
def ti168 : TI := ⟨true, .int .u64, 1, 8, z168, []⟩
def z175 : List Value := [.int .i64 0, .int .i64 0, .int .i64 0, .int .i64 0, .int .i64 0, .int .i64 0, .int .i64 0, .int .i64 0, .int .i64 0, .int .i64 0, .int .i64 0, .int .i64 0]
def ti175 : TI := ⟨true, .arr 12 3, 12, 96, z175, []⟩
def z188 : List Value := [.int .i64 0, .string (mkStr [])]
def ti188 : TI := ⟨true, .struct [(0, 3), (1, 9)], 2, 24, z188, []⟩
def z199 : List Value := (.int .i64 0) :: List.replicate 512 (.int .u8 0)
def ti199 : TI := ⟨true, .struct [(0, 3), (1, 145)], 513, 520, z199, []⟩
def z201 : List Value := [.int .i64 0, .int .i64 0, .slice none 0 0]
def ti201 : TI := ⟨true, .struct [(0, 3), (1, 3), (2, 72)], 3, 40, z201, []⟩
def z202 : List Value := [.bool false, .bool false, .bool false, .bool false, .bool false, .bool false, .bool false, .bool false, .bool false]
def ti202 : TI := ⟨true, .arr 9 4, 9, 9, z202, []⟩
def tiTab : List (Nat × TI) := [(1, ti1), (3, ti3), (4, ti4), (5, ti5), (9, ti9), (22, ti22), (23, ti23), (25, ti25), (26, ti26), (27, ti27), (29, ti29), (33, ti33), (35, ti35), (36, ti36), (39, ti39), (47, ti47), (48, ti48), (49, ti49), (50, ti50), (51, ti51), (56, ti56), (62, ti62), (63, ti63), (65, ti65), (72, ti72), (73, ti73), (76, ti76), (88, ti88), (89, ti89), (91, ti91), (93, ti93), (96, ti96), (101, ti101), (107, ti107), (110, ti110), (137, ti137), (138, ti138), (139, ti139), (140, ti140), (141, ti141), (143, ti143), (145, ti145), (148, ti148), (149, ti149), (150, ti150), (152, ti152), (153, ti153), (155, ti155), (158, ti158), (168, ti168), (175, ti175), (188, ti188), (199, ti199), (201, ti201), (202, ti202)]
def sigTab : List (Nat × List Ty) := [(0, []), (3, [.int .i64]), (4, [.bool]), (22, [.slice]), (26, [.ptr]), (27, [.ptr]), (29, [.agg]), (30, [.ptr, .ptr, .agg, .bool]), (35, [.agg]), (39, [.int .i64]), (40, [.agg, .int .i64, .int .i64]), (43, [.int .i64, .int .i64]), (52, [.slice, .slice, .int .i64]), (59, [.ptr, .bool]), (68, [.agg, .int .i64]), (72, [.slice]), (78, [.slice, .agg]), (80, [.ptr, .int .i64]), (82, [.ptr, .int .i64]), (89, [.clo]), (104, [.bool, .int .i64]), (108, [.slice, .slice, .int .i64]), (112, [.agg, .int .i64]), (115, [.slice, .int .i64]), (119, [.int .i64, .slice, .int .i64, .int .i64]), (132, [.int .i64, .int .i64]), (140, [.slice]), (158, [.slice]), (160, [.int .i64, .slice, .int .i64]), (165, [.ptr]), (170, [.any]), (173, [.int .u64, .int .i64]), (175, [.agg]), (179, [.int .i64, .int .i64, .int .i64]), (184, [.any])]
def natTab : List Nat := []
def panTab : List Nat := []
noncomputable def cx (loops : Nat → List Nat × List (Nat × Ty)) (orders : Nat → Od) : Ctx := ⟨Tryd.prog, tiOf tiTab, sigOf sigTab, loops, orders, natTab, panTab⟩
theorem natTab_ok : ∀ g ∈ natTab, NatOk Tryd.prog g := by
  simp only [natTab, List.forall_mem_cons]
  exact fun _ h => absurd h List.not_mem_nil
theorem tiok1 : TIok Tryd.prog 1 ti1 := ⟨by kernel_rfl, by kernel_rfl, by kernel_rfl, by kernel_rfl, by kernel_rfl⟩
theorem tiok3 : TIok Tryd.prog 3 ti3 := ⟨by kernel_rfl, by kernel_rfl, by kernel_rfl, by kernel_rfl, by kernel_rfl⟩
theorem tiok4 : TIok Tryd.prog 4 ti4 := ⟨by kernel_rfl, by kernel_rfl, by kernel_rfl, by kernel_rfl, by kernel_rfl⟩
theorem tiok5 : TIok Tryd.prog 5 ti5 := ⟨by kernel_rfl, by kernel_rfl, by kernel_rfl, by kernel_rfl, by kernel_rfl⟩
theorem tiok9 : TIok Tryd.prog 9 ti9 := ⟨by kernel_rfl, by kernel_rfl, by kernel_rfl, by kernel_rfl, by kernel_rfl⟩
theorem tiok22 : TIok Tryd.prog 22 ti22 := ⟨by kernel_rfl, by kernel_rfl, by kernel_rfl, by kernel_rfl, by kernel_rfl⟩
theorem tiok23 : TIok Tryd.prog 23 ti23 := ⟨by kernel_rfl, by kernel_rfl, by kernel_rfl, by kernel_rfl, by kernel_rfl⟩
theorem tiok25 : TIok Tryd.prog 25 ti25 := ⟨by kernel_rfl, by kernel_rfl, by kernel_rfl, by kernel_rfl, by kernel_rfl⟩
theorem tiok26 : TIok Tryd.prog 26 ti26 := ⟨by kernel_rfl, by kernel_rfl, by kernel_rfl, by kernel_rfl, by kernel_rfl⟩
theorem tiok27 : TIok Tryd.prog 27 ti27 := ⟨by kernel_rfl, by kernel_rfl, by kernel_rfl, by kernel_rfl, by kernel_rfl⟩
theorem tiok29 : TIok Tryd.prog 29 ti29 := ⟨by kernel_rfl, by kernel_rfl, by kernel_rfl, by kernel_rfl, by kernel_rfl⟩
theorem tiok33 : TIok Tryd.prog 33 ti33 := ⟨by kernel_rfl, by kernel_rfl, by kernel_rfl, by kernel_rfl, by kernel_rfl⟩
theorem tiok35 : TIok Tryd.prog 35 ti35 := ⟨by kernel_rfl, by kernel_rfl, by kernel_rfl, by kernel_rfl, by kernel_rfl⟩
theorem tiok36 : TIok Tryd.prog 36 ti36 := ⟨by kernel_rfl, by kernel_rfl, by kernel_rfl, by kernel_rfl, by kernel_rfl⟩
theorem tiok39 : TIok Tryd.prog 39 ti39 := ⟨by kernel_rfl, by kernel_rfl, by kernel_rfl, by kernel_rfl, by kernel_rfl⟩
theorem tiok47 : TIok Tryd.prog 47 ti47 := ⟨by kernel_rfl, by kernel_rfl, by kernel_rfl, by kernel_rfl, by kernel_rfl⟩
theorem tiok48 : TIok Tryd.prog 48 ti48 := ⟨by kernel_rfl, by kernel_rfl, by kernel_rfl, by kernel_rfl, by kernel_rfl⟩
theorem tiok49 : TIok Tryd.prog 49 ti49 := ⟨by kernel_rfl, by kernel_rfl, by kernel_rfl, by kernel_rfl, by kernel_rfl⟩
theorem tiok50 : TIok Tryd.prog 50 ti50 := ⟨by kernel_rfl, by kernel_rfl, by kernel_rfl, by kernel_rfl, by kernel_rfl⟩
theorem tiok51 : TIok Tryd.prog 51 ti51 := ⟨by kernel_rfl, by kernel_rfl, by kernel_rfl, by kernel_rfl, by kernel_rfl⟩
theorem tiok56 : TIok Tryd.prog 56 ti56 := ⟨by kernel_rfl, by kernel_rfl, by kernel_rfl, by kernel_rfl, by kernel_rfl⟩
theorem tiok62 : TIok Tryd.prog 62 ti62 := ⟨by kernel_rfl, by kernel_rfl, by kernel_rfl, by kernel_rfl, by kernel_rfl⟩
theorem tiok63 : TIok Tryd.prog 63 ti63 := ⟨by kernel_rfl, by kernel_rfl, by kernel_rfl, by kernel_rfl, by kernel_rfl⟩
theorem tiok65 : TIok Tryd.prog 65 ti65 := ⟨by kernel_rfl, by kernel_rfl, by kernel_rfl, by kernel_rfl, by kernel_rfl⟩
theorem tiok72 : TIok Tryd.prog 72 ti72 := ⟨by kernel_rfl, by kernel_rfl, by kernel_rfl, by kernel_rfl, by kernel_rfl⟩
theorem tiok73 : TIok Tryd.prog 73 ti73 := ⟨by kernel_rfl, by kernel_rfl, by kernel_rfl, by kernel_rfl, by kernel_rfl⟩
theorem tiok76 : TIok Tryd.prog 76 ti76 := ⟨by kernel_rfl, by kernel_rfl, by kernel_rfl, by kernel_rfl, by kernel_rfl⟩
theorem tiok88 : TIok Tryd.prog 88 ti88 := ⟨by kernel_rfl, by kernel_rfl, by kernel_rfl, by kernel_rfl, by kernel_rfl⟩
theorem tiok89 : TIok Tryd.prog 89 ti89 := ⟨by kernel_rfl, by kernel_rfl, by kernel_rfl, by kernel_rfl, by kernel_rfl⟩
theorem tiok91 : TIok Tryd.prog 91 ti91 := ⟨by kernel_rfl, by kernel_rfl, by kernel_rfl, by kernel_rfl, by kernel_rfl⟩
theorem tiok93 : TIok Tryd.prog 93 ti93 := ⟨by kernel_rfl, by kernel_rfl, by kernel_rfl, by kernel_rfl, by kernel_rfl⟩
theorem tiok96 : TIok Tryd.prog 96 ti96 := ⟨by kernel_rfl, by kernel_rfl, by kernel_rfl, by kernel_rfl, by kernel_rfl⟩
theorem tiok101 : TIok Tryd.prog 101 ti101 := ⟨by kernel_rfl, by kernel_rfl, by kernel_rfl, by kernel_rfl, by kernel_rfl⟩
theorem tiok107 : TIok Tryd.prog 107 ti107 := ⟨by kernel_rfl, by kernel_rfl, by kernel_rfl, by kernel_rfl, by kernel_rfl⟩
theorem tiok110 : TIok Tryd.prog 110 ti110 := ⟨by kernel_rfl, by kernel_rfl, by kernel_rfl, by kernel_rfl, by kernel_rfl⟩
theorem tiok137 : TIok Tryd.prog 137 ti137 := ⟨by kernel_rfl, by kernel_rfl, by kernel_rfl, by kernel_rfl, by kernel_rfl⟩
theorem tiok138 : TIok Tryd.prog 138 ti138 := ⟨by kernel_rfl, by kernel_rfl, by kernel_rfl, by kernel_rfl, by kernel_rfl⟩
theorem tiok139 : TIok Tryd.prog 139 ti139 := ⟨by kernel_rfl, by kernel_rfl, by kernel_rfl, by kernel_rfl, by kernel_rfl⟩
theorem tiok140 : TIok Tryd.prog 140 ti140 := ⟨by kernel_rfl, by kernel_rfl, by kernel_rfl, by kernel_rfl, by kernel_rfl⟩
theorem tiok141 : TIok Tryd.prog 141 ti141 := ⟨by kernel_rfl, by kernel_rfl, by kernel_rfl, by kernel_rfl, by kernel_rfl⟩
theorem tiok143 : TIok Tryd.prog 143 ti143 := ⟨by kernel_rfl, by kernel_rfl, by kernel_rfl, by kernel_rfl, by kernel_rfl⟩
theorem tiok145 : TIok Tryd.prog 145 ti145 := ⟨by kernel_rfl, by kernel_rfl, by kernel_rfl, by kernel_rfl, by kernel_rfl⟩
theorem tiok148 : TIok Tryd.prog 148 ti148 := ⟨by kernel_rfl, by kernel_rfl, by kernel_rfl, by kernel_rfl, by kernel_rfl⟩
theorem tiok149 : TIok Tryd.prog 149 ti149 := ⟨by kernel_rfl, by kernel_rfl, by kernel_rfl, by kernel_rfl, by kernel_rfl⟩
theorem tiok150 : TIok Tryd.prog 150 ti150 := ⟨by kernel_rfl, by kernel_rfl, by kernel_rfl, by kernel_rfl, by kernel_rfl⟩
theorem tiok152 : TIok Tryd.prog 152 ti152 := ⟨by kernel_rfl, by kernel_rfl, by kernel_rfl, by kernel_rfl, by kernel_rfl⟩
theorem tiok153 : TIok Tryd.prog 153 ti153 := ⟨by kernel_rfl, by kernel_rfl, by kernel_rfl, by kernel_rfl, by kernel_rfl⟩
theorem tiok155 : TIok Tryd.prog 155 ti155 := ⟨by kernel_rfl, by kernel_rfl, by kernel_rfl, by kernel_rfl, by kernel_rfl⟩
theorem tiok158 : TIok Tryd.prog 158 ti158 := ⟨by kernel_rfl, by kernel_rfl, by kernel_rfl, by kernel_rfl, by kernel_rfl⟩
theorem tiok168 : TIok Tryd.prog 168 ti168 := ⟨by kernel_rfl, by kernel_rfl, by kernel_rfl, by kernel_rfl, by kernel_rfl⟩
theorem tiok175 : TIok Tryd.prog 175 ti175 := ⟨by kernel_rfl, by kernel_rfl, by kernel_rfl, by kernel_rfl, by kernel_rfl⟩
theorem tiok188 : TIok Tryd.prog 188 ti188 := ⟨by kernel_rfl, by kernel_rfl, by kernel_rfl, by kernel_rfl, by kernel_rfl⟩
theorem tiok199 : TIok Tryd.prog 199 ti199 := ⟨by kernel_rfl, by kernel_rfl, by kernel_rfl, by kernel_rfl, by kernel_rfl⟩
theorem tiok201 : TIok Tryd.prog 201 ti201 := ⟨by kernel_rfl, by kernel_rfl, by kernel_rfl, by kernel_rfl, by kernel_rfl⟩
theorem tiok202 : TIok Tryd.prog 202 ti202 := ⟨by kernel_rfl, by kernel_rfl, by kernel_rfl, by kernel_rfl, by kernel_rfl⟩
theorem tiTab_ok : ∀ x ∈ tiTab, TIok Tryd.prog x.1 x.2 := by
  simp only [tiTab, List.forall_mem_cons]
  exact ⟨tiok1, tiok3, tiok4, tiok5, tiok9, tiok22, tiok23, tiok25, tiok26, tiok27, tiok29, tiok33, tiok35, tiok36, tiok39, tiok47, tiok48, tiok49, tiok50, tiok51, tiok56, tiok62, tiok63, tiok65, tiok72, tiok73, tiok76, tiok88, tiok89, tiok91, tiok93, tiok96, tiok101, tiok107, tiok110, tiok137, tiok138, tiok139, tiok140, tiok141, tiok143, tiok145, tiok148, tiok149, tiok150, tiok152, tiok153, tiok155, tiok158, tiok168, tiok175, tiok188, tiok199, tiok201, tiok202, fun _ h => absurd h List.not_mem_nil⟩
theorem cxOk (loops : Nat → List Nat × List (Nat × Ty)) (orders : Nat → Od) : CtxOk (cx loops orders) := ⟨natTab_ok, tiOf_ok tiTab tiTab_ok, by kernel_rfl⟩
def C.bolelaw10_BmapOwn (s1 : List Value) (oneA1 : Option Addr) (oneL1 : Nat) (oneC1 : Nat) (twoA1 : Option Addr) (twoL1 : Nat) (twoC1 : Nat) (h : Heap) (k : Value → Heap → Prop) : Prop := HCalls Tryd.prog 4 [.agg ⟨s1⟩, .slice oneA1 oneL1 oneC1, .slice twoA1 twoL1 twoC1] h k
def C.bolelaw10_Setup_begin (s1 : List Value) (h : Heap) (k : Value → Heap → Prop) : Prop := HCalls Tryd.prog 7 [.agg ⟨s1⟩] h k
def C.bolelaw10_known  (h : Heap) (k : Value → Heap → Prop) : Prop := HCalls Tryd.prog 8 [] h k
def C.bolelaw10_index (k1 : Int) (h : Heap) (k : Value → Heap → Prop) : Prop := HCalls Tryd.prog 9 [.int .i64 k1] h k
def C.bmap_Add (t1 : Option Addr) (g1 : List Value) (x1 : List Value) (k1 : Int) (h : Heap) (k : Value → Heap → Prop) : Prop := HCalls Tryd.prog 11 [.pointer t1, .agg ⟨g1⟩, .agg ⟨x1⟩, .int .i64 k1] h k
def C.bolelaw10_num (e1 : Int) (h : Heap) (k : Value → Heap → Prop) : Prop := HCalls Tryd.prog 12 [.int .i64 e1] h k
def C.space_Free (t1 : Option Addr) (g1 : List Value) (h : Heap) (k : Value → Heap → Prop) : Prop := HCalls Tryd.prog 13 [.pointer t1, .agg ⟨g1⟩] h k
def C.bmap_All (t1 : Option Addr) (g1 : List Value) (x1 : List Value) (h : Heap) (k : Value → Heap → Prop) : Prop := HCalls Tryd.prog 15 [.pointer t1, .agg ⟨g1⟩, .agg ⟨x1⟩] h k
def C.bolelaw10_samePairs (aA1 : Option Addr) (aL1 : Nat) (aC1 : Nat) (bA1 : Option Addr) (bL1 : Nat) (bC1 : Nat) (h : Heap) (k : Value → Heap → Prop) : Prop := HCalls Tryd.prog 16 [.slice aA1 aL1 aC1, .slice bA1 bL1 bC1] h k
def C.bolelaw10_same (aA1 : Option Addr) (aL1 : Nat) (aC1 : Nat) (bA1 : Option Addr) (bL1 : Nat) (bC1 : Nat) (h : Heap) (k : Value → Heap → Prop) : Prop := HCalls Tryd.prog 17 [.slice aA1 aL1 aC1, .slice bA1 bL1 bC1] h k
def C.bolelaw10_Setup_image (s1 : List Value) (h : Heap) (k : Value → Heap → Prop) : Prop := HCalls Tryd.prog 29 [.agg ⟨s1⟩] h k
def C.adisk_Open (imageA1 : Option Addr) (imageL1 : Nat) (imageC1 : Nat) (h : Heap) (k : Value → Heap → Prop) : Prop := HCalls Tryd.prog 30 [.slice imageA1 imageL1 imageC1] h k
def C.boleref03_Of (imageA1 : Option Addr) (imageL1 : Nat) (imageC1 : Nat) (h : Heap) (k : Value → Heap → Prop) : Prop := HCalls Tryd.prog 31 [.slice imageA1 imageL1 imageC1] h k
def C.txn_Begin (d1 : Option Addr) (h : Heap) (k : Value → Heap → Prop) : Prop := HCalls Tryd.prog 32 [.pointer d1] h k
def C.boleref06_Begin (d1 : Option Addr) (h : Heap) (k : Value → Heap → Prop) : Prop := HCalls Tryd.prog 33 [.pointer d1] h k
def C.bmap_Find (t1 : Option Addr) (g1 : List Value) (x1 : List Value) (k1 : Int) (h : Heap) (k : Value → Heap → Prop) : Prop := HCalls Tryd.prog 34 [.pointer t1, .agg ⟨g1⟩, .agg ⟨x1⟩, .int .i64 k1] h k
def C.bmap_Cut (t1 : Option Addr) (g1 : List Value) (x1 : List Value) (k1 : Int) (h : Heap) (k : Value → Heap → Prop) : Prop := HCalls Tryd.prog 35 [.pointer t1, .agg ⟨g1⟩, .agg ⟨x1⟩, .int .i64 k1] h k
def C.bmap_guard (t1 : Option Addr) (h : Heap) (k : Value → Heap → Prop) : Prop := HCalls Tryd.prog 36 [.pointer t1] h k
def C.bmap_file_walk (f1 : Option Addr) (k1 : Int) (hole1 : Value) (h : Heap) (k : Value → Heap → Prop) : Prop := HCalls Tryd.prog 38 [.pointer f1, .int .i64 k1, hole1] h k
def C.bmap_Add_c2 (s1 : List Value) (at1 : Int) (bA1 : Option Addr) (bL1 : Nat) (bC1 : Nat) (x1 : Option Addr) (x2 : Option Addr) (x3 : Option Addr) (h : Heap) (k : Value → Heap → Prop) : Prop := HCalls Tryd.prog 39 [.agg ⟨s1⟩, .int .i64 at1, .slice bA1 bL1 bC1, .pointer x1, .pointer x2, .pointer x3] h k
def C.space_Take (t1 : Option Addr) (g1 : List Value) (h : Heap) (k : Value → Heap → Prop) : Prop := HCalls Tryd.prog 40 [.pointer t1, .agg ⟨g1⟩] h k
def C.bmap_file_set (f1 : Option Addr) (s1 : List Value) (at1 : Int) (bA1 : Option Addr) (bL1 : Nat) (bC1 : Nat) (num1 : Int) (h : Heap) (k : Value → Heap → Prop) : Prop := HCalls Tryd.prog 41 [.pointer f1, .agg ⟨s1⟩, .int .i64 at1, .slice bA1 bL1 bC1, .int .i64 num1] h k
def C.space_each (t1 : Option Addr) (g1 : List Value) (do1 : Value) (h : Heap) (k : Value → Heap → Prop) : Prop := HCalls Tryd.prog 42 [.pointer t1, .agg ⟨g1⟩, do1] h k
def C.space_Free_c1 (first1 : Int) (bA1 : Option Addr) (bL1 : Nat) (bC1 : Nat) (x1 : Option Addr) (x2 : Option Addr) (h : Heap) (k : Value → Heap → Prop) : Prop := HCalls Tryd.prog 43 [.int .i64 first1, .slice bA1 bL1 bC1, .pointer x1, .pointer x2] h k
def C.space_rows (g1 : List Value) (first1 : Int) (bA1 : Option Addr) (bL1 : Nat) (bC1 : Nat) (do1 : Value) (h : Heap) (k : Value → Heap → Prop) : Prop := HCalls Tryd.prog 44 [.agg ⟨g1⟩, .int .i64 first1, .slice bA1 bL1 bC1, do1] h k
def C.space_Free_c1_c1 (from1 : Int) (to1 : Int) (x1 : Option Addr) (h : Heap) (k : Value → Heap → Prop) : Prop := HCalls Tryd.prog 45 [.int .i64 from1, .int .i64 to1, .pointer x1] h k
def C.space_Used (t1 : Option Addr) (g1 : List Value) (i1 : Int) (h : Heap) (k : Value → Heap → Prop) : Prop := HCalls Tryd.prog 46 [.pointer t1, .agg ⟨g1⟩, .int .i64 i1] h k
def C.bmap_All_c1 (k1 : Int) (num1 : Int) (x1 : Option Addr) (x2 : Option Addr) (h : Heap) (k : Value → Heap → Prop) : Prop := HCalls Tryd.prog 47 [.int .i64 k1, .int .i64 num1, .pointer x1, .pointer x2] h k
def C.bmap_file_look (f1 : Option Addr) (num1 : Int) (h : Heap) (k : Value → Heap → Prop) : Prop := HCalls Tryd.prog 48 [.pointer f1, .int .i64 num1] h k
def C.bmap_All_c2 (table1 : Int) (do1 : Value) (x1 : Option Addr) (x2 : Option Addr) (h : Heap) (k : Value → Heap → Prop) : Prop := HCalls Tryd.prog 49 [.int .i64 table1, do1, .pointer x1, .pointer x2] h k
def C.bmap_file_numbers (f1 : Option Addr) (table1 : Int) (h : Heap) (k : Value → Heap → Prop) : Prop := HCalls Tryd.prog 50 [.pointer f1, .int .i64 table1] h k
def C.bmap_All_c3 (i1 : Int) (num1 : Int) (x1 : Option Addr) (h : Heap) (k : Value → Heap → Prop) : Prop := HCalls Tryd.prog 51 [.int .i64 i1, .int .i64 num1, .pointer x1] h k
def C.bmap_All_c4 (i1 : Int) (table1 : Int) (x1 : Option Addr) (x2 : Option Addr) (h : Heap) (k : Value → Heap → Prop) : Prop := HCalls Tryd.prog 52 [.int .i64 i1, .int .i64 table1, .pointer x1, .pointer x2] h k
def C.bmap_All_c4_c1 (j1 : Int) (num1 : Int) (x1 : Option Addr) (x2 : Option Addr) (h : Heap) (k : Value → Heap → Prop) : Prop := HCalls Tryd.prog 53 [.int .i64 j1, .int .i64 num1, .pointer x1, .pointer x2] h k
def C.adisk_New (n1 : Int) (h : Heap) (k : Value → Heap → Prop) : Prop := HCalls Tryd.prog 54 [.int .i64 n1] h k
def C.txn_Txn_Write (t1 : Option Addr) (i1 : Int) (bA1 : Option Addr) (bL1 : Nat) (bC1 : Nat) (h : Heap) (k : Value → Heap → Prop) : Prop := HCalls Tryd.prog 61 [.pointer t1, .int .i64 i1, .slice bA1 bL1 bC1] h k
def C.txn_Txn_Mark (t1 : Option Addr) (h : Heap) (k : Value → Heap → Prop) : Prop := HCalls Tryd.prog 70 [.pointer t1] h k
def C.txn_Txn_Back (t1 : Option Addr) (mark1 : Int) (h : Heap) (k : Value → Heap → Prop) : Prop := HCalls Tryd.prog 72 [.pointer t1, .int .i64 mark1] h k
def C.txn_Txn_Read (t1 : Option Addr) (i1 : Int) (h : Heap) (k : Value → Heap → Prop) : Prop := HCalls Tryd.prog 78 [.pointer t1, .int .i64 i1] h k
def C.bolelaw10_Setup_blocks (s1 : List Value) (h : Heap) (k : Value → Heap → Prop) : Prop := HCalls Tryd.prog 81 [.agg ⟨s1⟩] h k
def C.boleref09_Geo (n1 : Int) (h : Heap) (k : Value → Heap → Prop) : Prop := HCalls Tryd.prog 82 [.int .i64 n1] h k
def C.boleref03_copied (bA1 : Option Addr) (bL1 : Nat) (bC1 : Nat) (h : Heap) (k : Value → Heap → Prop) : Prop := HCalls Tryd.prog 83 [.slice bA1 bL1 bC1] h k
def C.bmap_Find_c1 (x1 : List Value) (x2 : Int) (xA1 : Option Addr) (xL1 : Nat) (xC1 : Nat) (h : Heap) (k : Value → Heap → Prop) : Prop := HCalls Tryd.prog 84 [.agg ⟨x1⟩, .int .i64 x2, .slice xA1 xL1 xC1] h k
def C.bmap_file_give (f1 : Option Addr) (num1 : Int) (h : Heap) (k : Value → Heap → Prop) : Prop := HCalls Tryd.prog 86 [.pointer f1, .int .i64 num1] h k
def C.bmap_file_cut (f1 : Option Addr) (table1 : Int) (from1 : Int) (drop1 : Value) (h : Heap) (k : Value → Heap → Prop) : Prop := HCalls Tryd.prog 87 [.pointer f1, .int .i64 table1, .int .i64 from1, drop1] h k
def C.bmap_file_leaf (f1 : Option Addr) (x1 : Int) (num1 : Int) (h : Heap) (k : Value → Heap → Prop) : Prop := HCalls Tryd.prog 88 [.pointer f1, .int .i64 x1, .int .i64 num1] h k
def C.bmap_Cut_c2 (i1 : Int) (num1 : Int) (x1 : Option Addr) (x2 : Option Addr) (h : Heap) (k : Value → Heap → Prop) : Prop := HCalls Tryd.prog 89 [.int .i64 i1, .int .i64 num1, .pointer x1, .pointer x2] h k
def C.bmap_guard_c1 (e1 : Int) (x1 : Option Addr) (x2 : Option Addr) (x3 : Option Addr) (h : Heap) (k : Value → Heap → Prop) : Prop := HCalls Tryd.prog 90 [.int .i64 e1, .pointer x1, .pointer x2, .pointer x3] h k
def C.bmap_way (k1 : Int) (h : Heap) (k : Value → Heap → Prop) : Prop := HCalls Tryd.prog 91 [.int .i64 k1] h k
def C.bmap_file_number (f1 : Option Addr) (s1 : List Value) (at1 : Int) (h : Heap) (k : Value → Heap → Prop) : Prop := HCalls Tryd.prog 92 [.pointer f1, .agg ⟨s1⟩, .int .i64 at1] h k
def C.space_Take_c1 (first1 : Int) (bA1 : Option Addr) (bL1 : Nat) (bC1 : Nat) (x1 : Option Addr) (x2 : Option Addr) (h : Heap) (k : Value → Heap → Prop) : Prop := HCalls Tryd.prog 93 [.int .i64 first1, .slice bA1 bL1 bC1, .pointer x1, .pointer x2] h k
def C.space_Take_c1_c1 (from1 : Int) (x1 : Int) (x2 : Option Addr) (h : Heap) (k : Value → Heap → Prop) : Prop := HCalls Tryd.prog 94 [.int .i64 from1, .int .i64 x1, .pointer x2] h k
def C.space_back (t1 : Option Addr) (mark1 : Int) (e1 : Option Addr) (h : Heap) (k : Value → Heap → Prop) : Prop := HCalls Tryd.prog 96 [.pointer t1, .int .i64 mark1, .pointer e1] h k
def C.space_set (t1 : Option Addr) (g1 : List Value) (i1 : Int) (on1 : Bool) (h : Heap) (k : Value → Heap → Prop) : Prop := HCalls Tryd.prog 97 [.pointer t1, .agg ⟨g1⟩, .int .i64 i1, .bool on1] h k
def C.bmap_file_own (f1 : Option Addr) (s1 : List Value) (h : Heap) (k : Value → Heap → Prop) : Prop := HCalls Tryd.prog 98 [.pointer f1, .agg ⟨s1⟩] h k
def C.rec_Put (bA1 : Option Addr) (bL1 : Nat) (bC1 : Nat) (at1 : Int) (n1 : Int) (v1 : Int) (h : Heap) (k : Value → Heap → Prop) : Prop := HCalls Tryd.prog 99 [.slice bA1 bL1 bC1, .int .i64 at1, .int .i64 n1, .int .u64 v1] h k
def C.bits_Runs (bA1 : Option Addr) (bL1 : Nat) (bC1 : Nat) (h : Heap) (k : Value → Heap → Prop) : Prop := HCalls Tryd.prog 100 [.slice bA1 bL1 bC1] h k
def C.space_bit (t1 : Option Addr) (g1 : List Value) (i1 : Int) (h : Heap) (k : Value → Heap → Prop) : Prop := HCalls Tryd.prog 101 [.pointer t1, .agg ⟨g1⟩, .int .i64 i1] h k
def C.bits_Get (bA1 : Option Addr) (bL1 : Nat) (bC1 : Nat) (i1 : Int) (h : Heap) (k : Value → Heap → Prop) : Prop := HCalls Tryd.prog 102 [.slice bA1 bL1 bC1, .int .i64 i1] h k
def C.rec_Get (bA1 : Option Addr) (bL1 : Nat) (bC1 : Nat) (at1 : Int) (n1 : Int) (h : Heap) (k : Value → Heap → Prop) : Prop := HCalls Tryd.prog 103 [.slice bA1 bL1 bC1, .int .i64 at1, .int .i64 n1] h k
def C.adisk_Disk_Blocks (d1 : Option Addr) (h : Heap) (k : Value → Heap → Prop) : Prop := HCalls Tryd.prog 109 [.pointer d1] h k
def C.txn_Txn_Write_c1 (x1 : Option Addr) (x2 : Option Addr) (x3 : Option Addr) (x4 : Option Addr) (h : Heap) (k : Value → Heap → Prop) : Prop := HCalls Tryd.prog 110 [.pointer x1, .pointer x2, .pointer x3, .pointer x4] h k
def C.slices_Clone_byte_byte (sA1 : Option Addr) (sL1 : Nat) (sC1 : Nat) (h : Heap) (k : Value → Heap → Prop) : Prop := HCalls Tryd.prog 111 [.slice sA1 sL1 sC1] h k
def C.adisk_Disk_Read (d1 : Option Addr) (i1 : Int) (h : Heap) (k : Value → Heap → Prop) : Prop := HCalls Tryd.prog 124 [.pointer d1, .int .i64 i1] h k
def C.space_Give (t1 : Option Addr) (g1 : List Value) (i1 : Int) (h : Heap) (k : Value → Heap → Prop) : Prop := HCalls Tryd.prog 126 [.pointer t1, .agg ⟨g1⟩, .int .i64 i1] h k
def C.bits_Put (bA1 : Option Addr) (bL1 : Nat) (bC1 : Nat) (i1 : Int) (is1 : Bool) (h : Heap) (k : Value → Heap → Prop) : Prop := HCalls Tryd.prog 127 [.slice bA1 bL1 bC1, .int .i64 i1, .bool is1] h k
def C.rec_isWidth (n1 : Int) (h : Heap) (k : Value → Heap → Prop) : Prop := HCalls Tryd.prog 128 [.int .i64 n1] h k
def C.rec_lie (bA1 : Option Addr) (bL1 : Nat) (bC1 : Nat) (at1 : Int) (n1 : Int) (h : Heap) (k : Value → Heap → Prop) : Prop := HCalls Tryd.prog 129 [.slice bA1 bL1 bC1, .int .i64 at1, .int .i64 n1] h k
def C.bits_Runs_c1 (yield1 : Value) (x1 : Option Addr) (h : Heap) (k : Value → Heap → Prop) : Prop := HCalls Tryd.prog 130 [yield1, .pointer x1] h k
def C.bits_has (bA1 : Option Addr) (bL1 : Nat) (bC1 : Nat) (i1 : Int) (h : Heap) (k : Value → Heap → Prop) : Prop := HCalls Tryd.prog 131 [.slice bA1 bL1 bC1, .int .i64 i1] h k
def C.bits_on (bA1 : Option Addr) (bL1 : Nat) (bC1 : Nat) (i1 : Int) (h : Heap) (k : Value → Heap → Prop) : Prop := HCalls Tryd.prog 132 [.slice bA1 bL1 bC1, .int .i64 i1] h k
def C.geo_Bit (g1 : List Value) (i1 : Int) (h : Heap) (k : Value → Heap → Prop) : Prop := HCalls Tryd.prog 133 [.agg ⟨g1⟩, .int .i64 i1] h k
def C.adisk_Disk_has (d1 : Option Addr) (i1 : Int) (h : Heap) (k : Value → Heap → Prop) : Prop := HCalls Tryd.prog 141 [.pointer d1, .int .i64 i1] h k
def D.bmap_Add_c1 (x1 : Option Addr) (x2 : Option Addr) (x3 : Option Addr) (x4 : Option Addr) (h : Heap) (k : Heap → Prop) : Prop := DCalls Tryd.prog 37 [.pointer x1, .pointer x2, .pointer x3, .pointer x4] h k
def D.bmap_Cut_c1 (x1 : Option Addr) (x2 : Option Addr) (x3 : Option Addr) (h : Heap) (k : Heap → Prop) : Prop := DCalls Tryd.prog 85 [.pointer x1, .pointer x2, .pointer x3] h k
def D.space_Take_c2 (x1 : Option Addr) (x2 : Option Addr) (x3 : Option Addr) (h : Heap) (k : Heap → Prop) : Prop := DCalls Tryd.prog 95 [.pointer x1, .pointer x2, .pointer x3] h k
end Go.Proofs.YtcdpakjhjmchhaaDoor.W
namespace Go.Proofs.YtcdpakjhjmchhaaDoor.W
open Go Go.Proofs Go.Proofs.YtcdpakjhjmchhaaDoor.Wx
def bolelaw10_BmapOwn.k2 (h7 : Heap) (n1 : Int) (n2 : Int) (h11 : Heap) (I2 : Int → Heap → Prop) (M2 : Int → Heap → Nat) (y1 : Option Addr) (e1 : Int) (h16 : Heap) (K : Value → Heap → Prop) : Prop :=
  C.bolelaw10_num e1 h16 fun r5 h17 =>
  ∃ (n7 : Int), r5 = .int .i64 n7 ∧
  bif (n7 == 0) then (
  onSome y1 fun p2 =>
  ∃ cs6 : List Value, List.length cs6 = 15 ∧ Cells h17 p2 cs6 ∧
  (0 ≤ n1 ∧ n1 < (2 : Int)) ∧
  PutRow (Addr.add ⟨h7.size, 0, none⟩ ((Int.toNat n1) * 15)) cs6 15 h17 fun h18 =>
  I2 (IntKind.wrap .i64 (n2 + 1)) h18 ∧ M2 (IntKind.wrap .i64 (n2 + 1)) h18 < M2 n2 h11) else (
  I2 (IntKind.wrap .i64 (n2 + 1)) h17 ∧ M2 (IntKind.wrap .i64 (n2 + 1)) h17 < M2 n2 h11)
def bolelaw10_BmapOwn.k3 (h3 : Heap) (q1 : Option Addr) (h7 : Heap) (pairsA1 : Option Addr) (pairsL1 : Nat) (tablesA1 : Option Addr) (tablesL1 : Nat) (sA7 : Option Addr) (sL7 : Nat) (sC7 : Nat) (sA9 : Option Addr) (sL9 : Nat) (sC9 : Nat) (h42 : Heap) (K : Value → Heap → Prop) : Prop :=
  ∃ (I4 : Int → Heap → Prop) (M4 : Int → Heap → Nat), I4 0 h42 ∧
  ∀ (n16 : Int), ∀ h43 : Heap, I4 n16 h43 →
  bif (decide (n16 < (pairsL1 : Int))) then (
  (0 ≤ n16 ∧ n16 < (pairsL1 : Int)) ∧
  onSome pairsA1 fun p7 =>
  ∃ (sA12 : Option Addr) (sL12 : Nat) (sC12 : Nat), cellOf h43 (Addr.add p7 (Int.toNat n16)) = some (.slice sA12 sL12 sC12) ∧
  ∃ (I5 : Int → Heap → Prop) (M5 : Int → Heap → Nat), I5 0 h43 ∧
  ∀ (n17 : Int), ∀ h44 : Heap, I5 n17 h44 →
  bif (decide (n17 < (sL12 : Int))) then (
  (0 ≤ n16 ∧ n16 < (pairsL1 : Int)) ∧
  onSome pairsA1 fun p8 =>
  ∃ (sA13 : Option Addr) (sL13 : Nat) (sC13 : Nat), cellOf h44 (Addr.add p8 (Int.toNat n16)) = some (.slice sA13 sL13 sC13) ∧
  (0 ≤ n17 ∧ n17 < (sL13 : Int)) ∧
  onSome sA13 fun p9 =>
  PutRow (Addr.add p9 ((Int.toNat n17) * 2)) [.int .i64 (IntKind.wrap .i64 ((-1) - n16)), .int .i64 n17] 2 h44 fun h45 =>
  I5 (IntKind.wrap .i64 (n17 + 1)) h45 ∧ M5 (IntKind.wrap .i64 (n17 + 1)) h45 < M5 n17 h44) else (
  (0 ≤ n16 ∧ n16 < (tablesL1 : Int)) ∧
  onSome tablesA1 fun p10 =>
  ∃ (sA14 : Option Addr) (sL14 : Nat) (sC14 : Nat), cellOf h44 (Addr.add p10 (Int.toNat n16)) = some (.slice sA14 sL14 sC14) ∧
  ∃ (I6 : Int → Heap → Prop) (M6 : Int → Heap → Nat), I6 0 h44 ∧
  ∀ (n18 : Int), ∀ h46 : Heap, I6 n18 h46 →
  bif (decide (n18 < (sL14 : Int))) then (
  (0 ≤ n16 ∧ n16 < (tablesL1 : Int)) ∧
  onSome tablesA1 fun p11 =>
  ∃ (sA15 : Option Addr) (sL15 : Nat) (sC15 : Nat), cellOf h46 (Addr.add p11 (Int.toNat n16)) = some (.slice sA15 sL15 sC15) ∧
  (0 ≤ n18 ∧ n18 < (sL15 : Int)) ∧
  onSome sA15 fun p12 =>
  Put (Addr.add p12 (Int.toNat n18)) (.int .i64 (IntKind.wrap .i64 ((-100) - n16))) h46 fun h47 =>
  I6 (IntKind.wrap .i64 (n18 + 1)) h47 ∧ M6 (IntKind.wrap .i64 (n18 + 1)) h47 < M6 n18 h46) else (
  I4 (IntKind.wrap .i64 (n16 + 1)) h46 ∧ M4 (IntKind.wrap .i64 (n16 + 1)) h46 < M4 n16 h43))) else (
  ∃ (I7 : Option Addr → Nat → Nat → Option Addr → Nat → Nat → Int → Heap → Prop) (M7 : Option Addr → Nat → Nat → Option Addr → Nat → Nat → Int → Heap → Nat), I7 none 0 0 none 0 0 0 h43 ∧
  ∀ (longsA1 : Option Addr) (longsL1 : Nat) (longsC1 : Nat) (longerA1 : Option Addr) (longerL1 : Nat) (longerC1 : Nat) (n19 : Int), ∀ h48 : Heap, I7 longsA1 longsL1 longsC1 longerA1 longerL1 longerC1 n19 h48 →
  bif (decide (n19 < (pairsL1 : Int))) then (
  (0 ≤ n19 ∧ n19 < (pairsL1 : Int)) ∧
  onSome pairsA1 fun p13 =>
  ∃ (sA16 : Option Addr) (sL16 : Nat) (sC16 : Nat), cellOf h48 (Addr.add p13 (Int.toNat n19)) = some (.slice sA16 sL16 sC16) ∧
  (0 ≤ n19 ∧ n19 < (pairsL1 : Int)) ∧
  onSome pairsA1 fun p14 =>
  ∃ (sA17 : Option Addr) (sL17 : Nat) (sC17 : Nat), cellOf h48 (Addr.add p14 (Int.toNat n19)) = some (.slice sA17 sL17 sC17) ∧
  (0 ≤ n19 ∧ n19 < (tablesL1 : Int)) ∧
  onSome tablesA1 fun p15 =>
  ∃ (sA18 : Option Addr) (sL18 : Nat) (sC18 : Nat), cellOf h48 (Addr.add p15 (Int.toNat n19)) = some (.slice sA18 sL18 sC18) ∧
  (
  List.length ([.int .i64 (IntKind.wrap .i64 ((-1) - n19)), .int .i64 (sL17 : Int)] : List Value) = 2 ∧
  New [.int .i64 (IntKind.wrap .i64 ((-1) - n19)), .int .i64 (sL17 : Int)] 56 h48 fun h49 =>
  (cellOf h49 (Addr.add p13 (Int.toNat n19)) = some (.slice sA16 sL16 sC16)) ∧
  (cellOf h49 (Addr.add p15 (Int.toNat n19)) = some (.slice sA18 sL18 sC18)) ∧
  (
  ∃ new5 : List Value, List.length new5 = 1 * 2 ∧ SlCells h49 (some ⟨h48.size, 0, none⟩) new5 ∧ (∀ v ∈ new5, v.oneCell' = true) ∧
  AppendP ti56 56 sA16 sL16 sC16 1 new5 h49 fun sA19 sL19 sC19 h50 =>
  (cellOf h50 (Addr.add p15 (Int.toNat n19)) = some (.slice sA18 sL18 sC18)) ∧
  (
  New [.slice sA19 sL19 sC19] 51 h50 fun h51 =>
  (cellOf h51 (Addr.add p15 (Int.toNat n19)) = some (.slice sA18 sL18 sC18)) ∧
  (
  ∃ new6 : List Value, List.length new6 = 1 * 1 ∧ SlCells h51 (some ⟨h50.size, 0, none⟩) new6 ∧ (∀ v ∈ new6, v.oneCell' = true) ∧
  AppendP ti51 51 longsA1 longsL1 longsC1 1 new6 h51 fun sA20 sL20 sC20 h52 =>
  (cellOf h52 (Addr.add p15 (Int.toNat n19)) = some (.slice sA18 sL18 sC18)) ∧
  New [.int .i64 (IntKind.wrap .i64 ((-100) - n19))] 3 h52 fun h53 =>
  (cellOf h53 (Addr.add p13 (Int.toNat n19)) = some (.slice sA16 sL16 sC16)) ∧
  (cellOf h53 (Addr.add p14 (Int.toNat n19)) = some (.slice sA17 sL17 sC17)) ∧
  (cellOf h53 (Addr.add p15 (Int.toNat n19)) = some (.slice sA18 sL18 sC18)) ∧
  ∃ new7 : List Value, List.length new7 = 1 * 1 ∧ SlCells h53 (some ⟨h52.size, 0, none⟩) new7 ∧ (∀ v ∈ new7, v.oneCell' = true) ∧
  AppendP ti3 3 sA18 sL18 sC18 1 new7 h53 fun sA21 sL21 sC21 h54 =>
  New [.slice sA21 sL21 sC21] 22 h54 fun h55 =>
  ∃ new8 : List Value, List.length new8 = 1 * 1 ∧ SlCells h55 (some ⟨h54.size, 0, none⟩) new8 ∧ (∀ v ∈ new8, v.oneCell' = true) ∧
  AppendP ti22 22 longerA1 longerL1 longerC1 1 new8 h55 fun sA22 sL22 sC22 h56 =>
  I7 sA20 sL20 sC20 sA22 sL22 sC22 (IntKind.wrap .i64 (n19 + 1)) h56 ∧ M7 sA20 sL20 sC20 sA22 sL22 sC22 (IntKind.wrap .i64 (n19 + 1)) h56 < M7 longsA1 longsL1 longsC1 longerA1 longerL1 longerC1 n19 h48) ∧
  New [.int .i64 (IntKind.wrap .i64 ((-100) - n19))] 3 h51 fun h57 =>
  (cellOf h57 (Addr.add p13 (Int.toNat n19)) = some (.slice sA16 sL16 sC16)) ∧
  (cellOf h57 (Addr.add p14 (Int.toNat n19)) = some (.slice sA17 sL17 sC17)) ∧
  (cellOf h57 (Addr.add p15 (Int.toNat n19)) = some (.slice sA18 sL18 sC18)) ∧
  ∃ new9 : List Value, List.length new9 = 1 * 1 ∧ SlCells h57 (some ⟨h50.size, 0, none⟩) new9 ∧ (∀ v ∈ new9, v.oneCell' = true) ∧
  AppendP ti51 51 longsA1 longsL1 longsC1 1 new9 h57 fun sA23 sL23 sC23 h58 =>
  (cellOf h58 (Addr.add p15 (Int.toNat n19)) = some (.slice sA18 sL18 sC18)) ∧
  ∃ new10 : List Value, List.length new10 = 1 * 1 ∧ SlCells h58 (some ⟨h51.size, 0, none⟩) new10 ∧ (∀ v ∈ new10, v.oneCell' = true) ∧
  AppendP ti3 3 sA18 sL18 sC18 1 new10 h58 fun sA24 sL24 sC24 h59 =>
  New [.slice sA24 sL24 sC24] 22 h59 fun h60 =>
  ∃ new11 : List Value, List.length new11 = 1 * 1 ∧ SlCells h60 (some ⟨h59.size, 0, none⟩) new11 ∧ (∀ v ∈ new11, v.oneCell' = true) ∧
  AppendP ti22 22 longerA1 longerL1 longerC1 1 new11 h60 fun sA25 sL25 sC25 h61 =>
  I7 sA23 sL23 sC23 sA25 sL25 sC25 (IntKind.wrap .i64 (n19 + 1)) h61 ∧ M7 sA23 sL23 sC23 sA25 sL25 sC25 (IntKind.wrap .i64 (n19 + 1)) h61 < M7 longsA1 longsL1 longsC1 longerA1 longerL1 longerC1 n19 h48) ∧
  New [.int .i64 (IntKind.wrap .i64 ((-100) - n19))] 3 h50 fun h62 =>
  (cellOf h62 (Addr.add p13 (Int.toNat n19)) = some (.slice sA16 sL16 sC16)) ∧
  (cellOf h62 (Addr.add p14 (Int.toNat n19)) = some (.slice sA17 sL17 sC17)) ∧
  (cellOf h62 (Addr.add p15 (Int.toNat n19)) = some (.slice sA18 sL18 sC18)) ∧
  New [.slice sA19 sL19 sC19] 51 h62 fun h63 =>
  (cellOf h63 (Addr.add p15 (Int.toNat n19)) = some (.slice sA18 sL18 sC18)) ∧
  ∃ new12 : List Value, List.length new12 = 1 * 1 ∧ SlCells h63 (some ⟨h62.size, 0, none⟩) new12 ∧ (∀ v ∈ new12, v.oneCell' = true) ∧
  AppendP ti51 51 longsA1 longsL1 longsC1 1 new12 h63 fun sA26 sL26 sC26 h64 =>
  (cellOf h64 (Addr.add p15 (Int.toNat n19)) = some (.slice sA18 sL18 sC18)) ∧
  ∃ new13 : List Value, List.length new13 = 1 * 1 ∧ SlCells h64 (some ⟨h50.size, 0, none⟩) new13 ∧ (∀ v ∈ new13, v.oneCell' = true) ∧
  AppendP ti3 3 sA18 sL18 sC18 1 new13 h64 fun sA27 sL27 sC27 h65 =>
  New [.slice sA27 sL27 sC27] 22 h65 fun h66 =>
  ∃ new14 : List Value, List.length new14 = 1 * 1 ∧ SlCells h66 (some ⟨h65.size, 0, none⟩) new14 ∧ (∀ v ∈ new14, v.oneCell' = true) ∧
  AppendP ti22 22 longerA1 longerL1 longerC1 1 new14 h66 fun sA28 sL28 sC28 h67 =>
  I7 sA26 sL26 sC26 sA28 sL28 sC28 (IntKind.wrap .i64 (n19 + 1)) h67 ∧ M7 sA26 sL26 sC26 sA28 sL28 sC28 (IntKind.wrap .i64 (n19 + 1)) h67 < M7 longsA1 longsL1 longsC1 longerA1 longerL1 longerC1 n19 h48) ∧
  New [.int .i64 (IntKind.wrap .i64 ((-100) - n19))] 3 h49 fun h68 =>
  (cellOf h68 (Addr.add p13 (Int.toNat n19)) = some (.slice sA16 sL16 sC16)) ∧
  (cellOf h68 (Addr.add p14 (Int.toNat n19)) = some (.slice sA17 sL17 sC17)) ∧
  (cellOf h68 (Addr.add p15 (Int.toNat n19)) = some (.slice sA18 sL18 sC18)) ∧
  ∃ new15 : List Value, List.length new15 = 1 * 2 ∧ SlCells h68 (some ⟨h48.size, 0, none⟩) new15 ∧ (∀ v ∈ new15, v.oneCell' = true) ∧
  AppendP ti56 56 sA16 sL16 sC16 1 new15 h68 fun sA29 sL29 sC29 h69 =>
  (cellOf h69 (Addr.add p15 (Int.toNat n19)) = some (.slice sA18 sL18 sC18)) ∧
  New [.slice sA29 sL29 sC29] 51 h69 fun h70 =>
  (cellOf h70 (Addr.add p15 (Int.toNat n19)) = some (.slice sA18 sL18 sC18)) ∧
  ∃ new16 : List Value, List.length new16 = 1 * 1 ∧ SlCells h70 (some ⟨h69.size, 0, none⟩) new16 ∧ (∀ v ∈ new16, v.oneCell' = true) ∧
  AppendP ti51 51 longsA1 longsL1 longsC1 1 new16 h70 fun sA30 sL30 sC30 h71 =>
  (cellOf h71 (Addr.add p15 (Int.toNat n19)) = some (.slice sA18 sL18 sC18)) ∧
  ∃ new17 : List Value, List.length new17 = 1 * 1 ∧ SlCells h71 (some ⟨h49.size, 0, none⟩) new17 ∧ (∀ v ∈ new17, v.oneCell' = true) ∧
  AppendP ti3 3 sA18 sL18 sC18 1 new17 h71 fun sA31 sL31 sC31 h72 =>
  New [.slice sA31 sL31 sC31] 22 h72 fun h73 =>
  ∃ new18 : List Value, List.length new18 = 1 * 1 ∧ SlCells h73 (some ⟨h72.size, 0, none⟩) new18 ∧ (∀ v ∈ new18, v.oneCell' = true) ∧
  AppendP ti22 22 longerA1 longerL1 longerC1 1 new18 h73 fun sA32 sL32 sC32 h74 =>
  I7 sA30 sL30 sC30 sA32 sL32 sC32 (IntKind.wrap .i64 (n19 + 1)) h74 ∧ M7 sA30 sL30 sC30 sA32 sL32 sC32 (IntKind.wrap .i64 (n19 + 1)) h74 < M7 longsA1 longsL1 longsC1 longerA1 longerL1 longerC1 n19 h48) ∧
  New [.int .i64 (IntKind.wrap .i64 ((-100) - n19))] 3 h48 fun h75 =>
  (cellOf h75 (Addr.add p13 (Int.toNat n19)) = some (.slice sA16 sL16 sC16)) ∧
  (cellOf h75 (Addr.add p14 (Int.toNat n19)) = some (.slice sA17 sL17 sC17)) ∧
  (cellOf h75 (Addr.add p15 (Int.toNat n19)) = some (.slice sA18 sL18 sC18)) ∧
  List.length ([.int .i64 (IntKind.wrap .i64 ((-1) - n19)), .int .i64 (sL17 : Int)] : List Value) = 2 ∧
  New [.int .i64 (IntKind.wrap .i64 ((-1) - n19)), .int .i64 (sL17 : Int)] 56 h75 fun h76 =>
  (cellOf h76 (Addr.add p13 (Int.toNat n19)) = some (.slice sA16 sL16 sC16)) ∧
  (cellOf h76 (Addr.add p15 (Int.toNat n19)) = some (.slice sA18 sL18 sC18)) ∧
  ∃ new19 : List Value, List.length new19 = 1 * 2 ∧ SlCells h76 (some ⟨h75.size, 0, none⟩) new19 ∧ (∀ v ∈ new19, v.oneCell' = true) ∧
  AppendP ti56 56 sA16 sL16 sC16 1 new19 h76 fun sA33 sL33 sC33 h77 =>
  (cellOf h77 (Addr.add p15 (Int.toNat n19)) = some (.slice sA18 sL18 sC18)) ∧
  New [.slice sA33 sL33 sC33] 51 h77 fun h78 =>
  (cellOf h78 (Addr.add p15 (Int.toNat n19)) = some (.slice sA18 sL18 sC18)) ∧
  ∃ new20 : List Value, List.length new20 = 1 * 1 ∧ SlCells h78 (some ⟨h77.size, 0, none⟩) new20 ∧ (∀ v ∈ new20, v.oneCell' = true) ∧
  AppendP ti51 51 longsA1 longsL1 longsC1 1 new20 h78 fun sA34 sL34 sC34 h79 =>
  (cellOf h79 (Addr.add p15 (Int.toNat n19)) = some (.slice sA18 sL18 sC18)) ∧
  ∃ new21 : List Value, List.length new21 = 1 * 1 ∧ SlCells h79 (some ⟨h48.size, 0, none⟩) new21 ∧ (∀ v ∈ new21, v.oneCell' = true) ∧
  AppendP ti3 3 sA18 sL18 sC18 1 new21 h79 fun sA35 sL35 sC35 h80 =>
  New [.slice sA35 sL35 sC35] 22 h80 fun h81 =>
  ∃ new22 : List Value, List.length new22 = 1 * 1 ∧ SlCells h81 (some ⟨h80.size, 0, none⟩) new22 ∧ (∀ v ∈ new22, v.oneCell' = true) ∧
  AppendP ti22 22 longerA1 longerL1 longerC1 1 new22 h81 fun sA36 sL36 sC36 h82 =>
  I7 sA34 sL34 sC34 sA36 sL36 sC36 (IntKind.wrap .i64 (n19 + 1)) h82 ∧ M7 sA34 sL34 sC34 sA36 sL36 sC36 (IntKind.wrap .i64 (n19 + 1)) h82 < M7 longsA1 longsL1 longsC1 longerA1 longerL1 longerC1 n19 h48) else (
  ∃ (I8 : Int → Heap → Prop) (M8 : Int → Heap → Nat), I8 0 h48 ∧
  ∀ (n20 : Int), ∀ h83 : Heap, I8 n20 h83 →
  bif (decide (n20 < (longsL1 : Int))) then (
  (0 ≤ n20 ∧ n20 < (longsL1 : Int)) ∧
  onSome longsA1 fun p16 =>
  ∃ (sA37 : Option Addr) (sL37 : Nat) (sC37 : Nat), cellOf h83 (Addr.add p16 (Int.toNat n20)) = some (.slice sA37 sL37 sC37) ∧
  ∃ (I9 : Int → Heap → Prop) (M9 : Int → Heap → Nat), I9 0 h83 ∧
  ∀ (n21 : Int), ∀ h84 : Heap, I9 n21 h84 →
  bif (decide (n21 < (sL37 : Int))) then (
  (0 ≤ n21 ∧ n21 < (sL37 : Int)) ∧
  onSome sA37 fun p17 =>
  ∃ cs15 : List Value, List.length cs15 = 2 ∧ Cells h84 (Addr.add p17 ((Int.toNat n21) * 2)) cs15 ∧
  NewRow z56 56 cs15 2 h84 fun h86 =>
  ∃ cs16 : List Value, List.length cs16 = 2 ∧ Cells h86 ⟨h84.size, 0, none⟩ cs16 ∧
  pairsOk [(.int .i64), (.int .i64)] cs16 [.int .i64 (IntKind.wrap .i64 ((-1) - n20)), .int .i64 n21] = true ∧
  bif (!(cellsEq cs16 [.int .i64 (IntKind.wrap .i64 ((-1) - n20)), .int .i64 n21])) then (
  K (.bool false) h86) else (
  (0 ≤ n20 ∧ n20 < (pairsL1 : Int)) ∧
  onSome pairsA1 fun p18 =>
  ∃ (sA38 : Option Addr) (sL38 : Nat) (sC38 : Nat), cellOf h86 (Addr.add p18 (Int.toNat n20)) = some (.slice sA38 sL38 sC38) ∧
  bif (decide (n21 < (sL38 : Int))) then (
  (0 ≤ n20 ∧ n20 < (pairsL1 : Int)) ∧
  onSome pairsA1 fun p19 =>
  ∃ (sA39 : Option Addr) (sL39 : Nat) (sC39 : Nat), cellOf h86 (Addr.add p19 (Int.toNat n20)) = some (.slice sA39 sL39 sC39) ∧
  (0 ≤ n21 ∧ n21 < (sL39 : Int)) ∧
  onSome sA39 fun p20 =>
  ∃ cs17 : List Value, List.length cs17 = 2 ∧ Cells h86 (Addr.add p20 ((Int.toNat n21) * 2)) cs17 ∧
  ∃ cs18 : List Value, List.length cs18 = 2 ∧ Cells h86 ⟨h84.size, 0, none⟩ cs18 ∧
  pairsOk [(.int .i64), (.int .i64)] cs17 cs18 = true ∧
  bif (!(cellsEq cs17 cs18)) then (
  K (.bool false) h86) else (
  I9 (IntKind.wrap .i64 (n21 + 1)) h86 ∧ M9 (IntKind.wrap .i64 (n21 + 1)) h86 < M9 n21 h84)) else (
  I9 (IntKind.wrap .i64 (n21 + 1)) h86 ∧ M9 (IntKind.wrap .i64 (n21 + 1)) h86 < M9 n21 h84))) else (
  (0 ≤ n20 ∧ n20 < (longerL1 : Int)) ∧
  onSome longerA1 fun p21 =>
  ∃ (sA40 : Option Addr) (sL40 : Nat) (sC40 : Nat), cellOf h84 (Addr.add p21 (Int.toNat n20)) = some (.slice sA40 sL40 sC40) ∧
  ∃ (I10 : Int → Heap → Prop) (M10 : Int → Heap → Nat), I10 0 h84 ∧
  ∀ (n22 : Int), ∀ h87 : Heap, I10 n22 h87 →
  bif (decide (n22 < (sL40 : Int))) then (
  (0 ≤ n22 ∧ n22 < (sL40 : Int)) ∧
  onSome sA40 fun p22 =>
  ∃ (n23 : Int), cellOf h87 (Addr.add p22 (Int.toNat n22)) = some (.int .i64 n23) ∧
  bif (n23 != (IntKind.wrap .i64 ((-100) - n20))) then (
  K (.bool false) h87) else (
  (0 ≤ n20 ∧ n20 < (tablesL1 : Int)) ∧
  onSome tablesA1 fun p23 =>
  ∃ (sA41 : Option Addr) (sL41 : Nat) (sC41 : Nat), cellOf h87 (Addr.add p23 (Int.toNat n20)) = some (.slice sA41 sL41 sC41) ∧
  bif (decide (n22 < (sL41 : Int))) then (
  (0 ≤ n20 ∧ n20 < (tablesL1 : Int)) ∧
  onSome tablesA1 fun p24 =>
  ∃ (sA42 : Option Addr) (sL42 : Nat) (sC42 : Nat), cellOf h87 (Addr.add p24 (Int.toNat n20)) = some (.slice sA42 sL42 sC42) ∧
  (0 ≤ n22 ∧ n22 < (sL42 : Int)) ∧
  onSome sA42 fun p25 =>
  ∃ (n24 : Int), cellOf h87 (Addr.add p25 (Int.toNat n22)) = some (.int .i64 n24) ∧
  bif (n24 != n23) then (
  K (.bool false) h87) else (
  I10 (IntKind.wrap .i64 (n22 + 1)) h87 ∧ M10 (IntKind.wrap .i64 (n22 + 1)) h87 < M10 n22 h87)) else (
  I10 (IntKind.wrap .i64 (n22 + 1)) h87 ∧ M10 (IntKind.wrap .i64 (n22 + 1)) h87 < M10 n22 h87))) else (
  I8 (IntKind.wrap .i64 (n20 + 1)) h87 ∧ M8 (IntKind.wrap .i64 (n20 + 1)) h87 < M8 n20 h83))) else (
  ∃ cs19 : List Value, List.length cs19 = 5 ∧ Cells h83 ⟨h3.size, 0, none⟩ cs19 ∧
  (0 ≤ (0 : Int) ∧ 0 < (2 : Int)) ∧
  ∃ cs20 : List Value, List.length cs20 = 15 ∧ Cells h83 (Addr.add ⟨h7.size, 0, none⟩ ((Int.toNat 0) * 15)) cs20 ∧
  C.bmap_All q1 cs19 cs20 h83 fun r13 h88 =>
  ∃ (sA43 : Option Addr) (sL43 : Nat) (sC43 : Nat) (sA44 : Option Addr) (sL44 : Nat) (sC44 : Nat) (n25 : Int), r13 = .tuple #[.slice sA43 sL43 sC43, .slice sA44 sL44 sC44, .int .i64 n25] ∧
  C.bolelaw10_num n25 h88 fun r14 h89 =>
  ∃ (n26 : Int), r14 = .int .i64 n26 ∧
  bif (n26 == 0) then (
  C.bolelaw10_samePairs sA43 sL43 sC43 sA7 sL7 sC7 h89 fun r15 h90 =>
  ∃ (b5 : Bool), r15 = .bool b5 ∧
  bif b5 then (
  C.bolelaw10_same sA44 sL44 sC44 sA9 sL9 sC9 h90 fun r16 h91 =>
  ∃ (b6 : Bool), r16 = .bool b6 ∧
  K (.bool b6) h91) else (
  K (.bool false) h90)) else (
  K (.bool false) h89))))
def bolelaw10_BmapOwn.k1 (oneA1 : Option Addr) (oneL1 : Nat) (oneC1 : Nat) (twoA1 : Option Addr) (twoL1 : Nat) (twoC1 : Nat) (h3 : Heap) (q1 : Option Addr) (h7 : Heap) (K : Value → Heap → Prop) : Prop :=
  New z47 47 h7 fun h8 =>
  New [.slice oneA1 oneL1 oneC1, .slice twoA1 twoL1 twoC1] 22 h8 fun h9 =>
  ∃ (I1 : Int → Heap → Prop) (M1 : Int → Heap → Nat), I1 0 h9 ∧
  ∀ (n1 : Int), ∀ h10 : Heap, I1 n1 h10 →
  bif (decide (n1 < (2 : Int))) then (
  (0 ≤ n1 ∧ n1 < (2 : Int)) ∧
  ∃ (sA1 : Option Addr) (sL1 : Nat) (sC1 : Nat), cellOf h10 (Addr.add ⟨h8.size, 0, none⟩ (Int.toNat n1)) = some (.slice sA1 sL1 sC1) ∧
  ∃ (I2 : Int → Heap → Prop) (M2 : Int → Heap → Nat), I2 0 h10 ∧
  ∀ (n2 : Int), ∀ h11 : Heap, I2 n2 h11 →
  bif (decide (n2 < (sL1 : Int))) then (
  (0 ≤ n2 ∧ n2 < (sL1 : Int)) ∧
  onSome sA1 fun p1 =>
  ∃ (n3 : Int), cellOf h11 (Addr.add p1 (Int.toNat n2)) = some (.int .i64 n3) ∧
  bif (decide (n2 ≥ 20)) then (
  I1 (IntKind.wrap .i64 (n1 + 1)) h11 ∧ M1 (IntKind.wrap .i64 (n1 + 1)) h11 < M1 n1 h10) else (
  ∃ cs3 : List Value, List.length cs3 = 5 ∧ Cells h11 ⟨h3.size, 0, none⟩ cs3 ∧
  (0 ≤ n1 ∧ n1 < (2 : Int)) ∧
  ∃ cs4 : List Value, List.length cs4 = 15 ∧ Cells h11 (Addr.add ⟨h7.size, 0, none⟩ ((Int.toNat n1) * 15)) cs4 ∧
  (
  C.bolelaw10_index n3 h11 fun r3 h12 =>
  ∃ (n4 : Int), r3 = .int .i64 n4 ∧
  (List.length (cs3 : List Value) = 5 ∧ Cells h12 ⟨h3.size, 0, none⟩ cs3) ∧
  (List.length (cs4 : List Value) = 15 ∧ Cells h12 (Addr.add ⟨h7.size, 0, none⟩ ((Int.toNat n1) * 15)) cs4) ∧
  (
  C.bmap_Add q1 cs3 cs4 n4 h12 fun r4 h13 =>
  ∃ (cs5 : List Value) (n5 : Int) (n6 : Int), r4 = .tuple #[.agg ⟨cs5⟩, .int .i64 n5, .int .i64 n6] ∧
  New z35 35 h13 fun h14 =>
  (List.length (cs3 : List Value) = 5 ∧ Cells h14 ⟨h3.size, 0, none⟩ cs3) ∧
  (List.length (cs4 : List Value) = 15 ∧ Cells h14 (Addr.add ⟨h7.size, 0, none⟩ ((Int.toNat n1) * 15)) cs4) ∧
  PutRow ⟨h13.size, 0, none⟩ cs5 15 h14 fun h15 =>
  bolelaw10_BmapOwn.k2 h7 n1 n2 h11 I2 M2 (some ⟨h13.size, 0, none⟩) n6 h15 K) ∧
  New z35 35 h12 fun h19 =>
  (List.length (cs3 : List Value) = 5 ∧ Cells h19 ⟨h3.size, 0, none⟩ cs3) ∧
  (List.length (cs4 : List Value) = 15 ∧ Cells h19 (Addr.add ⟨h7.size, 0, none⟩ ((Int.toNat n1) * 15)) cs4) ∧
  C.bmap_Add q1 cs3 cs4 n4 h19 fun r6 h20 =>
  ∃ (cs7 : List Value) (n8 : Int) (n9 : Int), r6 = .tuple #[.agg ⟨cs7⟩, .int .i64 n8, .int .i64 n9] ∧
  PutRow ⟨h12.size, 0, none⟩ cs7 15 h20 fun h21 =>
  bolelaw10_BmapOwn.k2 h7 n1 n2 h11 I2 M2 (some ⟨h12.size, 0, none⟩) n9 h21 K) ∧
  New z35 35 h11 fun h22 =>
  (List.length (cs3 : List Value) = 5 ∧ Cells h22 ⟨h3.size, 0, none⟩ cs3) ∧
  (List.length (cs4 : List Value) = 15 ∧ Cells h22 (Addr.add ⟨h7.size, 0, none⟩ ((Int.toNat n1) * 15)) cs4) ∧
  C.bolelaw10_index n3 h22 fun r7 h23 =>
  ∃ (n10 : Int), r7 = .int .i64 n10 ∧
  (List.length (cs3 : List Value) = 5 ∧ Cells h23 ⟨h3.size, 0, none⟩ cs3) ∧
  (List.length (cs4 : List Value) = 15 ∧ Cells h23 (Addr.add ⟨h7.size, 0, none⟩ ((Int.toNat n1) * 15)) cs4) ∧
  C.bmap_Add q1 cs3 cs4 n10 h23 fun r8 h24 =>
  ∃ (cs8 : List Value) (n11 : Int) (n12 : Int), r8 = .tuple #[.agg ⟨cs8⟩, .int .i64 n11, .int .i64 n12] ∧
  PutRow ⟨h11.size, 0, none⟩ cs8 15 h24 fun h25 =>
  bolelaw10_BmapOwn.k2 h7 n1 n2 h11 I2 M2 (some ⟨h11.size, 0, none⟩) n12 h25 K)) else (
  I1 (IntKind.wrap .i64 (n1 + 1)) h11 ∧ M1 (IntKind.wrap .i64 (n1 + 1)) h11 < M1 n1 h10)) else (
  (0 ≤ (0 : Int) ∧ 0 < (2 : Int)) ∧
  ∃ cs9 : List Value, List.length cs9 = 15 ∧ Cells h10 (Addr.add ⟨h7.size, 0, none⟩ ((Int.toNat 0) * 15)) cs9 ∧
  (0 ≤ (1 : Int) ∧ 1 < (2 : Int)) ∧
  ∃ cs10 : List Value, List.length cs10 = 15 ∧ Cells h10 (Addr.add ⟨h7.size, 0, none⟩ ((Int.toNat 1) * 15)) cs10 ∧
  (0 ≤ (0 : Int) ∧ 0 < (2 : Int)) ∧
  ∃ cs11 : List Value, List.length cs11 = 15 ∧ Cells h10 (Addr.add ⟨h7.size, 0, none⟩ ((Int.toNat 0) * 15)) cs11 ∧
  List.length (cs9 : List Value) = 15 ∧
  List.length (cs10 : List Value) = 15 ∧
  List.length (cs11 : List Value) = 15 ∧
  New (cs9 ++ (cs10 ++ cs11)) 35 h10 fun h26 =>
  ∃ (I3 : Option Addr → Nat → Nat → Option Addr → Nat → Nat → Int → Heap → Prop) (M3 : Option Addr → Nat → Nat → Option Addr → Nat → Nat → Int → Heap → Nat), I3 none 0 0 none 0 0 0 h26 ∧
  ∀ (pairsA1 : Option Addr) (pairsL1 : Nat) (pairsC1 : Nat) (tablesA1 : Option Addr) (tablesL1 : Nat) (tablesC1 : Nat) (n13 : Int), ∀ h27 : Heap, I3 pairsA1 pairsL1 pairsC1 tablesA1 tablesL1 tablesC1 n13 h27 →
  bif (decide (n13 < (3 : Int))) then (
  (0 ≤ n13 ∧ n13 < (3 : Int)) ∧
  ∃ cs12 : List Value, List.length cs12 = 15 ∧ Cells h27 (Addr.add ⟨h10.size, 0, none⟩ ((Int.toNat n13) * 15)) cs12 ∧
  NewRow z35 35 cs12 15 h27 fun h29 =>
  ∃ cs13 : List Value, List.length cs13 = 5 ∧ Cells h29 ⟨h3.size, 0, none⟩ cs13 ∧
  ∃ cs14 : List Value, List.length cs14 = 15 ∧ Cells h29 ⟨h27.size, 0, none⟩ cs14 ∧
  C.bmap_All q1 cs13 cs14 h29 fun r9 h30 =>
  ∃ (sA2 : Option Addr) (sL2 : Nat) (sC2 : Nat) (sA3 : Option Addr) (sL3 : Nat) (sC3 : Nat) (n14 : Int), r9 = .tuple #[.slice sA2 sL2 sC2, .slice sA3 sL3 sC3, .int .i64 n14] ∧
  C.bolelaw10_num n14 h30 fun r10 h31 =>
  ∃ (n15 : Int), r10 = .int .i64 n15 ∧
  bif (n15 != 0) then (
  K (.bool false) h31) else (
  New [.slice sA2 sL2 sC2] 51 h31 fun h32 =>
  ∃ new1 : List Value, List.length new1 = 1 * 1 ∧ SlCells h32 (some ⟨h31.size, 0, none⟩) new1 ∧ (∀ v ∈ new1, v.oneCell' = true) ∧
  AppendP ti51 51 pairsA1 pairsL1 pairsC1 1 new1 h32 fun sA4 sL4 sC4 h33 =>
  New [.slice sA3 sL3 sC3] 22 h33 fun h34 =>
  ∃ new2 : List Value, List.length new2 = 1 * 1 ∧ SlCells h34 (some ⟨h33.size, 0, none⟩) new2 ∧ (∀ v ∈ new2, v.oneCell' = true) ∧
  AppendP ti22 22 tablesA1 tablesL1 tablesC1 1 new2 h34 fun sA5 sL5 sC5 h35 =>
  I3 sA4 sL4 sC4 sA5 sL5 sC5 (IntKind.wrap .i64 (n13 + 1)) h35 ∧ M3 sA4 sL4 sC4 sA5 sL5 sC5 (IntKind.wrap .i64 (n13 + 1)) h35 < M3 pairsA1 pairsL1 pairsC1 tablesA1 tablesL1 tablesC1 n13 h27)) else (
  New [] 56 h27 fun h36 =>
  (0 ≤ (0 : Int) ∧ 0 < (pairsL1 : Int)) ∧
  onSome pairsA1 fun p3 =>
  ∃ (sA6 : Option Addr) (sL6 : Nat) (sC6 : Nat), cellOf h36 (Addr.add p3 (Int.toNat 0)) = some (.slice sA6 sL6 sC6) ∧
  ∃ new3 : List Value, List.length new3 = sL6 * 2 ∧ SlCells h36 sA6 new3 ∧ (∀ v ∈ new3, v.oneCell' = true) ∧
  AppendP ti56 56 (some ⟨h27.size, 0, none⟩) 0 0 sL6 new3 h36 fun sA7 sL7 sC7 h37 =>
  New [] 3 h37 fun h38 =>
  (0 ≤ (0 : Int) ∧ 0 < (tablesL1 : Int)) ∧
  onSome tablesA1 fun p4 =>
  ∃ (sA8 : Option Addr) (sL8 : Nat) (sC8 : Nat), cellOf h38 (Addr.add p4 (Int.toNat 0)) = some (.slice sA8 sL8 sC8) ∧
  ∃ new4 : List Value, List.length new4 = sL8 * 1 ∧ SlCells h38 sA8 new4 ∧ (∀ v ∈ new4, v.oneCell' = true) ∧
  AppendP ti3 3 (some ⟨h37.size, 0, none⟩) 0 0 sL8 new4 h38 fun sA9 sL9 sC9 h39 =>
  (0 ≤ (2 : Int) ∧ 2 < (pairsL1 : Int)) ∧
  onSome pairsA1 fun p5 =>
  ∃ (sA10 : Option Addr) (sL10 : Nat) (sC10 : Nat), cellOf h39 (Addr.add p5 (Int.toNat 2)) = some (.slice sA10 sL10 sC10) ∧
  C.bolelaw10_samePairs sA10 sL10 sC10 sA7 sL7 sC7 h39 fun r11 h40 =>
  ∃ (b3 : Bool), r11 = .bool b3 ∧
  bif (!b3) then (
  K (.bool false) h40) else (
  (0 ≤ (2 : Int) ∧ 2 < (tablesL1 : Int)) ∧
  onSome tablesA1 fun p6 =>
  ∃ (sA11 : Option Addr) (sL11 : Nat) (sC11 : Nat), cellOf h40 (Addr.add p6 (Int.toNat 2)) = some (.slice sA11 sL11 sC11) ∧
  C.bolelaw10_same sA11 sL11 sC11 sA9 sL9 sC9 h40 fun r12 h41 =>
  ∃ (b4 : Bool), r12 = .bool b4 ∧
  bif (!b4) then (
  K (.bool false) h41) else (
  bolelaw10_BmapOwn.k3 h3 q1 h7 pairsA1 pairsL1 tablesA1 tablesL1 sA7 sL7 sC7 sA9 sL9 sC9 h41 K))))
def bolelaw10_BmapOwn (s1 : List Value) (oneA1 : Option Addr) (oneL1 : Nat) (oneC1 : Nat) (twoA1 : Option Addr) (twoL1 : Nat) (twoC1 : Nat) (K : Value → Heap → Prop) (h1 : Heap) : Prop :=
  New s1 25 h1 fun h2 =>
  ∃ cs1 : List Value, List.length cs1 = 3 ∧ Cells h2 ⟨h1.size, 0, none⟩ cs1 ∧
  C.bolelaw10_Setup_begin cs1 h2 fun r1 h3 =>
  ∃ (q1 : Option Addr) (q2 : Option Addr) (cs2 : List Value) (b1 : Bool), r1 = .tuple #[.pointer q1, .pointer q2, .agg ⟨cs2⟩, .bool b1] ∧
  NewRow z29 29 cs2 5 h3 fun h5 =>
  bif (!b1) then (
  K (.bool false) h5) else (
  C.bolelaw10_known  h5 fun r2 h6 =>
  ∃ (b2 : Bool), r2 = .bool b2 ∧
  bif (!b2) then (
  K (.bool false) h6) else (
  bolelaw10_BmapOwn.k1 oneA1 oneL1 oneC1 twoA1 twoL1 twoC1 h3 q1 h6 K))
def bolelaw10_BmapOwn.lo : Nat → List Nat × List (Nat × Ty) := fun n => match n with | 6 => ([7, 9, 11, 57, 58], [(59, .int .i64)]) | 9 => ([7, 9, 11, 12, 57, 58, 59, 64, 65], [(66, .int .i64)]) | 20 => ([7, 9, 11, 99, 100], [(19, .slice), (20, .slice), (101, .int .i64)]) | 32 => ([7, 9, 11, 19, 20, 26, 27, 150], [(151, .int .i64)]) | 35 => ([7, 9, 11, 19, 20, 26, 27, 28, 150, 151, 158], [(159, .int .i64)]) | 40 => ([7, 9, 11, 19, 20, 26, 27, 28, 150, 151, 177], [(178, .int .i64)]) | 48 => ([7, 9, 11, 19, 20, 26, 27, 192], [(31, .slice), (32, .slice), (193, .int .i64)]) | 53 => ([7, 9, 11, 19, 20, 26, 27, 31, 32, 226], [(227, .int .i64)]) | 56 => ([7, 9, 11, 19, 20, 26, 27, 31, 32, 34, 226, 227, 233, 234], [(235, .int .i64)]) | 62 => ([7, 9, 11, 19, 20, 26, 27, 31, 32, 34, 226, 227, 270, 271], [(272, .int .i64)]) | _ => ([], [])
set_option maxRecDepth 100000 in
def bolelaw10_BmapOwn.od : Nat → Od := fun n => match n with | 12 => (.op 0 [] (.op 1 [] (.op 2 [] (.op 3 [] (.op 4 [] (.op 5 [] (.alt 6 [1, 4] (.alt 7 [] (.op 8 [] (.op 9 [] (.op 10 [] (.op 11 [] (.op 12 [1, 4] (.op 13 [] (.op 14 [] (.op 15 [] .nil)))))))) (.op 12 [1, 4] (.op 7 [] (.op 8 [] (.op 9 [] (.op 10 [] (.op 11 [] (.op 13 [] (.op 14 [] (.op 15 [] .nil)))))))))) (.op 12 [1, 4] (.op 6 [1, 4] (.op 7 [] (.op 8 [] (.op 9 [] (.op 10 [] (.op 11 [] (.op 13 [] (.op 14 [] (.op 15 [] .nil))))))))))))))))) | 50 => (.op 0 [] (.op 1 [] (.op 2 [] (.op 3 [] (.op 4 [] (.op 5 [] (.op 6 [] (.op 7 [] (.op 8 [] (.op 9 [] (.op 10 [] (.op 11 [] (.op 12 [] (.op 17 [] (.op 18 [] (.op 19 [] (.op 20 [] (.op 21 [] (.op 22 [] (.op 23 [] (.alt 13 [4, 21] (.alt 14 [21] (.alt 15 [21] (.alt 16 [21] (.op 24 [4, 10, 21] (.op 25 [] (.op 26 [] (.op 27 [] (.op 28 [] (.op 29 [] .nil)))))) (.op 24 [4, 10, 21] (.op 16 [21] (.op 25 [] (.op 26 [] (.op 27 [] (.op 28 [] (.op 29 [] .nil)))))))) (.op 24 [4, 10, 21] (.op 15 [21] (.op 16 [21] (.op 25 [] (.op 26 [] (.op 27 [] (.op 28 [] (.op 29 [] .nil))))))))) (.op 24 [4, 10, 21] (.op 14 [21] (.op 15 [21] (.op 16 [21] (.op 25 [] (.op 26 [] (.op 27 [] (.op 28 [] (.op 29 [] .nil)))))))))) (.op 24 [4, 10, 21] (.op 13 [4, 21] (.op 14 [21] (.op 15 [21] (.op 16 [21] (.op 25 [] (.op 26 [] (.op 27 [] (.op 28 [] (.op 29 [] .nil))))))))))))))))))))))))))))))) | 58 => (.op 0 [] (.op 1 [] (.op 2 [] (.op 3 [] (.op 4 [] (.op 5 [] (.op 6 [] (.op 7 [] (.op 8 [] (.op 9 [] (.op 10 [] (.op 11 [] (.op 12 [] (.op 13 [] (.op 14 [] (.op 15 [] (.op 16 [] (.op 17 [] (.op 18 [] (.op 19 [] (.op 20 [] (.op 21 [] (.op 22 [] (.op 23 [] (.op 24 [] (.op 25 [] .nil)))))))))))))))))))))))))) | _ => .nil
set_option maxRecDepth 100000 in
theorem bolelaw10_BmapOwn.eq (s1 : List Value) (oneA1 : Option Addr) (oneL1 : Nat) (oneC1 : Nat) (twoA1 : Option Addr) (twoL1 : Nat) (twoC1 : Nat) (K : Value → Heap → Prop) (h : Heap) : fnX (cx bolelaw10_BmapOwn.lo bolelaw10_BmapOwn.od) Tryd.f4 (Tryd.f4.body.getD .skip) [.agg ⟨s1⟩, .slice oneA1 oneL1 oneC1, .slice twoA1 twoL1 twoC1] K h = bolelaw10_BmapOwn s1 oneA1 oneL1 oneC1 twoA1 twoL1 twoC1 K h := by kernel_rfl
theorem bolelaw10_BmapOwn.chk : fnOk (cx bolelaw10_BmapOwn.lo bolelaw10_BmapOwn.od) Tryd.f4 (Tryd.f4.body.getD .skip) 3 = true := by kernel_rfl
set_option maxRecDepth 100000 in
theorem bolelaw10_BmapOwn.ok {s1 : List Value} {oneA1 : Option Addr} {oneL1 : Nat} {oneC1 : Nat} {twoA1 : Option Addr} {twoL1 : Nat} {twoC1 : Nat} {K : Value → Heap → Prop} {h : Heap} (hx : bolelaw10_BmapOwn s1 oneA1 oneL1 oneC1 twoA1 twoL1 twoC1 K h) : C.bolelaw10_BmapOwn s1 oneA1 oneL1 oneC1 twoA1 twoL1 twoC1 h K :=
  fn_to (cxOk _ _) Tryd.func4 (by kernel_rfl) bolelaw10_BmapOwn.chk (by rw [bolelaw10_BmapOwn.eq]; exact hx)
end Go.Proofs.YtcdpakjhjmchhaaDoor.W
namespace Go.Proofs.YtcdpakjhjmchhaaDoor.W
open Go Go.Proofs Go.Proofs.YtcdpakjhjmchhaaDoor.Wx
def bolelaw10_Setup_begin.k1 (h2 : Heap) (h4 : Heap) (q1 : Option Addr) (q2 : Option Addr) (h14 : Heap) (K : Value → Heap → Prop) : Prop :=
  C.txn_Begin q1 h14 fun r6 h15 =>
  ∃ (q3 : Option Addr), r6 = .pointer q3 ∧
  ∃ cs6 : List Value, List.length cs6 = 5 ∧ Cells h15 ⟨h4.size, 0, none⟩ cs6 ∧
  C.boleref06_Begin q2 h15 fun r7 h16 =>
  ∃ (q4 : Option Addr), r7 = .pointer q4 ∧
  (List.length (cs6 : List Value) = 5 ∧ Cells h16 ⟨h4.size, 0, none⟩ cs6) ∧
  PutRow ⟨h2.size, 0, none⟩ cs6 5 h16 fun h17 =>
  ∃ res4 : List Value, List.length res4 = 5 ∧ Cells h17 ⟨h2.size, 0, none⟩ res4 ∧
  K (.tuple #[.pointer q3, .pointer q4, .agg ⟨res4⟩, .bool (!(Option.isNone q3))]) h17
def bolelaw10_Setup_begin (s1 : List Value) (K : Value → Heap → Prop) (h1 : Heap) : Prop :=
  New s1 25 h1 fun h2 =>
  New z29 29 h2 fun h3 =>
  ∃ cs1 : List Value, List.length cs1 = 3 ∧ Cells h3 ⟨h1.size, 0, none⟩ cs1 ∧
  C.bolelaw10_Setup_image cs1 h3 fun r1 h4 =>
  ∃ (sA1 : Option Addr) (sL1 : Nat) (sC1 : Nat) (cs2 : List Value), r1 = .tuple #[.slice sA1 sL1 sC1, .agg ⟨cs2⟩] ∧
  NewRow z29 29 cs2 5 h4 fun h6 =>
  C.adisk_Open sA1 sL1 sC1 h6 fun r2 h7 =>
  ∃ (q1 : Option Addr) (n1 : Int), r2 = .tuple #[.pointer q1, .int .i64 n1] ∧
  C.boleref03_Of sA1 sL1 sC1 h7 fun r3 h8 =>
  ∃ (q2 : Option Addr) (n2 : Int), r3 = .tuple #[.pointer q2, .int .i64 n2] ∧
  C.bolelaw10_num n1 h8 fun r4 h9 =>
  ∃ (n3 : Int), r4 = .int .i64 n3 ∧
  bif (n3 != 0) then (
  ∃ cs3 : List Value, List.length cs3 = 5 ∧ Cells h9 ⟨h4.size, 0, none⟩ cs3 ∧
  PutRow ⟨h2.size, 0, none⟩ cs3 5 h9 fun h10 =>
  ∃ res1 : List Value, List.length res1 = 5 ∧ Cells h10 ⟨h2.size, 0, none⟩ res1 ∧
  K (.tuple #[.pointer none, .pointer none, .agg ⟨res1⟩, .bool false]) h10) else (
  C.bolelaw10_num n2 h9 fun r5 h11 =>
  ∃ (n4 : Int), r5 = .int .i64 n4 ∧
  bif (n4 != 0) then (
  ∃ cs4 : List Value, List.length cs4 = 5 ∧ Cells h11 ⟨h4.size, 0, none⟩ cs4 ∧
  PutRow ⟨h2.size, 0, none⟩ cs4 5 h11 fun h12 =>
  ∃ res2 : List Value, List.length res2 = 5 ∧ Cells h12 ⟨h2.size, 0, none⟩ res2 ∧
  K (.tuple #[.pointer none, .pointer none, .agg ⟨res2⟩, .bool false]) h12) else (
  bif (Option.isNone q1) then (
  ∃ cs5 : List Value, List.length cs5 = 5 ∧ Cells h11 ⟨h4.size, 0, none⟩ cs5 ∧
  PutRow ⟨h2.size, 0, none⟩ cs5 5 h11 fun h13 =>
  ∃ res3 : List Value, List.length res3 = 5 ∧ Cells h13 ⟨h2.size, 0, none⟩ res3 ∧
  K (.tuple #[.pointer none, .pointer none, .agg ⟨res3⟩, .bool false]) h13) else (
  bolelaw10_Setup_begin.k1 h2 h4 q1 q2 h11 K)))
def bolelaw10_Setup_begin.lo : Nat → List Nat × List (Nat × Ty) := fun n => match n with | _ => ([], [])
def bolelaw10_Setup_begin.od : Nat → Od := fun n => match n with | 5 => (.op 0 [] (.op 1 [] (.op 2 [] (.op 3 [] (.op 4 [] .nil))))) | 7 => (.op 0 [] (.op 1 [] (.op 3 [] (.op 4 [] (.op 5 [] (.op 2 [3] (.op 6 [] (.op 7 [] (.op 8 [] (.op 9 [] .nil)))))))))) | _ => .nil
theorem bolelaw10_Setup_begin.eq (s1 : List Value) (K : Value → Heap → Prop) (h : Heap) : fnX (cx bolelaw10_Setup_begin.lo bolelaw10_Setup_begin.od) Tryd.f7 (Tryd.f7.body.getD .skip) [.agg ⟨s1⟩] K h = bolelaw10_Setup_begin s1 K h := by kernel_rfl
theorem bolelaw10_Setup_begin.chk : fnOk (cx bolelaw10_Setup_begin.lo bolelaw10_Setup_begin.od) Tryd.f7 (Tryd.f7.body.getD .skip) 1 = true := by kernel_rfl
theorem bolelaw10_Setup_begin.ok {s1 : List Value} {K : Value → Heap → Prop} {h : Heap} (hx : bolelaw10_Setup_begin s1 K h) : C.bolelaw10_Setup_begin s1 h K :=
  fn_to (cxOk _ _) Tryd.func7 (by kernel_rfl) bolelaw10_Setup_begin.chk (by rw [bolelaw10_Setup_begin.eq]; exact hx)
def bolelaw10_known.k1 (sA1 : Option Addr) (sL1 : Nat) (sC1 : Nat) (sA2 : Option Addr) (sL2 : Nat) (sC2 : Nat) (h13 : Heap) (n9 : Int) (h23 : Heap) (K : Value → Heap → Prop) : Prop :=
  List.length ([.int .i64 0, .int .i64 101] : List Value) = 2 ∧
  List.length ([.int .i64 10, .int .i64 103] : List Value) = 2 ∧
  New [.int .i64 0, .int .i64 101, .int .i64 10, .int .i64 103] 56 h23 fun h24 =>
  C.bolelaw10_samePairs sA1 sL1 sC1 (some ⟨h23.size, 0, none⟩) 2 2 h24 fun r14 h25 =>
  ∃ (b2 : Bool), r14 = .bool b2 ∧
  bif b2 then (
  New [.int .i64 102] 3 h25 fun h26 =>
  C.bolelaw10_same sA2 sL2 sC2 (some ⟨h25.size, 0, none⟩) 1 1 h26 fun r15 h27 =>
  ∃ (b3 : Bool), r15 = .bool b3 ∧
  bif b3 then (
  ∃ cs15 : List Value, List.length cs15 = 15 ∧ Cells h27 ⟨h13.size, 0, none⟩ cs15 ∧
  pairsOk [(.int .i64), (.int .i64), (.int .i64), (.int .i64), (.int .i64), (.int .i64), (.int .i64), (.int .i64), (.int .i64), (.int .i64), (.int .i64), (.int .i64), (.int .i64), (.int .i64), (.int .i64)] cs15 [.int .i64 0, .int .i64 0, .int .i64 0, .int .i64 0, .int .i64 0, .int .i64 0, .int .i64 0, .int .i64 0, .int .i64 0, .int .i64 0, .int .i64 0, .int .i64 0, .int .i64 0, .int .i64 0, .int .i64 0] = true ∧
  bif (cellsEq cs15 [.int .i64 0, .int .i64 0, .int .i64 0, .int .i64 0, .int .i64 0, .int .i64 0, .int .i64 0, .int .i64 0, .int .i64 0, .int .i64 0, .int .i64 0, .int .i64 0, .int .i64 0, .int .i64 0, .int .i64 0]) then (
  K (.bool (n9 == 27)) h27) else (
  K (.bool false) h27)) else (
  K (.bool false) h27)) else (
  K (.bool false) h25)
def bolelaw10_known  (K : Value → Heap → Prop) (h1 : Heap) : Prop :=
  C.bolelaw10_Setup_begin [.int .i64 0, .slice none 0 0, .slice none 0 0] h1 fun r1 h2 =>
  ∃ (q1 : Option Addr) (q2 : Option Addr) (cs1 : List Value) (b1 : Bool), r1 = .tuple #[.pointer q1, .pointer q2, .agg ⟨cs1⟩, .bool b1] ∧
  NewRow z29 29 cs1 5 h2 fun h4 =>
  bif (!b1) then (
  K (.bool false) h4) else (
  ∃ cs2 : List Value, List.length cs2 = 5 ∧ Cells h4 ⟨h2.size, 0, none⟩ cs2 ∧
  C.bmap_Add q1 cs2 [.int .i64 0, .int .i64 0, .int .i64 0, .int .i64 0, .int .i64 0, .int .i64 0, .int .i64 0, .int .i64 0, .int .i64 0, .int .i64 0, .int .i64 0, .int .i64 0, .int .i64 0, .int .i64 0, .int .i64 0] 0 h4 fun r2 h5 =>
  ∃ (cs3 : List Value) (n1 : Int) (n2 : Int), r2 = .tuple #[.agg ⟨cs3⟩, .int .i64 n1, .int .i64 n2] ∧
  NewRow z35 35 cs3 15 h5 fun h7 =>
  ∃ cs4 : List Value, List.length cs4 = 5 ∧ Cells h7 ⟨h2.size, 0, none⟩ cs4 ∧
  ∃ cs5 : List Value, List.length cs5 = 15 ∧ Cells h7 ⟨h5.size, 0, none⟩ cs5 ∧
  C.bmap_Add q1 cs4 cs5 10 h7 fun r3 h8 =>
  ∃ (cs6 : List Value) (n3 : Int) (n4 : Int), r3 = .tuple #[.agg ⟨cs6⟩, .int .i64 n3, .int .i64 n4] ∧
  NewRow z35 35 cs6 15 h8 fun h10 =>
  ∃ cs7 : List Value, List.length cs7 = 5 ∧ Cells h10 ⟨h2.size, 0, none⟩ cs7 ∧
  ∃ cs8 : List Value, List.length cs8 = 15 ∧ Cells h10 ⟨h8.size, 0, none⟩ cs8 ∧
  C.bmap_Find q1 cs7 cs8 10 h10 fun r4 h11 =>
  ∃ (n5 : Int) (n6 : Int), r4 = .tuple #[.int .i64 n5, .int .i64 n6] ∧
  ∃ cs9 : List Value, List.length cs9 = 5 ∧ Cells h11 ⟨h2.size, 0, none⟩ cs9 ∧
  ∃ cs10 : List Value, List.length cs10 = 15 ∧ Cells h11 ⟨h8.size, 0, none⟩ cs10 ∧
  C.bmap_All q1 cs9 cs10 h11 fun r5 h12 =>
  ∃ (sA1 : Option Addr) (sL1 : Nat) (sC1 : Nat) (sA2 : Option Addr) (sL2 : Nat) (sC2 : Nat) (n7 : Int), r5 = .tuple #[.slice sA1 sL1 sC1, .slice sA2 sL2 sC2, .int .i64 n7] ∧
  ∃ cs11 : List Value, List.length cs11 = 5 ∧ Cells h12 ⟨h2.size, 0, none⟩ cs11 ∧
  ∃ cs12 : List Value, List.length cs12 = 15 ∧ Cells h12 ⟨h8.size, 0, none⟩ cs12 ∧
  C.bmap_Cut q1 cs11 cs12 0 h12 fun r6 h13 =>
  ∃ (cs13 : List Value) (n8 : Int), r6 = .tuple #[.agg ⟨cs13⟩, .int .i64 n8] ∧
  NewRow z35 35 cs13 15 h13 fun h15 =>
  ∃ cs14 : List Value, List.length cs14 = 5 ∧ Cells h15 ⟨h2.size, 0, none⟩ cs14 ∧
  C.space_Free q1 cs14 h15 fun r7 h16 =>
  ∃ (n9 : Int) (n10 : Int), r7 = .tuple #[.int .i64 n9, .int .i64 n10] ∧
  C.bolelaw10_num n2 h16 fun r8 h17 =>
  ∃ (n11 : Int), r8 = .int .i64 n11 ∧
  bif (n11 != 0) then (
  K (.bool false) h17) else (
  C.bolelaw10_num n4 h17 fun r9 h18 =>
  ∃ (n12 : Int), r9 = .int .i64 n12 ∧
  bif (n12 != 0) then (
  K (.bool false) h18) else (
  C.bolelaw10_num n6 h18 fun r10 h19 =>
  ∃ (n13 : Int), r10 = .int .i64 n13 ∧
  bif (n13 != 0) then (
  K (.bool false) h19) else (
  C.bolelaw10_num n7 h19 fun r11 h20 =>
  ∃ (n14 : Int), r11 = .int .i64 n14 ∧
  bif (n14 != 0) then (
  K (.bool false) h20) else (
  C.bolelaw10_num n8 h20 fun r12 h21 =>
  ∃ (n15 : Int), r12 = .int .i64 n15 ∧
  bif (n15 != 0) then (
  K (.bool false) h21) else (
  C.bolelaw10_num n10 h21 fun r13 h22 =>
  ∃ (n16 : Int), r13 = .int .i64 n16 ∧
  bif (n16 != 0) then (
  K (.bool false) h22) else (
  bif (n1 != 101) then (
  K (.bool false) h22) else (
  bif (n3 != 103) then (
  K (.bool false) h22) else (
  bif (n5 != 103) then (
  K (.bool false) h22) else (
  ∃ (n17 : Int), cellOf h22 (Addr.add ⟨h8.size, 0, none⟩ 13) = some (.int .i64 n17) ∧
  bif (n17 != 102) then (
  K (.bool false) h22) else (
  (0 ≤ (0 : Int) ∧ 0 < (10 : Int)) ∧
  ∃ (n18 : Int), cellOf h22 (Addr.add (Addr.add ⟨h8.size, 0, none⟩ 3) (Int.toNat 0)) = some (.int .i64 n18) ∧
  bif (n18 != 101) then (
  K (.bool false) h22) else (
  bolelaw10_known.k1 sA1 sL1 sC1 sA2 sL2 sC2 h13 n9 h22 K))))))))))))
def bolelaw10_known.lo : Nat → List Nat × List (Nat × Ty) := fun n => match n with | _ => ([], [])
def bolelaw10_known.od : Nat → Od := fun n => match n with | _ => .nil
theorem bolelaw10_known.eq  (K : Value → Heap → Prop) (h : Heap) : fnX (cx bolelaw10_known.lo bolelaw10_known.od) Tryd.f8 (Tryd.f8.body.getD .skip) [] K h = bolelaw10_known  K h := by kernel_rfl
theorem bolelaw10_known.chk : fnOk (cx bolelaw10_known.lo bolelaw10_known.od) Tryd.f8 (Tryd.f8.body.getD .skip) 0 = true := by kernel_rfl
theorem bolelaw10_known.ok  {K : Value → Heap → Prop} {h : Heap} (hx : bolelaw10_known  K h) : C.bolelaw10_known  h K :=
  fn_to (cxOk _ _) Tryd.func8 (by kernel_rfl) bolelaw10_known.chk (by rw [bolelaw10_known.eq]; exact hx)
def bolelaw10_index (k1 : Int) (K : Value → Heap → Prop) (h1 : Heap) : Prop :=
  K (.int .i64 (IntKind.wrap .i64 ((Int.tmod (IntKind.wrap .u64 (k1)) 16522)))) h1
def bolelaw10_index.lo : Nat → List Nat × List (Nat × Ty) := fun n => match n with | _ => ([], [])
def bolelaw10_index.od : Nat → Od := fun n => match n with | _ => .nil
set_option maxRecDepth 1000000 in
theorem bolelaw10_index.eq (k1 : Int) (K : Value → Heap → Prop) (h : Heap) : fnX (cx bolelaw10_index.lo bolelaw10_index.od) Tryd.f9 (Tryd.f9.body.getD .skip) [.int .i64 k1] K h = bolelaw10_index k1 K h := by kernel_rfl
theorem bolelaw10_index.chk : fnOk (cx bolelaw10_index.lo bolelaw10_index.od) Tryd.f9 (Tryd.f9.body.getD .skip) 1 = true := by kernel_rfl
set_option maxRecDepth 1000000 in
theorem bolelaw10_index.ok {k1 : Int} {K : Value → Heap → Prop} {h : Heap} (hx : bolelaw10_index k1 K h) : C.bolelaw10_index k1 h K :=
  fn_to (cxOk _ _) Tryd.func9 (by kernel_rfl) bolelaw10_index.chk (by rw [bolelaw10_index.eq]; exact hx)
def bmap_Add.k1 (k1 : Int) (h1 : Heap) (h2 : Heap) (h3 : Heap) (h4 : Heap) (h5 : Heap) (h6 : Heap) (h14 : Heap) (K : Value → Heap → Prop) : Prop :=
  ∃ (q1 : Option Addr), cellOf h14 ⟨h1.size, 0, none⟩ = some (.pointer q1) ∧
  C.bmap_guard q1 h14 fun r1 h15 =>
  ∃ (g2 : Nat) (fs1 : List Value) (cs1 : List Value), r1 = .func (.func g2) ⟨fs1⟩ ⟨cs1⟩ ∧
  New z89 89 h15 fun h16 =>
  Put ⟨h15.size, 0, none⟩ (.func (.func g2) ⟨fs1⟩ ⟨cs1⟩) h16 fun h17 =>
  ∃ (q2 : Option Addr), cellOf h17 ⟨h1.size, 0, none⟩ = some (.pointer q2) ∧
  ∃ cs2 : List Value, List.length cs2 = 5 ∧ Cells h17 ⟨h2.size, 0, none⟩ cs2 ∧
  ∃ cs3 : List Value, List.length cs3 = 15 ∧ Cells h17 ⟨h3.size, 0, none⟩ cs3 ∧
  List.length (cs2 : List Value) = 5 ∧
  List.length (cs3 : List Value) = 15 ∧
  New ([.pointer q2] ++ (cs2 ++ cs3)) 93 h17 fun h18 =>
  New z91 91 h18 fun h19 =>
  Put ⟨h18.size, 0, none⟩ (.pointer (some ⟨h17.size, 0, none⟩)) h19 fun h20 =>
  ∃ (q3 : Option Addr), cellOf h20 ⟨h18.size, 0, none⟩ = some (.pointer q3) ∧
  C.bmap_file_walk q3 k1 (Value.func (.func 39) #[] ⟨[.pointer (some ⟨h1.size, 0, none⟩), .pointer (some ⟨h2.size, 0, none⟩), .pointer (some ⟨h18.size, 0, none⟩)]⟩) h20 fun r2 h21 =>
  ∃ (n1 : Int) (n2 : Int), r2 = .tuple #[.int .i64 n1, .int .i64 n2] ∧
  Put ⟨h5.size, 0, none⟩ (.int .i64 n1) h21 fun h22 =>
  Put ⟨h6.size, 0, none⟩ (.int .i64 n2) h22 fun h23 =>
  ∃ (q4 : Option Addr), cellOf h23 ⟨h18.size, 0, none⟩ = some (.pointer q4) ∧
  onSome q4 fun p1 =>
  ∃ cs4 : List Value, List.length cs4 = 15 ∧ Cells h23 (Addr.add p1 6) cs4 ∧
  ∃ (n3 : Int), cellOf h23 ⟨h5.size, 0, none⟩ = some (.int .i64 n3) ∧
  ∃ (n4 : Int), cellOf h23 ⟨h6.size, 0, none⟩ = some (.int .i64 n4) ∧
  PutRow ⟨h4.size, 0, none⟩ cs4 15 h23 fun h24 =>
  (cellOf h24 ⟨h5.size, 0, none⟩ = some (.int .i64 n3)) ∧
  (cellOf h24 ⟨h6.size, 0, none⟩ = some (.int .i64 n4)) ∧
  Put ⟨h5.size, 0, none⟩ (.int .i64 n3) h24 fun h25 =>
  (cellOf h25 ⟨h6.size, 0, none⟩ = some (.int .i64 n4)) ∧
  Put ⟨h6.size, 0, none⟩ (.int .i64 n4) h25 fun h26 =>
  D.bmap_Add_c1 (some ⟨h15.size, 0, none⟩) (some ⟨h6.size, 0, none⟩) (some ⟨h4.size, 0, none⟩) (some ⟨h5.size, 0, none⟩) h26 fun h27 =>
  ∃ res7 : List Value, List.length res7 = 15 ∧ Cells h27 ⟨h4.size, 0, none⟩ res7 ∧
  ∃ (res8 : Int), cellOf h27 ⟨h5.size, 0, none⟩ = some (.int .i64 res8) ∧
  ∃ (res9 : Int), cellOf h27 ⟨h6.size, 0, none⟩ = some (.int .i64 res9) ∧
  K (.tuple #[.agg ⟨res7⟩, .int .i64 res8, .int .i64 res9]) h27
def bmap_Add (t1 : Option Addr) (g1 : List Value) (x1 : List Value) (k1 : Int) (K : Value → Heap → Prop) (h1 : Heap) : Prop :=
  New [.pointer t1] 26 h1 fun h2 =>
  New g1 29 h2 fun h3 =>
  New x1 35 h3 fun h4 =>
  New z35 35 h4 fun h5 =>
  New z3 3 h5 fun h6 =>
  New z39 39 h6 fun h7 =>
  bif (decide (k1 < 0)) then (
  PutRow ⟨h4.size, 0, none⟩ [.int .i64 0, .int .i64 0, .int .i64 0, .int .i64 0, .int .i64 0, .int .i64 0, .int .i64 0, .int .i64 0, .int .i64 0, .int .i64 0, .int .i64 0, .int .i64 0, .int .i64 0, .int .i64 0, .int .i64 0] 15 h7 fun h8 =>
  Put ⟨h5.size, 0, none⟩ (.int .i64 0) h8 fun h9 =>
  Put ⟨h6.size, 0, none⟩ (.int .i64 101) h9 fun h10 =>
  ∃ res1 : List Value, List.length res1 = 15 ∧ Cells h10 ⟨h4.size, 0, none⟩ res1 ∧
  ∃ (res2 : Int), cellOf h10 ⟨h5.size, 0, none⟩ = some (.int .i64 res2) ∧
  ∃ (res3 : Int), cellOf h10 ⟨h6.size, 0, none⟩ = some (.int .i64 res3) ∧
  K (.tuple #[.agg ⟨res1⟩, .int .i64 res2, .int .i64 res3]) h10) else (
  bif (decide (k1 ≥ 16522)) then (
  PutRow ⟨h4.size, 0, none⟩ [.int .i64 0, .int .i64 0, .int .i64 0, .int .i64 0, .int .i64 0, .int .i64 0, .int .i64 0, .int .i64 0, .int .i64 0, .int .i64 0, .int .i64 0, .int .i64 0, .int .i64 0, .int .i64 0, .int .i64 0] 15 h7 fun h11 =>
  Put ⟨h5.size, 0, none⟩ (.int .i64 0) h11 fun h12 =>
  Put ⟨h6.size, 0, none⟩ (.int .i64 101) h12 fun h13 =>
  ∃ res4 : List Value, List.length res4 = 15 ∧ Cells h13 ⟨h4.size, 0, none⟩ res4 ∧
  ∃ (res5 : Int), cellOf h13 ⟨h5.size, 0, none⟩ = some (.int .i64 res5) ∧
  ∃ (res6 : Int), cellOf h13 ⟨h6.size, 0, none⟩ = some (.int .i64 res6) ∧
  K (.tuple #[.agg ⟨res4⟩, .int .i64 res5, .int .i64 res6]) h13) else (
  bmap_Add.k1 k1 h1 h2 h3 h4 h5 h6 h7 K))
def bmap_Add.lo : Nat → List Nat × List (Nat × Ty) := fun n => match n with | _ => ([], [])
def bmap_Add.od : Nat → Od := fun n => match n with | 7 => (.op 0 [] (.op 1 [] (.op 2 [] (.op 3 [] (.op 4 [] (.op 5 [] (.op 6 [4, 5] (.op 7 [5] (.op 8 [] .nil))))))))) | _ => .nil
set_option maxRecDepth 1000000 in
theorem bmap_Add.eq (t1 : Option Addr) (g1 : List Value) (x1 : List Value) (k1 : Int) (K : Value → Heap → Prop) (h : Heap) : fnX (cx bmap_Add.lo bmap_Add.od) Tryd.f11 (Tryd.f11.body.getD .skip) [.pointer t1, .agg ⟨g1⟩, .agg ⟨x1⟩, .int .i64 k1] K h = bmap_Add t1 g1 x1 k1 K h := by kernel_rfl
theorem bmap_Add.chk : fnOk (cx bmap_Add.lo bmap_Add.od) Tryd.f11 (Tryd.f11.body.getD .skip) 4 = true := by kernel_rfl
set_option maxRecDepth 1000000 in
theorem bmap_Add.ok {t1 : Option Addr} {g1 : List Value} {x1 : List Value} {k1 : Int} {K : Value → Heap → Prop} {h : Heap} (hx : bmap_Add t1 g1 x1 k1 K h) : C.bmap_Add t1 g1 x1 k1 h K :=
  fn_to (cxOk _ _) Tryd.func11 (by kernel_rfl) bmap_Add.chk (by rw [bmap_Add.eq]; exact hx)
def bolelaw10_num (e1 : Int) (K : Value → Heap → Prop) (h1 : Heap) : Prop :=
  K (.int .i64 e1) h1
def bolelaw10_num.lo : Nat → List Nat × List (Nat × Ty) := fun n => match n with | _ => ([], [])
def bolelaw10_num.od : Nat → Od := fun n => match n with | _ => .nil
theorem bolelaw10_num.eq (e1 : Int) (K : Value → Heap → Prop) (h : Heap) : fnX (cx bolelaw10_num.lo bolelaw10_num.od) Tryd.f12 (Tryd.f12.body.getD .skip) [.int .i64 e1] K h = bolelaw10_num e1 K h := by kernel_rfl
theorem bolelaw10_num.chk : fnOk (cx bolelaw10_num.lo bolelaw10_num.od) Tryd.f12 (Tryd.f12.body.getD .skip) 1 = true := by kernel_rfl
theorem bolelaw10_num.ok {e1 : Int} {K : Value → Heap → Prop} {h : Heap} (hx : bolelaw10_num e1 K h) : C.bolelaw10_num e1 h K :=
  fn_to (cxOk _ _) Tryd.func12 (by kernel_rfl) bolelaw10_num.chk (by rw [bolelaw10_num.eq]; exact hx)
def space_Free (t1 : Option Addr) (g1 : List Value) (K : Value → Heap → Prop) (h1 : Heap) : Prop :=
  New g1 29 h1 fun h2 =>
  New z3 3 h2 fun h3 =>
  Put ⟨h2.size, 0, none⟩ (.int .i64 0) h3 fun h4 =>
  ∃ cs1 : List Value, List.length cs1 = 5 ∧ Cells h4 ⟨h1.size, 0, none⟩ cs1 ∧
  C.space_each t1 cs1 (Value.func (.func 43) #[] ⟨[.pointer (some ⟨h1.size, 0, none⟩), .pointer (some ⟨h2.size, 0, none⟩)]⟩) h4 fun r1 h5 =>
  ∃ (n1 : Int), r1 = .int .i64 n1 ∧
  bif (n1 != 0) then (
  K (.tuple #[.int .i64 0, .int .i64 n1]) h5) else (
  ∃ (n2 : Int), cellOf h5 ⟨h2.size, 0, none⟩ = some (.int .i64 n2) ∧
  K (.tuple #[.int .i64 n2, .int .i64 0]) h5)
def space_Free.lo : Nat → List Nat × List (Nat × Ty) := fun n => match n with | _ => ([], [])
def space_Free.od : Nat → Od := fun n => match n with | _ => .nil
theorem space_Free.eq (t1 : Option Addr) (g1 : List Value) (K : Value → Heap → Prop) (h : Heap) : fnX (cx space_Free.lo space_Free.od) Tryd.f13 (Tryd.f13.body.getD .skip) [.pointer t1, .agg ⟨g1⟩] K h = space_Free t1 g1 K h := by kernel_rfl
theorem space_Free.chk : fnOk (cx space_Free.lo space_Free.od) Tryd.f13 (Tryd.f13.body.getD .skip) 2 = true := by kernel_rfl
theorem space_Free.ok {t1 : Option Addr} {g1 : List Value} {K : Value → Heap → Prop} {h : Heap} (hx : space_Free t1 g1 K h) : C.space_Free t1 g1 h K :=
  fn_to (cxOk _ _) Tryd.func13 (by kernel_rfl) space_Free.chk (by rw [space_Free.eq]; exact hx)
def bmap_All.k1 (h2 : Heap) (h8 : Heap) (e1 : Int) (k1 : Int) (h13 : Heap) (I1 : Int → Int → Heap → Prop) (M1 : Int → Int → Heap → Nat) (K : Value → Heap → Prop) : Prop :=
  ∃ (v1 : Value), cellOf h13 ⟨h8.size, 0, none⟩ = some (v1) ∧
  (0 ≤ k1 ∧ k1 < (10 : Int)) ∧
  ∃ (n1 : Int), cellOf h13 (Addr.add (Addr.add ⟨h2.size, 0, none⟩ 3) (Int.toNat k1)) = some (.int .i64 n1) ∧
  HCallsV Tryd.prog v1 [.int .i64 k1, .int .i64 n1] h13 fun r1 h14 =>
  ∃ (n2 : Int), r1 = .int .i64 n2 ∧
  I1 n2 (IntKind.wrap .i64 (k1 + 1)) h14 ∧ M1 n2 (IntKind.wrap .i64 (k1 + 1)) h14 < M1 e1 k1 h13
def bmap_All.k4 (h6 : Heap) (h7 : Heap) (e4 : Int) (h19 : Heap) (K : Value → Heap → Prop) : Prop :=
  bif (e4 != 0) then (
  K (.tuple #[.slice none 0 0, .slice none 0 0, .int .i64 e4]) h19) else (
  ∃ (sA1 : Option Addr) (sL1 : Nat) (sC1 : Nat), cellOf h19 ⟨h6.size, 0, none⟩ = some (.slice sA1 sL1 sC1) ∧
  ∃ (sA2 : Option Addr) (sL2 : Nat) (sC2 : Nat), cellOf h19 ⟨h7.size, 0, none⟩ = some (.slice sA2 sL2 sC2) ∧
  K (.tuple #[.slice sA1 sL1 sC1, .slice sA2 sL2 sC2, .int .i64 0]) h19)
def bmap_All.k3 (h2 : Heap) (h6 : Heap) (h7 : Heap) (h8 : Heap) (h10 : Heap) (e3 : Int) (h17 : Heap) (K : Value → Heap → Prop) : Prop :=
  bif (e3 == 0) then (
  ∃ (v3 : Value), cellOf h17 ⟨h10.size, 0, none⟩ = some (v3) ∧
  ∃ (n5 : Int), cellOf h17 (Addr.add ⟨h2.size, 0, none⟩ 14) = some (.int .i64 n5) ∧
  HCallsV Tryd.prog v3 [.int .i64 n5, .func (.func 52) #[] ⟨[.pointer (some ⟨h10.size, 0, none⟩), .pointer (some ⟨h8.size, 0, none⟩)]⟩] h17 fun r3 h18 =>
  ∃ (n6 : Int), r3 = .int .i64 n6 ∧
  bmap_All.k4 h6 h7 n6 h18 K) else (
  bmap_All.k4 h6 h7 e3 h17 K)
def bmap_All.k2 (h2 : Heap) (h6 : Heap) (h7 : Heap) (h8 : Heap) (h10 : Heap) (e2 : Int) (h15 : Heap) (K : Value → Heap → Prop) : Prop :=
  bif (e2 == 0) then (
  ∃ (v2 : Value), cellOf h15 ⟨h10.size, 0, none⟩ = some (v2) ∧
  ∃ (n3 : Int), cellOf h15 (Addr.add ⟨h2.size, 0, none⟩ 13) = some (.int .i64 n3) ∧
  HCallsV Tryd.prog v2 [.int .i64 n3, .func (.func 51) #[] ⟨[.pointer (some ⟨h8.size, 0, none⟩)]⟩] h15 fun r2 h16 =>
  ∃ (n4 : Int), r2 = .int .i64 n4 ∧
  bmap_All.k3 h2 h6 h7 h8 h10 n4 h16 K) else (
  bmap_All.k3 h2 h6 h7 h8 h10 e2 h15 K)
def bmap_All (t1 : Option Addr) (g1 : List Value) (x1 : List Value) (K : Value → Heap → Prop) (h1 : Heap) : Prop :=
  New g1 29 h1 fun h2 =>
  New x1 35 h2 fun h3 =>
  ∃ cs1 : List Value, List.length cs1 = 5 ∧ Cells h3 ⟨h1.size, 0, none⟩ cs1 ∧
  ∃ cs2 : List Value, List.length cs2 = 15 ∧ Cells h3 ⟨h2.size, 0, none⟩ cs2 ∧
  List.length (cs1 : List Value) = 5 ∧
  List.length (cs2 : List Value) = 15 ∧
  New ([.pointer t1] ++ (cs1 ++ cs2)) 93 h3 fun h4 =>
  New z91 91 h4 fun h5 =>
  Put ⟨h4.size, 0, none⟩ (.pointer (some ⟨h3.size, 0, none⟩)) h5 fun h6 =>
  New z51 51 h6 fun h7 =>
  New z22 22 h7 fun h8 =>
  New z107 107 h8 fun h9 =>
  Put ⟨h8.size, 0, none⟩ (.func (.func 47) #[] ⟨[.pointer (some ⟨h6.size, 0, none⟩), .pointer (some ⟨h4.size, 0, none⟩)]⟩) h9 fun h10 =>
  New z110 110 h10 fun h11 =>
  Put ⟨h10.size, 0, none⟩ (.func (.func 49) #[] ⟨[.pointer (some ⟨h4.size, 0, none⟩), .pointer (some ⟨h7.size, 0, none⟩)]⟩) h11 fun h12 =>
  ∃ (I1 : Int → Int → Heap → Prop) (M1 : Int → Int → Heap → Nat), I1 0 0 h12 ∧
  ∀ (e1 : Int) (k1 : Int), ∀ h13 : Heap, I1 e1 k1 h13 →
  bif (decide (k1 < 10)) then (
  bif (e1 == 0) then (
  bmap_All.k1 h2 h8 e1 k1 h13 I1 M1 K) else (
  bmap_All.k2 h2 h6 h7 h8 h10 e1 h13 K)) else (
  bmap_All.k2 h2 h6 h7 h8 h10 e1 h13 K)
def bmap_All.lo : Nat → List Nat × List (Nat × Ty) := fun n => match n with | 8 => ([5, 10, 11, 12, 13], [(14, .int .i64), (15, .int .i64)]) | _ => ([], [])
def bmap_All.od : Nat → Od := fun n => match n with | 10 => (.op 0 [] (.op 1 [] (.op 2 [] (.op 3 [] (.op 4 [] (.op 5 [] (.op 6 [] (.op 7 [] .nil)))))))) | 17 => (.op 0 [] (.op 1 [] (.op 2 [] (.op 3 [] (.op 4 [] .nil))))) | _ => .nil
theorem bmap_All.eq (t1 : Option Addr) (g1 : List Value) (x1 : List Value) (K : Value → Heap → Prop) (h : Heap) : fnX (cx bmap_All.lo bmap_All.od) Tryd.f15 (Tryd.f15.body.getD .skip) [.pointer t1, .agg ⟨g1⟩, .agg ⟨x1⟩] K h = bmap_All t1 g1 x1 K h := by kernel_rfl
theorem bmap_All.chk : fnOk (cx bmap_All.lo bmap_All.od) Tryd.f15 (Tryd.f15.body.getD .skip) 3 = true := by kernel_rfl
theorem bmap_All.ok {t1 : Option Addr} {g1 : List Value} {x1 : List Value} {K : Value → Heap → Prop} {h : Heap} (hx : bmap_All t1 g1 x1 K h) : C.bmap_All t1 g1 x1 h K :=
  fn_to (cxOk _ _) Tryd.func15 (by kernel_rfl) bmap_All.chk (by rw [bmap_All.eq]; exact hx)
def bolelaw10_samePairs (aA1 : Option Addr) (aL1 : Nat) (aC1 : Nat) (bA1 : Option Addr) (bL1 : Nat) (bC1 : Nat) (K : Value → Heap → Prop) (h1 : Heap) : Prop :=
  bif ((aL1 : Int) != (bL1 : Int)) then (
  K (.bool false) h1) else (
  ∃ (I1 : Int → Heap → Prop) (M1 : Int → Heap → Nat), I1 0 h1 ∧
  ∀ (n1 : Int), ∀ h2 : Heap, I1 n1 h2 →
  bif (decide (n1 < (aL1 : Int))) then (
  (0 ≤ n1 ∧ n1 < (aL1 : Int)) ∧
  onSome aA1 fun p1 =>
  ∃ cs1 : List Value, List.length cs1 = 2 ∧ Cells h2 (Addr.add p1 ((Int.toNat n1) * 2)) cs1 ∧
  (0 ≤ n1 ∧ n1 < (bL1 : Int)) ∧
  onSome bA1 fun p2 =>
  ∃ cs2 : List Value, List.length cs2 = 2 ∧ Cells h2 (Addr.add p2 ((Int.toNat n1) * 2)) cs2 ∧
  pairsOk [(.int .i64), (.int .i64)] cs1 cs2 = true ∧
  bif (!(cellsEq cs1 cs2)) then (
  K (.bool false) h2) else (
  I1 (IntKind.wrap .i64 (n1 + 1)) h2 ∧ M1 (IntKind.wrap .i64 (n1 + 1)) h2 < M1 n1 h2)) else (
  K (.bool true) h2))
def bolelaw10_samePairs.lo : Nat → List Nat × List (Nat × Ty) := fun n => match n with | 4 => ([0, 1, 12], [(13, .int .i64)]) | _ => ([], [])
def bolelaw10_samePairs.od : Nat → Od := fun n => match n with | 6 => (.op 0 [] (.op 1 [] (.op 2 [] (.op 3 [] (.op 4 [] (.op 5 [] (.op 6 [] (.op 7 [] (.op 8 [] .nil))))))))) | _ => .nil
theorem bolelaw10_samePairs.eq (aA1 : Option Addr) (aL1 : Nat) (aC1 : Nat) (bA1 : Option Addr) (bL1 : Nat) (bC1 : Nat) (K : Value → Heap → Prop) (h : Heap) : fnX (cx bolelaw10_samePairs.lo bolelaw10_samePairs.od) Tryd.f16 (Tryd.f16.body.getD .skip) [.slice aA1 aL1 aC1, .slice bA1 bL1 bC1] K h = bolelaw10_samePairs aA1 aL1 aC1 bA1 bL1 bC1 K h := by kernel_rfl
theorem bolelaw10_samePairs.chk : fnOk (cx bolelaw10_samePairs.lo bolelaw10_samePairs.od) Tryd.f16 (Tryd.f16.body.getD .skip) 2 = true := by kernel_rfl
theorem bolelaw10_samePairs.ok {aA1 : Option Addr} {aL1 : Nat} {aC1 : Nat} {bA1 : Option Addr} {bL1 : Nat} {bC1 : Nat} {K : Value → Heap → Prop} {h : Heap} (hx : bolelaw10_samePairs aA1 aL1 aC1 bA1 bL1 bC1 K h) : C.bolelaw10_samePairs aA1 aL1 aC1 bA1 bL1 bC1 h K :=
  fn_to (cxOk _ _) Tryd.func16 (by kernel_rfl) bolelaw10_samePairs.chk (by rw [bolelaw10_samePairs.eq]; exact hx)
def bolelaw10_same (aA1 : Option Addr) (aL1 : Nat) (aC1 : Nat) (bA1 : Option Addr) (bL1 : Nat) (bC1 : Nat) (K : Value → Heap → Prop) (h1 : Heap) : Prop :=
  bif ((aL1 : Int) != (bL1 : Int)) then (
  K (.bool false) h1) else (
  ∃ (I1 : Int → Heap → Prop) (M1 : Int → Heap → Nat), I1 0 h1 ∧
  ∀ (n1 : Int), ∀ h2 : Heap, I1 n1 h2 →
  bif (decide (n1 < (aL1 : Int))) then (
  (0 ≤ n1 ∧ n1 < (aL1 : Int)) ∧
  onSome aA1 fun p1 =>
  ∃ (n2 : Int), cellOf h2 (Addr.add p1 (Int.toNat n1)) = some (.int .i64 n2) ∧
  (0 ≤ n1 ∧ n1 < (bL1 : Int)) ∧
  onSome bA1 fun p2 =>
  ∃ (n3 : Int), cellOf h2 (Addr.add p2 (Int.toNat n1)) = some (.int .i64 n3) ∧
  bif (n2 != n3) then (
  K (.bool false) h2) else (
  I1 (IntKind.wrap .i64 (n1 + 1)) h2 ∧ M1 (IntKind.wrap .i64 (n1 + 1)) h2 < M1 n1 h2)) else (
  K (.bool true) h2))
def bolelaw10_same.lo : Nat → List Nat × List (Nat × Ty) := fun n => match n with | 4 => ([0, 1, 12], [(13, .int .i64)]) | _ => ([], [])
def bolelaw10_same.od : Nat → Od := fun n => match n with | 6 => (.op 0 [] (.op 1 [] (.op 2 [] (.op 3 [] (.op 4 [] (.op 5 [] (.op 6 [] (.op 7 [] (.op 8 [] .nil))))))))) | _ => .nil
theorem bolelaw10_same.eq (aA1 : Option Addr) (aL1 : Nat) (aC1 : Nat) (bA1 : Option Addr) (bL1 : Nat) (bC1 : Nat) (K : Value → Heap → Prop) (h : Heap) : fnX (cx bolelaw10_same.lo bolelaw10_same.od) Tryd.f17 (Tryd.f17.body.getD .skip) [.slice aA1 aL1 aC1, .slice bA1 bL1 bC1] K h = bolelaw10_same aA1 aL1 aC1 bA1 bL1 bC1 K h := by kernel_rfl
theorem bolelaw10_same.chk : fnOk (cx bolelaw10_same.lo bolelaw10_same.od) Tryd.f17 (Tryd.f17.body.getD .skip) 2 = true := by kernel_rfl
theorem bolelaw10_same.ok {aA1 : Option Addr} {aL1 : Nat} {aC1 : Nat} {bA1 : Option Addr} {bL1 : Nat} {bC1 : Nat} {K : Value → Heap → Prop} {h : Heap} (hx : bolelaw10_same aA1 aL1 aC1 bA1 bL1 bC1 K h) : C.bolelaw10_same aA1 aL1 aC1 bA1 bL1 bC1 h K :=
  fn_to (cxOk _ _) Tryd.func17 (by kernel_rfl) bolelaw10_same.chk (by rw [bolelaw10_same.eq]; exact hx)
end Go.Proofs.YtcdpakjhjmchhaaDoor.W
namespace Go.Proofs.YtcdpakjhjmchhaaDoor.W
open Go Go.Proofs Go.Proofs.YtcdpakjhjmchhaaDoor.Wx
def bolelaw10_Setup_image (s1 : List Value) (K : Value → Heap → Prop) (h1 : Heap) : Prop :=
  New s1 25 h1 fun h2 =>
  New z29 29 h2 fun h3 =>
  ∃ cs1 : List Value, List.length cs1 = 3 ∧ Cells h3 ⟨h1.size, 0, none⟩ cs1 ∧
  C.bolelaw10_Setup_blocks cs1 h3 fun r1 h4 =>
  ∃ (n1 : Int), r1 = .int .i64 n1 ∧
  C.boleref09_Geo n1 h4 fun r2 h5 =>
  ∃ (cs2 : List Value), r2 = .agg ⟨cs2⟩ ∧
  NewRow z29 29 cs2 5 h5 fun h7 =>
  (0 ≤ (IntKind.wrap .i64 (512 * n1)) ∧ (IntKind.wrap .i64 (512 * n1)) ≤ (IntKind.wrap .i64 (512 * n1)) ∧ (1 : Int) * (IntKind.wrap .i64 (512 * n1)) ≤ 281474976710656 ∧ (IntKind.wrap .i64 (512 * n1)) ≤ 281474976710656) ∧
  New (repCells z5 (Int.toNat (IntKind.wrap .i64 (512 * n1)))) 5 h7 fun h8 =>
  ∃ (n2 : Int), cellOf h8 (Addr.add ⟨h5.size, 0, none⟩ 1) = some (.int .i64 n2) ∧
  ∃ (n3 : Int), cellOf h8 (Addr.add ⟨h5.size, 0, none⟩ 2) = some (.int .i64 n3) ∧
  (0 ≤ (IntKind.wrap .i64 (512 * n2)) ∧ (IntKind.wrap .i64 (512 * n2)) ≤ (IntKind.wrap .i64 (512 * n3)) ∧ (IntKind.wrap .i64 (512 * n3)) ≤ ((Int.toNat (IntKind.wrap .i64 (512 * n1))) : Int)) ∧
  ∃ (I1 : Int → Heap → Prop) (M1 : Int → Heap → Nat), I1 0 h8 ∧
  ∀ (i1 : Int), ∀ h9 : Heap, I1 i1 h9 →
  bif (decide (i1 < (IntKind.wrap .i64 (8 * ((((Int.toNat (IntKind.wrap .i64 (512 * n3))) - (Int.toNat (IntKind.wrap .i64 (512 * n2)))) : Nat) : Int))))) then (
  ∃ (n4 : Int), cellOf h9 (Addr.add ⟨h5.size, 0, none⟩ 3) = some (.int .i64 n4) ∧
  bif (decide (i1 < n4)) then (
  (0 ≤ (IntKind.wrap .i64 (Int.tdiv i1 8)) ∧ (IntKind.wrap .i64 (Int.tdiv i1 8)) < ((((Int.toNat (IntKind.wrap .i64 (512 * n3))) - (Int.toNat (IntKind.wrap .i64 (512 * n2)))) : Nat) : Int)) ∧
  onSome (if (Int.toNat (IntKind.wrap .i64 (512 * n1))) = (Int.toNat (IntKind.wrap .i64 (512 * n2))) then (some ⟨h7.size, 0, none⟩) else Option.map (Addr.add · (Int.toNat (IntKind.wrap .i64 (512 * n2)))) (some ⟨h7.size, 0, none⟩)) fun p1 =>
  ∃ (n5 : Int), cellOf h9 (Addr.add p1 (Int.toNat (IntKind.wrap .i64 (Int.tdiv i1 8)))) = some (.int .u8 n5) ∧
  if (Int.tmod i1 8) < 0 then False else
  (0 ≤ (IntKind.wrap .i64 (Int.tdiv i1 8)) ∧ (IntKind.wrap .i64 (Int.tdiv i1 8)) < ((((Int.toNat (IntKind.wrap .i64 (512 * n3))) - (Int.toNat (IntKind.wrap .i64 (512 * n2)))) : Nat) : Int)) ∧
  onSome (if (Int.toNat (IntKind.wrap .i64 (512 * n1))) = (Int.toNat (IntKind.wrap .i64 (512 * n2))) then (some ⟨h7.size, 0, none⟩) else Option.map (Addr.add · (Int.toNat (IntKind.wrap .i64 (512 * n2)))) (some ⟨h7.size, 0, none⟩)) fun p2 =>
  Put (Addr.add p2 (Int.toNat (IntKind.wrap .i64 (Int.tdiv i1 8)))) (.int .u8 (bitsI .or .u8 n5 (IntKind.wrap .u8 ((1 * 2 ^ min (Int.toNat (Int.tmod i1 8)) 8))))) h9 fun h10 =>
  I1 (IntKind.wrap .i64 (i1 + 1)) h10 ∧ M1 (IntKind.wrap .i64 (i1 + 1)) h10 < M1 i1 h9) else (
  bif (decide (i1 ≥ n1)) then (
  (0 ≤ (IntKind.wrap .i64 (Int.tdiv i1 8)) ∧ (IntKind.wrap .i64 (Int.tdiv i1 8)) < ((((Int.toNat (IntKind.wrap .i64 (512 * n3))) - (Int.toNat (IntKind.wrap .i64 (512 * n2)))) : Nat) : Int)) ∧
  onSome (if (Int.toNat (IntKind.wrap .i64 (512 * n1))) = (Int.toNat (IntKind.wrap .i64 (512 * n2))) then (some ⟨h7.size, 0, none⟩) else Option.map (Addr.add · (Int.toNat (IntKind.wrap .i64 (512 * n2)))) (some ⟨h7.size, 0, none⟩)) fun p3 =>
  ∃ (n6 : Int), cellOf h9 (Addr.add p3 (Int.toNat (IntKind.wrap .i64 (Int.tdiv i1 8)))) = some (.int .u8 n6) ∧
  if (Int.tmod i1 8) < 0 then False else
  (0 ≤ (IntKind.wrap .i64 (Int.tdiv i1 8)) ∧ (IntKind.wrap .i64 (Int.tdiv i1 8)) < ((((Int.toNat (IntKind.wrap .i64 (512 * n3))) - (Int.toNat (IntKind.wrap .i64 (512 * n2)))) : Nat) : Int)) ∧
  onSome (if (Int.toNat (IntKind.wrap .i64 (512 * n1))) = (Int.toNat (IntKind.wrap .i64 (512 * n2))) then (some ⟨h7.size, 0, none⟩) else Option.map (Addr.add · (Int.toNat (IntKind.wrap .i64 (512 * n2)))) (some ⟨h7.size, 0, none⟩)) fun p4 =>
  Put (Addr.add p4 (Int.toNat (IntKind.wrap .i64 (Int.tdiv i1 8)))) (.int .u8 (bitsI .or .u8 n6 (IntKind.wrap .u8 ((1 * 2 ^ min (Int.toNat (Int.tmod i1 8)) 8))))) h9 fun h11 =>
  I1 (IntKind.wrap .i64 (i1 + 1)) h11 ∧ M1 (IntKind.wrap .i64 (i1 + 1)) h11 < M1 i1 h9) else (
  I1 (IntKind.wrap .i64 (i1 + 1)) h9 ∧ M1 (IntKind.wrap .i64 (i1 + 1)) h9 < M1 i1 h9))) else (
  ∃ (sA1 : Option Addr) (sL1 : Nat) (sC1 : Nat), cellOf h9 (Addr.add ⟨h1.size, 0, none⟩ 1) = some (.slice sA1 sL1 sC1) ∧
  ∃ (I2 : Int → Heap → Prop) (M2 : Int → Heap → Nat), I2 0 h9 ∧
  ∀ (n7 : Int), ∀ h12 : Heap, I2 n7 h12 →
  bif (decide (n7 < (sL1 : Int))) then (
  (0 ≤ n7 ∧ n7 < (sL1 : Int)) ∧
  onSome sA1 fun p5 =>
  ∃ (n8 : Int), cellOf h12 (Addr.add p5 (Int.toNat n7)) = some (.int .i64 n8) ∧
  ∃ (n9 : Int), cellOf h12 (Addr.add ⟨h5.size, 0, none⟩ 3) = some (.int .i64 n9) ∧
  ∃ (n10 : Int), cellOf h12 (Addr.add ⟨h5.size, 0, none⟩ 3) = some (.int .i64 n10) ∧
  if (IntKind.wrap .u64 ((IntKind.wrap .i64 (n1 - n10)))) = 0 then False else
  (0 ≤ (IntKind.wrap .i64 (Int.tdiv (IntKind.wrap .i64 (n9 + (IntKind.wrap .i64 ((Int.tmod (IntKind.wrap .u64 (n8)) (IntKind.wrap .u64 ((IntKind.wrap .i64 (n1 - n10))))))))) 8)) ∧ (IntKind.wrap .i64 (Int.tdiv (IntKind.wrap .i64 (n9 + (IntKind.wrap .i64 ((Int.tmod (IntKind.wrap .u64 (n8)) (IntKind.wrap .u64 ((IntKind.wrap .i64 (n1 - n10))))))))) 8)) < ((((Int.toNat (IntKind.wrap .i64 (512 * n3))) - (Int.toNat (IntKind.wrap .i64 (512 * n2)))) : Nat) : Int)) ∧
  onSome (if (Int.toNat (IntKind.wrap .i64 (512 * n1))) = (Int.toNat (IntKind.wrap .i64 (512 * n2))) then (some ⟨h7.size, 0, none⟩) else Option.map (Addr.add · (Int.toNat (IntKind.wrap .i64 (512 * n2)))) (some ⟨h7.size, 0, none⟩)) fun p6 =>
  ∃ (n11 : Int), cellOf h12 (Addr.add p6 (Int.toNat (IntKind.wrap .i64 (Int.tdiv (IntKind.wrap .i64 (n9 + (IntKind.wrap .i64 ((Int.tmod (IntKind.wrap .u64 (n8)) (IntKind.wrap .u64 ((IntKind.wrap .i64 (n1 - n10))))))))) 8)))) = some (.int .u8 n11) ∧
  if (Int.tmod (IntKind.wrap .i64 (n9 + (IntKind.wrap .i64 ((Int.tmod (IntKind.wrap .u64 (n8)) (IntKind.wrap .u64 ((IntKind.wrap .i64 (n1 - n10))))))))) 8) < 0 then False else
  (0 ≤ (IntKind.wrap .i64 (Int.tdiv (IntKind.wrap .i64 (n9 + (IntKind.wrap .i64 ((Int.tmod (IntKind.wrap .u64 (n8)) (IntKind.wrap .u64 ((IntKind.wrap .i64 (n1 - n10))))))))) 8)) ∧ (IntKind.wrap .i64 (Int.tdiv (IntKind.wrap .i64 (n9 + (IntKind.wrap .i64 ((Int.tmod (IntKind.wrap .u64 (n8)) (IntKind.wrap .u64 ((IntKind.wrap .i64 (n1 - n10))))))))) 8)) < ((((Int.toNat (IntKind.wrap .i64 (512 * n3))) - (Int.toNat (IntKind.wrap .i64 (512 * n2)))) : Nat) : Int)) ∧
  onSome (if (Int.toNat (IntKind.wrap .i64 (512 * n1))) = (Int.toNat (IntKind.wrap .i64 (512 * n2))) then (some ⟨h7.size, 0, none⟩) else Option.map (Addr.add · (Int.toNat (IntKind.wrap .i64 (512 * n2)))) (some ⟨h7.size, 0, none⟩)) fun p7 =>
  Put (Addr.add p7 (Int.toNat (IntKind.wrap .i64 (Int.tdiv (IntKind.wrap .i64 (n9 + (IntKind.wrap .i64 ((Int.tmod (IntKind.wrap .u64 (n8)) (IntKind.wrap .u64 ((IntKind.wrap .i64 (n1 - n10))))))))) 8)))) (.int .u8 (bitsI .or .u8 n11 (IntKind.wrap .u8 ((1 * 2 ^ min (Int.toNat (Int.tmod (IntKind.wrap .i64 (n9 + (IntKind.wrap .i64 ((Int.tmod (IntKind.wrap .u64 (n8)) (IntKind.wrap .u64 ((IntKind.wrap .i64 (n1 - n10))))))))) 8)) 8))))) h12 fun h13 =>
  I2 (IntKind.wrap .i64 (n7 + 1)) h13 ∧ M2 (IntKind.wrap .i64 (n7 + 1)) h13 < M2 n7 h12) else (
  ∃ (sA2 : Option Addr) (sL2 : Nat) (sC2 : Nat), cellOf h12 (Addr.add ⟨h1.size, 0, none⟩ 2) = some (.slice sA2 sL2 sC2) ∧
  ∃ (I3 : Int → Heap → Prop) (M3 : Int → Heap → Nat), I3 0 h12 ∧
  ∀ (n12 : Int), ∀ h14 : Heap, I3 n12 h14 →
  bif (decide (n12 < (sL2 : Int))) then (
  (0 ≤ n12 ∧ n12 < (sL2 : Int)) ∧
  onSome sA2 fun p8 =>
  ∃ cs3 : List Value, List.length cs3 = 2 ∧ Cells h14 (Addr.add p8 ((Int.toNat n12) * 2)) cs3 ∧
  NewRow z137 137 cs3 2 h14 fun h16 =>
  ∃ (n13 : Int), cellOf h16 (Addr.add ⟨h14.size, 0, none⟩ 0) = some (.int .i64 n13) ∧
  ∃ (n14 : Int), cellOf h16 (Addr.add ⟨h5.size, 0, none⟩ 3) = some (.int .i64 n14) ∧
  bif (decide (n13 ≥ n14)) then (
  ∃ (n15 : Int), cellOf h16 (Addr.add ⟨h14.size, 0, none⟩ 0) = some (.int .i64 n15) ∧
  bif (decide (n15 < n1)) then (
  ∃ (n16 : Int), cellOf h16 (Addr.add ⟨h14.size, 0, none⟩ 0) = some (.int .i64 n16) ∧
  ∃ (n17 : Int), cellOf h16 (Addr.add ⟨h14.size, 0, none⟩ 0) = some (.int .i64 n17) ∧
  (0 ≤ (IntKind.wrap .i64 (512 * n16)) ∧ (IntKind.wrap .i64 (512 * n16)) ≤ (IntKind.wrap .i64 ((IntKind.wrap .i64 (512 * n17)) + 512)) ∧ (IntKind.wrap .i64 ((IntKind.wrap .i64 (512 * n17)) + 512)) ≤ ((Int.toNat (IntKind.wrap .i64 (512 * n1))) : Int)) ∧
  ∃ (sA3 : Option Addr) (sL3 : Nat) (sC3 : Nat), cellOf h16 (Addr.add ⟨h14.size, 0, none⟩ 1) = some (.slice sA3 sL3 sC3) ∧
  CopyP ti5 (if (Int.toNat (IntKind.wrap .i64 (512 * n1))) = (Int.toNat (IntKind.wrap .i64 (512 * n16))) then (some ⟨h7.size, 0, none⟩) else Option.map (Addr.add · (Int.toNat (IntKind.wrap .i64 (512 * n16)))) (some ⟨h7.size, 0, none⟩)) ((Int.toNat (IntKind.wrap .i64 ((IntKind.wrap .i64 (512 * n17)) + 512))) - (Int.toNat (IntKind.wrap .i64 (512 * n16)))) (.slice sA3 sL3 sC3) h16 fun n18 h17 =>
  I3 (IntKind.wrap .i64 (n12 + 1)) h17 ∧ M3 (IntKind.wrap .i64 (n12 + 1)) h17 < M3 n12 h14) else (
  I3 (IntKind.wrap .i64 (n12 + 1)) h16 ∧ M3 (IntKind.wrap .i64 (n12 + 1)) h16 < M3 n12 h14)) else (
  I3 (IntKind.wrap .i64 (n12 + 1)) h16 ∧ M3 (IntKind.wrap .i64 (n12 + 1)) h16 < M3 n12 h14)) else (
  ∃ cs4 : List Value, List.length cs4 = 5 ∧ Cells h14 ⟨h5.size, 0, none⟩ cs4 ∧
  PutRow ⟨h2.size, 0, none⟩ cs4 5 h14 fun h18 =>
  ∃ res1 : List Value, List.length res1 = 5 ∧ Cells h18 ⟨h2.size, 0, none⟩ res1 ∧
  K (.tuple #[.slice (some ⟨h7.size, 0, none⟩) (Int.toNat (IntKind.wrap .i64 (512 * n1))) (Int.toNat (IntKind.wrap .i64 (512 * n1))), .agg ⟨res1⟩]) h18)))
def bolelaw10_Setup_image.lo : Nat → List Nat × List (Nat × Ty) := fun n => match n with | 6 => ([1, 3, 4, 5, 6, 7], [(8, .int .i64)]) | 11 => ([1, 3, 4, 5, 6, 7, 59, 60], [(61, .int .i64)]) | 17 => ([3, 4, 5, 6, 92, 93], [(94, .int .i64)]) | _ => ([], [])
def bolelaw10_Setup_image.od : Nat → Od := fun n => match n with | 9 => (.op 0 [] (.op 1 [] (.op 2 [] (.op 3 [] (.op 4 [] (.op 5 [] (.op 6 [] (.op 7 [] (.op 8 [] (.op 9 [] (.op 10 [] (.op 11 [] (.op 12 [] (.op 13 [] .nil)))))))))))))) | 13 => (.op 0 [] (.op 1 [] (.op 2 [] (.op 3 [] (.op 4 [] (.op 5 [] (.op 6 [] (.op 7 [] (.op 8 [] (.op 9 [] (.op 10 [] (.op 11 [] (.op 12 [] .nil))))))))))))) | 14 => (.op 0 [] (.op 1 [] (.op 2 [] (.op 3 [] (.op 4 [] (.op 5 [] (.op 6 [] (.op 7 [] (.op 8 [] (.op 9 [] (.op 10 [] (.op 11 [] (.op 12 [] (.op 13 [] .nil)))))))))))))) | 20 => (.op 0 [] (.op 1 [] (.op 2 [] (.op 3 [] (.op 4 [] (.op 5 [] (.op 6 [] (.op 7 [] (.op 8 [] (.op 9 [] (.op 10 [] (.op 11 [] .nil)))))))))))) | 22 => (.op 0 [] (.op 1 [] (.op 2 [] (.op 3 [] .nil)))) | _ => .nil
theorem bolelaw10_Setup_image.eq (s1 : List Value) (K : Value → Heap → Prop) (h : Heap) : fnX (cx bolelaw10_Setup_image.lo bolelaw10_Setup_image.od) Tryd.f29 (Tryd.f29.body.getD .skip) [.agg ⟨s1⟩] K h = bolelaw10_Setup_image s1 K h := by kernel_rfl
theorem bolelaw10_Setup_image.chk : fnOk (cx bolelaw10_Setup_image.lo bolelaw10_Setup_image.od) Tryd.f29 (Tryd.f29.body.getD .skip) 1 = true := by kernel_rfl
theorem bolelaw10_Setup_image.ok {s1 : List Value} {K : Value → Heap → Prop} {h : Heap} (hx : bolelaw10_Setup_image s1 K h) : C.bolelaw10_Setup_image s1 h K :=
  fn_to (cxOk _ _) Tryd.func29 (by kernel_rfl) bolelaw10_Setup_image.chk (by rw [bolelaw10_Setup_image.eq]; exact hx)
def adisk_Open (imageA1 : Option Addr) (imageL1 : Nat) (imageC1 : Nat) (K : Value → Heap → Prop) (h1 : Heap) : Prop :=
  bif ((Int.tmod (imageL1 : Int) 512) != 0) then (
  K (.tuple #[.pointer none, .int .i64 32]) h1) else (
  C.adisk_New (IntKind.wrap .i64 (Int.tdiv (imageL1 : Int) 512)) h1 fun r1 h2 =>
  ∃ (q1 : Option Addr) (n1 : Int), r1 = .tuple #[.pointer q1, .int .i64 n1] ∧
  bif (n1 != 0) then (
  K (.tuple #[.pointer none, .int .i64 n1]) h2) else (
  onSome q1 fun p1 =>
  ∃ (sA1 : Option Addr) (sL1 : Nat) (sC1 : Nat), cellOf h2 (Addr.add p1 0) = some (.slice sA1 sL1 sC1) ∧
  ∃ (I1 : Int → Heap → Prop) (M1 : Int → Heap → Nat), I1 0 h2 ∧
  ∀ (n2 : Int), ∀ h3 : Heap, I1 n2 h3 →
  bif (decide (n2 < (sL1 : Int))) then (
  onSome q1 fun p2 =>
  ∃ (sA2 : Option Addr) (sL2 : Nat) (sC2 : Nat), cellOf h3 (Addr.add p2 0) = some (.slice sA2 sL2 sC2) ∧
  (0 ≤ n2 ∧ n2 < (sL2 : Int)) ∧
  onSome sA2 fun p3 =>
  (0 ≤ (IntKind.wrap .i64 (n2 * 512)) ∧ (IntKind.wrap .i64 (n2 * 512)) ≤ (imageL1 : Int)) ∧
  CopyP ti5 (some (Addr.add p3 ((Int.toNat n2) * 512))) 512 (.slice (if imageC1 = (Int.toNat (IntKind.wrap .i64 (n2 * 512))) then imageA1 else Option.map (Addr.add · (Int.toNat (IntKind.wrap .i64 (n2 * 512)))) imageA1) (imageL1 - (Int.toNat (IntKind.wrap .i64 (n2 * 512)))) (imageC1 - (Int.toNat (IntKind.wrap .i64 (n2 * 512))))) h3 fun n3 h4 =>
  I1 (IntKind.wrap .i64 (n2 + 1)) h4 ∧ M1 (IntKind.wrap .i64 (n2 + 1)) h4 < M1 n2 h3) else (
  K (.tuple #[.pointer q1, .int .i64 0]) h3)))
def adisk_Open.lo : Nat → List Nat × List (Nat × Ty) := fun n => match n with | 7 => ([0, 4, 25], [(26, .int .i64)]) | _ => ([], [])
def adisk_Open.od : Nat → Od := fun n => match n with | 9 => (.op 0 [] (.op 1 [] (.op 2 [] (.op 3 [] (.op 4 [] (.op 5 [] (.op 6 [] (.op 7 [] (.op 8 [] (.op 9 [] (.op 10 [] (.op 11 [] .nil)))))))))))) | _ => .nil
theorem adisk_Open.eq (imageA1 : Option Addr) (imageL1 : Nat) (imageC1 : Nat) (K : Value → Heap → Prop) (h : Heap) : fnX (cx adisk_Open.lo adisk_Open.od) Tryd.f30 (Tryd.f30.body.getD .skip) [.slice imageA1 imageL1 imageC1] K h = adisk_Open imageA1 imageL1 imageC1 K h := by kernel_rfl
theorem adisk_Open.chk : fnOk (cx adisk_Open.lo adisk_Open.od) Tryd.f30 (Tryd.f30.body.getD .skip) 1 = true := by kernel_rfl
theorem adisk_Open.ok {imageA1 : Option Addr} {imageL1 : Nat} {imageC1 : Nat} {K : Value → Heap → Prop} {h : Heap} (hx : adisk_Open imageA1 imageL1 imageC1 K h) : C.adisk_Open imageA1 imageL1 imageC1 h K :=
  fn_to (cxOk _ _) Tryd.func30 (by kernel_rfl) adisk_Open.chk (by rw [adisk_Open.eq]; exact hx)
def boleref03_Of (imageA1 : Option Addr) (imageL1 : Nat) (imageC1 : Nat) (K : Value → Heap → Prop) (h1 : Heap) : Prop :=
  bif ((imageL1 : Int) == 0) then (
  K (.tuple #[.pointer none, .int .i64 32]) h1) else (
  bif ((Int.tmod (imageL1 : Int) 512) != 0) then (
  K (.tuple #[.pointer none, .int .i64 32]) h1) else (
  bif (decide ((IntKind.wrap .i64 (Int.tdiv (imageL1 : Int) 512)) > 16384)) then (
  K (.tuple #[.pointer none, .int .i64 32]) h1) else (
  C.boleref03_copied imageA1 imageL1 imageC1 h1 fun r1 h2 =>
  ∃ (sA1 : Option Addr) (sL1 : Nat) (sC1 : Nat), r1 = .slice sA1 sL1 sC1 ∧
  New [.slice sA1 sL1 sC1, .slice none 0 0, .slice none 0 0, .int .i64 0, .bool false, .int .i64 0, .int .i64 0] 148 h2 fun h3 =>
  K (.tuple #[.pointer (some ⟨h2.size, 0, none⟩), .int .i64 0]) h3)))
def boleref03_Of.lo : Nat → List Nat × List (Nat × Ty) := fun n => match n with | _ => ([], [])
def boleref03_Of.od : Nat → Od := fun n => match n with | _ => .nil
set_option maxRecDepth 1000000 in
theorem boleref03_Of.eq (imageA1 : Option Addr) (imageL1 : Nat) (imageC1 : Nat) (K : Value → Heap → Prop) (h : Heap) : fnX (cx boleref03_Of.lo boleref03_Of.od) Tryd.f31 (Tryd.f31.body.getD .skip) [.slice imageA1 imageL1 imageC1] K h = boleref03_Of imageA1 imageL1 imageC1 K h := by kernel_rfl
theorem boleref03_Of.chk : fnOk (cx boleref03_Of.lo boleref03_Of.od) Tryd.f31 (Tryd.f31.body.getD .skip) 1 = true := by kernel_rfl
set_option maxRecDepth 1000000 in
theorem boleref03_Of.ok {imageA1 : Option Addr} {imageL1 : Nat} {imageC1 : Nat} {K : Value → Heap → Prop} {h : Heap} (hx : boleref03_Of imageA1 imageL1 imageC1 K h) : C.boleref03_Of imageA1 imageL1 imageC1 h K :=
  fn_to (cxOk _ _) Tryd.func31 (by kernel_rfl) boleref03_Of.chk (by rw [boleref03_Of.eq]; exact hx)
def txn_Begin (d1 : Option Addr) (K : Value → Heap → Prop) (h1 : Heap) : Prop :=
  NewM h1 fun h2 =>
  New [.pointer d1, .map (some h1.size), .slice none 0 0, .bool false] 152 h2 fun h3 =>
  K (.pointer (some ⟨h2.size, 0, none⟩)) h3
def txn_Begin.lo : Nat → List Nat × List (Nat × Ty) := fun n => match n with | _ => ([], [])
def txn_Begin.od : Nat → Od := fun n => match n with | _ => .nil
theorem txn_Begin.eq (d1 : Option Addr) (K : Value → Heap → Prop) (h : Heap) : fnX (cx txn_Begin.lo txn_Begin.od) Tryd.f32 (Tryd.f32.body.getD .skip) [.pointer d1] K h = txn_Begin d1 K h := by kernel_rfl
theorem txn_Begin.chk : fnOk (cx txn_Begin.lo txn_Begin.od) Tryd.f32 (Tryd.f32.body.getD .skip) 1 = true := by kernel_rfl
theorem txn_Begin.ok {d1 : Option Addr} {K : Value → Heap → Prop} {h : Heap} (hx : txn_Begin d1 K h) : C.txn_Begin d1 h K :=
  fn_to (cxOk _ _) Tryd.func32 (by kernel_rfl) txn_Begin.chk (by rw [txn_Begin.eq]; exact hx)
def boleref06_Begin (d1 : Option Addr) (K : Value → Heap → Prop) (h1 : Heap) : Prop :=
  New [.pointer d1, .slice none 0 0, .bool false] 155 h1 fun h2 =>
  K (.pointer (some ⟨h1.size, 0, none⟩)) h2
def boleref06_Begin.lo : Nat → List Nat × List (Nat × Ty) := fun n => match n with | _ => ([], [])
def boleref06_Begin.od : Nat → Od := fun n => match n with | _ => .nil
theorem boleref06_Begin.eq (d1 : Option Addr) (K : Value → Heap → Prop) (h : Heap) : fnX (cx boleref06_Begin.lo boleref06_Begin.od) Tryd.f33 (Tryd.f33.body.getD .skip) [.pointer d1] K h = boleref06_Begin d1 K h := by kernel_rfl
theorem boleref06_Begin.chk : fnOk (cx boleref06_Begin.lo boleref06_Begin.od) Tryd.f33 (Tryd.f33.body.getD .skip) 1 = true := by kernel_rfl
theorem boleref06_Begin.ok {d1 : Option Addr} {K : Value → Heap → Prop} {h : Heap} (hx : boleref06_Begin d1 K h) : C.boleref06_Begin d1 h K :=
  fn_to (cxOk _ _) Tryd.func33 (by kernel_rfl) boleref06_Begin.chk (by rw [boleref06_Begin.eq]; exact hx)
def bmap_Find.k1 (t1 : Option Addr) (k1 : Int) (h1 : Heap) (h2 : Heap) (h3 : Heap) (K : Value → Heap → Prop) : Prop :=
  ∃ cs1 : List Value, List.length cs1 = 5 ∧ Cells h3 ⟨h1.size, 0, none⟩ cs1 ∧
  ∃ cs2 : List Value, List.length cs2 = 15 ∧ Cells h3 ⟨h2.size, 0, none⟩ cs2 ∧
  List.length (cs1 : List Value) = 5 ∧
  List.length (cs2 : List Value) = 15 ∧
  New ([.pointer t1] ++ (cs1 ++ cs2)) 93 h3 fun h4 =>
  C.bmap_file_walk (some ⟨h3.size, 0, none⟩) k1 (Value.func (.func 84) #[] ⟨[]⟩) h4 fun r1 h5 =>
  ∃ (n1 : Int) (n2 : Int), r1 = .tuple #[.int .i64 n1, .int .i64 n2] ∧
  K (.tuple #[.int .i64 n1, .int .i64 n2]) h5
def bmap_Find (t1 : Option Addr) (g1 : List Value) (x1 : List Value) (k1 : Int) (K : Value → Heap → Prop) (h1 : Heap) : Prop :=
  New g1 29 h1 fun h2 =>
  New x1 35 h2 fun h3 =>
  bif (decide (k1 < 0)) then (
  K (.tuple #[.int .i64 0, .int .i64 101]) h3) else (
  bif (decide (k1 ≥ 16522)) then (
  K (.tuple #[.int .i64 0, .int .i64 101]) h3) else (
  bmap_Find.k1 t1 k1 h1 h2 h3 K))
def bmap_Find.lo : Nat → List Nat × List (Nat × Ty) := fun n => match n with | _ => ([], [])
def bmap_Find.od : Nat → Od := fun n => match n with | _ => .nil
set_option maxRecDepth 1000000 in
theorem bmap_Find.eq (t1 : Option Addr) (g1 : List Value) (x1 : List Value) (k1 : Int) (K : Value → Heap → Prop) (h : Heap) : fnX (cx bmap_Find.lo bmap_Find.od) Tryd.f34 (Tryd.f34.body.getD .skip) [.pointer t1, .agg ⟨g1⟩, .agg ⟨x1⟩, .int .i64 k1] K h = bmap_Find t1 g1 x1 k1 K h := by kernel_rfl
theorem bmap_Find.chk : fnOk (cx bmap_Find.lo bmap_Find.od) Tryd.f34 (Tryd.f34.body.getD .skip) 4 = true := by kernel_rfl
set_option maxRecDepth 1000000 in
theorem bmap_Find.ok {t1 : Option Addr} {g1 : List Value} {x1 : List Value} {k1 : Int} {K : Value → Heap → Prop} {h : Heap} (hx : bmap_Find t1 g1 x1 k1 K h) : C.bmap_Find t1 g1 x1 k1 h K :=
  fn_to (cxOk _ _) Tryd.func34 (by kernel_rfl) bmap_Find.chk (by rw [bmap_Find.eq]; exact hx)
def bmap_Cut.k2 (k1 : Int) (h3 : Heap) (h4 : Heap) (h11 : Heap) (h14 : Heap) (h28 : Heap) (K : Value → Heap → Prop) : Prop :=
  bif (decide (k1 < 16522)) then (
  ∃ (q10 : Option Addr), cellOf h28 ⟨h14.size, 0, none⟩ = some (.pointer q10) ∧
  onSome q10 fun p7 =>
  ∃ (n7 : Int), cellOf h28 (Addr.add (Addr.add p7 6) 14) = some (.int .i64 n7) ∧
  bif (n7 != 0) then (
  New z3 3 h28 fun h29 =>
  Put ⟨h28.size, 0, none⟩ (.int .i64 (if (IntKind.wrap .i64 (k1 - 138)) > 0 then (IntKind.wrap .i64 (k1 - 138)) else 0)) h29 fun h30 =>
  ∃ (q11 : Option Addr), cellOf h30 ⟨h14.size, 0, none⟩ = some (.pointer q11) ∧
  ∃ (q12 : Option Addr), cellOf h30 ⟨h14.size, 0, none⟩ = some (.pointer q12) ∧
  onSome q12 fun p8 =>
  ∃ (n8 : Int), cellOf h30 (Addr.add (Addr.add p8 6) 14) = some (.int .i64 n8) ∧
  ∃ (n9 : Int), cellOf h30 ⟨h28.size, 0, none⟩ = some (.int .i64 n9) ∧
  C.bmap_file_cut q11 n8 (IntKind.wrap .i64 (Int.tdiv n9 128)) (Value.func (.func 89) #[] ⟨[.pointer (some ⟨h14.size, 0, none⟩), .pointer (some ⟨h28.size, 0, none⟩)]⟩) h30 fun r4 h31 =>
  ∃ (b2 : Bool) (n10 : Int), r4 = .tuple #[.bool b2, .int .i64 n10] ∧
  bif (n10 != 0) then (
  ∃ cs6 : List Value, List.length cs6 = 15 ∧ Cells h31 ⟨h3.size, 0, none⟩ cs6 ∧
  PutRow ⟨h3.size, 0, none⟩ cs6 15 h31 fun h32 =>
  Put ⟨h4.size, 0, none⟩ (.int .i64 n10) h32 fun h33 =>
  D.bmap_Cut_c1 (some ⟨h11.size, 0, none⟩) (some ⟨h4.size, 0, none⟩) (some ⟨h3.size, 0, none⟩) h33 fun h34 =>
  ∃ res9 : List Value, List.length res9 = 15 ∧ Cells h34 ⟨h3.size, 0, none⟩ res9 ∧
  ∃ (res10 : Int), cellOf h34 ⟨h4.size, 0, none⟩ = some (.int .i64 res10) ∧
  K (.tuple #[.agg ⟨res9⟩, .int .i64 res10]) h34) else (
  bif (!b2) then (
  ∃ (q13 : Option Addr), cellOf h31 ⟨h14.size, 0, none⟩ = some (.pointer q13) ∧
  onSome q13 fun p9 =>
  Put (Addr.add (Addr.add p9 6) 14) (.int .i64 0) h31 fun h35 =>
  ∃ (q14 : Option Addr), cellOf h35 ⟨h14.size, 0, none⟩ = some (.pointer q14) ∧
  onSome q14 fun p10 =>
  ∃ cs7 : List Value, List.length cs7 = 15 ∧ Cells h35 (Addr.add p10 6) cs7 ∧
  PutRow ⟨h3.size, 0, none⟩ cs7 15 h35 fun h36 =>
  Put ⟨h4.size, 0, none⟩ (.int .i64 0) h36 fun h37 =>
  D.bmap_Cut_c1 (some ⟨h11.size, 0, none⟩) (some ⟨h4.size, 0, none⟩) (some ⟨h3.size, 0, none⟩) h37 fun h38 =>
  ∃ res11 : List Value, List.length res11 = 15 ∧ Cells h38 ⟨h3.size, 0, none⟩ res11 ∧
  ∃ (res12 : Int), cellOf h38 ⟨h4.size, 0, none⟩ = some (.int .i64 res12) ∧
  K (.tuple #[.agg ⟨res11⟩, .int .i64 res12]) h38) else (
  ∃ (q15 : Option Addr), cellOf h31 ⟨h14.size, 0, none⟩ = some (.pointer q15) ∧
  onSome q15 fun p11 =>
  ∃ cs8 : List Value, List.length cs8 = 15 ∧ Cells h31 (Addr.add p11 6) cs8 ∧
  PutRow ⟨h3.size, 0, none⟩ cs8 15 h31 fun h39 =>
  Put ⟨h4.size, 0, none⟩ (.int .i64 0) h39 fun h40 =>
  D.bmap_Cut_c1 (some ⟨h11.size, 0, none⟩) (some ⟨h4.size, 0, none⟩) (some ⟨h3.size, 0, none⟩) h40 fun h41 =>
  ∃ res13 : List Value, List.length res13 = 15 ∧ Cells h41 ⟨h3.size, 0, none⟩ res13 ∧
  ∃ (res14 : Int), cellOf h41 ⟨h4.size, 0, none⟩ = some (.int .i64 res14) ∧
  K (.tuple #[.agg ⟨res13⟩, .int .i64 res14]) h41))) else (
  ∃ (q16 : Option Addr), cellOf h28 ⟨h14.size, 0, none⟩ = some (.pointer q16) ∧
  onSome q16 fun p12 =>
  ∃ cs9 : List Value, List.length cs9 = 15 ∧ Cells h28 (Addr.add p12 6) cs9 ∧
  PutRow ⟨h3.size, 0, none⟩ cs9 15 h28 fun h42 =>
  Put ⟨h4.size, 0, none⟩ (.int .i64 0) h42 fun h43 =>
  D.bmap_Cut_c1 (some ⟨h11.size, 0, none⟩) (some ⟨h4.size, 0, none⟩) (some ⟨h3.size, 0, none⟩) h43 fun h44 =>
  ∃ res15 : List Value, List.length res15 = 15 ∧ Cells h44 ⟨h3.size, 0, none⟩ res15 ∧
  ∃ (res16 : Int), cellOf h44 ⟨h4.size, 0, none⟩ = some (.int .i64 res16) ∧
  K (.tuple #[.agg ⟨res15⟩, .int .i64 res16]) h44)) else (
  ∃ (q17 : Option Addr), cellOf h28 ⟨h14.size, 0, none⟩ = some (.pointer q17) ∧
  onSome q17 fun p13 =>
  ∃ cs10 : List Value, List.length cs10 = 15 ∧ Cells h28 (Addr.add p13 6) cs10 ∧
  PutRow ⟨h3.size, 0, none⟩ cs10 15 h28 fun h45 =>
  Put ⟨h4.size, 0, none⟩ (.int .i64 0) h45 fun h46 =>
  D.bmap_Cut_c1 (some ⟨h11.size, 0, none⟩) (some ⟨h4.size, 0, none⟩) (some ⟨h3.size, 0, none⟩) h46 fun h47 =>
  ∃ res17 : List Value, List.length res17 = 15 ∧ Cells h47 ⟨h3.size, 0, none⟩ res17 ∧
  ∃ (res18 : Int), cellOf h47 ⟨h4.size, 0, none⟩ = some (.int .i64 res18) ∧
  K (.tuple #[.agg ⟨res17⟩, .int .i64 res18]) h47)
def bmap_Cut.k1 (t1 : Option Addr) (k1 : Int) (h1 : Heap) (h2 : Heap) (h3 : Heap) (h4 : Heap) (h10 : Heap) (K : Value → Heap → Prop) : Prop :=
  C.bmap_guard t1 h10 fun r1 h11 =>
  ∃ (g2 : Nat) (fs1 : List Value) (cs1 : List Value), r1 = .func (.func g2) ⟨fs1⟩ ⟨cs1⟩ ∧
  New z89 89 h11 fun h12 =>
  Put ⟨h11.size, 0, none⟩ (.func (.func g2) ⟨fs1⟩ ⟨cs1⟩) h12 fun h13 =>
  ∃ cs2 : List Value, List.length cs2 = 5 ∧ Cells h13 ⟨h1.size, 0, none⟩ cs2 ∧
  ∃ cs3 : List Value, List.length cs3 = 15 ∧ Cells h13 ⟨h2.size, 0, none⟩ cs3 ∧
  List.length (cs2 : List Value) = 5 ∧
  List.length (cs3 : List Value) = 15 ∧
  New ([.pointer t1] ++ (cs2 ++ cs3)) 93 h13 fun h14 =>
  New z91 91 h14 fun h15 =>
  Put ⟨h14.size, 0, none⟩ (.pointer (some ⟨h13.size, 0, none⟩)) h15 fun h16 =>
  ∃ (I1 : Int → Heap → Prop) (M1 : Int → Heap → Nat), I1 k1 h16 ∧
  ∀ (i1 : Int), ∀ h17 : Heap, I1 i1 h17 →
  bif (decide (i1 < 10)) then (
  ∃ (q1 : Option Addr), cellOf h17 ⟨h14.size, 0, none⟩ = some (.pointer q1) ∧
  onSome q1 fun p1 =>
  (0 ≤ i1 ∧ i1 < (10 : Int)) ∧
  ∃ (n1 : Int), cellOf h17 (Addr.add (Addr.add (Addr.add p1 6) 3) (Int.toNat i1)) = some (.int .i64 n1) ∧
  bif (n1 != 0) then (
  ∃ (q2 : Option Addr), cellOf h17 ⟨h14.size, 0, none⟩ = some (.pointer q2) ∧
  ∃ (q3 : Option Addr), cellOf h17 ⟨h14.size, 0, none⟩ = some (.pointer q3) ∧
  onSome q3 fun p2 =>
  (0 ≤ i1 ∧ i1 < (10 : Int)) ∧
  ∃ (n2 : Int), cellOf h17 (Addr.add (Addr.add (Addr.add p2 6) 3) (Int.toNat i1)) = some (.int .i64 n2) ∧
  C.bmap_file_give q2 n2 h17 fun r2 h18 =>
  ∃ (n3 : Int), r2 = .int .i64 n3 ∧
  bif (n3 != 0) then (
  ∃ cs4 : List Value, List.length cs4 = 15 ∧ Cells h18 ⟨h3.size, 0, none⟩ cs4 ∧
  PutRow ⟨h3.size, 0, none⟩ cs4 15 h18 fun h19 =>
  Put ⟨h4.size, 0, none⟩ (.int .i64 n3) h19 fun h20 =>
  D.bmap_Cut_c1 (some ⟨h11.size, 0, none⟩) (some ⟨h4.size, 0, none⟩) (some ⟨h3.size, 0, none⟩) h20 fun h21 =>
  ∃ res5 : List Value, List.length res5 = 15 ∧ Cells h21 ⟨h3.size, 0, none⟩ res5 ∧
  ∃ (res6 : Int), cellOf h21 ⟨h4.size, 0, none⟩ = some (.int .i64 res6) ∧
  K (.tuple #[.agg ⟨res5⟩, .int .i64 res6]) h21) else (
  ∃ (q4 : Option Addr), cellOf h18 ⟨h14.size, 0, none⟩ = some (.pointer q4) ∧
  onSome q4 fun p3 =>
  (0 ≤ i1 ∧ i1 < (10 : Int)) ∧
  Put (Addr.add (Addr.add (Addr.add p3 6) 3) (Int.toNat i1)) (.int .i64 0) h18 fun h22 =>
  I1 (IntKind.wrap .i64 (i1 + 1)) h22 ∧ M1 (IntKind.wrap .i64 (i1 + 1)) h22 < M1 i1 h17)) else (
  I1 (IntKind.wrap .i64 (i1 + 1)) h17 ∧ M1 (IntKind.wrap .i64 (i1 + 1)) h17 < M1 i1 h17)) else (
  bif (decide (k1 < 138)) then (
  ∃ (q5 : Option Addr), cellOf h17 ⟨h14.size, 0, none⟩ = some (.pointer q5) ∧
  onSome q5 fun p4 =>
  ∃ (n4 : Int), cellOf h17 (Addr.add (Addr.add p4 6) 13) = some (.int .i64 n4) ∧
  bif (n4 != 0) then (
  ∃ (q6 : Option Addr), cellOf h17 ⟨h14.size, 0, none⟩ = some (.pointer q6) ∧
  ∃ (q7 : Option Addr), cellOf h17 ⟨h14.size, 0, none⟩ = some (.pointer q7) ∧
  onSome q7 fun p5 =>
  ∃ (n5 : Int), cellOf h17 (Addr.add (Addr.add p5 6) 13) = some (.int .i64 n5) ∧
  ∃ (q8 : Option Addr), cellOf h17 ⟨h14.size, 0, none⟩ = some (.pointer q8) ∧
  C.bmap_file_cut q6 n5 (IntKind.wrap .i64 (k1 - 10)) (Value.func (.func 88) ⟨[.pointer q8]⟩ ⟨[]⟩) h17 fun r3 h23 =>
  ∃ (b1 : Bool) (n6 : Int), r3 = .tuple #[.bool b1, .int .i64 n6] ∧
  bif (n6 != 0) then (
  ∃ cs5 : List Value, List.length cs5 = 15 ∧ Cells h23 ⟨h3.size, 0, none⟩ cs5 ∧
  PutRow ⟨h3.size, 0, none⟩ cs5 15 h23 fun h24 =>
  Put ⟨h4.size, 0, none⟩ (.int .i64 n6) h24 fun h25 =>
  D.bmap_Cut_c1 (some ⟨h11.size, 0, none⟩) (some ⟨h4.size, 0, none⟩) (some ⟨h3.size, 0, none⟩) h25 fun h26 =>
  ∃ res7 : List Value, List.length res7 = 15 ∧ Cells h26 ⟨h3.size, 0, none⟩ res7 ∧
  ∃ (res8 : Int), cellOf h26 ⟨h4.size, 0, none⟩ = some (.int .i64 res8) ∧
  K (.tuple #[.agg ⟨res7⟩, .int .i64 res8]) h26) else (
  bif (!b1) then (
  ∃ (q9 : Option Addr), cellOf h23 ⟨h14.size, 0, none⟩ = some (.pointer q9) ∧
  onSome q9 fun p6 =>
  Put (Addr.add (Addr.add p6 6) 13) (.int .i64 0) h23 fun h27 =>
  bmap_Cut.k2 k1 h3 h4 h11 h14 h27 K) else (
  bmap_Cut.k2 k1 h3 h4 h11 h14 h23 K))) else (
  bmap_Cut.k2 k1 h3 h4 h11 h14 h17 K)) else (
  bmap_Cut.k2 k1 h3 h4 h11 h14 h17 K))
def bmap_Cut (t1 : Option Addr) (g1 : List Value) (x1 : List Value) (k1 : Int) (K : Value → Heap → Prop) (h1 : Heap) : Prop :=
  New g1 29 h1 fun h2 =>
  New x1 35 h2 fun h3 =>
  New z35 35 h3 fun h4 =>
  New z39 39 h4 fun h5 =>
  bif (decide (k1 < 0)) then (
  PutRow ⟨h3.size, 0, none⟩ [.int .i64 0, .int .i64 0, .int .i64 0, .int .i64 0, .int .i64 0, .int .i64 0, .int .i64 0, .int .i64 0, .int .i64 0, .int .i64 0, .int .i64 0, .int .i64 0, .int .i64 0, .int .i64 0, .int .i64 0] 15 h5 fun h6 =>
  Put ⟨h4.size, 0, none⟩ (.int .i64 101) h6 fun h7 =>
  ∃ res1 : List Value, List.length res1 = 15 ∧ Cells h7 ⟨h3.size, 0, none⟩ res1 ∧
  ∃ (res2 : Int), cellOf h7 ⟨h4.size, 0, none⟩ = some (.int .i64 res2) ∧
  K (.tuple #[.agg ⟨res1⟩, .int .i64 res2]) h7) else (
  bif (decide (k1 > 16522)) then (
  PutRow ⟨h3.size, 0, none⟩ [.int .i64 0, .int .i64 0, .int .i64 0, .int .i64 0, .int .i64 0, .int .i64 0, .int .i64 0, .int .i64 0, .int .i64 0, .int .i64 0, .int .i64 0, .int .i64 0, .int .i64 0, .int .i64 0, .int .i64 0] 15 h5 fun h8 =>
  Put ⟨h4.size, 0, none⟩ (.int .i64 101) h8 fun h9 =>
  ∃ res3 : List Value, List.length res3 = 15 ∧ Cells h9 ⟨h3.size, 0, none⟩ res3 ∧
  ∃ (res4 : Int), cellOf h9 ⟨h4.size, 0, none⟩ = some (.int .i64 res4) ∧
  K (.tuple #[.agg ⟨res3⟩, .int .i64 res4]) h9) else (
  bmap_Cut.k1 t1 k1 h1 h2 h3 h4 h5 K))
def bmap_Cut.lo : Nat → List Nat × List (Nat × Ty) := fun n => match n with | 7 => ([3, 8, 9, 11], [(12, .int .i64)]) | _ => ([], [])
def bmap_Cut.od : Nat → Od := fun n => match n with | 10 => (.op 0 [] (.op 1 [] (.op 2 [] (.op 3 [] (.op 4 [] (.op 5 [] (.op 6 [] (.op 7 [] (.op 8 [] (.op 9 [] .nil)))))))))) | 15 => (.op 0 [] (.op 1 [] (.op 2 [] (.op 3 [] (.op 4 [] (.op 5 [] (.op 6 [] (.op 7 [] (.op 8 [] (.op 9 [] (.op 10 [] (.op 11 [] (.op 12 [] (.op 13 [] (.op 14 [] (.op 15 [] .nil)))))))))))))))) | 22 => (.op 0 [] (.op 1 [] (.op 2 [] (.op 3 [] (.op 4 [] (.op 5 [] (.op 6 [] (.op 7 [] (.op 8 [] (.op 9 [] (.op 10 [] (.op 11 [] (.op 12 [] (.op 13 [] (.op 14 [] .nil))))))))))))))) | _ => .nil
set_option maxRecDepth 1000000 in
theorem bmap_Cut.eq (t1 : Option Addr) (g1 : List Value) (x1 : List Value) (k1 : Int) (K : Value → Heap → Prop) (h : Heap) : fnX (cx bmap_Cut.lo bmap_Cut.od) Tryd.f35 (Tryd.f35.body.getD .skip) [.pointer t1, .agg ⟨g1⟩, .agg ⟨x1⟩, .int .i64 k1] K h = bmap_Cut t1 g1 x1 k1 K h := by kernel_rfl
theorem bmap_Cut.chk : fnOk (cx bmap_Cut.lo bmap_Cut.od) Tryd.f35 (Tryd.f35.body.getD .skip) 4 = true := by kernel_rfl
set_option maxRecDepth 1000000 in
theorem bmap_Cut.ok {t1 : Option Addr} {g1 : List Value} {x1 : List Value} {k1 : Int} {K : Value → Heap → Prop} {h : Heap} (hx : bmap_Cut t1 g1 x1 k1 K h) : C.bmap_Cut t1 g1 x1 k1 h K :=
  fn_to (cxOk _ _) Tryd.func35 (by kernel_rfl) bmap_Cut.chk (by rw [bmap_Cut.eq]; exact hx)
def bmap_guard (t1 : Option Addr) (K : Value → Heap → Prop) (h1 : Heap) : Prop :=
  New [.pointer t1] 26 h1 fun h2 =>
  ∃ (q1 : Option Addr), cellOf h2 ⟨h1.size, 0, none⟩ = some (.pointer q1) ∧
  C.txn_Txn_Mark q1 h2 fun r1 h3 =>
  ∃ (n1 : Int) (n2 : Int), r1 = .tuple #[.int .i64 n1, .int .i64 n2] ∧
  New z3 3 h3 fun h4 =>
  New z39 39 h4 fun h5 =>
  Put ⟨h3.size, 0, none⟩ (.int .i64 n1) h5 fun h6 =>
  Put ⟨h4.size, 0, none⟩ (.int .i64 n2) h6 fun h7 =>
  K (.func (.func 90) #[] ⟨[.pointer (some ⟨h4.size, 0, none⟩), .pointer (some ⟨h1.size, 0, none⟩), .pointer (some ⟨h3.size, 0, none⟩)]⟩) h7
def bmap_guard.lo : Nat → List Nat × List (Nat × Ty) := fun n => match n with | _ => ([], [])
def bmap_guard.od : Nat → Od := fun n => match n with | _ => .nil
theorem bmap_guard.eq (t1 : Option Addr) (K : Value → Heap → Prop) (h : Heap) : fnX (cx bmap_guard.lo bmap_guard.od) Tryd.f36 (Tryd.f36.body.getD .skip) [.pointer t1] K h = bmap_guard t1 K h := by kernel_rfl
theorem bmap_guard.chk : fnOk (cx bmap_guard.lo bmap_guard.od) Tryd.f36 (Tryd.f36.body.getD .skip) 1 = true := by kernel_rfl
theorem bmap_guard.ok {t1 : Option Addr} {K : Value → Heap → Prop} {h : Heap} (hx : bmap_guard t1 K h) : C.bmap_guard t1 h K :=
  fn_to (cxOk _ _) Tryd.func36 (by kernel_rfl) bmap_guard.chk (by rw [bmap_guard.eq]; exact hx)
def bmap_Add_c1 (cap1 : Option Addr) (cap2 : Option Addr) (cap3 : Option Addr) (cap4 : Option Addr) (K : Value → Heap → Prop) (h1 : Heap) : Prop :=
  onSome cap1 fun p1 =>
  ∃ (v1 : Value), cellOf h1 p1 = some (v1) ∧
  onSome cap2 fun p2 =>
  ∃ (n1 : Int), cellOf h1 p2 = some (.int .i64 n1) ∧
  HCallsV Tryd.prog v1 [.int .i64 n1] h1 fun r1 h2 =>
  r1 = .tuple #[] ∧
  onSome cap2 fun p3 =>
  ∃ (n2 : Int), cellOf h2 p3 = some (.int .i64 n2) ∧
  bif (n2 != 0) then (
  onSome cap3 fun p4 =>
  PutRow p4 [.int .i64 0, .int .i64 0, .int .i64 0, .int .i64 0, .int .i64 0, .int .i64 0, .int .i64 0, .int .i64 0, .int .i64 0, .int .i64 0, .int .i64 0, .int .i64 0, .int .i64 0, .int .i64 0, .int .i64 0] 15 h2 fun h3 =>
  onSome cap4 fun p5 =>
  Put p5 (.int .i64 0) h3 fun h4 =>
  K (.tuple #[]) h4) else (
  K (.tuple #[]) h2)
def bmap_Add_c1.lo : Nat → List Nat × List (Nat × Ty) := fun n => match n with | _ => ([], [])
def bmap_Add_c1.od : Nat → Od := fun n => match n with | _ => .nil
theorem bmap_Add_c1.eq (cap1 : Option Addr) (cap2 : Option Addr) (cap3 : Option Addr) (cap4 : Option Addr) (K : Value → Heap → Prop) (h : Heap) : fnX (cx bmap_Add_c1.lo bmap_Add_c1.od) Tryd.f37 (Tryd.f37.body.getD .skip) [.pointer cap1, .pointer cap2, .pointer cap3, .pointer cap4] K h = bmap_Add_c1 cap1 cap2 cap3 cap4 K h := by kernel_rfl
theorem bmap_Add_c1.chkD : fnOkD (cx bmap_Add_c1.lo bmap_Add_c1.od) Tryd.f37 (Tryd.f37.body.getD .skip) 4 = true := by kernel_rfl
theorem bmap_Add_c1.okD {cap1 : Option Addr} {cap2 : Option Addr} {cap3 : Option Addr} {cap4 : Option Addr} {K : Heap → Prop} {h : Heap} (hx : bmap_Add_c1 cap1 cap2 cap3 cap4 (fun _ h' => K h') h) : D.bmap_Add_c1 cap1 cap2 cap3 cap4 h K :=
  fnD_to (cxOk _ _) Tryd.func37 (by kernel_rfl) bmap_Add_c1.chkD (by rw [bmap_Add_c1.eq]; exact hx)
end Go.Proofs.YtcdpakjhjmchhaaDoor.W
namespace Go.Proofs.YtcdpakjhjmchhaaDoor.W
open Go Go.Proofs Go.Proofs.YtcdpakjhjmchhaaDoor.Wx
def bmap_file_walk.k1 (f1 : Option Addr) (at1 : Int) (n1 : Int) (h3 : Heap) (I1 : Int → Int → Heap → Prop) (M1 : Int → Int → Heap → Nat) (num1 : Int) (e1 : Int) (h8 : Heap) (K : Value → Heap → Prop) : Prop :=
  bif (e1 != 0) then (
  K (.tuple #[.int .i64 0, .int .i64 e1]) h8) else (
  bif (num1 == 0) then (
  K (.tuple #[.int .i64 0, .int .i64 0]) h8) else (
  C.bmap_file_look f1 num1 h8 fun r4 h9 =>
  ∃ (n6 : Int), r4 = .int .i64 n6 ∧
  bif (n6 != 0) then (
  K (.tuple #[.int .i64 0, .int .i64 n6]) h9) else (
  I1 num1 (IntKind.wrap .i64 (n1 + 1)) h9 ∧ M1 num1 (IntKind.wrap .i64 (n1 + 1)) h9 < M1 at1 n1 h3)))
def bmap_file_walk (f1 : Option Addr) (k1 : Int) (hole1 : Value) (K : Value → Heap → Prop) (h1 : Heap) : Prop :=
  C.bmap_way k1 h1 fun r1 h2 =>
  ∃ (sA1 : Option Addr) (sL1 : Nat) (sC1 : Nat), r1 = .slice sA1 sL1 sC1 ∧
  ∃ (I1 : Int → Int → Heap → Prop) (M1 : Int → Int → Heap → Nat), I1 0 0 h2 ∧
  ∀ (at1 : Int) (n1 : Int), ∀ h3 : Heap, I1 at1 n1 h3 →
  bif (decide (n1 < (sL1 : Int))) then (
  (0 ≤ n1 ∧ n1 < (sL1 : Int)) ∧
  onSome sA1 fun p1 =>
  ∃ cs1 : List Value, List.length cs1 = 2 ∧ Cells h3 (Addr.add p1 ((Int.toNat n1) * 2)) cs1 ∧
  NewRow z96 96 cs1 2 h3 fun h5 =>
  ∃ cs2 : List Value, List.length cs2 = 2 ∧ Cells h5 ⟨h3.size, 0, none⟩ cs2 ∧
  C.bmap_file_number f1 cs2 at1 h5 fun r2 h6 =>
  ∃ (n2 : Int) (sA2 : Option Addr) (sL2 : Nat) (sC2 : Nat) (n3 : Int), r2 = .tuple #[.int .i64 n2, .slice sA2 sL2 sC2, .int .i64 n3] ∧
  bif (n3 == 0) then (
  bif (n2 == 0) then (
  ∃ cs3 : List Value, List.length cs3 = 2 ∧ Cells h6 ⟨h3.size, 0, none⟩ cs3 ∧
  HCallsV Tryd.prog hole1 [.agg ⟨cs3⟩, .int .i64 at1, .slice sA2 sL2 sC2] h6 fun r3 h7 =>
  ∃ (n4 : Int) (n5 : Int), r3 = .tuple #[.int .i64 n4, .int .i64 n5] ∧
  bmap_file_walk.k1 f1 at1 n1 h3 I1 M1 n4 n5 h7 K) else (
  bmap_file_walk.k1 f1 at1 n1 h3 I1 M1 n2 n3 h6 K)) else (
  bmap_file_walk.k1 f1 at1 n1 h3 I1 M1 n2 n3 h6 K)) else (
  K (.tuple #[.int .i64 at1, .int .i64 0]) h3)
def bmap_file_walk.lo : Nat → List Nat × List (Nat × Ty) := fun n => match n with | 3 => ([0, 2, 16, 17], [(8, .int .i64), (18, .int .i64)]) | _ => ([], [])
def bmap_file_walk.od : Nat → Od := fun n => match n with | _ => .nil
theorem bmap_file_walk.eq (f1 : Option Addr) (k1 : Int) (hole1 : Value) (K : Value → Heap → Prop) (h : Heap) : fnX (cx bmap_file_walk.lo bmap_file_walk.od) Tryd.f38 (Tryd.f38.body.getD .skip) [.pointer f1, .int .i64 k1, hole1] K h = bmap_file_walk f1 k1 hole1 K h := by kernel_rfl
theorem bmap_file_walk.chk : fnOk (cx bmap_file_walk.lo bmap_file_walk.od) Tryd.f38 (Tryd.f38.body.getD .skip) 3 = true := by kernel_rfl
theorem bmap_file_walk.ok {f1 : Option Addr} {k1 : Int} {hole1 : Value} {K : Value → Heap → Prop} {h : Heap} (hx : bmap_file_walk f1 k1 hole1 K h) : C.bmap_file_walk f1 k1 hole1 h K :=
  fn_to (cxOk _ _) Tryd.func38 (by kernel_rfl) bmap_file_walk.chk (by rw [bmap_file_walk.eq]; exact hx)
def bmap_Add_c2 (s1 : List Value) (at1 : Int) (bA1 : Option Addr) (bL1 : Nat) (bC1 : Nat) (cap1 : Option Addr) (cap2 : Option Addr) (cap3 : Option Addr) (K : Value → Heap → Prop) (h1 : Heap) : Prop :=
  New s1 96 h1 fun h2 =>
  onSome cap1 fun p1 =>
  ∃ (q1 : Option Addr), cellOf h2 p1 = some (.pointer q1) ∧
  onSome cap2 fun p2 =>
  ∃ cs1 : List Value, List.length cs1 = 5 ∧ Cells h2 p2 cs1 ∧
  C.space_Take q1 cs1 h2 fun r1 h3 =>
  ∃ (n1 : Int) (n2 : Int), r1 = .tuple #[.int .i64 n1, .int .i64 n2] ∧
  bif (n2 != 0) then (
  K (.tuple #[.int .i64 0, .int .i64 n2]) h3) else (
  onSome cap3 fun p3 =>
  ∃ (q2 : Option Addr), cellOf h3 p3 = some (.pointer q2) ∧
  ∃ cs2 : List Value, List.length cs2 = 2 ∧ Cells h3 ⟨h1.size, 0, none⟩ cs2 ∧
  C.bmap_file_set q2 cs2 at1 bA1 bL1 bC1 n1 h3 fun r2 h4 =>
  ∃ (n3 : Int), r2 = .int .i64 n3 ∧
  K (.tuple #[.int .i64 n1, .int .i64 n3]) h4)
def bmap_Add_c2.lo : Nat → List Nat × List (Nat × Ty) := fun n => match n with | _ => ([], [])
def bmap_Add_c2.od : Nat → Od := fun n => match n with | _ => .nil
theorem bmap_Add_c2.eq (s1 : List Value) (at1 : Int) (bA1 : Option Addr) (bL1 : Nat) (bC1 : Nat) (cap1 : Option Addr) (cap2 : Option Addr) (cap3 : Option Addr) (K : Value → Heap → Prop) (h : Heap) : fnX (cx bmap_Add_c2.lo bmap_Add_c2.od) Tryd.f39 (Tryd.f39.body.getD .skip) [.agg ⟨s1⟩, .int .i64 at1, .slice bA1 bL1 bC1, .pointer cap1, .pointer cap2, .pointer cap3] K h = bmap_Add_c2 s1 at1 bA1 bL1 bC1 cap1 cap2 cap3 K h := by kernel_rfl
theorem bmap_Add_c2.chk : fnOk (cx bmap_Add_c2.lo bmap_Add_c2.od) Tryd.f39 (Tryd.f39.body.getD .skip) 6 = true := by kernel_rfl
theorem bmap_Add_c2.ok {s1 : List Value} {at1 : Int} {bA1 : Option Addr} {bL1 : Nat} {bC1 : Nat} {cap1 : Option Addr} {cap2 : Option Addr} {cap3 : Option Addr} {K : Value → Heap → Prop} {h : Heap} (hx : bmap_Add_c2 s1 at1 bA1 bL1 bC1 cap1 cap2 cap3 K h) : C.bmap_Add_c2 s1 at1 bA1 bL1 bC1 cap1 cap2 cap3 h K :=
  fn_to (cxOk _ _) Tryd.func39 (by kernel_rfl) bmap_Add_c2.chk (by rw [bmap_Add_c2.eq]; exact hx)
def space_Take (t1 : Option Addr) (g1 : List Value) (K : Value → Heap → Prop) (h1 : Heap) : Prop :=
  New [.pointer t1] 26 h1 fun h2 =>
  New g1 29 h2 fun h3 =>
  New z39 39 h3 fun h4 =>
  New z3 3 h4 fun h5 =>
  Put ⟨h4.size, 0, none⟩ (.int .i64 0) h5 fun h6 =>
  ∃ (q1 : Option Addr), cellOf h6 ⟨h1.size, 0, none⟩ = some (.pointer q1) ∧
  ∃ cs1 : List Value, List.length cs1 = 5 ∧ Cells h6 ⟨h2.size, 0, none⟩ cs1 ∧
  C.space_each q1 cs1 (Value.func (.func 93) #[] ⟨[.pointer (some ⟨h2.size, 0, none⟩), .pointer (some ⟨h4.size, 0, none⟩)]⟩) h6 fun r1 h7 =>
  ∃ (n1 : Int), r1 = .int .i64 n1 ∧
  Put ⟨h3.size, 0, none⟩ (.int .i64 n1) h7 fun h8 =>
  ∃ (n2 : Int), cellOf h8 ⟨h3.size, 0, none⟩ = some (.int .i64 n2) ∧
  bif (n2 != 0) then (
  ∃ (n3 : Int), cellOf h8 ⟨h3.size, 0, none⟩ = some (.int .i64 n3) ∧
  Put ⟨h3.size, 0, none⟩ (.int .i64 n3) h8 fun h9 =>
  ∃ (res1 : Int), cellOf h9 ⟨h3.size, 0, none⟩ = some (.int .i64 res1) ∧
  K (.tuple #[.int .i64 0, .int .i64 res1]) h9) else (
  ∃ (n4 : Int), cellOf h8 ⟨h4.size, 0, none⟩ = some (.int .i64 n4) ∧
  bif (n4 == 0) then (
  Put ⟨h3.size, 0, none⟩ (.int .i64 90) h8 fun h10 =>
  ∃ (res2 : Int), cellOf h10 ⟨h3.size, 0, none⟩ = some (.int .i64 res2) ∧
  K (.tuple #[.int .i64 0, .int .i64 res2]) h10) else (
  ∃ (q2 : Option Addr), cellOf h8 ⟨h1.size, 0, none⟩ = some (.pointer q2) ∧
  C.txn_Txn_Mark q2 h8 fun r2 h11 =>
  ∃ (n5 : Int) (n6 : Int), r2 = .tuple #[.int .i64 n5, .int .i64 n6] ∧
  New z3 3 h11 fun h12 =>
  Put ⟨h11.size, 0, none⟩ (.int .i64 n5) h12 fun h13 =>
  Put ⟨h3.size, 0, none⟩ (.int .i64 n6) h13 fun h14 =>
  ∃ (n7 : Int), cellOf h14 ⟨h3.size, 0, none⟩ = some (.int .i64 n7) ∧
  bif (n7 != 0) then (
  ∃ (n8 : Int), cellOf h14 ⟨h3.size, 0, none⟩ = some (.int .i64 n8) ∧
  Put ⟨h3.size, 0, none⟩ (.int .i64 n8) h14 fun h15 =>
  ∃ (res3 : Int), cellOf h15 ⟨h3.size, 0, none⟩ = some (.int .i64 res3) ∧
  K (.tuple #[.int .i64 0, .int .i64 res3]) h15) else (
  ∃ (q3 : Option Addr), cellOf h14 ⟨h1.size, 0, none⟩ = some (.pointer q3) ∧
  ∃ cs2 : List Value, List.length cs2 = 5 ∧ Cells h14 ⟨h2.size, 0, none⟩ cs2 ∧
  ∃ (n9 : Int), cellOf h14 ⟨h4.size, 0, none⟩ = some (.int .i64 n9) ∧
  C.space_set q3 cs2 n9 true h14 fun r3 h16 =>
  ∃ (n10 : Int), r3 = .int .i64 n10 ∧
  Put ⟨h3.size, 0, none⟩ (.int .i64 n10) h16 fun h17 =>
  ∃ (n11 : Int), cellOf h17 ⟨h3.size, 0, none⟩ = some (.int .i64 n11) ∧
  bif (n11 != 0) then (
  ∃ (n12 : Int), cellOf h17 ⟨h3.size, 0, none⟩ = some (.int .i64 n12) ∧
  Put ⟨h3.size, 0, none⟩ (.int .i64 n12) h17 fun h18 =>
  D.space_Take_c2 (some ⟨h1.size, 0, none⟩) (some ⟨h11.size, 0, none⟩) (some ⟨h3.size, 0, none⟩) h18 fun h19 =>
  ∃ (res4 : Int), cellOf h19 ⟨h3.size, 0, none⟩ = some (.int .i64 res4) ∧
  K (.tuple #[.int .i64 0, .int .i64 res4]) h19) else (
  ∃ (q4 : Option Addr), cellOf h17 ⟨h1.size, 0, none⟩ = some (.pointer q4) ∧
  ∃ (n13 : Int), cellOf h17 ⟨h4.size, 0, none⟩ = some (.int .i64 n13) ∧
  (0 ≤ (512 : Int) ∧ (512 : Int) ≤ 512 ∧ (1 : Int) * 512 ≤ 281474976710656 ∧ (512 : Int) ≤ 281474976710656) ∧
  New (repCells z5 (Int.toNat 512)) 5 h17 fun h20 =>
  (cellOf h20 ⟨h1.size, 0, none⟩ = some (.pointer q4)) ∧
  (cellOf h20 ⟨h4.size, 0, none⟩ = some (.int .i64 n13)) ∧
  C.txn_Txn_Write q4 n13 (some ⟨h17.size, 0, none⟩) (Int.toNat 512) (Int.toNat 512) h20 fun r4 h21 =>
  ∃ (n14 : Int), r4 = .int .i64 n14 ∧
  Put ⟨h3.size, 0, none⟩ (.int .i64 n14) h21 fun h22 =>
  ∃ (n15 : Int), cellOf h22 ⟨h3.size, 0, none⟩ = some (.int .i64 n15) ∧
  bif (n15 != 0) then (
  ∃ (n16 : Int), cellOf h22 ⟨h3.size, 0, none⟩ = some (.int .i64 n16) ∧
  Put ⟨h3.size, 0, none⟩ (.int .i64 n16) h22 fun h23 =>
  D.space_Take_c2 (some ⟨h1.size, 0, none⟩) (some ⟨h11.size, 0, none⟩) (some ⟨h3.size, 0, none⟩) h23 fun h24 =>
  ∃ (res5 : Int), cellOf h24 ⟨h3.size, 0, none⟩ = some (.int .i64 res5) ∧
  K (.tuple #[.int .i64 0, .int .i64 res5]) h24) else (
  ∃ (n17 : Int), cellOf h22 ⟨h4.size, 0, none⟩ = some (.int .i64 n17) ∧
  Put ⟨h3.size, 0, none⟩ (.int .i64 0) h22 fun h25 =>
  D.space_Take_c2 (some ⟨h1.size, 0, none⟩) (some ⟨h11.size, 0, none⟩) (some ⟨h3.size, 0, none⟩) h25 fun h26 =>
  ∃ (res6 : Int), cellOf h26 ⟨h3.size, 0, none⟩ = some (.int .i64 res6) ∧
  K (.tuple #[.int .i64 n17, .int .i64 res6]) h26)))))
def space_Take.lo : Nat → List Nat × List (Nat × Ty) := fun n => match n with | _ => ([], [])
def space_Take.od : Nat → Od := fun n => match n with | 4 => (.op 0 [] (.op 1 [] (.op 2 [] .nil))) | 9 => (.op 0 [] (.op 1 [] (.op 2 [] .nil))) | 13 => (.op 0 [] (.op 1 [] (.op 2 [] .nil))) | 14 => (.op 0 [] (.op 1 [] (.op 2 [0, 1] (.op 3 [] (.op 4 [] .nil))))) | 16 => (.op 0 [] (.op 1 [] (.op 2 [] .nil))) | _ => .nil
theorem space_Take.eq (t1 : Option Addr) (g1 : List Value) (K : Value → Heap → Prop) (h : Heap) : fnX (cx space_Take.lo space_Take.od) Tryd.f40 (Tryd.f40.body.getD .skip) [.pointer t1, .agg ⟨g1⟩] K h = space_Take t1 g1 K h := by kernel_rfl
theorem space_Take.chk : fnOk (cx space_Take.lo space_Take.od) Tryd.f40 (Tryd.f40.body.getD .skip) 2 = true := by kernel_rfl
theorem space_Take.ok {t1 : Option Addr} {g1 : List Value} {K : Value → Heap → Prop} {h : Heap} (hx : space_Take t1 g1 K h) : C.space_Take t1 g1 h K :=
  fn_to (cxOk _ _) Tryd.func40 (by kernel_rfl) space_Take.chk (by rw [space_Take.eq]; exact hx)
def bmap_file_set (f1 : Option Addr) (s1 : List Value) (at1 : Int) (bA1 : Option Addr) (bL1 : Nat) (bC1 : Nat) (num1 : Int) (K : Value → Heap → Prop) (h1 : Heap) : Prop :=
  New s1 96 h1 fun h2 =>
  ∃ (n1 : Int), cellOf h2 (Addr.add ⟨h1.size, 0, none⟩ 0) = some (.int .i64 n1) ∧
  bif (n1 != 3) then (
  ∃ cs1 : List Value, List.length cs1 = 2 ∧ Cells h2 ⟨h1.size, 0, none⟩ cs1 ∧
  C.bmap_file_own f1 cs1 h2 fun r1 h3 =>
  ∃ (q1 : Option Addr), r1 = .pointer q1 ∧
  onSome q1 fun p1 =>
  Put p1 (.int .i64 num1) h3 fun h4 =>
  K (.int .i64 0) h4) else (
  ∃ (n2 : Int), cellOf h2 (Addr.add ⟨h1.size, 0, none⟩ 1) = some (.int .i64 n2) ∧
  C.rec_Put bA1 bL1 bC1 (IntKind.wrap .i64 (4 * n2)) 4 (IntKind.wrap .u64 (num1)) h2 fun r2 h5 =>
  ∃ (n3 : Int), r2 = .int .i64 n3 ∧
  onSome f1 fun p2 =>
  ∃ (q2 : Option Addr), cellOf h5 (Addr.add p2 0) = some (.pointer q2) ∧
  C.txn_Txn_Write q2 at1 bA1 bL1 bC1 h5 fun r3 h6 =>
  ∃ (n4 : Int), r3 = .int .i64 n4 ∧
  K (.int .i64 n4) h6)
def bmap_file_set.lo : Nat → List Nat × List (Nat × Ty) := fun n => match n with | _ => ([], [])
def bmap_file_set.od : Nat → Od := fun n => match n with | _ => .nil
theorem bmap_file_set.eq (f1 : Option Addr) (s1 : List Value) (at1 : Int) (bA1 : Option Addr) (bL1 : Nat) (bC1 : Nat) (num1 : Int) (K : Value → Heap → Prop) (h : Heap) : fnX (cx bmap_file_set.lo bmap_file_set.od) Tryd.f41 (Tryd.f41.body.getD .skip) [.pointer f1, .agg ⟨s1⟩, .int .i64 at1, .slice bA1 bL1 bC1, .int .i64 num1] K h = bmap_file_set f1 s1 at1 bA1 bL1 bC1 num1 K h := by kernel_rfl
theorem bmap_file_set.chk : fnOk (cx bmap_file_set.lo bmap_file_set.od) Tryd.f41 (Tryd.f41.body.getD .skip) 5 = true := by kernel_rfl
theorem bmap_file_set.ok {f1 : Option Addr} {s1 : List Value} {at1 : Int} {bA1 : Option Addr} {bL1 : Nat} {bC1 : Nat} {num1 : Int} {K : Value → Heap → Prop} {h : Heap} (hx : bmap_file_set f1 s1 at1 bA1 bL1 bC1 num1 K h) : C.bmap_file_set f1 s1 at1 bA1 bL1 bC1 num1 h K :=
  fn_to (cxOk _ _) Tryd.func41 (by kernel_rfl) bmap_file_set.chk (by rw [bmap_file_set.eq]; exact hx)
def space_each (t1 : Option Addr) (g1 : List Value) (do1 : Value) (K : Value → Heap → Prop) (h1 : Heap) : Prop :=
  New g1 29 h1 fun h2 =>
  ∃ (n1 : Int), cellOf h2 (Addr.add ⟨h1.size, 0, none⟩ 1) = some (.int .i64 n1) ∧
  ∃ (I1 : Int → Heap → Prop) (M1 : Int → Heap → Nat), I1 n1 h2 ∧
  ∀ (k1 : Int), ∀ h3 : Heap, I1 k1 h3 →
  ∃ (n2 : Int), cellOf h3 (Addr.add ⟨h1.size, 0, none⟩ 2) = some (.int .i64 n2) ∧
  bif (decide (k1 < n2)) then (
  C.txn_Txn_Read t1 k1 h3 fun r1 h4 =>
  ∃ (sA1 : Option Addr) (sL1 : Nat) (sC1 : Nat) (n3 : Int), r1 = .tuple #[.slice sA1 sL1 sC1, .int .i64 n3] ∧
  bif (n3 != 0) then (
  K (.int .i64 n3) h4) else (
  ∃ (n4 : Int), cellOf h4 (Addr.add ⟨h1.size, 0, none⟩ 1) = some (.int .i64 n4) ∧
  HCallsV Tryd.prog do1 [.int .i64 (IntKind.wrap .i64 (4096 * (IntKind.wrap .i64 (k1 - n4)))), .slice sA1 sL1 sC1] h4 fun r2 h5 =>
  ∃ (b1 : Bool), r2 = .bool b1 ∧
  bif (!b1) then (
  K (.int .i64 0) h5) else (
  I1 (IntKind.wrap .i64 (k1 + 1)) h5 ∧ M1 (IntKind.wrap .i64 (k1 + 1)) h5 < M1 k1 h3))) else (
  K (.int .i64 0) h3)
def space_each.lo : Nat → List Nat × List (Nat × Ty) := fun n => match n with | 2 => ([0, 2, 4], [(7, .int .i64)]) | _ => ([], [])
def space_each.od : Nat → Od := fun n => match n with | _ => .nil
theorem space_each.eq (t1 : Option Addr) (g1 : List Value) (do1 : Value) (K : Value → Heap → Prop) (h : Heap) : fnX (cx space_each.lo space_each.od) Tryd.f42 (Tryd.f42.body.getD .skip) [.pointer t1, .agg ⟨g1⟩, do1] K h = space_each t1 g1 do1 K h := by kernel_rfl
theorem space_each.chk : fnOk (cx space_each.lo space_each.od) Tryd.f42 (Tryd.f42.body.getD .skip) 3 = true := by kernel_rfl
theorem space_each.ok {t1 : Option Addr} {g1 : List Value} {do1 : Value} {K : Value → Heap → Prop} {h : Heap} (hx : space_each t1 g1 do1 K h) : C.space_each t1 g1 do1 h K :=
  fn_to (cxOk _ _) Tryd.func42 (by kernel_rfl) space_each.chk (by rw [space_each.eq]; exact hx)
def space_Free_c1 (first1 : Int) (bA1 : Option Addr) (bL1 : Nat) (bC1 : Nat) (cap1 : Option Addr) (cap2 : Option Addr) (K : Value → Heap → Prop) (h1 : Heap) : Prop :=
  onSome cap1 fun p1 =>
  ∃ cs1 : List Value, List.length cs1 = 5 ∧ Cells h1 p1 cs1 ∧
  C.space_rows cs1 first1 bA1 bL1 bC1 (Value.func (.func 45) #[] ⟨[.pointer cap2]⟩) h1 fun r1 h2 =>
  r1 = .tuple #[] ∧
  K (.bool true) h2
def space_Free_c1.lo : Nat → List Nat × List (Nat × Ty) := fun n => match n with | _ => ([], [])
def space_Free_c1.od : Nat → Od := fun n => match n with | _ => .nil
theorem space_Free_c1.eq (first1 : Int) (bA1 : Option Addr) (bL1 : Nat) (bC1 : Nat) (cap1 : Option Addr) (cap2 : Option Addr) (K : Value → Heap → Prop) (h : Heap) : fnX (cx space_Free_c1.lo space_Free_c1.od) Tryd.f43 (Tryd.f43.body.getD .skip) [.int .i64 first1, .slice bA1 bL1 bC1, .pointer cap1, .pointer cap2] K h = space_Free_c1 first1 bA1 bL1 bC1 cap1 cap2 K h := by kernel_rfl
theorem space_Free_c1.chk : fnOk (cx space_Free_c1.lo space_Free_c1.od) Tryd.f43 (Tryd.f43.body.getD .skip) 4 = true := by kernel_rfl
theorem space_Free_c1.ok {first1 : Int} {bA1 : Option Addr} {bL1 : Nat} {bC1 : Nat} {cap1 : Option Addr} {cap2 : Option Addr} {K : Value → Heap → Prop} {h : Heap} (hx : space_Free_c1 first1 bA1 bL1 bC1 cap1 cap2 K h) : C.space_Free_c1 first1 bA1 bL1 bC1 cap1 cap2 h K :=
  fn_to (cxOk _ _) Tryd.func43 (by kernel_rfl) space_Free_c1.chk (by rw [space_Free_c1.eq]; exact hx)
def space_rows (g1 : List Value) (first1 : Int) (bA1 : Option Addr) (bL1 : Nat) (bC1 : Nat) (do1 : Value) (K : Value → Heap → Prop) (h1 : Heap) : Prop :=
  New g1 29 h1 fun h2 =>
  New [.int .i64 first1] 3 h2 fun h3 =>
  New (cellsL do1) 101 h3 fun h4 =>
  C.bits_Runs bA1 bL1 bC1 h4 fun r1 h5 =>
  ∃ (v1 : Value), r1 = v1 ∧
  ∀ (R1 : Loop),
  (∀ (n1 : Int) (n2 : Int), ∀ (h6 : Heap) (k1 : Value → Heap → Prop), LoopOn h6 (h5.size + 1) R1 .ready none →
  (
  LoopOn h6 (h5.size + 1) R1 .ready none ∧
  SetL h6 (h5.size + 1) R1 .busy none fun h7 =>
  ∃ (n3 : Int), cellOf h7 ⟨h2.size, 0, none⟩ = some (.int .i64 n3) ∧
  ∃ (n4 : Int), cellOf h7 (Addr.add ⟨h1.size, 0, none⟩ 3) = some (.int .i64 n4) ∧
  ∃ (n5 : Int), cellOf h7 ⟨h2.size, 0, none⟩ = some (.int .i64 n5) ∧
  ∃ (n6 : Int), cellOf h7 (Addr.add ⟨h1.size, 0, none⟩ 0) = some (.int .i64 n6) ∧
  bif (decide ((if n4 > (IntKind.wrap .i64 (n3 + n1)) then n4 else (IntKind.wrap .i64 (n3 + n1))) < (if n6 < (IntKind.wrap .i64 ((IntKind.wrap .i64 (n5 + n1)) + n2)) then n6 else (IntKind.wrap .i64 ((IntKind.wrap .i64 (n5 + n1)) + n2))))) then (
  ∃ (v2 : Value), cellOf h7 ⟨h3.size, 0, none⟩ = some (v2) ∧
  HCallsV Tryd.prog v2 [.int .i64 (if n4 > (IntKind.wrap .i64 (n3 + n1)) then n4 else (IntKind.wrap .i64 (n3 + n1))), .int .i64 (if n6 < (IntKind.wrap .i64 ((IntKind.wrap .i64 (n5 + n1)) + n2)) then n6 else (IntKind.wrap .i64 ((IntKind.wrap .i64 (n5 + n1)) + n2)))] h7 fun r2 h8 =>
  ∃ (b1 : Bool), r2 = .bool b1 ∧
  bif (!b1) then (
  LoopOn h8 (h5.size + 1) R1 .busy none ∧
  k1 (.bool false) (setLoop h8 (h5.size + 1) R1 .done (some .ret))) else (
  LoopOn h8 (h5.size + 1) R1 .busy none ∧
  k1 (.bool true) (setLoop h8 (h5.size + 1) R1 .ready none))) else (
  LoopOn h7 (h5.size + 1) R1 .busy none ∧
  k1 (.bool true) (setLoop h7 (h5.size + 1) R1 .ready none))) →
  YCalls Tryd.prog (h5.size + 1) [.int .i64 n1, .int .i64 n2] h6 k1) →
  HCallsF Tryd.prog v1 [.func (.yield (h5.size + 1)) #[] #[]] (beginL h5 R1) fun _ h9 =>
  ∃ (st1 : LoopState) (pend1 : Option Code), LoopOn h9 (h5.size + 1) R1 st1 pend1 ∧ st1 ≠ .busy ∧
  pendX pend1 (
  SetL h9 (h5.size + 1) R1 .exhausted pend1 fun h10 =>
  EndD h5.size h10 fun h11 =>
  K (.tuple #[]) h11) (
  SetL h9 (h5.size + 1) R1 .exhausted pend1 fun h12 =>
  EndD h5.size h12 fun h13 =>
  K (.tuple #[]) h13) (fun _ => False)
def space_rows.lo : Nat → List Nat × List (Nat × Ty) := fun n => match n with | 1000002 => ([], [(14, .int .i64), (15, .int .i64)]) | _ => ([], [])
def space_rows.od : Nat → Od := fun n => match n with | 4 => (.op 0 [] (.op 1 [] (.op 2 [] (.op 3 [] (.op 4 [] (.op 5 [] (.op 6 [] (.op 7 [] (.op 8 [] (.op 9 [] (.op 10 [] (.op 11 [] (.op 12 [] (.op 13 [] (.op 14 [] (.op 15 [] .nil)))))))))))))))) | _ => .nil
theorem space_rows.eq (g1 : List Value) (first1 : Int) (bA1 : Option Addr) (bL1 : Nat) (bC1 : Nat) (do1 : Value) (K : Value → Heap → Prop) (h : Heap) : fnX (cx space_rows.lo space_rows.od) Tryd.f44 (Tryd.f44.body.getD .skip) [.agg ⟨g1⟩, .int .i64 first1, .slice bA1 bL1 bC1, do1] K h = space_rows g1 first1 bA1 bL1 bC1 do1 K h := by kernel_rfl
theorem space_rows.chk : fnOk (cx space_rows.lo space_rows.od) Tryd.f44 (Tryd.f44.body.getD .skip) 4 = true := by kernel_rfl
theorem space_rows.ok {g1 : List Value} {first1 : Int} {bA1 : Option Addr} {bL1 : Nat} {bC1 : Nat} {do1 : Value} {K : Value → Heap → Prop} {h : Heap} (hx : space_rows g1 first1 bA1 bL1 bC1 do1 K h) : C.space_rows g1 first1 bA1 bL1 bC1 do1 h K :=
  fn_to (cxOk _ _) Tryd.func44 (by kernel_rfl) space_rows.chk (by rw [space_rows.eq]; exact hx)
def space_Free_c1_c1 (from1 : Int) (to1 : Int) (cap1 : Option Addr) (K : Value → Heap → Prop) (h1 : Heap) : Prop :=
  onSome cap1 fun p1 =>
  ∃ (n1 : Int), cellOf h1 p1 = some (.int .i64 n1) ∧
  onSome cap1 fun p2 =>
  Put p2 (.int .i64 (IntKind.wrap .i64 (n1 + (IntKind.wrap .i64 (to1 - from1))))) h1 fun h2 =>
  K (.bool true) h2
def space_Free_c1_c1.lo : Nat → List Nat × List (Nat × Ty) := fun n => match n with | _ => ([], [])
def space_Free_c1_c1.od : Nat → Od := fun n => match n with | _ => .nil
theorem space_Free_c1_c1.eq (from1 : Int) (to1 : Int) (cap1 : Option Addr) (K : Value → Heap → Prop) (h : Heap) : fnX (cx space_Free_c1_c1.lo space_Free_c1_c1.od) Tryd.f45 (Tryd.f45.body.getD .skip) [.int .i64 from1, .int .i64 to1, .pointer cap1] K h = space_Free_c1_c1 from1 to1 cap1 K h := by kernel_rfl
theorem space_Free_c1_c1.chk : fnOk (cx space_Free_c1_c1.lo space_Free_c1_c1.od) Tryd.f45 (Tryd.f45.body.getD .skip) 3 = true := by kernel_rfl
theorem space_Free_c1_c1.ok {from1 : Int} {to1 : Int} {cap1 : Option Addr} {K : Value → Heap → Prop} {h : Heap} (hx : space_Free_c1_c1 from1 to1 cap1 K h) : C.space_Free_c1_c1 from1 to1 cap1 h K :=
  fn_to (cxOk _ _) Tryd.func45 (by kernel_rfl) space_Free_c1_c1.chk (by rw [space_Free_c1_c1.eq]; exact hx)
def space_Used (t1 : Option Addr) (g1 : List Value) (i1 : Int) (K : Value → Heap → Prop) (h1 : Heap) : Prop :=
  New g1 29 h1 fun h2 =>
  ∃ cs1 : List Value, List.length cs1 = 5 ∧ Cells h2 ⟨h1.size, 0, none⟩ cs1 ∧
  C.space_bit t1 cs1 i1 h2 fun r1 h3 =>
  ∃ (n1 : Int) (sA1 : Option Addr) (sL1 : Nat) (sC1 : Nat) (n2 : Int) (n3 : Int), r1 = .tuple #[.int .i64 n1, .slice sA1 sL1 sC1, .int .i64 n2, .int .i64 n3] ∧
  bif (n3 != 0) then (
  K (.tuple #[.bool false, .int .i64 n3]) h3) else (
  C.bits_Get sA1 sL1 sC1 n2 h3 fun r2 h4 =>
  ∃ (b1 : Bool) (n4 : Int), r2 = .tuple #[.bool b1, .int .i64 n4] ∧
  K (.tuple #[.bool b1, .int .i64 n4]) h4)
def space_Used.lo : Nat → List Nat × List (Nat × Ty) := fun n => match n with | _ => ([], [])
def space_Used.od : Nat → Od := fun n => match n with | _ => .nil
theorem space_Used.eq (t1 : Option Addr) (g1 : List Value) (i1 : Int) (K : Value → Heap → Prop) (h : Heap) : fnX (cx space_Used.lo space_Used.od) Tryd.f46 (Tryd.f46.body.getD .skip) [.pointer t1, .agg ⟨g1⟩, .int .i64 i1] K h = space_Used t1 g1 i1 K h := by kernel_rfl
theorem space_Used.chk : fnOk (cx space_Used.lo space_Used.od) Tryd.f46 (Tryd.f46.body.getD .skip) 3 = true := by kernel_rfl
theorem space_Used.ok {t1 : Option Addr} {g1 : List Value} {i1 : Int} {K : Value → Heap → Prop} {h : Heap} (hx : space_Used t1 g1 i1 K h) : C.space_Used t1 g1 i1 h K :=
  fn_to (cxOk _ _) Tryd.func46 (by kernel_rfl) space_Used.chk (by rw [space_Used.eq]; exact hx)
def bmap_All_c1 (k1 : Int) (num1 : Int) (cap1 : Option Addr) (cap2 : Option Addr) (K : Value → Heap → Prop) (h1 : Heap) : Prop :=
  bif (num1 == 0) then (
  K (.int .i64 0) h1) else (
  onSome cap1 fun p1 =>
  ∃ (sA1 : Option Addr) (sL1 : Nat) (sC1 : Nat), cellOf h1 p1 = some (.slice sA1 sL1 sC1) ∧
  List.length ([.int .i64 k1, .int .i64 num1] : List Value) = 2 ∧
  New [.int .i64 k1, .int .i64 num1] 56 h1 fun h2 =>
  ∃ new1 : List Value, List.length new1 = 1 * 2 ∧ SlCells h2 (some ⟨h1.size, 0, none⟩) new1 ∧ (∀ v ∈ new1, v.oneCell' = true) ∧
  AppendP ti56 56 sA1 sL1 sC1 1 new1 h2 fun sA2 sL2 sC2 h3 =>
  onSome cap1 fun p2 =>
  Put p2 (.slice sA2 sL2 sC2) h3 fun h4 =>
  onSome cap2 fun p3 =>
  ∃ (q1 : Option Addr), cellOf h4 p3 = some (.pointer q1) ∧
  C.bmap_file_look q1 num1 h4 fun r1 h5 =>
  ∃ (n1 : Int), r1 = .int .i64 n1 ∧
  K (.int .i64 n1) h5)
def bmap_All_c1.lo : Nat → List Nat × List (Nat × Ty) := fun n => match n with | _ => ([], [])
def bmap_All_c1.od : Nat → Od := fun n => match n with | _ => .nil
theorem bmap_All_c1.eq (k1 : Int) (num1 : Int) (cap1 : Option Addr) (cap2 : Option Addr) (K : Value → Heap → Prop) (h : Heap) : fnX (cx bmap_All_c1.lo bmap_All_c1.od) Tryd.f47 (Tryd.f47.body.getD .skip) [.int .i64 k1, .int .i64 num1, .pointer cap1, .pointer cap2] K h = bmap_All_c1 k1 num1 cap1 cap2 K h := by kernel_rfl
theorem bmap_All_c1.chk : fnOk (cx bmap_All_c1.lo bmap_All_c1.od) Tryd.f47 (Tryd.f47.body.getD .skip) 4 = true := by kernel_rfl
theorem bmap_All_c1.ok {k1 : Int} {num1 : Int} {cap1 : Option Addr} {cap2 : Option Addr} {K : Value → Heap → Prop} {h : Heap} (hx : bmap_All_c1 k1 num1 cap1 cap2 K h) : C.bmap_All_c1 k1 num1 cap1 cap2 h K :=
  fn_to (cxOk _ _) Tryd.func47 (by kernel_rfl) bmap_All_c1.chk (by rw [bmap_All_c1.eq]; exact hx)
def bmap_file_look (f1 : Option Addr) (num1 : Int) (K : Value → Heap → Prop) (h1 : Heap) : Prop :=
  onSome f1 fun p1 =>
  ∃ (n1 : Int), cellOf h1 (Addr.add (Addr.add p1 1) 3) = some (.int .i64 n1) ∧
  bif (decide (num1 < n1)) then (
  K (.int .i64 100) h1) else (
  onSome f1 fun p2 =>
  ∃ (n2 : Int), cellOf h1 (Addr.add (Addr.add p2 1) 0) = some (.int .i64 n2) ∧
  bif (decide (num1 ≥ n2)) then (
  K (.int .i64 100) h1) else (
  K (.int .i64 0) h1))
def bmap_file_look.lo : Nat → List Nat × List (Nat × Ty) := fun n => match n with | _ => ([], [])
def bmap_file_look.od : Nat → Od := fun n => match n with | _ => .nil
theorem bmap_file_look.eq (f1 : Option Addr) (num1 : Int) (K : Value → Heap → Prop) (h : Heap) : fnX (cx bmap_file_look.lo bmap_file_look.od) Tryd.f48 (Tryd.f48.body.getD .skip) [.pointer f1, .int .i64 num1] K h = bmap_file_look f1 num1 K h := by kernel_rfl
theorem bmap_file_look.chk : fnOk (cx bmap_file_look.lo bmap_file_look.od) Tryd.f48 (Tryd.f48.body.getD .skip) 2 = true := by kernel_rfl
theorem bmap_file_look.ok {f1 : Option Addr} {num1 : Int} {K : Value → Heap → Prop} {h : Heap} (hx : bmap_file_look f1 num1 K h) : C.bmap_file_look f1 num1 h K :=
  fn_to (cxOk _ _) Tryd.func48 (by kernel_rfl) bmap_file_look.chk (by rw [bmap_file_look.eq]; exact hx)
def bmap_All_c2.k1 (do1 : Value) (sA2 : Option Addr) (sL2 : Nat) (e1 : Int) (i1 : Int) (h6 : Heap) (I1 : Int → Int → Heap → Prop) (M1 : Int → Int → Heap → Nat) (K : Value → Heap → Prop) : Prop :=
  (0 ≤ i1 ∧ i1 < (sL2 : Int)) ∧
  onSome sA2 fun p4 =>
  ∃ (n2 : Int), cellOf h6 (Addr.add p4 (Int.toNat i1)) = some (.int .i64 n2) ∧
  HCallsV Tryd.prog do1 [.int .i64 i1, .int .i64 n2] h6 fun r2 h7 =>
  ∃ (n3 : Int), r2 = .int .i64 n3 ∧
  I1 n3 (IntKind.wrap .i64 (i1 + 1)) h7 ∧ M1 n3 (IntKind.wrap .i64 (i1 + 1)) h7 < M1 e1 i1 h6
def bmap_All_c2 (table1 : Int) (do1 : Value) (cap1 : Option Addr) (cap2 : Option Addr) (K : Value → Heap → Prop) (h1 : Heap) : Prop :=
  bif (table1 == 0) then (
  K (.int .i64 0) h1) else (
  onSome cap1 fun p1 =>
  ∃ (q1 : Option Addr), cellOf h1 p1 = some (.pointer q1) ∧
  C.bmap_file_numbers q1 table1 h1 fun r1 h2 =>
  ∃ (sA1 : Option Addr) (sL1 : Nat) (sC1 : Nat) (sA2 : Option Addr) (sL2 : Nat) (sC2 : Nat) (n1 : Int), r1 = .tuple #[.slice sA1 sL1 sC1, .slice sA2 sL2 sC2, .int .i64 n1] ∧
  onSome cap2 fun p2 =>
  ∃ (sA3 : Option Addr) (sL3 : Nat) (sC3 : Nat), cellOf h2 p2 = some (.slice sA3 sL3 sC3) ∧
  New [.int .i64 table1] 3 h2 fun h3 =>
  ∃ new1 : List Value, List.length new1 = 1 * 1 ∧ SlCells h3 (some ⟨h2.size, 0, none⟩) new1 ∧ (∀ v ∈ new1, v.oneCell' = true) ∧
  AppendP ti3 3 sA3 sL3 sC3 1 new1 h3 fun sA4 sL4 sC4 h4 =>
  onSome cap2 fun p3 =>
  Put p3 (.slice sA4 sL4 sC4) h4 fun h5 =>
  ∃ (I1 : Int → Int → Heap → Prop) (M1 : Int → Int → Heap → Nat), I1 n1 0 h5 ∧
  ∀ (e1 : Int) (i1 : Int), ∀ h6 : Heap, I1 e1 i1 h6 →
  bif (decide (i1 < (sL2 : Int))) then (
  bif (e1 == 0) then (
  bmap_All_c2.k1 do1 sA2 sL2 e1 i1 h6 I1 M1 K) else (
  K (.int .i64 e1) h6)) else (
  K (.int .i64 e1) h6))
def bmap_All_c2.lo : Nat → List Nat × List (Nat × Ty) := fun n => match n with | 6 => ([1, 8], [(9, .int .i64), (10, .int .i64)]) | _ => ([], [])
def bmap_All_c2.od : Nat → Od := fun n => match n with | _ => .nil
theorem bmap_All_c2.eq (table1 : Int) (do1 : Value) (cap1 : Option Addr) (cap2 : Option Addr) (K : Value → Heap → Prop) (h : Heap) : fnX (cx bmap_All_c2.lo bmap_All_c2.od) Tryd.f49 (Tryd.f49.body.getD .skip) [.int .i64 table1, do1, .pointer cap1, .pointer cap2] K h = bmap_All_c2 table1 do1 cap1 cap2 K h := by kernel_rfl
theorem bmap_All_c2.chk : fnOk (cx bmap_All_c2.lo bmap_All_c2.od) Tryd.f49 (Tryd.f49.body.getD .skip) 4 = true := by kernel_rfl
theorem bmap_All_c2.ok {table1 : Int} {do1 : Value} {cap1 : Option Addr} {cap2 : Option Addr} {K : Value → Heap → Prop} {h : Heap} (hx : bmap_All_c2 table1 do1 cap1 cap2 K h) : C.bmap_All_c2 table1 do1 cap1 cap2 h K :=
  fn_to (cxOk _ _) Tryd.func49 (by kernel_rfl) bmap_All_c2.chk (by rw [bmap_All_c2.eq]; exact hx)
def bmap_file_numbers (f1 : Option Addr) (table1 : Int) (K : Value → Heap → Prop) (h1 : Heap) : Prop :=
  C.bmap_file_look f1 table1 h1 fun r1 h2 =>
  ∃ (n1 : Int), r1 = .int .i64 n1 ∧
  bif (n1 != 0) then (
  K (.tuple #[.slice none 0 0, .slice none 0 0, .int .i64 n1]) h2) else (
  onSome f1 fun p1 =>
  ∃ (q1 : Option Addr), cellOf h2 (Addr.add p1 0) = some (.pointer q1) ∧
  C.txn_Txn_Read q1 table1 h2 fun r2 h3 =>
  ∃ (sA1 : Option Addr) (sL1 : Nat) (sC1 : Nat) (n2 : Int), r2 = .tuple #[.slice sA1 sL1 sC1, .int .i64 n2] ∧
  bif (n2 != 0) then (
  K (.tuple #[.slice none 0 0, .slice none 0 0, .int .i64 n2]) h3) else (
  (0 ≤ (128 : Int) ∧ (128 : Int) ≤ 128 ∧ (8 : Int) * 128 ≤ 281474976710656 ∧ (128 : Int) ≤ 281474976710656) ∧
  New (repCells z3 (Int.toNat 128)) 3 h3 fun h4 =>
  ∃ (I1 : Int → Heap → Prop) (M1 : Int → Heap → Nat), I1 0 h4 ∧
  ∀ (n3 : Int), ∀ h5 : Heap, I1 n3 h5 →
  bif (decide (n3 < ((Int.toNat 128) : Int))) then (
  C.rec_Get sA1 sL1 sC1 (IntKind.wrap .i64 (4 * n3)) 4 h5 fun r3 h6 =>
  ∃ (n4 : Int) (n5 : Int), r3 = .tuple #[.int .u64 n4, .int .i64 n5] ∧
  (0 ≤ n3 ∧ n3 < ((Int.toNat 128) : Int)) ∧
  Put (Addr.add ⟨h3.size, 0, none⟩ (Int.toNat n3)) (.int .i64 (IntKind.wrap .i64 (n4))) h6 fun h7 =>
  I1 (IntKind.wrap .i64 (n3 + 1)) h7 ∧ M1 (IntKind.wrap .i64 (n3 + 1)) h7 < M1 n3 h5) else (
  K (.tuple #[.slice sA1 sL1 sC1, .slice (some ⟨h3.size, 0, none⟩) (Int.toNat 128) (Int.toNat 128), .int .i64 0]) h5)))
def bmap_file_numbers.lo : Nat → List Nat × List (Nat × Ty) := fun n => match n with | 9 => ([8, 10, 34], [(35, .int .i64)]) | _ => ([], [])
def bmap_file_numbers.od : Nat → Od := fun n => match n with | _ => .nil
theorem bmap_file_numbers.eq (f1 : Option Addr) (table1 : Int) (K : Value → Heap → Prop) (h : Heap) : fnX (cx bmap_file_numbers.lo bmap_file_numbers.od) Tryd.f50 (Tryd.f50.body.getD .skip) [.pointer f1, .int .i64 table1] K h = bmap_file_numbers f1 table1 K h := by kernel_rfl
theorem bmap_file_numbers.chk : fnOk (cx bmap_file_numbers.lo bmap_file_numbers.od) Tryd.f50 (Tryd.f50.body.getD .skip) 2 = true := by kernel_rfl
theorem bmap_file_numbers.ok {f1 : Option Addr} {table1 : Int} {K : Value → Heap → Prop} {h : Heap} (hx : bmap_file_numbers f1 table1 K h) : C.bmap_file_numbers f1 table1 h K :=
  fn_to (cxOk _ _) Tryd.func50 (by kernel_rfl) bmap_file_numbers.chk (by rw [bmap_file_numbers.eq]; exact hx)
def bmap_All_c3 (i1 : Int) (num1 : Int) (cap1 : Option Addr) (K : Value → Heap → Prop) (h1 : Heap) : Prop :=
  onSome cap1 fun p1 =>
  ∃ (v1 : Value), cellOf h1 p1 = some (v1) ∧
  HCallsV Tryd.prog v1 [.int .i64 (IntKind.wrap .i64 (10 + i1)), .int .i64 num1] h1 fun r1 h2 =>
  ∃ (n1 : Int), r1 = .int .i64 n1 ∧
  K (.int .i64 n1) h2
def bmap_All_c3.lo : Nat → List Nat × List (Nat × Ty) := fun n => match n with | _ => ([], [])
def bmap_All_c3.od : Nat → Od := fun n => match n with | _ => .nil
theorem bmap_All_c3.eq (i1 : Int) (num1 : Int) (cap1 : Option Addr) (K : Value → Heap → Prop) (h : Heap) : fnX (cx bmap_All_c3.lo bmap_All_c3.od) Tryd.f51 (Tryd.f51.body.getD .skip) [.int .i64 i1, .int .i64 num1, .pointer cap1] K h = bmap_All_c3 i1 num1 cap1 K h := by kernel_rfl
theorem bmap_All_c3.chk : fnOk (cx bmap_All_c3.lo bmap_All_c3.od) Tryd.f51 (Tryd.f51.body.getD .skip) 3 = true := by kernel_rfl
theorem bmap_All_c3.ok {i1 : Int} {num1 : Int} {cap1 : Option Addr} {K : Value → Heap → Prop} {h : Heap} (hx : bmap_All_c3 i1 num1 cap1 K h) : C.bmap_All_c3 i1 num1 cap1 h K :=
  fn_to (cxOk _ _) Tryd.func51 (by kernel_rfl) bmap_All_c3.chk (by rw [bmap_All_c3.eq]; exact hx)
def bmap_All_c4 (i1 : Int) (table1 : Int) (cap1 : Option Addr) (cap2 : Option Addr) (K : Value → Heap → Prop) (h1 : Heap) : Prop :=
  New [.int .i64 i1] 3 h1 fun h2 =>
  onSome cap1 fun p1 =>
  ∃ (v1 : Value), cellOf h2 p1 = some (v1) ∧
  HCallsV Tryd.prog v1 [.int .i64 table1, .func (.func 53) #[] ⟨[.pointer cap2, .pointer (some ⟨h1.size, 0, none⟩)]⟩] h2 fun r1 h3 =>
  ∃ (n1 : Int), r1 = .int .i64 n1 ∧
  K (.int .i64 n1) h3
def bmap_All_c4.lo : Nat → List Nat × List (Nat × Ty) := fun n => match n with | _ => ([], [])
def bmap_All_c4.od : Nat → Od := fun n => match n with | _ => .nil
theorem bmap_All_c4.eq (i1 : Int) (table1 : Int) (cap1 : Option Addr) (cap2 : Option Addr) (K : Value → Heap → Prop) (h : Heap) : fnX (cx bmap_All_c4.lo bmap_All_c4.od) Tryd.f52 (Tryd.f52.body.getD .skip) [.int .i64 i1, .int .i64 table1, .pointer cap1, .pointer cap2] K h = bmap_All_c4 i1 table1 cap1 cap2 K h := by kernel_rfl
theorem bmap_All_c4.chk : fnOk (cx bmap_All_c4.lo bmap_All_c4.od) Tryd.f52 (Tryd.f52.body.getD .skip) 4 = true := by kernel_rfl
theorem bmap_All_c4.ok {i1 : Int} {table1 : Int} {cap1 : Option Addr} {cap2 : Option Addr} {K : Value → Heap → Prop} {h : Heap} (hx : bmap_All_c4 i1 table1 cap1 cap2 K h) : C.bmap_All_c4 i1 table1 cap1 cap2 h K :=
  fn_to (cxOk _ _) Tryd.func52 (by kernel_rfl) bmap_All_c4.chk (by rw [bmap_All_c4.eq]; exact hx)
def bmap_All_c4_c1 (j1 : Int) (num1 : Int) (cap1 : Option Addr) (cap2 : Option Addr) (K : Value → Heap → Prop) (h1 : Heap) : Prop :=
  onSome cap1 fun p1 =>
  ∃ (v1 : Value), cellOf h1 p1 = some (v1) ∧
  onSome cap2 fun p2 =>
  ∃ (n1 : Int), cellOf h1 p2 = some (.int .i64 n1) ∧
  HCallsV Tryd.prog v1 [.int .i64 (IntKind.wrap .i64 ((IntKind.wrap .i64 (138 + (IntKind.wrap .i64 (n1 * 128)))) + j1)), .int .i64 num1] h1 fun r1 h2 =>
  ∃ (n2 : Int), r1 = .int .i64 n2 ∧
  K (.int .i64 n2) h2
def bmap_All_c4_c1.lo : Nat → List Nat × List (Nat × Ty) := fun n => match n with | _ => ([], [])
def bmap_All_c4_c1.od : Nat → Od := fun n => match n with | _ => .nil
theorem bmap_All_c4_c1.eq (j1 : Int) (num1 : Int) (cap1 : Option Addr) (cap2 : Option Addr) (K : Value → Heap → Prop) (h : Heap) : fnX (cx bmap_All_c4_c1.lo bmap_All_c4_c1.od) Tryd.f53 (Tryd.f53.body.getD .skip) [.int .i64 j1, .int .i64 num1, .pointer cap1, .pointer cap2] K h = bmap_All_c4_c1 j1 num1 cap1 cap2 K h := by kernel_rfl
theorem bmap_All_c4_c1.chk : fnOk (cx bmap_All_c4_c1.lo bmap_All_c4_c1.od) Tryd.f53 (Tryd.f53.body.getD .skip) 4 = true := by kernel_rfl
theorem bmap_All_c4_c1.ok {j1 : Int} {num1 : Int} {cap1 : Option Addr} {cap2 : Option Addr} {K : Value → Heap → Prop} {h : Heap} (hx : bmap_All_c4_c1 j1 num1 cap1 cap2 K h) : C.bmap_All_c4_c1 j1 num1 cap1 cap2 h K :=
  fn_to (cxOk _ _) Tryd.func53 (by kernel_rfl) bmap_All_c4_c1.chk (by rw [bmap_All_c4_c1.eq]; exact hx)
def adisk_New (n1 : Int) (K : Value → Heap → Prop) (h1 : Heap) : Prop :=
  bif (decide (n1 < 1)) then (
  K (.tuple #[.pointer none, .int .i64 32]) h1) else (
  bif (decide (n1 > 16384)) then (
  K (.tuple #[.pointer none, .int .i64 32]) h1) else (
  (0 ≤ n1 ∧ n1 ≤ n1 ∧ (512 : Int) * n1 ≤ 281474976710656 ∧ n1 ≤ 281474976710656) ∧
  New (repCells z145 (Int.toNat n1)) 145 h1 fun h2 =>
  New [.slice (some ⟨h1.size, 0, none⟩) (Int.toNat n1) (Int.toNat n1), .slice none 0 0, .int .i64 0, .slice none 0 0, .bool false, .int .i64 0, .int .i64 0, .slice none 0 0] 143 h2 fun h3 =>
  K (.tuple #[.pointer (some ⟨h2.size, 0, none⟩), .int .i64 0]) h3))
def adisk_New.lo : Nat → List Nat × List (Nat × Ty) := fun n => match n with | _ => ([], [])
def adisk_New.od : Nat → Od := fun n => match n with | _ => .nil
set_option maxRecDepth 1000000 in
theorem adisk_New.eq (n1 : Int) (K : Value → Heap → Prop) (h : Heap) : fnX (cx adisk_New.lo adisk_New.od) Tryd.f54 (Tryd.f54.body.getD .skip) [.int .i64 n1] K h = adisk_New n1 K h := by kernel_rfl
theorem adisk_New.chk : fnOk (cx adisk_New.lo adisk_New.od) Tryd.f54 (Tryd.f54.body.getD .skip) 1 = true := by kernel_rfl
set_option maxRecDepth 1000000 in
theorem adisk_New.ok {n1 : Int} {K : Value → Heap → Prop} {h : Heap} (hx : adisk_New n1 K h) : C.adisk_New n1 h K :=
  fn_to (cxOk _ _) Tryd.func54 (by kernel_rfl) adisk_New.chk (by rw [adisk_New.eq]; exact hx)
end Go.Proofs.YtcdpakjhjmchhaaDoor.W
namespace Go.Proofs.YtcdpakjhjmchhaaDoor.W
open Go Go.Proofs Go.Proofs.YtcdpakjhjmchhaaDoor.Wx
def txn_Txn_Write.k1 (bA1 : Option Addr) (bL1 : Nat) (bC1 : Nat) (h1 : Heap) (h2 : Heap) (was1 : Option Addr) (ok1 : Option Addr) (h8 : Heap) (K : Value → Heap → Prop) : Prop :=
  ∃ (q2 : Option Addr), cellOf h8 ⟨h1.size, 0, none⟩ = some (.pointer q2) ∧
  onSome q2 fun p2 =>
  ∃ (b1 : Bool), cellOf h8 (Addr.add p2 3) = some (.bool b1) ∧
  bif b1 then (
  K (.int .i64 61) h8) else (
  ∃ (n2 : Int), cellOf h8 ⟨h2.size, 0, none⟩ = some (.int .i64 n2) ∧
  bif (decide (n2 < 98)) then (
  K (.int .i64 31) h8) else (
  ∃ (n3 : Int), cellOf h8 ⟨h2.size, 0, none⟩ = some (.int .i64 n3) ∧
  ∃ (q3 : Option Addr), cellOf h8 ⟨h1.size, 0, none⟩ = some (.pointer q3) ∧
  onSome q3 fun p3 =>
  ∃ (q4 : Option Addr), cellOf h8 (Addr.add p3 0) = some (.pointer q4) ∧
  C.adisk_Disk_Blocks q4 h8 fun r1 h9 =>
  ∃ (n4 : Int), r1 = .int .i64 n4 ∧
  (cellOf h9 ⟨h2.size, 0, none⟩ = some (.int .i64 n3)) ∧
  bif (decide (n3 ≥ n4)) then (
  K (.int .i64 31) h9) else (
  bif ((bL1 : Int) != 512) then (
  K (.int .i64 32) h9) else (
  onSome ok1 fun p4 =>
  ∃ (b2 : Bool), cellOf h9 p4 = some (.bool b2) ∧
  bif (!b2) then (
  ∃ (q5 : Option Addr), cellOf h9 ⟨h1.size, 0, none⟩ = some (.pointer q5) ∧
  onSome q5 fun p5 =>
  ∃ (m2 : Option Nat), cellOf h9 (Addr.add p5 1) = some (.map m2) ∧
  MapIn (.int .i64) m2 h9 fun mm2 =>
  bif (decide ((List.length mm2 : Int) ≥ 96)) then (
  K (.int .i64 60) h9) else (
  ∃ (q6 : Option Addr), cellOf h9 ⟨h1.size, 0, none⟩ = some (.pointer q6) ∧
  ∃ (q7 : Option Addr), cellOf h9 ⟨h1.size, 0, none⟩ = some (.pointer q7) ∧
  onSome q7 fun p6 =>
  ∃ (sA2 : Option Addr) (sL2 : Nat) (sC2 : Nat), cellOf h9 (Addr.add p6 2) = some (.slice sA2 sL2 sC2) ∧
  New [.func (.func 110) #[] ⟨[.pointer ok1, .pointer was1, .pointer (some ⟨h1.size, 0, none⟩), .pointer (some ⟨h2.size, 0, none⟩)]⟩] 1 h9 fun h10 =>
  (cellOf h10 ⟨h1.size, 0, none⟩ = some (.pointer q6)) ∧
  (cellOf h10 ⟨h1.size, 0, none⟩ = some (.pointer q7)) ∧
  (cellOf h10 (Addr.add p6 2) = some (.slice sA2 sL2 sC2)) ∧
  ∃ new1 : List Value, List.length new1 = 1 * 1 ∧ SlCells h10 (some ⟨h9.size, 0, none⟩) new1 ∧ (∀ v ∈ new1, v.oneCell' = true) ∧
  AppendP ti1 1 sA2 sL2 sC2 1 new1 h10 fun sA3 sL3 sC3 h11 =>
  (cellOf h11 ⟨h1.size, 0, none⟩ = some (.pointer q6)) ∧
  onSome q6 fun p7 =>
  Put (Addr.add p7 2) (.slice sA3 sL3 sC3) h11 fun h12 =>
  ∃ (q8 : Option Addr), cellOf h12 ⟨h1.size, 0, none⟩ = some (.pointer q8) ∧
  onSome q8 fun p8 =>
  ∃ (m3 : Option Nat), cellOf h12 (Addr.add p8 1) = some (.map m3) ∧
  ∃ (n5 : Int), cellOf h12 ⟨h2.size, 0, none⟩ = some (.int .i64 n5) ∧
  C.slices_Clone_byte_byte bA1 bL1 bC1 h12 fun r2 h13 =>
  ∃ (sA4 : Option Addr) (sL4 : Nat) (sC4 : Nat), r2 = .slice sA4 sL4 sC4 ∧
  (cellOf h13 ⟨h1.size, 0, none⟩ = some (.pointer q8)) ∧
  (cellOf h13 (Addr.add p8 1) = some (.map m3)) ∧
  (cellOf h13 ⟨h2.size, 0, none⟩ = some (.int .i64 n5)) ∧
  onSome m3 fun r3 =>
  MapPut (.int .i64) r3 (.i n5) (.slice sA4 sL4 sC4) h13 fun h14 =>
  K (.int .i64 0) h14)) else (
  ∃ (q9 : Option Addr), cellOf h9 ⟨h1.size, 0, none⟩ = some (.pointer q9) ∧
  ∃ (q10 : Option Addr), cellOf h9 ⟨h1.size, 0, none⟩ = some (.pointer q10) ∧
  onSome q10 fun p9 =>
  ∃ (sA5 : Option Addr) (sL5 : Nat) (sC5 : Nat), cellOf h9 (Addr.add p9 2) = some (.slice sA5 sL5 sC5) ∧
  New [.func (.func 110) #[] ⟨[.pointer ok1, .pointer was1, .pointer (some ⟨h1.size, 0, none⟩), .pointer (some ⟨h2.size, 0, none⟩)]⟩] 1 h9 fun h15 =>
  (cellOf h15 ⟨h1.size, 0, none⟩ = some (.pointer q9)) ∧
  (cellOf h15 ⟨h1.size, 0, none⟩ = some (.pointer q10)) ∧
  (cellOf h15 (Addr.add p9 2) = some (.slice sA5 sL5 sC5)) ∧
  ∃ new2 : List Value, List.length new2 = 1 * 1 ∧ SlCells h15 (some ⟨h9.size, 0, none⟩) new2 ∧ (∀ v ∈ new2, v.oneCell' = true) ∧
  AppendP ti1 1 sA5 sL5 sC5 1 new2 h15 fun sA6 sL6 sC6 h16 =>
  (cellOf h16 ⟨h1.size, 0, none⟩ = some (.pointer q9)) ∧
  onSome q9 fun p10 =>
  Put (Addr.add p10 2) (.slice sA6 sL6 sC6) h16 fun h17 =>
  ∃ (q11 : Option Addr), cellOf h17 ⟨h1.size, 0, none⟩ = some (.pointer q11) ∧
  onSome q11 fun p11 =>
  ∃ (m4 : Option Nat), cellOf h17 (Addr.add p11 1) = some (.map m4) ∧
  ∃ (n6 : Int), cellOf h17 ⟨h2.size, 0, none⟩ = some (.int .i64 n6) ∧
  C.slices_Clone_byte_byte bA1 bL1 bC1 h17 fun r4 h18 =>
  ∃ (sA7 : Option Addr) (sL7 : Nat) (sC7 : Nat), r4 = .slice sA7 sL7 sC7 ∧
  (cellOf h18 ⟨h1.size, 0, none⟩ = some (.pointer q11)) ∧
  (cellOf h18 (Addr.add p11 1) = some (.map m4)) ∧
  (cellOf h18 ⟨h2.size, 0, none⟩ = some (.int .i64 n6)) ∧
  onSome m4 fun r5 =>
  MapPut (.int .i64) r5 (.i n6) (.slice sA7 sL7 sC7) h18 fun h19 =>
  K (.int .i64 0) h19)))))
def txn_Txn_Write (t1 : Option Addr) (i1 : Int) (bA1 : Option Addr) (bL1 : Nat) (bC1 : Nat) (K : Value → Heap → Prop) (h1 : Heap) : Prop :=
  New [.pointer t1] 26 h1 fun h2 =>
  New [.int .i64 i1] 3 h2 fun h3 =>
  ∃ (q1 : Option Addr), cellOf h3 ⟨h1.size, 0, none⟩ = some (.pointer q1) ∧
  onSome q1 fun p1 =>
  ∃ (m1 : Option Nat), cellOf h3 (Addr.add p1 1) = some (.map m1) ∧
  ∃ (n1 : Int), cellOf h3 ⟨h2.size, 0, none⟩ = some (.int .i64 n1) ∧
  (
  MapIn (.int .i64) m1 h3 fun mm1 =>
  ∃ (sA1 : Option Addr) (sL1 : Nat) (sC1 : Nat), Option.getD (mget mm1 (.i n1)) (zeroV ti72) = .slice sA1 sL1 sC1 ∧
  (
  New z72 72 h3 fun h4 =>
  (cellOf h4 ⟨h1.size, 0, none⟩ = some (.pointer q1)) ∧
  (cellOf h4 (Addr.add p1 1) = some (.map m1)) ∧
  (cellOf h4 ⟨h2.size, 0, none⟩ = some (.int .i64 n1)) ∧
  New z4 4 h4 fun h5 =>
  (cellOf h5 ⟨h1.size, 0, none⟩ = some (.pointer q1)) ∧
  (cellOf h5 (Addr.add p1 1) = some (.map m1)) ∧
  (cellOf h5 ⟨h2.size, 0, none⟩ = some (.int .i64 n1)) ∧
  Put ⟨h3.size, 0, none⟩ (.slice sA1 sL1 sC1) h5 fun h6 =>
  Put ⟨h4.size, 0, none⟩ (.bool (Option.isSome (mget mm1 (.i n1)))) h6 fun h7 =>
  txn_Txn_Write.k1 bA1 bL1 bC1 h1 h2 (some ⟨h3.size, 0, none⟩) (some ⟨h4.size, 0, none⟩) h7 K) ∧
  New z4 4 h3 fun h20 =>
  (cellOf h20 ⟨h1.size, 0, none⟩ = some (.pointer q1)) ∧
  (cellOf h20 (Addr.add p1 1) = some (.map m1)) ∧
  (cellOf h20 ⟨h2.size, 0, none⟩ = some (.int .i64 n1)) ∧
  New z72 72 h20 fun h21 =>
  (cellOf h21 ⟨h1.size, 0, none⟩ = some (.pointer q1)) ∧
  (cellOf h21 (Addr.add p1 1) = some (.map m1)) ∧
  (cellOf h21 ⟨h2.size, 0, none⟩ = some (.int .i64 n1)) ∧
  Put ⟨h20.size, 0, none⟩ (.slice sA1 sL1 sC1) h21 fun h22 =>
  Put ⟨h3.size, 0, none⟩ (.bool (Option.isSome (mget mm1 (.i n1)))) h22 fun h23 =>
  txn_Txn_Write.k1 bA1 bL1 bC1 h1 h2 (some ⟨h20.size, 0, none⟩) (some ⟨h3.size, 0, none⟩) h23 K) ∧
  (
  New z72 72 h3 fun h24 =>
  (cellOf h24 ⟨h1.size, 0, none⟩ = some (.pointer q1)) ∧
  (cellOf h24 (Addr.add p1 1) = some (.map m1)) ∧
  (cellOf h24 ⟨h2.size, 0, none⟩ = some (.int .i64 n1)) ∧
  (
  MapIn (.int .i64) m1 h24 fun mm3 =>
  ∃ (sA8 : Option Addr) (sL8 : Nat) (sC8 : Nat), Option.getD (mget mm3 (.i n1)) (zeroV ti72) = .slice sA8 sL8 sC8 ∧
  New z4 4 h24 fun h25 =>
  (cellOf h25 ⟨h1.size, 0, none⟩ = some (.pointer q1)) ∧
  (cellOf h25 (Addr.add p1 1) = some (.map m1)) ∧
  (cellOf h25 ⟨h2.size, 0, none⟩ = some (.int .i64 n1)) ∧
  Put ⟨h3.size, 0, none⟩ (.slice sA8 sL8 sC8) h25 fun h26 =>
  Put ⟨h24.size, 0, none⟩ (.bool (Option.isSome (mget mm3 (.i n1)))) h26 fun h27 =>
  txn_Txn_Write.k1 bA1 bL1 bC1 h1 h2 (some ⟨h3.size, 0, none⟩) (some ⟨h24.size, 0, none⟩) h27 K) ∧
  New z4 4 h24 fun h28 =>
  (cellOf h28 ⟨h1.size, 0, none⟩ = some (.pointer q1)) ∧
  (cellOf h28 (Addr.add p1 1) = some (.map m1)) ∧
  (cellOf h28 ⟨h2.size, 0, none⟩ = some (.int .i64 n1)) ∧
  MapIn (.int .i64) m1 h28 fun mm4 =>
  ∃ (sA9 : Option Addr) (sL9 : Nat) (sC9 : Nat), Option.getD (mget mm4 (.i n1)) (zeroV ti72) = .slice sA9 sL9 sC9 ∧
  Put ⟨h3.size, 0, none⟩ (.slice sA9 sL9 sC9) h28 fun h29 =>
  Put ⟨h24.size, 0, none⟩ (.bool (Option.isSome (mget mm4 (.i n1)))) h29 fun h30 =>
  txn_Txn_Write.k1 bA1 bL1 bC1 h1 h2 (some ⟨h3.size, 0, none⟩) (some ⟨h24.size, 0, none⟩) h30 K) ∧
  New z4 4 h3 fun h31 =>
  (cellOf h31 ⟨h1.size, 0, none⟩ = some (.pointer q1)) ∧
  (cellOf h31 (Addr.add p1 1) = some (.map m1)) ∧
  (cellOf h31 ⟨h2.size, 0, none⟩ = some (.int .i64 n1)) ∧
  (
  MapIn (.int .i64) m1 h31 fun mm5 =>
  ∃ (sA10 : Option Addr) (sL10 : Nat) (sC10 : Nat), Option.getD (mget mm5 (.i n1)) (zeroV ti72) = .slice sA10 sL10 sC10 ∧
  New z72 72 h31 fun h32 =>
  (cellOf h32 ⟨h1.size, 0, none⟩ = some (.pointer q1)) ∧
  (cellOf h32 (Addr.add p1 1) = some (.map m1)) ∧
  (cellOf h32 ⟨h2.size, 0, none⟩ = some (.int .i64 n1)) ∧
  Put ⟨h31.size, 0, none⟩ (.slice sA10 sL10 sC10) h32 fun h33 =>
  Put ⟨h3.size, 0, none⟩ (.bool (Option.isSome (mget mm5 (.i n1)))) h33 fun h34 =>
  txn_Txn_Write.k1 bA1 bL1 bC1 h1 h2 (some ⟨h31.size, 0, none⟩) (some ⟨h3.size, 0, none⟩) h34 K) ∧
  New z72 72 h31 fun h35 =>
  (cellOf h35 ⟨h1.size, 0, none⟩ = some (.pointer q1)) ∧
  (cellOf h35 (Addr.add p1 1) = some (.map m1)) ∧
  (cellOf h35 ⟨h2.size, 0, none⟩ = some (.int .i64 n1)) ∧
  MapIn (.int .i64) m1 h35 fun mm6 =>
  ∃ (sA11 : Option Addr) (sL11 : Nat) (sC11 : Nat), Option.getD (mget mm6 (.i n1)) (zeroV ti72) = .slice sA11 sL11 sC11 ∧
  Put ⟨h31.size, 0, none⟩ (.slice sA11 sL11 sC11) h35 fun h36 =>
  Put ⟨h3.size, 0, none⟩ (.bool (Option.isSome (mget mm6 (.i n1)))) h36 fun h37 =>
  txn_Txn_Write.k1 bA1 bL1 bC1 h1 h2 (some ⟨h31.size, 0, none⟩) (some ⟨h3.size, 0, none⟩) h37 K
def txn_Txn_Write.lo : Nat → List Nat × List (Nat × Ty) := fun n => match n with | _ => ([], [])
set_option maxRecDepth 100000 in
def txn_Txn_Write.od : Nat → Od := fun n => match n with | 1 => (.op 0 [] (.op 1 [] (.op 2 [] (.op 3 [] (.op 4 [] (.alt 5 [] (.op 6 [] (.op 7 [] (.op 8 [] (.alt 9 [0, 3, 4] (.op 10 [0, 3, 4] (.op 11 [] (.op 12 [] .nil))) (.op 10 [0, 3, 4] (.op 9 [0, 3, 4] (.op 11 [] (.op 12 [] .nil)))))))) (.alt 9 [0, 3, 4] (.alt 5 [] (.op 6 [] (.op 7 [] (.op 8 [] (.op 10 [0, 3, 4] (.op 11 [] (.op 12 [] .nil)))))) (.op 10 [0, 3, 4] (.op 5 [] (.op 6 [] (.op 7 [] (.op 8 [] (.op 11 [] (.op 12 [] .nil)))))))) (.op 10 [0, 3, 4] (.alt 5 [] (.op 6 [] (.op 7 [] (.op 8 [] (.op 9 [0, 3, 4] (.op 11 [] (.op 12 [] .nil)))))) (.op 9 [0, 3, 4] (.op 5 [] (.op 6 [] (.op 7 [] (.op 8 [] (.op 11 [] (.op 12 [] .nil)))))))))))))))) | 4 => (.op 0 [] (.op 1 [] (.op 2 [] (.op 3 [] (.op 4 [] (.op 5 [] (.op 6 [] (.op 7 [] (.op 8 [3] (.op 9 [] (.op 10 [] (.op 11 [] .nil)))))))))))) | 10 => (.op 0 [] (.op 1 [] (.op 2 [] (.op 3 [] (.op 4 [] (.op 5 [] (.op 6 [0, 1, 4] (.op 7 [0] (.op 8 [] (.op 9 [] (.op 10 [] .nil))))))))))) | 11 => (.op 0 [] (.op 1 [] (.op 2 [] (.op 3 [] (.op 4 [] (.op 5 [] (.op 6 [0, 3, 4] (.op 7 [] .nil)))))))) | _ => .nil
set_option maxRecDepth 100000 in
theorem txn_Txn_Write.eq (t1 : Option Addr) (i1 : Int) (bA1 : Option Addr) (bL1 : Nat) (bC1 : Nat) (K : Value → Heap → Prop) (h : Heap) : fnX (cx txn_Txn_Write.lo txn_Txn_Write.od) Tryd.f61 (Tryd.f61.body.getD .skip) [.pointer t1, .int .i64 i1, .slice bA1 bL1 bC1] K h = txn_Txn_Write t1 i1 bA1 bL1 bC1 K h := by kernel_rfl
theorem txn_Txn_Write.chk : fnOk (cx txn_Txn_Write.lo txn_Txn_Write.od) Tryd.f61 (Tryd.f61.body.getD .skip) 3 = true := by kernel_rfl
set_option maxRecDepth 100000 in
theorem txn_Txn_Write.ok {t1 : Option Addr} {i1 : Int} {bA1 : Option Addr} {bL1 : Nat} {bC1 : Nat} {K : Value → Heap → Prop} {h : Heap} (hx : txn_Txn_Write t1 i1 bA1 bL1 bC1 K h) : C.txn_Txn_Write t1 i1 bA1 bL1 bC1 h K :=
  fn_to (cxOk _ _) Tryd.func61 (by kernel_rfl) txn_Txn_Write.chk (by rw [txn_Txn_Write.eq]; exact hx)
def txn_Txn_Mark (t1 : Option Addr) (K : Value → Heap → Prop) (h1 : Heap) : Prop :=
  onSome t1 fun p1 =>
  ∃ (b1 : Bool), cellOf h1 (Addr.add p1 3) = some (.bool b1) ∧
  bif b1 then (
  K (.tuple #[.int .i64 0, .int .i64 61]) h1) else (
  onSome t1 fun p2 =>
  ∃ (sA1 : Option Addr) (sL1 : Nat) (sC1 : Nat), cellOf h1 (Addr.add p2 2) = some (.slice sA1 sL1 sC1) ∧
  K (.tuple #[.int .i64 (sL1 : Int), .int .i64 0]) h1)
def txn_Txn_Mark.lo : Nat → List Nat × List (Nat × Ty) := fun n => match n with | _ => ([], [])
def txn_Txn_Mark.od : Nat → Od := fun n => match n with | _ => .nil
theorem txn_Txn_Mark.eq (t1 : Option Addr) (K : Value → Heap → Prop) (h : Heap) : fnX (cx txn_Txn_Mark.lo txn_Txn_Mark.od) Tryd.f70 (Tryd.f70.body.getD .skip) [.pointer t1] K h = txn_Txn_Mark t1 K h := by kernel_rfl
theorem txn_Txn_Mark.chk : fnOk (cx txn_Txn_Mark.lo txn_Txn_Mark.od) Tryd.f70 (Tryd.f70.body.getD .skip) 1 = true := by kernel_rfl
theorem txn_Txn_Mark.ok {t1 : Option Addr} {K : Value → Heap → Prop} {h : Heap} (hx : txn_Txn_Mark t1 K h) : C.txn_Txn_Mark t1 h K :=
  fn_to (cxOk _ _) Tryd.func70 (by kernel_rfl) txn_Txn_Mark.chk (by rw [txn_Txn_Mark.eq]; exact hx)
def txn_Txn_Back.k1 (t1 : Option Addr) (mark1 : Int) (h1 : Heap) (K : Value → Heap → Prop) : Prop :=
  onSome t1 fun p3 =>
  ∃ (sA2 : Option Addr) (sL2 : Nat) (sC2 : Nat), cellOf h1 (Addr.add p3 2) = some (.slice sA2 sL2 sC2) ∧
  ∃ (I1 : Int → Heap → Prop) (M1 : Int → Heap → Nat), I1 (IntKind.wrap .i64 ((sL2 : Int) - 1)) h1 ∧
  ∀ (k1 : Int), ∀ h2 : Heap, I1 k1 h2 →
  bif (decide (k1 ≥ mark1)) then (
  onSome t1 fun p4 =>
  ∃ (sA3 : Option Addr) (sL3 : Nat) (sC3 : Nat), cellOf h2 (Addr.add p4 2) = some (.slice sA3 sL3 sC3) ∧
  (0 ≤ k1 ∧ k1 < (sL3 : Int)) ∧
  onSome sA3 fun p5 =>
  ∃ (v1 : Value), cellOf h2 (Addr.add p5 (Int.toNat k1)) = some (v1) ∧
  HCallsV Tryd.prog v1 [] h2 fun r1 h3 =>
  r1 = .tuple #[] ∧
  I1 (IntKind.wrap .i64 (k1 - 1)) h3 ∧ M1 (IntKind.wrap .i64 (k1 - 1)) h3 < M1 k1 h2) else (
  onSome t1 fun p6 =>
  ∃ (sA4 : Option Addr) (sL4 : Nat) (sC4 : Nat), cellOf h2 (Addr.add p6 2) = some (.slice sA4 sL4 sC4) ∧
  (0 ≤ mark1 ∧ mark1 ≤ (sC4 : Int)) ∧
  onSome t1 fun p7 =>
  Put (Addr.add p7 2) (.slice sA4 (Int.toNat mark1) sC4) h2 fun h4 =>
  K (.int .i64 0) h4)
def txn_Txn_Back (t1 : Option Addr) (mark1 : Int) (K : Value → Heap → Prop) (h1 : Heap) : Prop :=
  onSome t1 fun p1 =>
  ∃ (b1 : Bool), cellOf h1 (Addr.add p1 3) = some (.bool b1) ∧
  bif b1 then (
  K (.int .i64 61) h1) else (
  bif (decide (mark1 < 0)) then (
  K (.int .i64 62) h1) else (
  onSome t1 fun p2 =>
  ∃ (sA1 : Option Addr) (sL1 : Nat) (sC1 : Nat), cellOf h1 (Addr.add p2 2) = some (.slice sA1 sL1 sC1) ∧
  bif (decide (mark1 > (sL1 : Int))) then (
  K (.int .i64 62) h1) else (
  txn_Txn_Back.k1 t1 mark1 h1 K)))
def txn_Txn_Back.lo : Nat → List Nat × List (Nat × Ty) := fun n => match n with | 6 => ([0, 1], [(5, .int .i64)]) | _ => ([], [])
def txn_Txn_Back.od : Nat → Od := fun n => match n with | _ => .nil
theorem txn_Txn_Back.eq (t1 : Option Addr) (mark1 : Int) (K : Value → Heap → Prop) (h : Heap) : fnX (cx txn_Txn_Back.lo txn_Txn_Back.od) Tryd.f72 (Tryd.f72.body.getD .skip) [.pointer t1, .int .i64 mark1] K h = txn_Txn_Back t1 mark1 K h := by kernel_rfl
theorem txn_Txn_Back.chk : fnOk (cx txn_Txn_Back.lo txn_Txn_Back.od) Tryd.f72 (Tryd.f72.body.getD .skip) 2 = true := by kernel_rfl
theorem txn_Txn_Back.ok {t1 : Option Addr} {mark1 : Int} {K : Value → Heap → Prop} {h : Heap} (hx : txn_Txn_Back t1 mark1 K h) : C.txn_Txn_Back t1 mark1 h K :=
  fn_to (cxOk _ _) Tryd.func72 (by kernel_rfl) txn_Txn_Back.chk (by rw [txn_Txn_Back.eq]; exact hx)
def txn_Txn_Read.k1 (t1 : Option Addr) (i1 : Int) (h3 : Heap) (K : Value → Heap → Prop) : Prop :=
  onSome t1 fun p3 =>
  ∃ (m1 : Option Nat), cellOf h3 (Addr.add p3 1) = some (.map m1) ∧
  MapIn (.int .i64) m1 h3 fun mm1 =>
  ∃ (sA1 : Option Addr) (sL1 : Nat) (sC1 : Nat), Option.getD (mget mm1 (.i i1)) (zeroV ti72) = .slice sA1 sL1 sC1 ∧
  bif (Option.isSome (mget mm1 (.i i1))) then (
  C.slices_Clone_byte_byte sA1 sL1 sC1 h3 fun r2 h4 =>
  ∃ (sA2 : Option Addr) (sL2 : Nat) (sC2 : Nat), r2 = .slice sA2 sL2 sC2 ∧
  K (.tuple #[.slice sA2 sL2 sC2, .int .i64 0]) h4) else (
  onSome t1 fun p4 =>
  ∃ (q2 : Option Addr), cellOf h3 (Addr.add p4 0) = some (.pointer q2) ∧
  C.adisk_Disk_Read q2 i1 h3 fun r3 h5 =>
  ∃ (sA3 : Option Addr) (sL3 : Nat) (sC3 : Nat) (n2 : Int), r3 = .tuple #[.slice sA3 sL3 sC3, .int .i64 n2] ∧
  K (.tuple #[.slice sA3 sL3 sC3, .int .i64 n2]) h5)
def txn_Txn_Read (t1 : Option Addr) (i1 : Int) (K : Value → Heap → Prop) (h1 : Heap) : Prop :=
  onSome t1 fun p1 =>
  ∃ (b1 : Bool), cellOf h1 (Addr.add p1 3) = some (.bool b1) ∧
  bif b1 then (
  K (.tuple #[.slice none 0 0, .int .i64 61]) h1) else (
  bif (decide (i1 < 0)) then (
  K (.tuple #[.slice none 0 0, .int .i64 31]) h1) else (
  onSome t1 fun p2 =>
  ∃ (q1 : Option Addr), cellOf h1 (Addr.add p2 0) = some (.pointer q1) ∧
  C.adisk_Disk_Blocks q1 h1 fun r1 h2 =>
  ∃ (n1 : Int), r1 = .int .i64 n1 ∧
  bif (decide (i1 ≥ n1)) then (
  K (.tuple #[.slice none 0 0, .int .i64 31]) h2) else (
  txn_Txn_Read.k1 t1 i1 h2 K)))
def txn_Txn_Read.lo : Nat → List Nat × List (Nat × Ty) := fun n => match n with | _ => ([], [])
def txn_Txn_Read.od : Nat → Od := fun n => match n with | _ => .nil
theorem txn_Txn_Read.eq (t1 : Option Addr) (i1 : Int) (K : Value → Heap → Prop) (h : Heap) : fnX (cx txn_Txn_Read.lo txn_Txn_Read.od) Tryd.f78 (Tryd.f78.body.getD .skip) [.pointer t1, .int .i64 i1] K h = txn_Txn_Read t1 i1 K h := by kernel_rfl
theorem txn_Txn_Read.chk : fnOk (cx txn_Txn_Read.lo txn_Txn_Read.od) Tryd.f78 (Tryd.f78.body.getD .skip) 2 = true := by kernel_rfl
theorem txn_Txn_Read.ok {t1 : Option Addr} {i1 : Int} {K : Value → Heap → Prop} {h : Heap} (hx : txn_Txn_Read t1 i1 K h) : C.txn_Txn_Read t1 i1 h K :=
  fn_to (cxOk _ _) Tryd.func78 (by kernel_rfl) txn_Txn_Read.chk (by rw [txn_Txn_Read.eq]; exact hx)
def bolelaw10_Setup_blocks (s1 : List Value) (K : Value → Heap → Prop) (h1 : Heap) : Prop :=
  New s1 25 h1 fun h2 =>
  ∃ (n1 : Int), cellOf h2 (Addr.add ⟨h1.size, 0, none⟩ 0) = some (.int .i64 n1) ∧
  K (.int .i64 (IntKind.wrap .i64 (128 + (IntKind.wrap .i64 ((Int.tmod (IntKind.wrap .u64 (n1)) 4300)))))) h2
def bolelaw10_Setup_blocks.lo : Nat → List Nat × List (Nat × Ty) := fun n => match n with | _ => ([], [])
def bolelaw10_Setup_blocks.od : Nat → Od := fun n => match n with | _ => .nil
theorem bolelaw10_Setup_blocks.eq (s1 : List Value) (K : Value → Heap → Prop) (h : Heap) : fnX (cx bolelaw10_Setup_blocks.lo bolelaw10_Setup_blocks.od) Tryd.f81 (Tryd.f81.body.getD .skip) [.agg ⟨s1⟩] K h = bolelaw10_Setup_blocks s1 K h := by kernel_rfl
theorem bolelaw10_Setup_blocks.chk : fnOk (cx bolelaw10_Setup_blocks.lo bolelaw10_Setup_blocks.od) Tryd.f81 (Tryd.f81.body.getD .skip) 1 = true := by kernel_rfl
theorem bolelaw10_Setup_blocks.ok {s1 : List Value} {K : Value → Heap → Prop} {h : Heap} (hx : bolelaw10_Setup_blocks s1 K h) : C.bolelaw10_Setup_blocks s1 h K :=
  fn_to (cxOk _ _) Tryd.func81 (by kernel_rfl) bolelaw10_Setup_blocks.chk (by rw [bolelaw10_Setup_blocks.eq]; exact hx)
def boleref09_Geo (n1 : Int) (K : Value → Heap → Prop) (h1 : Heap) : Prop :=
  NewRow z29 29 [.int .i64 n1, .int .i64 98, .int .i64 (IntKind.wrap .i64 (98 + (IntKind.wrap .i64 (Int.tdiv (IntKind.wrap .i64 ((IntKind.wrap .i64 (n1 + 4096)) - 1)) 4096)))), .int .i64 (IntKind.wrap .i64 ((IntKind.wrap .i64 (98 + (IntKind.wrap .i64 (Int.tdiv (IntKind.wrap .i64 ((IntKind.wrap .i64 (n1 + 4096)) - 1)) 4096)))) + (IntKind.wrap .i64 (Int.tdiv n1 64)))), .int .i64 (IntKind.wrap .i64 (8 * (IntKind.wrap .i64 (Int.tdiv n1 64))))] 5 h1 fun h3 =>
  ∃ res1 : List Value, List.length res1 = 5 ∧ Cells h3 ⟨h1.size, 0, none⟩ res1 ∧
  K (.agg ⟨res1⟩) h3
def boleref09_Geo.lo : Nat → List Nat × List (Nat × Ty) := fun n => match n with | _ => ([], [])
def boleref09_Geo.od : Nat → Od := fun n => match n with | _ => .nil
theorem boleref09_Geo.eq (n1 : Int) (K : Value → Heap → Prop) (h : Heap) : fnX (cx boleref09_Geo.lo boleref09_Geo.od) Tryd.f82 (Tryd.f82.body.getD .skip) [.int .i64 n1] K h = boleref09_Geo n1 K h := by kernel_rfl
theorem boleref09_Geo.chk : fnOk (cx boleref09_Geo.lo boleref09_Geo.od) Tryd.f82 (Tryd.f82.body.getD .skip) 1 = true := by kernel_rfl
theorem boleref09_Geo.ok {n1 : Int} {K : Value → Heap → Prop} {h : Heap} (hx : boleref09_Geo n1 K h) : C.boleref09_Geo n1 h K :=
  fn_to (cxOk _ _) Tryd.func82 (by kernel_rfl) boleref09_Geo.chk (by rw [boleref09_Geo.eq]; exact hx)
def boleref03_copied (bA1 : Option Addr) (bL1 : Nat) (bC1 : Nat) (K : Value → Heap → Prop) (h1 : Heap) : Prop :=
  ∃ new1 : List Value, List.length new1 = bL1 * 1 ∧ SlCells h1 bA1 new1 ∧ (∀ v ∈ new1, v.oneCell' = true) ∧
  AppendP ti5 5 none 0 0 bL1 new1 h1 fun sA1 sL1 sC1 h2 =>
  K (.slice sA1 sL1 sC1) h2
def boleref03_copied.lo : Nat → List Nat × List (Nat × Ty) := fun n => match n with | _ => ([], [])
def boleref03_copied.od : Nat → Od := fun n => match n with | _ => .nil
theorem boleref03_copied.eq (bA1 : Option Addr) (bL1 : Nat) (bC1 : Nat) (K : Value → Heap → Prop) (h : Heap) : fnX (cx boleref03_copied.lo boleref03_copied.od) Tryd.f83 (Tryd.f83.body.getD .skip) [.slice bA1 bL1 bC1] K h = boleref03_copied bA1 bL1 bC1 K h := by kernel_rfl
theorem boleref03_copied.chk : fnOk (cx boleref03_copied.lo boleref03_copied.od) Tryd.f83 (Tryd.f83.body.getD .skip) 1 = true := by kernel_rfl
theorem boleref03_copied.ok {bA1 : Option Addr} {bL1 : Nat} {bC1 : Nat} {K : Value → Heap → Prop} {h : Heap} (hx : boleref03_copied bA1 bL1 bC1 K h) : C.boleref03_copied bA1 bL1 bC1 h K :=
  fn_to (cxOk _ _) Tryd.func83 (by kernel_rfl) boleref03_copied.chk (by rw [boleref03_copied.eq]; exact hx)
def bmap_Find_c1 (x1 : List Value) (x2 : Int) (xA1 : Option Addr) (xL1 : Nat) (xC1 : Nat) (K : Value → Heap → Prop) (h1 : Heap) : Prop :=
  New x1 96 h1 fun h2 =>
  K (.tuple #[.int .i64 0, .int .i64 0]) h2
def bmap_Find_c1.lo : Nat → List Nat × List (Nat × Ty) := fun n => match n with | _ => ([], [])
def bmap_Find_c1.od : Nat → Od := fun n => match n with | _ => .nil
theorem bmap_Find_c1.eq (x1 : List Value) (x2 : Int) (xA1 : Option Addr) (xL1 : Nat) (xC1 : Nat) (K : Value → Heap → Prop) (h : Heap) : fnX (cx bmap_Find_c1.lo bmap_Find_c1.od) Tryd.f84 (Tryd.f84.body.getD .skip) [.agg ⟨x1⟩, .int .i64 x2, .slice xA1 xL1 xC1] K h = bmap_Find_c1 x1 x2 xA1 xL1 xC1 K h := by kernel_rfl
theorem bmap_Find_c1.chk : fnOk (cx bmap_Find_c1.lo bmap_Find_c1.od) Tryd.f84 (Tryd.f84.body.getD .skip) 3 = true := by kernel_rfl
theorem bmap_Find_c1.ok {x1 : List Value} {x2 : Int} {xA1 : Option Addr} {xL1 : Nat} {xC1 : Nat} {K : Value → Heap → Prop} {h : Heap} (hx : bmap_Find_c1 x1 x2 xA1 xL1 xC1 K h) : C.bmap_Find_c1 x1 x2 xA1 xL1 xC1 h K :=
  fn_to (cxOk _ _) Tryd.func84 (by kernel_rfl) bmap_Find_c1.chk (by rw [bmap_Find_c1.eq]; exact hx)
def bmap_Cut_c1 (cap1 : Option Addr) (cap2 : Option Addr) (cap3 : Option Addr) (K : Value → Heap → Prop) (h1 : Heap) : Prop :=
  onSome cap1 fun p1 =>
  ∃ (v1 : Value), cellOf h1 p1 = some (v1) ∧
  onSome cap2 fun p2 =>
  ∃ (n1 : Int), cellOf h1 p2 = some (.int .i64 n1) ∧
  HCallsV Tryd.prog v1 [.int .i64 n1] h1 fun r1 h2 =>
  r1 = .tuple #[] ∧
  onSome cap2 fun p3 =>
  ∃ (n2 : Int), cellOf h2 p3 = some (.int .i64 n2) ∧
  bif (n2 != 0) then (
  onSome cap3 fun p4 =>
  PutRow p4 [.int .i64 0, .int .i64 0, .int .i64 0, .int .i64 0, .int .i64 0, .int .i64 0, .int .i64 0, .int .i64 0, .int .i64 0, .int .i64 0, .int .i64 0, .int .i64 0, .int .i64 0, .int .i64 0, .int .i64 0] 15 h2 fun h3 =>
  K (.tuple #[]) h3) else (
  K (.tuple #[]) h2)
def bmap_Cut_c1.lo : Nat → List Nat × List (Nat × Ty) := fun n => match n with | _ => ([], [])
def bmap_Cut_c1.od : Nat → Od := fun n => match n with | _ => .nil
theorem bmap_Cut_c1.eq (cap1 : Option Addr) (cap2 : Option Addr) (cap3 : Option Addr) (K : Value → Heap → Prop) (h : Heap) : fnX (cx bmap_Cut_c1.lo bmap_Cut_c1.od) Tryd.f85 (Tryd.f85.body.getD .skip) [.pointer cap1, .pointer cap2, .pointer cap3] K h = bmap_Cut_c1 cap1 cap2 cap3 K h := by kernel_rfl
theorem bmap_Cut_c1.chkD : fnOkD (cx bmap_Cut_c1.lo bmap_Cut_c1.od) Tryd.f85 (Tryd.f85.body.getD .skip) 3 = true := by kernel_rfl
theorem bmap_Cut_c1.okD {cap1 : Option Addr} {cap2 : Option Addr} {cap3 : Option Addr} {K : Heap → Prop} {h : Heap} (hx : bmap_Cut_c1 cap1 cap2 cap3 (fun _ h' => K h') h) : D.bmap_Cut_c1 cap1 cap2 cap3 h K :=
  fnD_to (cxOk _ _) Tryd.func85 (by kernel_rfl) bmap_Cut_c1.chkD (by rw [bmap_Cut_c1.eq]; exact hx)
def bmap_file_give (f1 : Option Addr) (num1 : Int) (K : Value → Heap → Prop) (h1 : Heap) : Prop :=
  C.bmap_file_look f1 num1 h1 fun r1 h2 =>
  ∃ (n1 : Int), r1 = .int .i64 n1 ∧
  bif (n1 != 0) then (
  K (.int .i64 n1) h2) else (
  onSome f1 fun p1 =>
  ∃ (q1 : Option Addr), cellOf h2 (Addr.add p1 0) = some (.pointer q1) ∧
  onSome f1 fun p2 =>
  ∃ cs1 : List Value, List.length cs1 = 5 ∧ Cells h2 (Addr.add p2 1) cs1 ∧
  C.space_Give q1 cs1 num1 h2 fun r2 h3 =>
  ∃ (n2 : Int), r2 = .int .i64 n2 ∧
  K (.int .i64 n2) h3)
def bmap_file_give.lo : Nat → List Nat × List (Nat × Ty) := fun n => match n with | _ => ([], [])
def bmap_file_give.od : Nat → Od := fun n => match n with | 4 => (.op 0 [] (.op 1 [] (.op 2 [] (.op 3 [] (.op 4 [] (.op 5 [] (.op 6 [] (.op 7 [] (.op 8 [] (.op 9 [] (.op 10 [] .nil))))))))))) | _ => .nil
theorem bmap_file_give.eq (f1 : Option Addr) (num1 : Int) (K : Value → Heap → Prop) (h : Heap) : fnX (cx bmap_file_give.lo bmap_file_give.od) Tryd.f86 (Tryd.f86.body.getD .skip) [.pointer f1, .int .i64 num1] K h = bmap_file_give f1 num1 K h := by kernel_rfl
theorem bmap_file_give.chk : fnOk (cx bmap_file_give.lo bmap_file_give.od) Tryd.f86 (Tryd.f86.body.getD .skip) 2 = true := by kernel_rfl
theorem bmap_file_give.ok {f1 : Option Addr} {num1 : Int} {K : Value → Heap → Prop} {h : Heap} (hx : bmap_file_give f1 num1 K h) : C.bmap_file_give f1 num1 h K :=
  fn_to (cxOk _ _) Tryd.func86 (by kernel_rfl) bmap_file_give.chk (by rw [bmap_file_give.eq]; exact hx)
end Go.Proofs.YtcdpakjhjmchhaaDoor.W
namespace Go.Proofs.YtcdpakjhjmchhaaDoor.W
open Go Go.Proofs Go.Proofs.YtcdpakjhjmchhaaDoor.Wx
def bmap_file_cut.k1 (left1 : Bool) (turned1 : Bool) (n2 : Int) (h3 : Heap) (I1 : Bool → Bool → Int → Heap → Prop) (M1 : Bool → Bool → Int → Heap → Nat) (b1 : Bool) (h6 : Heap) (K : Value → Heap → Prop) : Prop :=
  bif left1 then (
  bif turned1 then (
  I1 true true (IntKind.wrap .i64 (n2 + 1)) h6 ∧ M1 true true (IntKind.wrap .i64 (n2 + 1)) h6 < M1 left1 turned1 n2 h3) else (
  I1 true b1 (IntKind.wrap .i64 (n2 + 1)) h6 ∧ M1 true b1 (IntKind.wrap .i64 (n2 + 1)) h6 < M1 left1 turned1 n2 h3)) else (
  bif turned1 then (
  I1 (!b1) true (IntKind.wrap .i64 (n2 + 1)) h6 ∧ M1 (!b1) true (IntKind.wrap .i64 (n2 + 1)) h6 < M1 left1 turned1 n2 h3) else (
  I1 (!b1) b1 (IntKind.wrap .i64 (n2 + 1)) h6 ∧ M1 (!b1) b1 (IntKind.wrap .i64 (n2 + 1)) h6 < M1 left1 turned1 n2 h3))
def bmap_file_cut (f1 : Option Addr) (table1 : Int) (from1 : Int) (drop1 : Value) (K : Value → Heap → Prop) (h1 : Heap) : Prop :=
  C.bmap_file_numbers f1 table1 h1 fun r1 h2 =>
  ∃ (sA1 : Option Addr) (sL1 : Nat) (sC1 : Nat) (sA2 : Option Addr) (sL2 : Nat) (sC2 : Nat) (n1 : Int), r1 = .tuple #[.slice sA1 sL1 sC1, .slice sA2 sL2 sC2, .int .i64 n1] ∧
  bif (n1 != 0) then (
  K (.tuple #[.bool false, .int .i64 n1]) h2) else (
  ∃ (I1 : Bool → Bool → Int → Heap → Prop) (M1 : Bool → Bool → Int → Heap → Nat), I1 false false 0 h2 ∧
  ∀ (left1 : Bool) (turned1 : Bool) (n2 : Int), ∀ h3 : Heap, I1 left1 turned1 n2 h3 →
  bif (decide (n2 < (sL2 : Int))) then (
  (0 ≤ n2 ∧ n2 < (sL2 : Int)) ∧
  onSome sA2 fun p1 =>
  ∃ (n3 : Int), cellOf h3 (Addr.add p1 (Int.toNat n2)) = some (.int .i64 n3) ∧
  bif (n3 == 0) then (
  I1 left1 turned1 (IntKind.wrap .i64 (n2 + 1)) h3 ∧ M1 left1 turned1 (IntKind.wrap .i64 (n2 + 1)) h3 < M1 left1 turned1 n2 h3) else (
  bif (decide (n2 < from1)) then (
  I1 true turned1 (IntKind.wrap .i64 (n2 + 1)) h3 ∧ M1 true turned1 (IntKind.wrap .i64 (n2 + 1)) h3 < M1 left1 turned1 n2 h3) else (
  HCallsV Tryd.prog drop1 [.int .i64 n2, .int .i64 n3] h3 fun r2 h4 =>
  ∃ (b1 : Bool) (n4 : Int), r2 = .tuple #[.bool b1, .int .i64 n4] ∧
  bif (n4 != 0) then (
  K (.tuple #[.bool false, .int .i64 n4]) h4) else (
  bif b1 then (
  C.rec_Put sA1 sL1 sC1 (IntKind.wrap .i64 (4 * n2)) 4 0 h4 fun r3 h5 =>
  ∃ (n5 : Int), r3 = .int .i64 n5 ∧
  bmap_file_cut.k1 left1 turned1 n2 h3 I1 M1 b1 h5 K) else (
  bmap_file_cut.k1 left1 turned1 n2 h3 I1 M1 b1 h4 K))))) else (
  bif (!left1) then (
  onSome f1 fun p2 =>
  ∃ (q1 : Option Addr), cellOf h3 (Addr.add p2 0) = some (.pointer q1) ∧
  onSome f1 fun p3 =>
  ∃ cs1 : List Value, List.length cs1 = 5 ∧ Cells h3 (Addr.add p3 1) cs1 ∧
  C.space_Give q1 cs1 table1 h3 fun r4 h7 =>
  ∃ (n6 : Int), r4 = .int .i64 n6 ∧
  K (.tuple #[.bool false, .int .i64 n6]) h7) else (
  bif turned1 then (
  onSome f1 fun p4 =>
  ∃ (q2 : Option Addr), cellOf h3 (Addr.add p4 0) = some (.pointer q2) ∧
  C.txn_Txn_Write q2 table1 sA1 sL1 sC1 h3 fun r5 h8 =>
  ∃ (n7 : Int), r5 = .int .i64 n7 ∧
  K (.tuple #[.bool true, .int .i64 n7]) h8) else (
  K (.tuple #[.bool true, .int .i64 0]) h3))))
def bmap_file_cut.lo : Nat → List Nat × List (Nat × Ty) := fun n => match n with | 6 => ([0, 1, 2, 3, 10, 29, 30], [(13, .bool), (14, .bool), (31, .int .i64)]) | _ => ([], [])
def bmap_file_cut.od : Nat → Od := fun n => match n with | 19 => (.op 0 [] (.op 1 [] (.op 2 [] (.op 3 [] (.op 4 [] (.op 5 [] (.op 6 [] (.op 7 [] (.op 8 [] (.op 9 [] (.op 10 [] (.op 11 [] .nil)))))))))))) | _ => .nil
theorem bmap_file_cut.eq (f1 : Option Addr) (table1 : Int) (from1 : Int) (drop1 : Value) (K : Value → Heap → Prop) (h : Heap) : fnX (cx bmap_file_cut.lo bmap_file_cut.od) Tryd.f87 (Tryd.f87.body.getD .skip) [.pointer f1, .int .i64 table1, .int .i64 from1, drop1] K h = bmap_file_cut f1 table1 from1 drop1 K h := by kernel_rfl
theorem bmap_file_cut.chk : fnOk (cx bmap_file_cut.lo bmap_file_cut.od) Tryd.f87 (Tryd.f87.body.getD .skip) 4 = true := by kernel_rfl
theorem bmap_file_cut.ok {f1 : Option Addr} {table1 : Int} {from1 : Int} {drop1 : Value} {K : Value → Heap → Prop} {h : Heap} (hx : bmap_file_cut f1 table1 from1 drop1 K h) : C.bmap_file_cut f1 table1 from1 drop1 h K :=
  fn_to (cxOk _ _) Tryd.func87 (by kernel_rfl) bmap_file_cut.chk (by rw [bmap_file_cut.eq]; exact hx)
def bmap_file_leaf (f1 : Option Addr) (x1 : Int) (num1 : Int) (K : Value → Heap → Prop) (h1 : Heap) : Prop :=
  C.bmap_file_give f1 num1 h1 fun r1 h2 =>
  ∃ (n1 : Int), r1 = .int .i64 n1 ∧
  K (.tuple #[.bool true, .int .i64 n1]) h2
def bmap_file_leaf.lo : Nat → List Nat × List (Nat × Ty) := fun n => match n with | _ => ([], [])
def bmap_file_leaf.od : Nat → Od := fun n => match n with | _ => .nil
theorem bmap_file_leaf.eq (f1 : Option Addr) (x1 : Int) (num1 : Int) (K : Value → Heap → Prop) (h : Heap) : fnX (cx bmap_file_leaf.lo bmap_file_leaf.od) Tryd.f88 (Tryd.f88.body.getD .skip) [.pointer f1, .int .i64 x1, .int .i64 num1] K h = bmap_file_leaf f1 x1 num1 K h := by kernel_rfl
theorem bmap_file_leaf.chk : fnOk (cx bmap_file_leaf.lo bmap_file_leaf.od) Tryd.f88 (Tryd.f88.body.getD .skip) 3 = true := by kernel_rfl
theorem bmap_file_leaf.ok {f1 : Option Addr} {x1 : Int} {num1 : Int} {K : Value → Heap → Prop} {h : Heap} (hx : bmap_file_leaf f1 x1 num1 K h) : C.bmap_file_leaf f1 x1 num1 h K :=
  fn_to (cxOk _ _) Tryd.func88 (by kernel_rfl) bmap_file_leaf.chk (by rw [bmap_file_leaf.eq]; exact hx)
def bmap_Cut_c2 (i1 : Int) (num1 : Int) (cap1 : Option Addr) (cap2 : Option Addr) (K : Value → Heap → Prop) (h1 : Heap) : Prop :=
  onSome cap1 fun p1 =>
  ∃ (q1 : Option Addr), cellOf h1 p1 = some (.pointer q1) ∧
  onSome cap2 fun p2 =>
  ∃ (n1 : Int), cellOf h1 p2 = some (.int .i64 n1) ∧
  onSome cap1 fun p3 =>
  ∃ (q2 : Option Addr), cellOf h1 p3 = some (.pointer q2) ∧
  C.bmap_file_cut q1 num1 (IntKind.wrap .i64 (n1 - (IntKind.wrap .i64 (i1 * 128)))) (Value.func (.func 88) ⟨[.pointer q2]⟩ ⟨[]⟩) h1 fun r1 h2 =>
  ∃ (b1 : Bool) (n2 : Int), r1 = .tuple #[.bool b1, .int .i64 n2] ∧
  K (.tuple #[.bool (!b1), .int .i64 n2]) h2
def bmap_Cut_c2.lo : Nat → List Nat × List (Nat × Ty) := fun n => match n with | _ => ([], [])
def bmap_Cut_c2.od : Nat → Od := fun n => match n with | _ => .nil
theorem bmap_Cut_c2.eq (i1 : Int) (num1 : Int) (cap1 : Option Addr) (cap2 : Option Addr) (K : Value → Heap → Prop) (h : Heap) : fnX (cx bmap_Cut_c2.lo bmap_Cut_c2.od) Tryd.f89 (Tryd.f89.body.getD .skip) [.int .i64 i1, .int .i64 num1, .pointer cap1, .pointer cap2] K h = bmap_Cut_c2 i1 num1 cap1 cap2 K h := by kernel_rfl
theorem bmap_Cut_c2.chk : fnOk (cx bmap_Cut_c2.lo bmap_Cut_c2.od) Tryd.f89 (Tryd.f89.body.getD .skip) 4 = true := by kernel_rfl
theorem bmap_Cut_c2.ok {i1 : Int} {num1 : Int} {cap1 : Option Addr} {cap2 : Option Addr} {K : Value → Heap → Prop} {h : Heap} (hx : bmap_Cut_c2 i1 num1 cap1 cap2 K h) : C.bmap_Cut_c2 i1 num1 cap1 cap2 h K :=
  fn_to (cxOk _ _) Tryd.func89 (by kernel_rfl) bmap_Cut_c2.chk (by rw [bmap_Cut_c2.eq]; exact hx)
def bmap_guard_c1 (e1 : Int) (cap1 : Option Addr) (cap2 : Option Addr) (cap3 : Option Addr) (K : Value → Heap → Prop) (h1 : Heap) : Prop :=
  bif (e1 != 0) then (
  onSome cap1 fun p1 =>
  ∃ (n1 : Int), cellOf h1 p1 = some (.int .i64 n1) ∧
  bif (n1 == 0) then (
  onSome cap2 fun p2 =>
  ∃ (q1 : Option Addr), cellOf h1 p2 = some (.pointer q1) ∧
  onSome cap3 fun p3 =>
  ∃ (n2 : Int), cellOf h1 p3 = some (.int .i64 n2) ∧
  C.txn_Txn_Back q1 n2 h1 fun r1 h2 =>
  ∃ (n3 : Int), r1 = .int .i64 n3 ∧
  K (.tuple #[]) h2) else (
  K (.tuple #[]) h1)) else (
  K (.tuple #[]) h1)
def bmap_guard_c1.lo : Nat → List Nat × List (Nat × Ty) := fun n => match n with | _ => ([], [])
def bmap_guard_c1.od : Nat → Od := fun n => match n with | _ => .nil
theorem bmap_guard_c1.eq (e1 : Int) (cap1 : Option Addr) (cap2 : Option Addr) (cap3 : Option Addr) (K : Value → Heap → Prop) (h : Heap) : fnX (cx bmap_guard_c1.lo bmap_guard_c1.od) Tryd.f90 (Tryd.f90.body.getD .skip) [.int .i64 e1, .pointer cap1, .pointer cap2, .pointer cap3] K h = bmap_guard_c1 e1 cap1 cap2 cap3 K h := by kernel_rfl
theorem bmap_guard_c1.chk : fnOk (cx bmap_guard_c1.lo bmap_guard_c1.od) Tryd.f90 (Tryd.f90.body.getD .skip) 4 = true := by kernel_rfl
theorem bmap_guard_c1.ok {e1 : Int} {cap1 : Option Addr} {cap2 : Option Addr} {cap3 : Option Addr} {K : Value → Heap → Prop} {h : Heap} (hx : bmap_guard_c1 e1 cap1 cap2 cap3 K h) : C.bmap_guard_c1 e1 cap1 cap2 cap3 h K :=
  fn_to (cxOk _ _) Tryd.func90 (by kernel_rfl) bmap_guard_c1.chk (by rw [bmap_guard_c1.eq]; exact hx)
def bmap_way (k1 : Int) (K : Value → Heap → Prop) (h1 : Heap) : Prop :=
  bif (decide (k1 < 10)) then (
  List.length ([.int .i64 0, .int .i64 k1] : List Value) = 2 ∧
  New [.int .i64 0, .int .i64 k1] 96 h1 fun h2 =>
  K (.slice (some ⟨h1.size, 0, none⟩) 1 1) h2) else (
  bif (decide (k1 < 138)) then (
  List.length ([.int .i64 1, .int .i64 0] : List Value) = 2 ∧
  List.length ([.int .i64 3, .int .i64 (IntKind.wrap .i64 (k1 - 10))] : List Value) = 2 ∧
  New [.int .i64 1, .int .i64 0, .int .i64 3, .int .i64 (IntKind.wrap .i64 (k1 - 10))] 96 h1 fun h3 =>
  K (.slice (some ⟨h1.size, 0, none⟩) 2 2) h3) else (
  List.length ([.int .i64 2, .int .i64 0] : List Value) = 2 ∧
  List.length ([.int .i64 3, .int .i64 (IntKind.wrap .i64 (Int.tdiv (IntKind.wrap .i64 (k1 - 138)) 128))] : List Value) = 2 ∧
  List.length ([.int .i64 3, .int .i64 (Int.tmod (IntKind.wrap .i64 (k1 - 138)) 128)] : List Value) = 2 ∧
  New [.int .i64 2, .int .i64 0, .int .i64 3, .int .i64 (IntKind.wrap .i64 (Int.tdiv (IntKind.wrap .i64 (k1 - 138)) 128)), .int .i64 3, .int .i64 (Int.tmod (IntKind.wrap .i64 (k1 - 138)) 128)] 96 h1 fun h4 =>
  K (.slice (some ⟨h1.size, 0, none⟩) 3 3) h4))
def bmap_way.lo : Nat → List Nat × List (Nat × Ty) := fun n => match n with | _ => ([], [])
def bmap_way.od : Nat → Od := fun n => match n with | _ => .nil
theorem bmap_way.eq (k1 : Int) (K : Value → Heap → Prop) (h : Heap) : fnX (cx bmap_way.lo bmap_way.od) Tryd.f91 (Tryd.f91.body.getD .skip) [.int .i64 k1] K h = bmap_way k1 K h := by kernel_rfl
theorem bmap_way.chk : fnOk (cx bmap_way.lo bmap_way.od) Tryd.f91 (Tryd.f91.body.getD .skip) 1 = true := by kernel_rfl
theorem bmap_way.ok {k1 : Int} {K : Value → Heap → Prop} {h : Heap} (hx : bmap_way k1 K h) : C.bmap_way k1 h K :=
  fn_to (cxOk _ _) Tryd.func91 (by kernel_rfl) bmap_way.chk (by rw [bmap_way.eq]; exact hx)
def bmap_file_number (f1 : Option Addr) (s1 : List Value) (at1 : Int) (K : Value → Heap → Prop) (h1 : Heap) : Prop :=
  New s1 96 h1 fun h2 =>
  ∃ (n1 : Int), cellOf h2 (Addr.add ⟨h1.size, 0, none⟩ 0) = some (.int .i64 n1) ∧
  bif (n1 != 3) then (
  ∃ cs1 : List Value, List.length cs1 = 2 ∧ Cells h2 ⟨h1.size, 0, none⟩ cs1 ∧
  C.bmap_file_own f1 cs1 h2 fun r1 h3 =>
  ∃ (q1 : Option Addr), r1 = .pointer q1 ∧
  onSome q1 fun p1 =>
  ∃ (n2 : Int), cellOf h3 p1 = some (.int .i64 n2) ∧
  K (.tuple #[.int .i64 n2, .slice none 0 0, .int .i64 0]) h3) else (
  onSome f1 fun p2 =>
  ∃ (q2 : Option Addr), cellOf h2 (Addr.add p2 0) = some (.pointer q2) ∧
  C.txn_Txn_Read q2 at1 h2 fun r2 h4 =>
  ∃ (sA1 : Option Addr) (sL1 : Nat) (sC1 : Nat) (n3 : Int), r2 = .tuple #[.slice sA1 sL1 sC1, .int .i64 n3] ∧
  bif (n3 != 0) then (
  K (.tuple #[.int .i64 0, .slice none 0 0, .int .i64 n3]) h4) else (
  ∃ (n4 : Int), cellOf h4 (Addr.add ⟨h1.size, 0, none⟩ 1) = some (.int .i64 n4) ∧
  C.rec_Get sA1 sL1 sC1 (IntKind.wrap .i64 (4 * n4)) 4 h4 fun r3 h5 =>
  ∃ (n5 : Int) (n6 : Int), r3 = .tuple #[.int .u64 n5, .int .i64 n6] ∧
  K (.tuple #[.int .i64 (IntKind.wrap .i64 (n5)), .slice sA1 sL1 sC1, .int .i64 0]) h5))
def bmap_file_number.lo : Nat → List Nat × List (Nat × Ty) := fun n => match n with | _ => ([], [])
def bmap_file_number.od : Nat → Od := fun n => match n with | _ => .nil
theorem bmap_file_number.eq (f1 : Option Addr) (s1 : List Value) (at1 : Int) (K : Value → Heap → Prop) (h : Heap) : fnX (cx bmap_file_number.lo bmap_file_number.od) Tryd.f92 (Tryd.f92.body.getD .skip) [.pointer f1, .agg ⟨s1⟩, .int .i64 at1] K h = bmap_file_number f1 s1 at1 K h := by kernel_rfl
theorem bmap_file_number.chk : fnOk (cx bmap_file_number.lo bmap_file_number.od) Tryd.f92 (Tryd.f92.body.getD .skip) 3 = true := by kernel_rfl
theorem bmap_file_number.ok {f1 : Option Addr} {s1 : List Value} {at1 : Int} {K : Value → Heap → Prop} {h : Heap} (hx : bmap_file_number f1 s1 at1 K h) : C.bmap_file_number f1 s1 at1 h K :=
  fn_to (cxOk _ _) Tryd.func92 (by kernel_rfl) bmap_file_number.chk (by rw [bmap_file_number.eq]; exact hx)
def space_Take_c1 (first1 : Int) (bA1 : Option Addr) (bL1 : Nat) (bC1 : Nat) (cap1 : Option Addr) (cap2 : Option Addr) (K : Value → Heap → Prop) (h1 : Heap) : Prop :=
  onSome cap1 fun p1 =>
  ∃ cs1 : List Value, List.length cs1 = 5 ∧ Cells h1 p1 cs1 ∧
  C.space_rows cs1 first1 bA1 bL1 bC1 (Value.func (.func 94) #[] ⟨[.pointer cap2]⟩) h1 fun r1 h2 =>
  r1 = .tuple #[] ∧
  onSome cap2 fun p2 =>
  ∃ (n1 : Int), cellOf h2 p2 = some (.int .i64 n1) ∧
  K (.bool (n1 == 0)) h2
def space_Take_c1.lo : Nat → List Nat × List (Nat × Ty) := fun n => match n with | _ => ([], [])
def space_Take_c1.od : Nat → Od := fun n => match n with | _ => .nil
theorem space_Take_c1.eq (first1 : Int) (bA1 : Option Addr) (bL1 : Nat) (bC1 : Nat) (cap1 : Option Addr) (cap2 : Option Addr) (K : Value → Heap → Prop) (h : Heap) : fnX (cx space_Take_c1.lo space_Take_c1.od) Tryd.f93 (Tryd.f93.body.getD .skip) [.int .i64 first1, .slice bA1 bL1 bC1, .pointer cap1, .pointer cap2] K h = space_Take_c1 first1 bA1 bL1 bC1 cap1 cap2 K h := by kernel_rfl
theorem space_Take_c1.chk : fnOk (cx space_Take_c1.lo space_Take_c1.od) Tryd.f93 (Tryd.f93.body.getD .skip) 4 = true := by kernel_rfl
theorem space_Take_c1.ok {first1 : Int} {bA1 : Option Addr} {bL1 : Nat} {bC1 : Nat} {cap1 : Option Addr} {cap2 : Option Addr} {K : Value → Heap → Prop} {h : Heap} (hx : space_Take_c1 first1 bA1 bL1 bC1 cap1 cap2 K h) : C.space_Take_c1 first1 bA1 bL1 bC1 cap1 cap2 h K :=
  fn_to (cxOk _ _) Tryd.func93 (by kernel_rfl) space_Take_c1.chk (by rw [space_Take_c1.eq]; exact hx)
def space_Take_c1_c1 (from1 : Int) (x1 : Int) (cap1 : Option Addr) (K : Value → Heap → Prop) (h1 : Heap) : Prop :=
  onSome cap1 fun p1 =>
  Put p1 (.int .i64 from1) h1 fun h2 =>
  K (.bool false) h2
def space_Take_c1_c1.lo : Nat → List Nat × List (Nat × Ty) := fun n => match n with | _ => ([], [])
def space_Take_c1_c1.od : Nat → Od := fun n => match n with | _ => .nil
theorem space_Take_c1_c1.eq (from1 : Int) (x1 : Int) (cap1 : Option Addr) (K : Value → Heap → Prop) (h : Heap) : fnX (cx space_Take_c1_c1.lo space_Take_c1_c1.od) Tryd.f94 (Tryd.f94.body.getD .skip) [.int .i64 from1, .int .i64 x1, .pointer cap1] K h = space_Take_c1_c1 from1 x1 cap1 K h := by kernel_rfl
theorem space_Take_c1_c1.chk : fnOk (cx space_Take_c1_c1.lo space_Take_c1_c1.od) Tryd.f94 (Tryd.f94.body.getD .skip) 3 = true := by kernel_rfl
theorem space_Take_c1_c1.ok {from1 : Int} {x1 : Int} {cap1 : Option Addr} {K : Value → Heap → Prop} {h : Heap} (hx : space_Take_c1_c1 from1 x1 cap1 K h) : C.space_Take_c1_c1 from1 x1 cap1 h K :=
  fn_to (cxOk _ _) Tryd.func94 (by kernel_rfl) space_Take_c1_c1.chk (by rw [space_Take_c1_c1.eq]; exact hx)
def space_Take_c2 (cap1 : Option Addr) (cap2 : Option Addr) (cap3 : Option Addr) (K : Value → Heap → Prop) (h1 : Heap) : Prop :=
  onSome cap1 fun p1 =>
  ∃ (q1 : Option Addr), cellOf h1 p1 = some (.pointer q1) ∧
  onSome cap2 fun p2 =>
  ∃ (n1 : Int), cellOf h1 p2 = some (.int .i64 n1) ∧
  C.space_back q1 n1 cap3 h1 fun r1 h2 =>
  r1 = .tuple #[] ∧
  K (.tuple #[]) h2
def space_Take_c2.lo : Nat → List Nat × List (Nat × Ty) := fun n => match n with | _ => ([], [])
def space_Take_c2.od : Nat → Od := fun n => match n with | _ => .nil
theorem space_Take_c2.eq (cap1 : Option Addr) (cap2 : Option Addr) (cap3 : Option Addr) (K : Value → Heap → Prop) (h : Heap) : fnX (cx space_Take_c2.lo space_Take_c2.od) Tryd.f95 (Tryd.f95.body.getD .skip) [.pointer cap1, .pointer cap2, .pointer cap3] K h = space_Take_c2 cap1 cap2 cap3 K h := by kernel_rfl
theorem space_Take_c2.chkD : fnOkD (cx space_Take_c2.lo space_Take_c2.od) Tryd.f95 (Tryd.f95.body.getD .skip) 3 = true := by kernel_rfl
theorem space_Take_c2.okD {cap1 : Option Addr} {cap2 : Option Addr} {cap3 : Option Addr} {K : Heap → Prop} {h : Heap} (hx : space_Take_c2 cap1 cap2 cap3 (fun _ h' => K h') h) : D.space_Take_c2 cap1 cap2 cap3 h K :=
  fnD_to (cxOk _ _) Tryd.func95 (by kernel_rfl) space_Take_c2.chkD (by rw [space_Take_c2.eq]; exact hx)
def space_back (t1 : Option Addr) (mark1 : Int) (e1 : Option Addr) (K : Value → Heap → Prop) (h1 : Heap) : Prop :=
  onSome e1 fun p1 =>
  ∃ (n1 : Int), cellOf h1 p1 = some (.int .i64 n1) ∧
  bif (n1 != 0) then (
  C.txn_Txn_Back t1 mark1 h1 fun r1 h2 =>
  ∃ (n2 : Int), r1 = .int .i64 n2 ∧
  K (.tuple #[]) h2) else (
  K (.tuple #[]) h1)
def space_back.lo : Nat → List Nat × List (Nat × Ty) := fun n => match n with | _ => ([], [])
def space_back.od : Nat → Od := fun n => match n with | _ => .nil
theorem space_back.eq (t1 : Option Addr) (mark1 : Int) (e1 : Option Addr) (K : Value → Heap → Prop) (h : Heap) : fnX (cx space_back.lo space_back.od) Tryd.f96 (Tryd.f96.body.getD .skip) [.pointer t1, .int .i64 mark1, .pointer e1] K h = space_back t1 mark1 e1 K h := by kernel_rfl
theorem space_back.chk : fnOk (cx space_back.lo space_back.od) Tryd.f96 (Tryd.f96.body.getD .skip) 3 = true := by kernel_rfl
theorem space_back.ok {t1 : Option Addr} {mark1 : Int} {e1 : Option Addr} {K : Value → Heap → Prop} {h : Heap} (hx : space_back t1 mark1 e1 K h) : C.space_back t1 mark1 e1 h K :=
  fn_to (cxOk _ _) Tryd.func96 (by kernel_rfl) space_back.chk (by rw [space_back.eq]; exact hx)
def space_set (t1 : Option Addr) (g1 : List Value) (i1 : Int) (on1 : Bool) (K : Value → Heap → Prop) (h1 : Heap) : Prop :=
  New g1 29 h1 fun h2 =>
  ∃ cs1 : List Value, List.length cs1 = 5 ∧ Cells h2 ⟨h1.size, 0, none⟩ cs1 ∧
  C.space_bit t1 cs1 i1 h2 fun r1 h3 =>
  ∃ (n1 : Int) (sA1 : Option Addr) (sL1 : Nat) (sC1 : Nat) (n2 : Int) (n3 : Int), r1 = .tuple #[.int .i64 n1, .slice sA1 sL1 sC1, .int .i64 n2, .int .i64 n3] ∧
  bif (n3 != 0) then (
  K (.int .i64 n3) h3) else (
  C.bits_Put sA1 sL1 sC1 n2 on1 h3 fun r2 h4 =>
  ∃ (n4 : Int), r2 = .int .i64 n4 ∧
  bif (n4 != 0) then (
  K (.int .i64 n4) h4) else (
  C.txn_Txn_Write t1 n1 sA1 sL1 sC1 h4 fun r3 h5 =>
  ∃ (n5 : Int), r3 = .int .i64 n5 ∧
  K (.int .i64 n5) h5))
def space_set.lo : Nat → List Nat × List (Nat × Ty) := fun n => match n with | _ => ([], [])
def space_set.od : Nat → Od := fun n => match n with | _ => .nil
theorem space_set.eq (t1 : Option Addr) (g1 : List Value) (i1 : Int) (on1 : Bool) (K : Value → Heap → Prop) (h : Heap) : fnX (cx space_set.lo space_set.od) Tryd.f97 (Tryd.f97.body.getD .skip) [.pointer t1, .agg ⟨g1⟩, .int .i64 i1, .bool on1] K h = space_set t1 g1 i1 on1 K h := by kernel_rfl
theorem space_set.chk : fnOk (cx space_set.lo space_set.od) Tryd.f97 (Tryd.f97.body.getD .skip) 4 = true := by kernel_rfl
theorem space_set.ok {t1 : Option Addr} {g1 : List Value} {i1 : Int} {on1 : Bool} {K : Value → Heap → Prop} {h : Heap} (hx : space_set t1 g1 i1 on1 K h) : C.space_set t1 g1 i1 on1 h K :=
  fn_to (cxOk _ _) Tryd.func97 (by kernel_rfl) space_set.chk (by rw [space_set.eq]; exact hx)
def bmap_file_own (f1 : Option Addr) (s1 : List Value) (K : Value → Heap → Prop) (h1 : Heap) : Prop :=
  New s1 96 h1 fun h2 =>
  ∃ (n1 : Int), cellOf h2 (Addr.add ⟨h1.size, 0, none⟩ 0) = some (.int .i64 n1) ∧
  bif (n1 == 0) then (
  ∃ (n2 : Int), cellOf h2 (Addr.add ⟨h1.size, 0, none⟩ 1) = some (.int .i64 n2) ∧
  onSome f1 fun p1 =>
  (0 ≤ n2 ∧ n2 < (10 : Int)) ∧
  K (.pointer (some (Addr.add (Addr.add (Addr.add p1 6) 3) (Int.toNat n2)))) h2) else (
  bif (n1 == 1) then (
  onSome f1 fun p2 =>
  K (.pointer (some (Addr.add (Addr.add p2 6) 13))) h2) else (
  onSome f1 fun p3 =>
  K (.pointer (some (Addr.add (Addr.add p3 6) 14))) h2))
def bmap_file_own.lo : Nat → List Nat × List (Nat × Ty) := fun n => match n with | _ => ([], [])
def bmap_file_own.od : Nat → Od := fun n => match n with | 3 => (.op 0 [] (.op 1 [] (.op 2 [] (.op 3 [] (.op 4 [] (.op 5 [] (.op 6 [] (.op 7 [] .nil)))))))) | _ => .nil
theorem bmap_file_own.eq (f1 : Option Addr) (s1 : List Value) (K : Value → Heap → Prop) (h : Heap) : fnX (cx bmap_file_own.lo bmap_file_own.od) Tryd.f98 (Tryd.f98.body.getD .skip) [.pointer f1, .agg ⟨s1⟩] K h = bmap_file_own f1 s1 K h := by kernel_rfl
theorem bmap_file_own.chk : fnOk (cx bmap_file_own.lo bmap_file_own.od) Tryd.f98 (Tryd.f98.body.getD .skip) 2 = true := by kernel_rfl
theorem bmap_file_own.ok {f1 : Option Addr} {s1 : List Value} {K : Value → Heap → Prop} {h : Heap} (hx : bmap_file_own f1 s1 K h) : C.bmap_file_own f1 s1 h K :=
  fn_to (cxOk _ _) Tryd.func98 (by kernel_rfl) bmap_file_own.chk (by rw [bmap_file_own.eq]; exact hx)
def rec_Put (bA1 : Option Addr) (bL1 : Nat) (bC1 : Nat) (at1 : Int) (n1 : Int) (v1 : Int) (K : Value → Heap → Prop) (h1 : Heap) : Prop :=
  C.rec_isWidth n1 h1 fun r1 h2 =>
  ∃ (b1 : Bool), r1 = .bool b1 ∧
  bif (!b1) then (
  K (.int .i64 1) h2) else (
  bif (decide (n1 < 8)) then (
  if (IntKind.wrap .i64 (8 * n1)) < 0 then False else
  bif ((Int.fdiv v1 (2 ^ min (Int.toNat (IntKind.wrap .i64 (8 * n1))) 64)) != 0) then (
  K (.int .i64 1) h2) else (
  C.rec_lie bA1 bL1 bC1 at1 n1 h2 fun r2 h3 =>
  ∃ (b2 : Bool), r2 = .bool b2 ∧
  bif (!b2) then (
  K (.int .i64 20) h3) else (
  ∃ (I1 : Int → Heap → Prop) (M1 : Int → Heap → Nat), I1 0 h3 ∧
  ∀ (n2 : Int), ∀ h4 : Heap, I1 n2 h4 →
  bif (decide (n2 < n1)) then (
  if (IntKind.wrap .i64 (8 * n2)) < 0 then False else
  (0 ≤ (IntKind.wrap .i64 (at1 + n2)) ∧ (IntKind.wrap .i64 (at1 + n2)) < (bL1 : Int)) ∧
  onSome bA1 fun p1 =>
  Put (Addr.add p1 (Int.toNat (IntKind.wrap .i64 (at1 + n2)))) (.int .u8 (IntKind.wrap .u8 ((Int.fdiv v1 (2 ^ min (Int.toNat (IntKind.wrap .i64 (8 * n2))) 64))))) h4 fun h5 =>
  I1 (IntKind.wrap .i64 (n2 + 1)) h5 ∧ M1 (IntKind.wrap .i64 (n2 + 1)) h5 < M1 n2 h4) else (
  K (.int .i64 0) h4)))) else (
  C.rec_lie bA1 bL1 bC1 at1 n1 h2 fun r3 h6 =>
  ∃ (b3 : Bool), r3 = .bool b3 ∧
  bif (!b3) then (
  K (.int .i64 20) h6) else (
  ∃ (I2 : Int → Heap → Prop) (M2 : Int → Heap → Nat), I2 0 h6 ∧
  ∀ (n3 : Int), ∀ h7 : Heap, I2 n3 h7 →
  bif (decide (n3 < n1)) then (
  if (IntKind.wrap .i64 (8 * n3)) < 0 then False else
  (0 ≤ (IntKind.wrap .i64 (at1 + n3)) ∧ (IntKind.wrap .i64 (at1 + n3)) < (bL1 : Int)) ∧
  onSome bA1 fun p2 =>
  Put (Addr.add p2 (Int.toNat (IntKind.wrap .i64 (at1 + n3)))) (.int .u8 (IntKind.wrap .u8 ((Int.fdiv v1 (2 ^ min (Int.toNat (IntKind.wrap .i64 (8 * n3))) 64))))) h7 fun h8 =>
  I2 (IntKind.wrap .i64 (n3 + 1)) h8 ∧ M2 (IntKind.wrap .i64 (n3 + 1)) h8 < M2 n3 h7) else (
  K (.int .i64 0) h7))))
def rec_Put.lo : Nat → List Nat × List (Nat × Ty) := fun n => match n with | 6 => ([0, 1, 3, 31], [(32, .int .i64)]) | _ => ([], [])
def rec_Put.od : Nat → Od := fun n => match n with | _ => .nil
theorem rec_Put.eq (bA1 : Option Addr) (bL1 : Nat) (bC1 : Nat) (at1 : Int) (n1 : Int) (v1 : Int) (K : Value → Heap → Prop) (h : Heap) : fnX (cx rec_Put.lo rec_Put.od) Tryd.f99 (Tryd.f99.body.getD .skip) [.slice bA1 bL1 bC1, .int .i64 at1, .int .i64 n1, .int .u64 v1] K h = rec_Put bA1 bL1 bC1 at1 n1 v1 K h := by kernel_rfl
theorem rec_Put.chk : fnOk (cx rec_Put.lo rec_Put.od) Tryd.f99 (Tryd.f99.body.getD .skip) 4 = true := by kernel_rfl
theorem rec_Put.ok {bA1 : Option Addr} {bL1 : Nat} {bC1 : Nat} {at1 : Int} {n1 : Int} {v1 : Int} {K : Value → Heap → Prop} {h : Heap} (hx : rec_Put bA1 bL1 bC1 at1 n1 v1 K h) : C.rec_Put bA1 bL1 bC1 at1 n1 v1 h K :=
  fn_to (cxOk _ _) Tryd.func99 (by kernel_rfl) rec_Put.chk (by rw [rec_Put.eq]; exact hx)
def bits_Runs (bA1 : Option Addr) (bL1 : Nat) (bC1 : Nat) (K : Value → Heap → Prop) (h1 : Heap) : Prop :=
  New [] 5 h1 fun h2 =>
  ∃ new1 : List Value, List.length new1 = bL1 * 1 ∧ SlCells h2 bA1 new1 ∧ (∀ v ∈ new1, v.oneCell' = true) ∧
  AppendP ti5 5 (some ⟨h1.size, 0, none⟩) 0 0 bL1 new1 h2 fun sA1 sL1 sC1 h3 =>
  New z72 72 h3 fun h4 =>
  Put ⟨h3.size, 0, none⟩ (.slice sA1 sL1 sC1) h4 fun h5 =>
  K (.func (.func 130) #[] ⟨[.pointer (some ⟨h3.size, 0, none⟩)]⟩) h5
def bits_Runs.lo : Nat → List Nat × List (Nat × Ty) := fun n => match n with | _ => ([], [])
def bits_Runs.od : Nat → Od := fun n => match n with | _ => .nil
theorem bits_Runs.eq (bA1 : Option Addr) (bL1 : Nat) (bC1 : Nat) (K : Value → Heap → Prop) (h : Heap) : fnX (cx bits_Runs.lo bits_Runs.od) Tryd.f100 (Tryd.f100.body.getD .skip) [.slice bA1 bL1 bC1] K h = bits_Runs bA1 bL1 bC1 K h := by kernel_rfl
theorem bits_Runs.chk : fnOk (cx bits_Runs.lo bits_Runs.od) Tryd.f100 (Tryd.f100.body.getD .skip) 1 = true := by kernel_rfl
theorem bits_Runs.ok {bA1 : Option Addr} {bL1 : Nat} {bC1 : Nat} {K : Value → Heap → Prop} {h : Heap} (hx : bits_Runs bA1 bL1 bC1 K h) : C.bits_Runs bA1 bL1 bC1 h K :=
  fn_to (cxOk _ _) Tryd.func100 (by kernel_rfl) bits_Runs.chk (by rw [bits_Runs.eq]; exact hx)
def space_bit (t1 : Option Addr) (g1 : List Value) (i1 : Int) (K : Value → Heap → Prop) (h1 : Heap) : Prop :=
  New g1 29 h1 fun h2 =>
  ∃ cs1 : List Value, List.length cs1 = 5 ∧ Cells h2 ⟨h1.size, 0, none⟩ cs1 ∧
  C.geo_Bit cs1 i1 h2 fun r1 h3 =>
  ∃ (n1 : Int) (n2 : Int) (n3 : Int), r1 = .tuple #[.int .i64 n1, .int .i64 n2, .int .i64 n3] ∧
  bif (n3 != 0) then (
  K (.tuple #[.int .i64 0, .slice none 0 0, .int .i64 0, .int .i64 n3]) h3) else (
  C.txn_Txn_Read t1 n1 h3 fun r2 h4 =>
  ∃ (sA1 : Option Addr) (sL1 : Nat) (sC1 : Nat) (n4 : Int), r2 = .tuple #[.slice sA1 sL1 sC1, .int .i64 n4] ∧
  K (.tuple #[.int .i64 n1, .slice sA1 sL1 sC1, .int .i64 n2, .int .i64 n4]) h4)
def space_bit.lo : Nat → List Nat × List (Nat × Ty) := fun n => match n with | _ => ([], [])
def space_bit.od : Nat → Od := fun n => match n with | _ => .nil
theorem space_bit.eq (t1 : Option Addr) (g1 : List Value) (i1 : Int) (K : Value → Heap → Prop) (h : Heap) : fnX (cx space_bit.lo space_bit.od) Tryd.f101 (Tryd.f101.body.getD .skip) [.pointer t1, .agg ⟨g1⟩, .int .i64 i1] K h = space_bit t1 g1 i1 K h := by kernel_rfl
theorem space_bit.chk : fnOk (cx space_bit.lo space_bit.od) Tryd.f101 (Tryd.f101.body.getD .skip) 3 = true := by kernel_rfl
theorem space_bit.ok {t1 : Option Addr} {g1 : List Value} {i1 : Int} {K : Value → Heap → Prop} {h : Heap} (hx : space_bit t1 g1 i1 K h) : C.space_bit t1 g1 i1 h K :=
  fn_to (cxOk _ _) Tryd.func101 (by kernel_rfl) space_bit.chk (by rw [space_bit.eq]; exact hx)
def bits_Get (bA1 : Option Addr) (bL1 : Nat) (bC1 : Nat) (i1 : Int) (K : Value → Heap → Prop) (h1 : Heap) : Prop :=
  C.bits_has bA1 bL1 bC1 i1 h1 fun r1 h2 =>
  ∃ (b1 : Bool), r1 = .bool b1 ∧
  bif (!b1) then (
  K (.tuple #[.bool false, .int .i64 80]) h2) else (
  C.bits_on bA1 bL1 bC1 i1 h2 fun r2 h3 =>
  ∃ (b2 : Bool), r2 = .bool b2 ∧
  K (.tuple #[.bool b2, .int .i64 0]) h3)
def bits_Get.lo : Nat → List Nat × List (Nat × Ty) := fun n => match n with | _ => ([], [])
def bits_Get.od : Nat → Od := fun n => match n with | _ => .nil
theorem bits_Get.eq (bA1 : Option Addr) (bL1 : Nat) (bC1 : Nat) (i1 : Int) (K : Value → Heap → Prop) (h : Heap) : fnX (cx bits_Get.lo bits_Get.od) Tryd.f102 (Tryd.f102.body.getD .skip) [.slice bA1 bL1 bC1, .int .i64 i1] K h = bits_Get bA1 bL1 bC1 i1 K h := by kernel_rfl
theorem bits_Get.chk : fnOk (cx bits_Get.lo bits_Get.od) Tryd.f102 (Tryd.f102.body.getD .skip) 2 = true := by kernel_rfl
theorem bits_Get.ok {bA1 : Option Addr} {bL1 : Nat} {bC1 : Nat} {i1 : Int} {K : Value → Heap → Prop} {h : Heap} (hx : bits_Get bA1 bL1 bC1 i1 K h) : C.bits_Get bA1 bL1 bC1 i1 h K :=
  fn_to (cxOk _ _) Tryd.func102 (by kernel_rfl) bits_Get.chk (by rw [bits_Get.eq]; exact hx)
def rec_Get (bA1 : Option Addr) (bL1 : Nat) (bC1 : Nat) (at1 : Int) (n1 : Int) (K : Value → Heap → Prop) (h1 : Heap) : Prop :=
  C.rec_isWidth n1 h1 fun r1 h2 =>
  ∃ (b1 : Bool), r1 = .bool b1 ∧
  bif (!b1) then (
  K (.tuple #[.int .u64 0, .int .i64 1]) h2) else (
  C.rec_lie bA1 bL1 bC1 at1 n1 h2 fun r2 h3 =>
  ∃ (b2 : Bool), r2 = .bool b2 ∧
  bif (!b2) then (
  K (.tuple #[.int .u64 0, .int .i64 20]) h3) else (
  ∃ (I1 : Int → Int → Heap → Prop) (M1 : Int → Int → Heap → Nat), I1 0 0 h3 ∧
  ∀ (v1 : Int) (n2 : Int), ∀ h4 : Heap, I1 v1 n2 h4 →
  bif (decide (n2 < n1)) then (
  (0 ≤ (IntKind.wrap .i64 (at1 + n2)) ∧ (IntKind.wrap .i64 (at1 + n2)) < (bL1 : Int)) ∧
  onSome bA1 fun p1 =>
  ∃ (n3 : Int), cellOf h4 (Addr.add p1 (Int.toNat (IntKind.wrap .i64 (at1 + n2)))) = some (.int .u8 n3) ∧
  if (IntKind.wrap .i64 (8 * n2)) < 0 then False else
  I1 (bitsI .or .u64 v1 (IntKind.wrap .u64 (((IntKind.wrap .u64 (n3)) * 2 ^ min (Int.toNat (IntKind.wrap .i64 (8 * n2))) 64)))) (IntKind.wrap .i64 (n2 + 1)) h4 ∧ M1 (bitsI .or .u64 v1 (IntKind.wrap .u64 (((IntKind.wrap .u64 (n3)) * 2 ^ min (Int.toNat (IntKind.wrap .i64 (8 * n2))) 64)))) (IntKind.wrap .i64 (n2 + 1)) h4 < M1 v1 n2 h4) else (
  K (.tuple #[.int .u64 v1, .int .i64 0]) h4)))
def rec_Get.lo : Nat → List Nat × List (Nat × Ty) := fun n => match n with | 7 => ([0, 1, 20], [(8, .int .u64), (21, .int .i64)]) | _ => ([], [])
def rec_Get.od : Nat → Od := fun n => match n with | _ => .nil
theorem rec_Get.eq (bA1 : Option Addr) (bL1 : Nat) (bC1 : Nat) (at1 : Int) (n1 : Int) (K : Value → Heap → Prop) (h : Heap) : fnX (cx rec_Get.lo rec_Get.od) Tryd.f103 (Tryd.f103.body.getD .skip) [.slice bA1 bL1 bC1, .int .i64 at1, .int .i64 n1] K h = rec_Get bA1 bL1 bC1 at1 n1 K h := by kernel_rfl
theorem rec_Get.chk : fnOk (cx rec_Get.lo rec_Get.od) Tryd.f103 (Tryd.f103.body.getD .skip) 3 = true := by kernel_rfl
theorem rec_Get.ok {bA1 : Option Addr} {bL1 : Nat} {bC1 : Nat} {at1 : Int} {n1 : Int} {K : Value → Heap → Prop} {h : Heap} (hx : rec_Get bA1 bL1 bC1 at1 n1 K h) : C.rec_Get bA1 bL1 bC1 at1 n1 h K :=
  fn_to (cxOk _ _) Tryd.func103 (by kernel_rfl) rec_Get.chk (by rw [rec_Get.eq]; exact hx)
def adisk_Disk_Blocks (d1 : Option Addr) (K : Value → Heap → Prop) (h1 : Heap) : Prop :=
  onSome d1 fun p1 =>
  ∃ (sA1 : Option Addr) (sL1 : Nat) (sC1 : Nat), cellOf h1 (Addr.add p1 0) = some (.slice sA1 sL1 sC1) ∧
  K (.int .i64 (sL1 : Int)) h1
def adisk_Disk_Blocks.lo : Nat → List Nat × List (Nat × Ty) := fun n => match n with | _ => ([], [])
def adisk_Disk_Blocks.od : Nat → Od := fun n => match n with | _ => .nil
theorem adisk_Disk_Blocks.eq (d1 : Option Addr) (K : Value → Heap → Prop) (h : Heap) : fnX (cx adisk_Disk_Blocks.lo adisk_Disk_Blocks.od) Tryd.f109 (Tryd.f109.body.getD .skip) [.pointer d1] K h = adisk_Disk_Blocks d1 K h := by kernel_rfl
theorem adisk_Disk_Blocks.chk : fnOk (cx adisk_Disk_Blocks.lo adisk_Disk_Blocks.od) Tryd.f109 (Tryd.f109.body.getD .skip) 1 = true := by kernel_rfl
theorem adisk_Disk_Blocks.ok {d1 : Option Addr} {K : Value → Heap → Prop} {h : Heap} (hx : adisk_Disk_Blocks d1 K h) : C.adisk_Disk_Blocks d1 h K :=
  fn_to (cxOk _ _) Tryd.func109 (by kernel_rfl) adisk_Disk_Blocks.chk (by rw [adisk_Disk_Blocks.eq]; exact hx)
def txn_Txn_Write_c1 (cap1 : Option Addr) (cap2 : Option Addr) (cap3 : Option Addr) (cap4 : Option Addr) (K : Value → Heap → Prop) (h1 : Heap) : Prop :=
  onSome cap1 fun p1 =>
  ∃ (b1 : Bool), cellOf h1 p1 = some (.bool b1) ∧
  bif b1 then (
  onSome cap3 fun p2 =>
  ∃ (q1 : Option Addr), cellOf h1 p2 = some (.pointer q1) ∧
  onSome q1 fun p3 =>
  ∃ (m1 : Option Nat), cellOf h1 (Addr.add p3 1) = some (.map m1) ∧
  onSome cap4 fun p4 =>
  ∃ (n1 : Int), cellOf h1 p4 = some (.int .i64 n1) ∧
  onSome cap2 fun p5 =>
  ∃ (sA1 : Option Addr) (sL1 : Nat) (sC1 : Nat), cellOf h1 p5 = some (.slice sA1 sL1 sC1) ∧
  onSome m1 fun r1 =>
  MapPut (.int .i64) r1 (.i n1) (.slice sA1 sL1 sC1) h1 fun h2 =>
  K (.tuple #[]) h2) else (
  onSome cap3 fun p6 =>
  ∃ (q2 : Option Addr), cellOf h1 p6 = some (.pointer q2) ∧
  onSome q2 fun p7 =>
  ∃ (m2 : Option Nat), cellOf h1 (Addr.add p7 1) = some (.map m2) ∧
  onSome cap4 fun p8 =>
  ∃ (n2 : Int), cellOf h1 p8 = some (.int .i64 n2) ∧
  MapDel (.int .i64) m2 (.i n2) h1 fun h3 =>
  K (.tuple #[]) h3)
def txn_Txn_Write_c1.lo : Nat → List Nat × List (Nat × Ty) := fun n => match n with | _ => ([], [])
def txn_Txn_Write_c1.od : Nat → Od := fun n => match n with | 1 => (.op 0 [] (.op 1 [] (.op 2 [] (.op 3 [] (.op 4 [] (.op 5 [] (.op 6 [] .nil))))))) | 2 => (.op 0 [] (.op 1 [] (.op 2 [] (.op 3 [] (.op 4 [] (.op 5 [] .nil)))))) | _ => .nil
theorem txn_Txn_Write_c1.eq (cap1 : Option Addr) (cap2 : Option Addr) (cap3 : Option Addr) (cap4 : Option Addr) (K : Value → Heap → Prop) (h : Heap) : fnX (cx txn_Txn_Write_c1.lo txn_Txn_Write_c1.od) Tryd.f110 (Tryd.f110.body.getD .skip) [.pointer cap1, .pointer cap2, .pointer cap3, .pointer cap4] K h = txn_Txn_Write_c1 cap1 cap2 cap3 cap4 K h := by kernel_rfl
theorem txn_Txn_Write_c1.chk : fnOk (cx txn_Txn_Write_c1.lo txn_Txn_Write_c1.od) Tryd.f110 (Tryd.f110.body.getD .skip) 4 = true := by kernel_rfl
theorem txn_Txn_Write_c1.ok {cap1 : Option Addr} {cap2 : Option Addr} {cap3 : Option Addr} {cap4 : Option Addr} {K : Value → Heap → Prop} {h : Heap} (hx : txn_Txn_Write_c1 cap1 cap2 cap3 cap4 K h) : C.txn_Txn_Write_c1 cap1 cap2 cap3 cap4 h K :=
  fn_to (cxOk _ _) Tryd.func110 (by kernel_rfl) txn_Txn_Write_c1.chk (by rw [txn_Txn_Write_c1.eq]; exact hx)
def slices_Clone_byte_byte (sA1 : Option Addr) (sL1 : Nat) (sC1 : Nat) (K : Value → Heap → Prop) (h1 : Heap) : Prop :=
  bif (Option.isNone sA1) then (
  K (.slice none 0 0) h1) else (
  New [] 5 h1 fun h2 =>
  ∃ new1 : List Value, List.length new1 = sL1 * 1 ∧ SlCells h2 sA1 new1 ∧ (∀ v ∈ new1, v.oneCell' = true) ∧
  AppendP ti5 5 (some ⟨h1.size, 0, none⟩) 0 0 sL1 new1 h2 fun sA2 sL2 sC2 h3 =>
  K (.slice sA2 sL2 sC2) h3)
def slices_Clone_byte_byte.lo : Nat → List Nat × List (Nat × Ty) := fun n => match n with | _ => ([], [])
def slices_Clone_byte_byte.od : Nat → Od := fun n => match n with | _ => .nil
theorem slices_Clone_byte_byte.eq (sA1 : Option Addr) (sL1 : Nat) (sC1 : Nat) (K : Value → Heap → Prop) (h : Heap) : fnX (cx slices_Clone_byte_byte.lo slices_Clone_byte_byte.od) Tryd.f111 (Tryd.f111.body.getD .skip) [.slice sA1 sL1 sC1] K h = slices_Clone_byte_byte sA1 sL1 sC1 K h := by kernel_rfl
theorem slices_Clone_byte_byte.chk : fnOk (cx slices_Clone_byte_byte.lo slices_Clone_byte_byte.od) Tryd.f111 (Tryd.f111.body.getD .skip) 1 = true := by kernel_rfl
theorem slices_Clone_byte_byte.ok {sA1 : Option Addr} {sL1 : Nat} {sC1 : Nat} {K : Value → Heap → Prop} {h : Heap} (hx : slices_Clone_byte_byte sA1 sL1 sC1 K h) : C.slices_Clone_byte_byte sA1 sL1 sC1 h K :=
  fn_to (cxOk _ _) Tryd.func111 (by kernel_rfl) slices_Clone_byte_byte.chk (by rw [slices_Clone_byte_byte.eq]; exact hx)
end Go.Proofs.YtcdpakjhjmchhaaDoor.W
namespace Go.Proofs.YtcdpakjhjmchhaaDoor.W
open Go Go.Proofs Go.Proofs.YtcdpakjhjmchhaaDoor.Wx
def adisk_Disk_Read (d1 : Option Addr) (i1 : Int) (K : Value → Heap → Prop) (h1 : Heap) : Prop :=
  onSome d1 fun p1 =>
  ∃ (b1 : Bool), cellOf h1 (Addr.add p1 4) = some (.bool b1) ∧
  bif b1 then (
  K (.tuple #[.slice none 0 0, .int .i64 30]) h1) else (
  C.adisk_Disk_has d1 i1 h1 fun r1 h2 =>
  ∃ (b2 : Bool), r1 = .bool b2 ∧
  bif (!b2) then (
  K (.tuple #[.slice none 0 0, .int .i64 31]) h2) else (
  onSome d1 fun p2 =>
  ∃ (sA1 : Option Addr) (sL1 : Nat) (sC1 : Nat), cellOf h2 (Addr.add p2 0) = some (.slice sA1 sL1 sC1) ∧
  (0 ≤ i1 ∧ i1 < (sL1 : Int)) ∧
  onSome sA1 fun p3 =>
  ∃ cs1 : List Value, List.length cs1 = 512 ∧ Cells h2 (Addr.add p3 ((Int.toNat i1) * 512)) cs1 ∧
  NewRow z145 145 cs1 512 h2 fun h4 =>
  onSome d1 fun p4 =>
  ∃ (sA2 : Option Addr) (sL2 : Nat) (sC2 : Nat), cellOf h4 (Addr.add p4 1) = some (.slice sA2 sL2 sC2) ∧
  ∃ (I1 : Int → Heap → Prop) (M1 : Int → Heap → Nat), I1 0 h4 ∧
  ∀ (n1 : Int), ∀ h5 : Heap, I1 n1 h5 →
  bif (decide (n1 < (sL2 : Int))) then (
  (0 ≤ n1 ∧ n1 < (sL2 : Int)) ∧
  onSome sA2 fun p5 =>
  ∃ cs2 : List Value, List.length cs2 = 513 ∧ Cells h5 (Addr.add p5 ((Int.toNat n1) * 513)) cs2 ∧
  NewRow z199 199 cs2 513 h5 fun h7 =>
  ∃ (n2 : Int), cellOf h7 (Addr.add ⟨h5.size, 0, none⟩ 0) = some (.int .i64 n2) ∧
  bif (n2 == i1) then (
  ∃ cs3 : List Value, List.length cs3 = 512 ∧ Cells h7 (Addr.add ⟨h5.size, 0, none⟩ 1) cs3 ∧
  PutRow ⟨h2.size, 0, none⟩ cs3 512 h7 fun h8 =>
  I1 (IntKind.wrap .i64 (n1 + 1)) h8 ∧ M1 (IntKind.wrap .i64 (n1 + 1)) h8 < M1 n1 h5) else (
  I1 (IntKind.wrap .i64 (n1 + 1)) h7 ∧ M1 (IntKind.wrap .i64 (n1 + 1)) h7 < M1 n1 h5)) else (
  K (.tuple #[.slice (some ⟨h2.size, 0, none⟩) 512 512, .int .i64 0]) h5)))
def adisk_Disk_Read.lo : Nat → List Nat × List (Nat × Ty) := fun n => match n with | 7 => ([1, 6, 29, 30], [(31, .int .i64)]) | _ => ([], [])
def adisk_Disk_Read.od : Nat → Od := fun n => match n with | _ => .nil
theorem adisk_Disk_Read.eq (d1 : Option Addr) (i1 : Int) (K : Value → Heap → Prop) (h : Heap) : fnX (cx adisk_Disk_Read.lo adisk_Disk_Read.od) Tryd.f124 (Tryd.f124.body.getD .skip) [.pointer d1, .int .i64 i1] K h = adisk_Disk_Read d1 i1 K h := by kernel_rfl
theorem adisk_Disk_Read.chk : fnOk (cx adisk_Disk_Read.lo adisk_Disk_Read.od) Tryd.f124 (Tryd.f124.body.getD .skip) 2 = true := by kernel_rfl
theorem adisk_Disk_Read.ok {d1 : Option Addr} {i1 : Int} {K : Value → Heap → Prop} {h : Heap} (hx : adisk_Disk_Read d1 i1 K h) : C.adisk_Disk_Read d1 i1 h K :=
  fn_to (cxOk _ _) Tryd.func124 (by kernel_rfl) adisk_Disk_Read.chk (by rw [adisk_Disk_Read.eq]; exact hx)
def space_Give.k1 (t1 : Option Addr) (i1 : Int) (h1 : Heap) (h2 : Heap) (K : Value → Heap → Prop) : Prop :=
  ∃ cs1 : List Value, List.length cs1 = 5 ∧ Cells h2 ⟨h1.size, 0, none⟩ cs1 ∧
  C.space_Used t1 cs1 i1 h2 fun r1 h3 =>
  ∃ (b1 : Bool) (n3 : Int), r1 = .tuple #[.bool b1, .int .i64 n3] ∧
  bif (n3 != 0) then (
  K (.int .i64 n3) h3) else (
  bif (!b1) then (
  K (.int .i64 91) h3) else (
  ∃ cs2 : List Value, List.length cs2 = 5 ∧ Cells h3 ⟨h1.size, 0, none⟩ cs2 ∧
  C.space_set t1 cs2 i1 false h3 fun r2 h4 =>
  ∃ (n4 : Int), r2 = .int .i64 n4 ∧
  K (.int .i64 n4) h4))
def space_Give (t1 : Option Addr) (g1 : List Value) (i1 : Int) (K : Value → Heap → Prop) (h1 : Heap) : Prop :=
  New g1 29 h1 fun h2 =>
  ∃ (n1 : Int), cellOf h2 (Addr.add ⟨h1.size, 0, none⟩ 3) = some (.int .i64 n1) ∧
  bif (decide (i1 < n1)) then (
  K (.int .i64 91) h2) else (
  ∃ (n2 : Int), cellOf h2 (Addr.add ⟨h1.size, 0, none⟩ 0) = some (.int .i64 n2) ∧
  bif (decide (i1 ≥ n2)) then (
  K (.int .i64 91) h2) else (
  space_Give.k1 t1 i1 h1 h2 K))
def space_Give.lo : Nat → List Nat × List (Nat × Ty) := fun n => match n with | _ => ([], [])
def space_Give.od : Nat → Od := fun n => match n with | _ => .nil
theorem space_Give.eq (t1 : Option Addr) (g1 : List Value) (i1 : Int) (K : Value → Heap → Prop) (h : Heap) : fnX (cx space_Give.lo space_Give.od) Tryd.f126 (Tryd.f126.body.getD .skip) [.pointer t1, .agg ⟨g1⟩, .int .i64 i1] K h = space_Give t1 g1 i1 K h := by kernel_rfl
theorem space_Give.chk : fnOk (cx space_Give.lo space_Give.od) Tryd.f126 (Tryd.f126.body.getD .skip) 3 = true := by kernel_rfl
theorem space_Give.ok {t1 : Option Addr} {g1 : List Value} {i1 : Int} {K : Value → Heap → Prop} {h : Heap} (hx : space_Give t1 g1 i1 K h) : C.space_Give t1 g1 i1 h K :=
  fn_to (cxOk _ _) Tryd.func126 (by kernel_rfl) space_Give.chk (by rw [space_Give.eq]; exact hx)
def bits_Put (bA1 : Option Addr) (bL1 : Nat) (bC1 : Nat) (i1 : Int) (is1 : Bool) (K : Value → Heap → Prop) (h1 : Heap) : Prop :=
  C.bits_has bA1 bL1 bC1 i1 h1 fun r1 h2 =>
  ∃ (b1 : Bool), r1 = .bool b1 ∧
  bif (!b1) then (
  K (.int .i64 80) h2) else (
  bif is1 then (
  (0 ≤ (IntKind.wrap .i64 (Int.tdiv i1 8)) ∧ (IntKind.wrap .i64 (Int.tdiv i1 8)) < (bL1 : Int)) ∧
  onSome bA1 fun p1 =>
  ∃ (n1 : Int), cellOf h2 (Addr.add p1 (Int.toNat (IntKind.wrap .i64 (Int.tdiv i1 8)))) = some (.int .u8 n1) ∧
  if (Int.tmod i1 8) < 0 then False else
  (0 ≤ (IntKind.wrap .i64 (Int.tdiv i1 8)) ∧ (IntKind.wrap .i64 (Int.tdiv i1 8)) < (bL1 : Int)) ∧
  onSome bA1 fun p2 =>
  Put (Addr.add p2 (Int.toNat (IntKind.wrap .i64 (Int.tdiv i1 8)))) (.int .u8 (bitsI .or .u8 n1 (IntKind.wrap .u8 ((1 * 2 ^ min (Int.toNat (Int.tmod i1 8)) 8))))) h2 fun h3 =>
  K (.int .i64 0) h3) else (
  (0 ≤ (IntKind.wrap .i64 (Int.tdiv i1 8)) ∧ (IntKind.wrap .i64 (Int.tdiv i1 8)) < (bL1 : Int)) ∧
  onSome bA1 fun p3 =>
  ∃ (n2 : Int), cellOf h2 (Addr.add p3 (Int.toNat (IntKind.wrap .i64 (Int.tdiv i1 8)))) = some (.int .u8 n2) ∧
  if (Int.tmod i1 8) < 0 then False else
  (0 ≤ (IntKind.wrap .i64 (Int.tdiv i1 8)) ∧ (IntKind.wrap .i64 (Int.tdiv i1 8)) < (bL1 : Int)) ∧
  onSome bA1 fun p4 =>
  Put (Addr.add p4 (Int.toNat (IntKind.wrap .i64 (Int.tdiv i1 8)))) (.int .u8 (bitsI .andNot .u8 n2 (IntKind.wrap .u8 ((1 * 2 ^ min (Int.toNat (Int.tmod i1 8)) 8))))) h2 fun h4 =>
  K (.int .i64 0) h4))
def bits_Put.lo : Nat → List Nat × List (Nat × Ty) := fun n => match n with | _ => ([], [])
def bits_Put.od : Nat → Od := fun n => match n with | 4 => (.op 0 [] (.op 1 [] (.op 2 [] (.op 3 [] (.op 4 [] (.op 5 [] (.op 6 [] (.op 7 [] (.op 8 [] (.op 9 [] (.op 10 [] .nil))))))))))) | 5 => (.op 0 [] (.op 1 [] (.op 2 [] (.op 3 [] (.op 4 [] (.op 5 [] (.op 6 [] (.op 7 [] (.op 8 [] (.op 9 [] (.op 10 [] .nil))))))))))) | _ => .nil
theorem bits_Put.eq (bA1 : Option Addr) (bL1 : Nat) (bC1 : Nat) (i1 : Int) (is1 : Bool) (K : Value → Heap → Prop) (h : Heap) : fnX (cx bits_Put.lo bits_Put.od) Tryd.f127 (Tryd.f127.body.getD .skip) [.slice bA1 bL1 bC1, .int .i64 i1, .bool is1] K h = bits_Put bA1 bL1 bC1 i1 is1 K h := by kernel_rfl
theorem bits_Put.chk : fnOk (cx bits_Put.lo bits_Put.od) Tryd.f127 (Tryd.f127.body.getD .skip) 3 = true := by kernel_rfl
theorem bits_Put.ok {bA1 : Option Addr} {bL1 : Nat} {bC1 : Nat} {i1 : Int} {is1 : Bool} {K : Value → Heap → Prop} {h : Heap} (hx : bits_Put bA1 bL1 bC1 i1 is1 K h) : C.bits_Put bA1 bL1 bC1 i1 is1 h K :=
  fn_to (cxOk _ _) Tryd.func127 (by kernel_rfl) bits_Put.chk (by rw [bits_Put.eq]; exact hx)
def rec_isWidth (n1 : Int) (K : Value → Heap → Prop) (h1 : Heap) : Prop :=
  bif (decide (n1 ≥ 0)) then (
  bif (decide (n1 < 9)) then (
  (0 ≤ n1 ∧ n1 < (9 : Int)) ∧
  ∃ (b1 : Bool), cellOf h1 (Addr.add ⟨0, 0, none⟩ (Int.toNat n1)) = some (.bool b1) ∧
  K (.bool b1) h1) else (
  K (.bool false) h1)) else (
  K (.bool false) h1)
def rec_isWidth.lo : Nat → List Nat × List (Nat × Ty) := fun n => match n with | _ => ([], [])
def rec_isWidth.od : Nat → Od := fun n => match n with | _ => .nil
theorem rec_isWidth.eq (n1 : Int) (K : Value → Heap → Prop) (h : Heap) : fnX (cx rec_isWidth.lo rec_isWidth.od) Tryd.f128 (Tryd.f128.body.getD .skip) [.int .i64 n1] K h = rec_isWidth n1 K h := by kernel_rfl
theorem rec_isWidth.chk : fnOk (cx rec_isWidth.lo rec_isWidth.od) Tryd.f128 (Tryd.f128.body.getD .skip) 1 = true := by kernel_rfl
theorem rec_isWidth.ok {n1 : Int} {K : Value → Heap → Prop} {h : Heap} (hx : rec_isWidth n1 K h) : C.rec_isWidth n1 h K :=
  fn_to (cxOk _ _) Tryd.func128 (by kernel_rfl) rec_isWidth.chk (by rw [rec_isWidth.eq]; exact hx)
def rec_lie (bA1 : Option Addr) (bL1 : Nat) (bC1 : Nat) (at1 : Int) (n1 : Int) (K : Value → Heap → Prop) (h1 : Heap) : Prop :=
  bif (decide (at1 ≥ 0)) then (
  bif (decide (n1 ≥ 0)) then (
  bif (decide (at1 ≤ (bL1 : Int))) then (
  K (.bool (decide (n1 ≤ (IntKind.wrap .i64 ((bL1 : Int) - at1))))) h1) else (
  K (.bool false) h1)) else (
  K (.bool false) h1)) else (
  K (.bool false) h1)
def rec_lie.lo : Nat → List Nat × List (Nat × Ty) := fun n => match n with | _ => ([], [])
def rec_lie.od : Nat → Od := fun n => match n with | _ => .nil
theorem rec_lie.eq (bA1 : Option Addr) (bL1 : Nat) (bC1 : Nat) (at1 : Int) (n1 : Int) (K : Value → Heap → Prop) (h : Heap) : fnX (cx rec_lie.lo rec_lie.od) Tryd.f129 (Tryd.f129.body.getD .skip) [.slice bA1 bL1 bC1, .int .i64 at1, .int .i64 n1] K h = rec_lie bA1 bL1 bC1 at1 n1 K h := by kernel_rfl
theorem rec_lie.chk : fnOk (cx rec_lie.lo rec_lie.od) Tryd.f129 (Tryd.f129.body.getD .skip) 3 = true := by kernel_rfl
theorem rec_lie.ok {bA1 : Option Addr} {bL1 : Nat} {bC1 : Nat} {at1 : Int} {n1 : Int} {K : Value → Heap → Prop} {h : Heap} (hx : rec_lie bA1 bL1 bC1 at1 n1 K h) : C.rec_lie bA1 bL1 bC1 at1 n1 h K :=
  fn_to (cxOk _ _) Tryd.func129 (by kernel_rfl) rec_lie.chk (by rw [rec_lie.eq]; exact hx)
def bits_Runs_c1.k2 (yield1 : Value) (i1 : Int) (h2 : Heap) (I1 : Int → Heap → Prop) (M1 : Int → Heap → Nat) (i3 : Int) (i5 : Int) (h10 : Heap) (K : Value → Heap → Prop) : Prop :=
  bif (i5 == i3) then (
  K (.tuple #[]) h10) else (
  HCallsV Tryd.prog yield1 [.int .i64 i3, .int .i64 (IntKind.wrap .i64 (i5 - i3))] h10 fun r5 h11 =>
  ∃ (b5 : Bool), r5 = .bool b5 ∧
  bif (!b5) then (
  K (.tuple #[]) h11) else (
  I1 i5 h11 ∧ M1 i5 h11 < M1 i1 h2))
def bits_Runs_c1.k1 (yield1 : Value) (cap1 : Option Addr) (i1 : Int) (h2 : Heap) (I1 : Int → Heap → Prop) (M1 : Int → Heap → Nat) (i3 : Int) (h6 : Heap) (K : Value → Heap → Prop) : Prop :=
  ∃ (I3 : Int → Heap → Prop) (M3 : Int → Heap → Nat), I3 i3 h6 ∧
  ∀ (i4 : Int), ∀ h7 : Heap, I3 i4 h7 →
  onSome cap1 fun p3 =>
  ∃ (sA3 : Option Addr) (sL3 : Nat) (sC3 : Nat), cellOf h7 p3 = some (.slice sA3 sL3 sC3) ∧
  C.bits_has sA3 sL3 sC3 i4 h7 fun r3 h8 =>
  ∃ (b3 : Bool), r3 = .bool b3 ∧
  bif b3 then (
  onSome cap1 fun p4 =>
  ∃ (sA4 : Option Addr) (sL4 : Nat) (sC4 : Nat), cellOf h8 p4 = some (.slice sA4 sL4 sC4) ∧
  C.bits_on sA4 sL4 sC4 i4 h8 fun r4 h9 =>
  ∃ (b4 : Bool), r4 = .bool b4 ∧
  bif (!b4) then (
  I3 (IntKind.wrap .i64 (i4 + 1)) h9 ∧ M3 (IntKind.wrap .i64 (i4 + 1)) h9 < M3 i4 h7) else (
  bits_Runs_c1.k2 yield1 i1 h2 I1 M1 i3 i4 h9 K)) else (
  bits_Runs_c1.k2 yield1 i1 h2 I1 M1 i3 i4 h8 K)
def bits_Runs_c1 (yield1 : Value) (cap1 : Option Addr) (K : Value → Heap → Prop) (h1 : Heap) : Prop :=
  ∃ (I1 : Int → Heap → Prop) (M1 : Int → Heap → Nat), I1 0 h1 ∧
  ∀ (i1 : Int), ∀ h2 : Heap, I1 i1 h2 →
  ∃ (I2 : Int → Heap → Prop) (M2 : Int → Heap → Nat), I2 i1 h2 ∧
  ∀ (i2 : Int), ∀ h3 : Heap, I2 i2 h3 →
  onSome cap1 fun p1 =>
  ∃ (sA1 : Option Addr) (sL1 : Nat) (sC1 : Nat), cellOf h3 p1 = some (.slice sA1 sL1 sC1) ∧
  C.bits_has sA1 sL1 sC1 i2 h3 fun r1 h4 =>
  ∃ (b1 : Bool), r1 = .bool b1 ∧
  bif b1 then (
  onSome cap1 fun p2 =>
  ∃ (sA2 : Option Addr) (sL2 : Nat) (sC2 : Nat), cellOf h4 p2 = some (.slice sA2 sL2 sC2) ∧
  C.bits_on sA2 sL2 sC2 i2 h4 fun r2 h5 =>
  ∃ (b2 : Bool), r2 = .bool b2 ∧
  bif b2 then (
  I2 (IntKind.wrap .i64 (i2 + 1)) h5 ∧ M2 (IntKind.wrap .i64 (i2 + 1)) h5 < M2 i2 h3) else (
  bits_Runs_c1.k1 yield1 cap1 i1 h2 I1 M1 i2 h5 K)) else (
  bits_Runs_c1.k1 yield1 cap1 i1 h2 I1 M1 i2 h4 K)
def bits_Runs_c1.lo : Nat → List Nat × List (Nat × Ty) := fun n => match n with | 1 => ([0, 1], [(3, .int .i64)]) | 4 => ([0, 1, 4], [(3, .int .i64)]) | _ => ([], [])
def bits_Runs_c1.od : Nat → Od := fun n => match n with | _ => .nil
theorem bits_Runs_c1.eq (yield1 : Value) (cap1 : Option Addr) (K : Value → Heap → Prop) (h : Heap) : fnX (cx bits_Runs_c1.lo bits_Runs_c1.od) Tryd.f130 (Tryd.f130.body.getD .skip) [yield1, .pointer cap1] K h = bits_Runs_c1 yield1 cap1 K h := by kernel_rfl
theorem bits_Runs_c1.chk : fnOk (cx bits_Runs_c1.lo bits_Runs_c1.od) Tryd.f130 (Tryd.f130.body.getD .skip) 2 = true := by kernel_rfl
theorem bits_Runs_c1.ok {yield1 : Value} {cap1 : Option Addr} {K : Value → Heap → Prop} {h : Heap} (hx : bits_Runs_c1 yield1 cap1 K h) : C.bits_Runs_c1 yield1 cap1 h K :=
  fn_to (cxOk _ _) Tryd.func130 (by kernel_rfl) bits_Runs_c1.chk (by rw [bits_Runs_c1.eq]; exact hx)
def bits_has (bA1 : Option Addr) (bL1 : Nat) (bC1 : Nat) (i1 : Int) (K : Value → Heap → Prop) (h1 : Heap) : Prop :=
  bif (decide (i1 ≥ 0)) then (
  K (.bool (decide (i1 < (IntKind.wrap .i64 (8 * (bL1 : Int)))))) h1) else (
  K (.bool false) h1)
def bits_has.lo : Nat → List Nat × List (Nat × Ty) := fun n => match n with | _ => ([], [])
def bits_has.od : Nat → Od := fun n => match n with | _ => .nil
theorem bits_has.eq (bA1 : Option Addr) (bL1 : Nat) (bC1 : Nat) (i1 : Int) (K : Value → Heap → Prop) (h : Heap) : fnX (cx bits_has.lo bits_has.od) Tryd.f131 (Tryd.f131.body.getD .skip) [.slice bA1 bL1 bC1, .int .i64 i1] K h = bits_has bA1 bL1 bC1 i1 K h := by kernel_rfl
theorem bits_has.chk : fnOk (cx bits_has.lo bits_has.od) Tryd.f131 (Tryd.f131.body.getD .skip) 2 = true := by kernel_rfl
theorem bits_has.ok {bA1 : Option Addr} {bL1 : Nat} {bC1 : Nat} {i1 : Int} {K : Value → Heap → Prop} {h : Heap} (hx : bits_has bA1 bL1 bC1 i1 K h) : C.bits_has bA1 bL1 bC1 i1 h K :=
  fn_to (cxOk _ _) Tryd.func131 (by kernel_rfl) bits_has.chk (by rw [bits_has.eq]; exact hx)
def bits_on (bA1 : Option Addr) (bL1 : Nat) (bC1 : Nat) (i1 : Int) (K : Value → Heap → Prop) (h1 : Heap) : Prop :=
  (0 ≤ (IntKind.wrap .i64 (Int.tdiv i1 8)) ∧ (IntKind.wrap .i64 (Int.tdiv i1 8)) < (bL1 : Int)) ∧
  onSome bA1 fun p1 =>
  ∃ (n1 : Int), cellOf h1 (Addr.add p1 (Int.toNat (IntKind.wrap .i64 (Int.tdiv i1 8)))) = some (.int .u8 n1) ∧
  if (Int.tmod i1 8) < 0 then False else
  K (.bool ((bitsI .and .u8 (Int.fdiv n1 (2 ^ min (Int.toNat (Int.tmod i1 8)) 8)) 1) == 1)) h1
def bits_on.lo : Nat → List Nat × List (Nat × Ty) := fun n => match n with | _ => ([], [])
def bits_on.od : Nat → Od := fun n => match n with | _ => .nil
theorem bits_on.eq (bA1 : Option Addr) (bL1 : Nat) (bC1 : Nat) (i1 : Int) (K : Value → Heap → Prop) (h : Heap) : fnX (cx bits_on.lo bits_on.od) Tryd.f132 (Tryd.f132.body.getD .skip) [.slice bA1 bL1 bC1, .int .i64 i1] K h = bits_on bA1 bL1 bC1 i1 K h := by kernel_rfl
theorem bits_on.chk : fnOk (cx bits_on.lo bits_on.od) Tryd.f132 (Tryd.f132.body.getD .skip) 2 = true := by kernel_rfl
theorem bits_on.ok {bA1 : Option Addr} {bL1 : Nat} {bC1 : Nat} {i1 : Int} {K : Value → Heap → Prop} {h : Heap} (hx : bits_on bA1 bL1 bC1 i1 K h) : C.bits_on bA1 bL1 bC1 i1 h K :=
  fn_to (cxOk _ _) Tryd.func132 (by kernel_rfl) bits_on.chk (by rw [bits_on.eq]; exact hx)
def geo_Bit.k1 (i1 : Int) (h1 : Heap) (h2 : Heap) (K : Value → Heap → Prop) : Prop :=
  ∃ (n2 : Int), cellOf h2 (Addr.add ⟨h1.size, 0, none⟩ 1) = some (.int .i64 n2) ∧
  K (.tuple #[.int .i64 (IntKind.wrap .i64 (n2 + (IntKind.wrap .i64 (Int.tdiv i1 4096)))), .int .i64 (Int.tmod i1 4096), .int .i64 0]) h2
def geo_Bit (g1 : List Value) (i1 : Int) (K : Value → Heap → Prop) (h1 : Heap) : Prop :=
  New g1 29 h1 fun h2 =>
  bif (decide (i1 < 0)) then (
  K (.tuple #[.int .i64 0, .int .i64 0, .int .i64 31]) h2) else (
  ∃ (n1 : Int), cellOf h2 (Addr.add ⟨h1.size, 0, none⟩ 0) = some (.int .i64 n1) ∧
  bif (decide (i1 ≥ n1)) then (
  K (.tuple #[.int .i64 0, .int .i64 0, .int .i64 31]) h2) else (
  geo_Bit.k1 i1 h1 h2 K))
def geo_Bit.lo : Nat → List Nat × List (Nat × Ty) := fun n => match n with | _ => ([], [])
def geo_Bit.od : Nat → Od := fun n => match n with | _ => .nil
theorem geo_Bit.eq (g1 : List Value) (i1 : Int) (K : Value → Heap → Prop) (h : Heap) : fnX (cx geo_Bit.lo geo_Bit.od) Tryd.f133 (Tryd.f133.body.getD .skip) [.agg ⟨g1⟩, .int .i64 i1] K h = geo_Bit g1 i1 K h := by kernel_rfl
theorem geo_Bit.chk : fnOk (cx geo_Bit.lo geo_Bit.od) Tryd.f133 (Tryd.f133.body.getD .skip) 2 = true := by kernel_rfl
theorem geo_Bit.ok {g1 : List Value} {i1 : Int} {K : Value → Heap → Prop} {h : Heap} (hx : geo_Bit g1 i1 K h) : C.geo_Bit g1 i1 h K :=
  fn_to (cxOk _ _) Tryd.func133 (by kernel_rfl) geo_Bit.chk (by rw [geo_Bit.eq]; exact hx)
def adisk_Disk_has (d1 : Option Addr) (i1 : Int) (K : Value → Heap → Prop) (h1 : Heap) : Prop :=
  bif (decide (i1 ≥ 0)) then (
  onSome d1 fun p1 =>
  ∃ (sA1 : Option Addr) (sL1 : Nat) (sC1 : Nat), cellOf h1 (Addr.add p1 0) = some (.slice sA1 sL1 sC1) ∧
  K (.bool (decide (i1 < (sL1 : Int)))) h1) else (
  K (.bool false) h1)
def adisk_Disk_has.lo : Nat → List Nat × List (Nat × Ty) := fun n => match n with | _ => ([], [])
def adisk_Disk_has.od : Nat → Od := fun n => match n with | _ => .nil
theorem adisk_Disk_has.eq (d1 : Option Addr) (i1 : Int) (K : Value → Heap → Prop) (h : Heap) : fnX (cx adisk_Disk_has.lo adisk_Disk_has.od) Tryd.f141 (Tryd.f141.body.getD .skip) [.pointer d1, .int .i64 i1] K h = adisk_Disk_has d1 i1 K h := by kernel_rfl
theorem adisk_Disk_has.chk : fnOk (cx adisk_Disk_has.lo adisk_Disk_has.od) Tryd.f141 (Tryd.f141.body.getD .skip) 2 = true := by kernel_rfl
theorem adisk_Disk_has.ok {d1 : Option Addr} {i1 : Int} {K : Value → Heap → Prop} {h : Heap} (hx : adisk_Disk_has d1 i1 K h) : C.adisk_Disk_has d1 i1 h K :=
  fn_to (cxOk _ _) Tryd.func141 (by kernel_rfl) adisk_Disk_has.chk (by rw [adisk_Disk_has.eq]; exact hx)
end Go.Proofs.YtcdpakjhjmchhaaDoor.W
namespace Go.Proofs.YtcdpakjhjmchhaaDoor.Su
end Go.Proofs.YtcdpakjhjmchhaaDoor.Su
namespace Go.Proofs.YtcdpakjhjmchhaaDoor.Re
open Go Go.Proofs Go.Proofs.YtcdpakjhjmchhaaDoor.Wx Go.Proofs.YtcdpakjhjmchhaaDoor.Hp Go.Proofs.YtcdpakjhjmchhaaDoor.W
def widthsL : List Bool := [false, true, true, false, true, false, false, false, true]
def Wide (h : Heap) : Prop := rd h 0 = widthsL.map .bool
theorem Wide.lt {h : Heap} (g : Wide h) : 0 < h.size := rd_lt (show (rd h 0)[0]? = some (.bool false) by rw [g]; rfl)
theorem Wide.fr {h h' : Heap} {F : Nat → Prop} (g : Wide h) (f : Fr F h h') (hF : ¬ F 0) : Wide h' := (f.rd g.lt hF).trans g
theorem lie_spec {a : Option Addr} {l c : Nat} {at_ n : Int} {h : Heap} {K : Value → Heap → Prop} (hl : l ≤ 140737488355328) (h0 : 0 ≤ at_) (h1 : 0 ≤ n) (h2 : at_ + n ≤ l) (hK : K (.bool true) h) : C.rec_lie a l c at_ n h K := by
  refine rec_lie.ok (ct (decide_eq_true h0) (ct (decide_eq_true h1) (ct (decide_eq_true (by omega)) ?_)))
  rw [wrap_i64 (by omega) (by omega), decide_eq_true (by omega)]; exact hK
/-- bytes as a number, the lowest one first -/
def leN : List UInt8 → Nat
  | [] => 0
  | b :: r => b.toNat + 256 * leN r
theorem leN_lt : ∀ bs : List UInt8, leN bs < 256 ^ bs.length := by
  intro bs
  induction bs with
  | nil => exact Nat.one_pos
  | cons b r ih =>
    have hb : b.toNat < 256 := b.toNat_lt
    rw [leN, List.length_cons, Nat.pow_succ]; omega
theorem leN_snoc (bs : List UInt8) (b : UInt8) : leN (bs ++ [b]) = leN bs + b.toNat * 256 ^ bs.length := by
  induction bs with
  | nil => simp [leN]
  | cons x r ih => rw [List.cons_append, leN, ih, leN, List.length_cons, Nat.pow_succ, Nat.mul_add]; simp only [Nat.mul_comm, Nat.mul_left_comm, Nat.mul_assoc, Nat.add_assoc]
theorem pow_256 (k : Nat) : 256 ^ k = 2 ^ (8 * k) := by rw [Nat.pow_mul]
theorem or_step {v : Nat} {b : UInt8} {k : Nat} (hk : k < 8) (hv : v < 256 ^ k) :
    bitsI .or .u64 (v : Int) (IntKind.wrap .u64 ((IntKind.wrap .u64 (b.toNat : Int)) * 2 ^ min (Int.toNat (IntKind.wrap .i64 (8 * (k : Int)))) 64)) = ((v + b.toNat * 256 ^ k : Nat) : Int) := by
  have hb : b.toNat < 256 := b.toNat_lt
  have wu : ∀ n : Nat, n < 18446744073709551616 → IntKind.wrap .u64 (n : Int) = (n : Int) := fun n h => by
    show (n : Int) % 18446744073709551616 = n
    exact Int.emod_eq_of_lt (by omega) (by omega)
  rw [wrap_i64 (by omega) (by omega), wu _ (by omega)]
  have e1 : min (Int.toNat (8 * (k : Int))) 64 = 8 * k := by omega
  rw [e1]
  have hp : 256 ^ k ≤ 256 ^ 7 := Nat.pow_le_pow_right (by decide) (by omega)
  have hp1 : 256 ^ (k + 1) ≤ 256 ^ 8 := Nat.pow_le_pow_right (by decide) (by omega)
  have hsum : v + b.toNat * 256 ^ k < 256 ^ (k + 1) := by
    rw [Nat.pow_succ]
    have : b.toNat * 256 ^ k ≤ 255 * 256 ^ k := Nat.mul_le_mul_right _ (by omega)
    omega
  have e8 : (256 : Nat) ^ 8 = 18446744073709551616 := by decide
  have e2 : ((b.toNat : Int) * 2 ^ (8 * k)) = ((b.toNat * 256 ^ k : Nat) : Int) := by rw [pow_256]; simp
  rw [e2, wu _ (by omega)]
  show IntKind.wrap .u64 (((BitVec.ofInt 64 (v : Int) ||| BitVec.ofInt 64 ((b.toNat * 256 ^ k : Nat) : Int)).toNat : Nat) : Int) = _
  rw [BitVec.toNat_or, BitVec.ofInt_natCast, BitVec.ofInt_natCast, BitVec.toNat_ofNat, BitVec.toNat_ofNat, Nat.mod_eq_of_lt (by omega), Nat.mod_eq_of_lt (by omega)]
  have e3 : v ||| b.toNat * 256 ^ k = v + b.toNat * 256 ^ k := by
    rw [Nat.or_comm, pow_256, Nat.mul_comm, ← Nat.two_pow_add_eq_or_of_lt (by rw [← pow_256]; exact hv)]
    omega
  rw [e3, wu _ (by omega)]
/-- bytes over bytes -/
def putU (xs : List UInt8) (o : Nat) (ys : List UInt8) : List UInt8 := xs.take o ++ ys ++ xs.drop (o + ys.length)
theorem putU_length {xs ys : List UInt8} {o : Nat} (h : o + ys.length ≤ xs.length) : (putU xs o ys).length = xs.length := by
  simp only [putU, List.length_append, List.length_take, List.length_drop]; omega
theorem putU_put {xs ys : List UInt8} {o : Nat} (h : o + ys.length ≤ xs.length) : put (xs.map bv) o (ys.map bv) = (putU xs o ys).map bv := by
  rw [put_eq _ _ _ (by rw [List.length_map, List.length_map]; exact h)]
  simp only [putU, List.map_append, List.map_take, List.map_drop, List.length_map]
theorem putU_nil (xs : List UInt8) (o : Nat) : putU xs o [] = xs := by simp [putU]
/-- a number as n bytes, the lowest first -/
def leBs (n v : Nat) : List UInt8 := (List.range n).map fun k => UInt8.ofNat (v / 256 ^ k)
theorem leB_length (n v : Nat) : (leBs n v).length = n := by rw [leBs, List.length_map, List.length_range]
theorem byte_of (v k : Nat) (hk : k < 8) : (Value.int .u8 (IntKind.wrap .u8 (Int.fdiv (v : Int) (2 ^ min (Int.toNat (IntKind.wrap .i64 (8 * (k : Int)))) 64)))) = bv (UInt8.ofNat (v / 256 ^ k)) := by
  rw [wrap_i64 (by omega) (by omega), show min (Int.toNat (8 * (k : Int))) 64 = 8 * k by omega]
  have e : Int.fdiv (v : Int) (2 ^ (8 * k)) = ((v / 256 ^ k : Nat) : Int) := by
    rw [pow_256, Int.fdiv_eq_ediv_of_nonneg _ (by exact Int.le_of_lt (Int.pow_pos (by decide)))]
    simp
  rw [e]
  show Value.int .u8 (((v / 256 ^ k : Nat) : Int) % 256) = Value.int .u8 ((UInt8.ofNat (v / 256 ^ k)).toNat : Int)
  rw [UInt8.toNat_ofNat']
  simp
end Go.Proofs.YtcdpakjhjmchhaaDoor.Re
namespace Go.Proofs.YtcdpakjhjmchhaaDoor.Hd
open Go Go.Proofs Go.Proofs.YtcdpakjhjmchhaaDoor.Wx Go.Proofs.YtcdpakjhjmchhaaDoor.Hp Go.Proofs.YtcdpakjhjmchhaaDoor.W Go.Proofs.YtcdpakjhjmchhaaDoor.Re
def ints (ns : List Int) : List Value := ns.map fun n => .int .i64 n
theorem ints_get {h : Heap} {a : Option Addr} {ns : List Int} (c : SlCells h a (ints ns)) {i : Nat} (hi : i < ns.length) : ∃ p, a = some p ∧ cellOf h (p.add i) = some (.int .i64 ns[i]) := by
  cases a with
  | none => have c : ints ns = [] := c; have := List.map_eq_nil_iff.mp c; rw [this] at hi; exact absurd hi (by simp)
  | some p => exact ⟨p, rfl, c i _ (by rw [ints, List.getElem?_map, List.getElem?_eq_getElem hi]; rfl)⟩
theorem wrap_u64 {n : Int} (h0 : 0 ≤ n) (h1 : n < 18446744073709551616) : IntKind.wrap .u64 n = n := by
  show n % 18446744073709551616 = n
  exact Int.emod_eq_of_lt h0 h1
end Go.Proofs.YtcdpakjhjmchhaaDoor.Hd
namespace Go.Proofs.YtcdpakjhjmchhaaDoor.In
open Go Go.Proofs Go.Proofs.YtcdpakjhjmchhaaDoor.Wx Go.Proofs.YtcdpakjhjmchhaaDoor.Hp Go.Proofs.YtcdpakjhjmchhaaDoor.W Go.Proofs.YtcdpakjhjmchhaaDoor.Su Go.Proofs.YtcdpakjhjmchhaaDoor.Re Go.Proofs.YtcdpakjhjmchhaaDoor.Hd
/-- the laid table -/
structure Glo (h : Heap) : Prop where
  wide : Wide h
theorem Glo.fr {h h' : Heap} {F : Nat → Prop} (g : Glo h) (f : Fr F h h') (h1 : ∀ b, b < 1 → ¬ F b) : Glo h' := ⟨g.wide.fr f (h1 _ (by decide))⟩
theorem Glo.no {h h' : Heap} (g : Glo h) (f : Fr No h h') : Glo h' := g.fr f fun _ _ x => x
theorem Glo.lt {h : Heap} (g : Glo h) : 1 ≤ h.size := by have := g.wide.lt; omega
theorem isWidth_spec {n : Int} {h : Heap} {K : Value → Heap → Prop} (g : Glo h) (hn : n = 1 ∨ n = 2 ∨ n = 4 ∨ n = 8) (hK : K (.bool true) h) : C.rec_isWidth n h K := by
  refine rec_isWidth.ok (ct (decide_eq_true (by omega)) (ct (decide_eq_true (by omega)) ⟨⟨by omega, by omega⟩, true, rda g.wide ?_, hK⟩))
  rcases hn with rfl | rfl | rfl | rfl <;> rfl
theorem Get_w {a : Option Addr} {l c : Nat} {bs : List UInt8} {at_ n : Int} {h : Heap} {K : Value → Heap → Prop} (g : Glo h) (B : StrAt h a l bs) (hl : l ≤ 140737488355328) (hn : n = 1 ∨ n = 2 ∨ n = 4 ∨ n = 8) (h0 : 0 ≤ at_) (h2 : at_ + n ≤ l)
    (hK : K (.tuple #[.int .u64 (leN ((bs.drop at_.toNat).take n.toNat)), .int .i64 0]) h) : C.rec_Get a l c at_ n h K := by
  have hb := B.1
  refine rec_Get.ok (isWidth_spec g hn ⟨_, rfl, cnot (ct rfl (lie_spec hl h0 (by omega) h2 ⟨_, rfl, cnot (ct rfl ?_)⟩))⟩)
  have hlen : ∀ k : Nat, (k : Int) ≤ n → ((bs.drop at_.toNat).take k).length = k := fun k hk => by rw [List.length_take, List.length_drop]; omega
  refine ⟨fun v k hh => 0 ≤ k ∧ k ≤ n ∧ h = hh ∧ v = (leN ((bs.drop at_.toNat).take k.toNat) : Nat), fun _ k _ => (n - k).toNat, ⟨by omega, by omega, rfl, rfl⟩, ?_⟩
  rintro v k _ ⟨k0, k1, rfl, rfl⟩
  refine cd (fun hk => ?_) fun hk => ?_
  · rw [wrap_i64 (n := at_ + k) (by omega) (by omega)]
    obtain ⟨_, B2⟩ := B
    have hi : at_.toNat + k.toNat < bs.length := by omega
    cases a with
    | none => have B2 : bs.map bv = [] := B2; have := List.map_eq_nil_iff.mp B2; rw [this] at hi; exact absurd hi (by simp)
    | some p =>
      refine ⟨⟨by omega, by omega⟩, os ⟨_, B2 (at_ + k).toNat (bv bs[at_.toNat + k.toNat]) (by rw [show (at_ + k).toNat = at_.toNat + k.toNat by omega, List.getElem?_map, List.getElem?_eq_getElem hi]; rfl), ?_⟩⟩
      have w8 : IntKind.wrap .i64 (8 * k) = 8 * k := wrap_i64 (by omega) (by omega)
      rw [if_neg (by rw [w8]; omega), wrap_i64 (n := k + 1) (by omega) (by omega)]
      have hlk := hlen k.toNat (by omega)
      have hlt := leN_lt ((bs.drop at_.toNat).take k.toNat)
      rw [hlk] at hlt
      have eo := or_step (v := leN ((bs.drop at_.toNat).take k.toNat)) (b := bs[at_.toNat + k.toNat]) (k := k.toNat) (by omega) hlt
      rw [show ((k.toNat : Nat) : Int) = k by omega] at eo
      rw [eo]
      refine ⟨⟨by omega, by omega, rfl, ?_⟩, by show (n - (k + 1)).toNat < (n - k).toNat; omega⟩
      have hi2 : k.toNat < (bs.drop at_.toNat).length := by rw [List.length_drop]; omega
      rw [show (k + 1).toNat = k.toNat + 1 by omega, List.take_succ_eq_append_getElem hi2, leN_snoc, hlk, List.getElem_drop]
  · have : k = n := by omega
    subst this
    exact hK
theorem Put_w {b o l c : Nat} {bs : List UInt8} {at_ n : Int} {v : Nat} {F : Nat → Prop} {h : Heap} {K : Value → Heap → Prop} (g : Glo h) (s : Sl h 1 (some ⟨b, o, none⟩) l c (bs.map bv) F) (hl : l ≤ 140737488355328) (hn : n = 1 ∨ n = 2 ∨ n = 4) (h0 : 0 ≤ at_) (h2 : at_ + n ≤ l)
    (hv : v < 256 ^ n.toNat) (hK : ∀ h', Fr (fun x => x = b) h h' → Sl h' 1 (some ⟨b, o, none⟩) l c ((putU bs at_.toNat (leBs n.toNat v)).map bv) F → K (.int .i64 0) h') : C.rec_Put (some ⟨b, o, none⟩) l c at_ n (v : Int) h K := by
  have hbl := s.1
  rw [List.length_map, Nat.mul_one] at hbl
  refine rec_Put.ok (isWidth_spec g (by omega) ⟨_, rfl, cnot (ct rfl (ct (decide_eq_true (by omega)) ?_))⟩)
  have w8 : IntKind.wrap .i64 (8 * n) = 8 * n := wrap_i64 (by omega) (by omega)
  rw [if_neg (by rw [w8]; omega)]
  have hz : Int.fdiv (v : Int) (2 ^ min (Int.toNat (IntKind.wrap .i64 (8 * n))) 64) = 0 := by
    rw [w8, show min (Int.toNat (8 * n)) 64 = 8 * n.toNat by omega]
    have e : Int.fdiv (v : Int) (2 ^ (8 * n.toNat)) = ((v / 256 ^ n.toNat : Nat) : Int) := by
      rw [pow_256, Int.fdiv_eq_ediv_of_nonneg _ (by exact Int.le_of_lt (Int.pow_pos (by decide)))]
      simp
    rw [e, Nat.div_eq_of_lt hv]; rfl
  refine cf (by rw [hz]; rfl) (lie_spec hl h0 (by omega) h2 ⟨_, rfl, cnot (ct rfl ?_)⟩)
  have hlB := leB_length n.toNat v
  refine ⟨fun k hh => 0 ≤ k ∧ k ≤ n ∧ Fr (fun x => x = b) h hh ∧ Sl hh 1 (some ⟨b, o, none⟩) l c ((putU bs at_.toNat ((leBs n.toNat v).take k.toNat)).map bv) F, fun k _ => (n - k).toNat, ⟨by omega, by omega, Fr.refl _ _, by rw [show (0 : Int).toNat = 0 from rfl, List.take_zero, putU_nil]; exact s⟩, ?_⟩
  rintro k h4 ⟨k0, k1, f4, s4⟩
  refine cd (fun hk => ?_) fun hk => ?_
  · rw [if_neg (by rw [wrap_i64 (by omega) (by omega)]; omega), wrap_i64 (n := at_ + k) (by omega) (by omega)]
    obtain ⟨w1, w2⟩ := s4.wr
    refine ⟨⟨by omega, by omega⟩, os (Put.add w1 (by omega) fun h5 d5 => ?_)⟩
    have hkB : k.toNat < (leBs n.toNat v).length := by omega
    have eb := byte_of v k.toNat (by omega)
    rw [show ((k.toNat : Nat) : Int) = k by omega] at eb
    rw [eb] at d5
    have s5 := s4.putAt (j := (at_ + k).toNat) (new := [_]) (by rw [List.length_singleton]; omega) d5
    rw [wrap_i64 (n := k + 1) (by omega) (by omega)]
    refine ⟨⟨by omega, by omega, f4.did d5 (fun _ => rfl), ?_⟩, by show (n - (k + 1)).toNat < (n - k).toNat; omega⟩
    have hl1 : ((leBs n.toNat v).take k.toNat).length = k.toNat := by rw [List.length_take]; omega
    have ee : (leBs n.toNat v)[k.toNat] = UInt8.ofNat (v / 256 ^ k.toNat) := by simp only [leBs, List.getElem_map, List.getElem_range]
    have ep : put ((putU bs at_.toNat ((leBs n.toNat v).take k.toNat)).map bv) (at_ + k).toNat [bv (UInt8.ofNat (v / 256 ^ k.toNat))] = (putU bs at_.toNat ((leBs n.toNat v).take (k + 1).toNat)).map bv := by
      rw [← putU_put (by rw [hl1]; omega), ← putU_put (by rw [List.length_take]; omega), show (k + 1).toNat = k.toNat + 1 by omega, List.take_succ_eq_append_getElem hkB, List.map_append, List.map_singleton, ee]
      have : ∀ (ys : List Value) (X : List Value) (o : Nat) (y : Value), put X o (ys ++ [y]) = (put X o ys).set (o + ys.length) y := by
        intro ys
        induction ys with
        | nil => intro X o y; rfl
        | cons v r ih =>
          intro X o y
          show put (X.set o v) (o + 1) (r ++ [y]) = _
          rw [ih, List.length_cons, show o + 1 + r.length = o + (r.length + 1) by omega]; rfl
      rw [this, List.length_map, hl1, show (at_ + k).toNat = at_.toNat + k.toNat by omega]; rfl
    rw [ep] at s5
    exact s5
  · have : k = n := by omega
    subst this
    rw [List.take_of_length_le (by omega)] at s4
    exact hK h4 f4 s4
end Go.Proofs.YtcdpakjhjmchhaaDoor.In
namespace Go.Proofs.YtcdpakjhjmchhaaDoor
open Go Go.ChangeShapes Go.WideShapes Go.ChangeAt Go.RowKit Go.Proofs.YtcdpakjhjmchhaaDoor.Wx Go.Proofs.YtcdpakjhjmchhaaDoor.Hp Go.Proofs.YtcdpakjhjmchhaaDoor.Gl
theorem Tryd.own : ownKnob Tryd.prog.godebug = none := by kernel_rfl
theorem Tryd.laidOut : laidOutB Tryd.prog = true := by kernel_rfl
theorem Tryd.cellsBool : Tryd.prog.cellsOf 4 = 1 := by kernel_rfl
theorem Tryd.cellsInt : Tryd.prog.cellsOf 3 = 1 := by kernel_rfl
theorem Tryd.cellsWide : Tryd.prog.cellsOf 202 = 9 := by kernel_rfl
theorem Tryd.gWide : Tryd.prog.globalNamed "bole/rec.widths" = some 0 := by kernel_rfl
theorem Tryd.tWide : (Tryd.prog.globals[0]?).map (·.type) = some 202 := by kernel_rfl
theorem Tryd.bytesInt : Tryd.prog.bytesOf 3 = 8 := by kernel_rfl
/-- what the rows' list gives -/
theorem table1 {W : World} (h : laidMetH Tryd.prog [("bole/rec.widths", Rows.laid_bole_rec_widths)] W) : In.Glo W.heap := by
  obtain ⟨ps, ⟨g', t', cs, fuel, p, q, hg', ht', hvar, hd, _, _⟩, _⟩ := h
  obtain rfl := Option.some.inj (Tryd.gWide.symm.trans hg')
  obtain rfl := Option.some.inj (Tryd.tWide.symm.trans ht')
  exact ⟨(rd_var Tryd.gWide hvar).trans (cells_of_bools (zs := Re.widthsL) Tryd.underlying202 Tryd.underlying4 Tryd.cellsBool Tryd.cellsWide hd)⟩
def layO (cs : List Value) : Obj → Obj
  | .cells _ t frozen => .cells ⟨cs⟩ t frozen
  | o => o
/-- a world for the witness: the table holds what its initialiser lays -/
noncomputable def laidWorld (os : Os) : World :=
  { World.holding Tryd.prog os ⟨#[], #[], []⟩ with heap := ((World.holding Tryd.prog os ⟨#[], #[], []⟩).heap.modify 0 (layO (Re.widthsL.map .bool))) }
theorem one_int {H : Type} {enc : TypeId × Value → H} {W : World} (n : Nat) (cs : List Value) (y : DataW H × List MemPlace) (h : DataW.trod enc Tryd.prog W 0 (fun _ => true) true n 3 cs = some y) : ∃ x : Int, cs = [Value.int .i64 x] := by
  obtain ⟨x, e, _⟩ := DataW.trod_int Tryd.underlying3 h
  exact ⟨x, e⟩
end Go.Proofs.YtcdpakjhjmchhaaDoor
namespace Go.Proofs.YtcdpakjhjmchhaaDoor.Ad
open Go Go.Proofs Go.Proofs.YtcdpakjhjmchhaaDoor.Wx Go.Proofs.YtcdpakjhjmchhaaDoor.Hp Go.Proofs.YtcdpakjhjmchhaaDoor.W
structure RD where
  lasts : List (List UInt8)
  pend : List (Int × List UInt8)
  left : Int
  keep : List Bool
  down : Bool
  writes : Int
  flushes : Int
  tape : List (Int × Int × List UInt8)
def blk (b : List UInt8) : List Value := b.map bv
def pcell (p : Int × List UInt8) : List Value := .int .i64 p.1 :: p.2.map bv
structure Ent where
  kind : Int
  at_ : Int
  a : Option Addr
  l : Nat
  c : Nat
def Ent.cells (e : Ent) : List Value := [.int .i64 e.kind, .int .i64 e.at_, .slice e.a e.l e.c]
/-- entries of a tape with their bytes, in blocks of colour k -/
def Ents (h : Heap) (col : Nat → Nat) (k : Nat) : List Ent → List (Int × Int × List UInt8) → Prop
  | [], [] => True
  | e :: r, t :: s => e.kind = t.1 ∧ e.at_ = t.2.1 ∧ StrAt h e.a e.l t.2.2 ∧ (∀ p, e.a = some p → p.block < h.size ∧ col p.block = k) ∧ Ents h col k r s
  | _, _ => False
theorem Ents.keep {h h' : Heap} {col col' : Nat → Nat} {k : Nat} {F : Nat → Prop} (f : Fr F h h') (g : Ag h.size col col') (hF : ∀ b, col b = k → ¬ F b) :
    ∀ {es : List Ent} {ts : List (Int × Int × List UInt8)}, Ents h col k es ts → Ents h' col' k es ts := by
  intro es
  induction es with
  | nil => intro ts e; cases ts with
    | nil => trivial
    | cons _ _ => exact e.elim
  | cons x r ih => intro ts e; cases ts with
    | nil => exact e.elim
    | cons t s =>
      obtain ⟨h1, h2, h3, h4, h5⟩ := e
      exact ⟨h1, h2, StrAt.fr f h3 (fun p hp => hF _ (h4 p hp).2), fun p hp => ⟨Nat.lt_of_lt_of_le (h4 p hp).1 f.size, (g _ (h4 p hp).1).trans (h4 p hp).2⟩, ih h5⟩
/-- the cells of a disk's struct -/
structure Raw where
  la : Option Addr
  ln : Nat
  lc : Nat
  pa : Option Addr
  pn : Nat
  pc : Nat
  left : Int
  ka : Option Addr
  kn : Nat
  kc : Nat
  down : Bool
  writes : Int
  flushes : Int
  ta : Option Addr
  tn : Nat
  tc : Nat
def Raw.cells (r : Raw) : List Value :=
  [.slice r.la r.ln r.lc, .slice r.pa r.pn r.pc, .int .i64 r.left, .slice r.ka r.kn r.kc, .bool r.down, .int .i64 r.writes, .int .i64 r.flushes, .slice r.ta r.tn r.tc]
/-- what the cells of a disk lead to, in colours m+1 .. m+5 -/
structure Parts (h : Heap) (S : RD) (col : Nat → Nat) (m : Nat) (r : Raw) (es : List Ent) : Prop where
  left : r.left = S.left
  leftb : 0 ≤ S.left ∧ S.left ≤ 9223372036854775807
  down : r.down = S.down
  writes : r.writes = S.writes
  flushes : r.flushes = S.flushes
  l : Sl h 512 r.la r.ln r.lc (S.lasts.flatMap blk) (On col (m + 1))
  lw : ∀ x ∈ S.lasts, x.length = 512
  ln : r.ln = S.lasts.length
  lmax : S.lasts.length ≤ 16384
  p : Sl h 513 r.pa r.pn r.pc (S.pend.flatMap pcell) (On col (m + 2))
  pw : ∀ x ∈ S.pend, x.2.length = 512
  pn : r.pn = S.pend.length
  pi : ∀ x ∈ S.pend, 0 ≤ x.1 ∧ x.1 < S.lasts.length
  pmax : S.pend.length ≤ 140737488355328
  k : Sl h 1 r.ka r.kn r.kc (S.keep.map .bool) (On col (m + 3))
  kn : r.kn = S.keep.length
  t : Sl h 3 r.ta r.tn r.tc (es.flatMap Ent.cells) (On col (m + 4))
  tn : r.tn = es.length
  tmax : es.length ≤ 140737488355328
  ts : Ents h col (m + 5) es S.tape
/-- a disk stands at block b, in colour m -/
structure Disk (h : Heap) (b : Nat) (S : RD) (col : Nat → Nat) (m : Nat) (r : Raw) (es : List Ent) : Prop extends Parts h S col m r es where
  sc : col b = m
  so : Own h b
  sr : rd h b = r.cells
def DiskAt (h : Heap) (d : Option Addr) (S : RD) (col : Nat → Nat) (m : Nat) : Prop := ∃ b r es, d = some ⟨b, 0, none⟩ ∧ Disk h b S col m r es
theorem Parts.keep {h h' : Heap} {S : RD} {col col' : Nat → Nat} {m : Nat} {r : Raw} {es : List Ent} {F : Nat → Prop} (d : Parts h S col m r es) (f : Fr F h h') (g : Ag h.size col col')
    (hF : ∀ b, m + 1 ≤ col b → col b ≤ m + 5 → ¬ F b) : Parts h' S col' m r es :=
  ⟨d.left, d.leftb, d.down, d.writes, d.flushes, d.l.keep f g (fun b e => hF b (by omega) (by omega)), d.lw, d.ln, d.lmax,
    d.p.keep f g (fun b e => hF b (by omega) (by omega)), d.pw, d.pn, d.pi, d.pmax, d.k.keep f g (fun b e => hF b (by omega) (by omega)), d.kn, d.t.keep f g (fun b e => hF b (by omega) (by omega)), d.tn, d.tmax,
    Ents.keep f g (fun b e => hF b (by omega) (by omega)) d.ts⟩
theorem Disk.keep' {h h' : Heap} {b : Nat} {S : RD} {col col' : Nat → Nat} {m : Nat} {r : Raw} {es : List Ent} {F : Nat → Prop} (d : Disk h b S col m r es) (f : Fr F h h') (g : Ag h.size col col')
    (hF : ∀ b, m ≤ col b → col b ≤ m + 5 → ¬ F b) : Disk h' b S col' m r es := by
  have hb := d.so.lt
  have hs : ¬ F b := hF b (by have := d.sc; omega) (by have := d.sc; omega)
  exact ⟨d.toParts.keep f g (fun b h1 h2 => hF b (by omega) h2), (g _ hb).trans d.sc, f.own hb hs d.so, (f.rd hb hs).trans d.sr⟩
theorem DiskAt.keep {h h' : Heap} {d : Option Addr} {S : RD} {col col' : Nat → Nat} {m : Nat} {F : Nat → Prop} (D : DiskAt h d S col m) (f : Fr F h h') (g : Ag h.size col col')
    (hF : ∀ b, m ≤ col b → col b ≤ m + 5 → ¬ F b) : DiskAt h' d S col' m := by
  obtain ⟨b, r, es, e, D⟩ := D; exact ⟨b, r, es, e, D.keep' f g hF⟩
def fresh (ls : List (List UInt8)) : RD := ⟨ls, [], 0, [], false, 0, 0, []⟩
def zeroBlk : List UInt8 := List.replicate 512 0
theorem repCells_zero (z : List Value) (hz : z = List.replicate 512 (.int .u8 0)) (n : Nat) : repCells z n = (List.replicate n zeroBlk).flatMap blk := by
  rw [repCells_eq, List.flatMap_replicate]
  subst hz
  have : blk zeroBlk = List.replicate 512 (.int .u8 0) := by simp only [blk, zeroBlk, List.map_replicate]; rfl
  rw [this]
theorem New_spec {n : Int} {h : Heap} {K : Value → Heap → Prop} (col : Nat → Nat) (m : Nat)
    (h1 : n < 1 ∨ 16384 < n → K (.tuple #[.pointer none, .int .i64 32]) h)
    (h2 : 1 ≤ n → n ≤ 16384 → ∀ q h' col', Fr No h h' → Ag h.size col col' → DiskAt h' (some q) (fresh (List.replicate n.toNat zeroBlk)) col' m → K (.tuple #[.pointer (some q), .int .i64 0]) h') :
    C.adisk_New n h K := by
  refine adisk_New.ok ?_
  refine cd (fun a => h1 (Or.inl a)) fun a => cd (fun b => h1 (Or.inr b)) fun b => ⟨by omega, ?_⟩
  refine New.intro fun h2' n2 => New.intro fun h3 n3 => ?_
  refine h2 (by omega) (by omega) _ _ (upd (upd col h.size (m + 1)) (h.size + 1) m) (n2.fr.new n3) ((ag_upd _ _ _).trans (ag_upd _ _ _) (by omega)) ?_
  refine ⟨_, ⟨some ⟨h.size, 0, none⟩, n.toNat, n.toNat, none, 0, 0, 0, none, 0, 0, false, 0, 0, none, 0, 0⟩, [], rfl, ?_⟩
  have hl := flat_length blk 512 (List.replicate n.toNat zeroBlk) (by intro x hx; rw [List.eq_of_mem_replicate hx]; simp only [blk, zeroBlk, List.length_map, List.length_replicate])
  rw [List.length_replicate] at hl
  have e2 : rd h2' h.size = (List.replicate n.toNat zeroBlk).flatMap blk := n2.rd.trans (repCells_zero _ rfl _)
  refine ⟨⟨rfl, ⟨by simp [fresh], by simp [fresh]⟩, rfl, rfl, rfl, ?_, ?_, ?_, ?_, Sl.nil _ _ _, ?_, rfl, ?_, by simp [fresh], Sl.nil _ _ _, rfl, Sl.nil _ _ _, rfl, by simp, trivial⟩, upd_ge (by rw [n2.size]; omega), n3.own, n3.rd⟩
  · refine ⟨hl, rfl, ?_, n3.ow n2.own, Nat.le_refl _, ?_, ?_⟩
    · show upd (upd col h.size (m + 1)) (h.size + 1) m h.size = m + 1
      rw [upd_lt (by omega), upd_ge (Nat.le_refl _)]
    · show ((rd h3 h.size).drop 0).take _ = _
      rw [n3.at_ n2.own.lt, e2, List.drop_zero]; exact List.take_length
    · show 0 + n.toNat * 512 ≤ (rd h3 h.size).length
      rw [n3.at_ n2.own.lt, e2, hl]; omega
  · intro x hx; rw [List.eq_of_mem_replicate hx]; simp only [zeroBlk, List.length_replicate]
  · simp [fresh]
  · simp only [fresh, List.length_replicate]; omega
  · intro x hx; simp [fresh] at hx
  · intro x hx; simp [fresh] at hx
end Go.Proofs.YtcdpakjhjmchhaaDoor.Ad
namespace Go.Proofs.YtcdpakjhjmchhaaDoor.Ad
open Go Go.Proofs Go.Proofs.YtcdpakjhjmchhaaDoor.Wx Go.Proofs.YtcdpakjhjmchhaaDoor.Hp Go.Proofs.YtcdpakjhjmchhaaDoor.W
theorem Disk.field {h : Heap} {b : Nat} {S : RD} {col : Nat → Nat} {m : Nat} {r : Raw} {es : List Ent} (d : Disk h b S col m r es) (k : Nat) : cellOf h (Addr.add ⟨b, 0, none⟩ k) = r.cells[k]? := by
  rw [add_mk, cellOf_rd, d.sr, Nat.zero_add]
theorem has_spec {d : Option Addr} {i : Int} {h : Heap} {K : Value → Heap → Prop} {S : RD} {col : Nat → Nat} {m : Nat} (D : DiskAt h d S col m)
    (hK : K (.bool (decide (0 ≤ i ∧ i < S.lasts.length))) h) : C.adisk_Disk_has d i h K := by
  obtain ⟨b, r, es, rfl, D⟩ := D
  refine adisk_Disk_has.ok (cd (fun a => ⟨_, _, _, D.field 0, ?_⟩) fun a => ?_)
  · rw [D.ln]
    have e : (0 ≤ i ∧ i < S.lasts.length) = (i < S.lasts.length) := by rw [eq_true (show 0 ≤ i from a), true_and]
    simpa only [e] using hK
  · have : ¬ (0 ≤ i ∧ i < S.lasts.length) := by omega
    simpa only [this, decide_false] using hK
theorem Blocks_spec {d : Option Addr} {h : Heap} {K : Value → Heap → Prop} {S : RD} {col : Nat → Nat} {m : Nat} (D : DiskAt h d S col m)
    (hK : K (.int .i64 S.lasts.length) h) : C.adisk_Disk_Blocks d h K := by
  obtain ⟨b, r, es, rfl, D⟩ := D
  refine adisk_Disk_Blocks.ok ⟨_, _, _, D.field 0, ?_⟩
  rw [D.ln]; exact hK
/-- what a read of block i finds -/
def readFrom (b : List UInt8) (i : Int) (ps : List (Int × List UInt8)) : List UInt8 := ps.foldl (fun b p => if p.1 = i then p.2 else b) b
def readAt (S : RD) (i : Nat) : List UInt8 := readFrom (S.lasts.getD i []) i S.pend
theorem pcell_len {p : Int × List UInt8} (h : p.2.length = 512) : (pcell p).length = 513 := by simp only [pcell, List.length_cons, List.length_map, h]
theorem blk_len {b : List UInt8} (h : b.length = 512) : (blk b).length = 512 := by simp only [blk, List.length_map, h]
theorem pcell_data (p : Int × List UInt8) : ((pcell p).drop (0 + 1)).take (blk p.2).length = blk p.2 := by
  simp only [pcell, blk, Nat.zero_add, List.drop_succ_cons, List.drop_zero]; exact List.take_length
theorem pcell_one (p : Int × List UInt8) : ∀ v ∈ pcell p, v.oneCell' = true := by
  intro v hv
  rcases List.mem_cons.mp hv with rfl | hv
  · rfl
  · exact bv_one _ v hv
theorem Disk.pendCells {h : Heap} {b : Nat} {S : RD} {col : Nat → Nat} {m : Nat} {r : Raw} {es : List Ent} (d : Disk h b S col m r es) {h' : Heap} {col' : Nat → Nat} {i : Nat} (hi : i < S.pend.length)
    (s : Sl h' 513 r.pa r.pn r.pc (S.pend.flatMap pcell) (On col' (m + 2))) : ∃ p, r.pa = some p ∧ Cells h' (p.add (i * 513)) (pcell S.pend[i]) := by
  obtain ⟨p, e, c⟩ := s.get (by rw [d.pn]; omega)
  refine ⟨p, e, ?_⟩
  have := Cells.part c (i * 513) 513
  rw [flat_part pcell 513 S.pend (fun x hx => pcell_len (d.pw x hx)) i hi] at this
  exact this
theorem Disk.lastCells {h : Heap} {b : Nat} {S : RD} {col : Nat → Nat} {m : Nat} {r : Raw} {es : List Ent} (d : Disk h b S col m r es) {h' : Heap} {col' : Nat → Nat} {i : Nat} (hi : i < S.lasts.length)
    (s : Sl h' 512 r.la r.ln r.lc (S.lasts.flatMap blk) (On col' (m + 1))) : ∃ p, r.la = some p ∧ Cells h' (p.add (i * 512)) (blk S.lasts[i]) := by
  obtain ⟨p, e, c⟩ := s.get (by rw [d.ln]; omega)
  refine ⟨p, e, ?_⟩
  have := Cells.part c (i * 512) 512
  rw [flat_part blk 512 S.lasts (fun x hx => blk_len (d.lw x hx)) i hi] at this
  exact this
theorem readFrom_take {b : List UInt8} {i : Int} {ps : List (Int × List UInt8)} {n : Nat} (hn : n < ps.length) : readFrom b i (ps.take (n + 1)) = if ps[n].1 = i then ps[n].2 else readFrom b i (ps.take n) := by
  rw [readFrom, List.take_add_one, List.foldl_append, List.getElem?_eq_getElem hn]; rfl
theorem Read_spec {d : Option Addr} {i : Int} {h : Heap} {K : Value → Heap → Prop} {S : RD} {col : Nat → Nat} {m : Nat} (D : DiskAt h d S col m)
    (h1 : S.down = true → K (.tuple #[.slice none 0 0, .int .i64 30]) h)
    (h2 : S.down = false → ¬ (0 ≤ i ∧ i < S.lasts.length) → K (.tuple #[.slice none 0 0, .int .i64 31]) h)
    (h3 : S.down = false → 0 ≤ i → i < S.lasts.length → ∀ b h', Fr No h h' → h.size ≤ b → Own h' b → rd h' b = (readAt S i.toNat).map bv → (readAt S i.toNat).length = 512 →
      K (.tuple #[.slice (some ⟨b, 0, none⟩) 512 512, .int .i64 0]) h') :
    C.adisk_Disk_Read d i h K := by
  have D0 := D
  obtain ⟨b, r, es, rfl, D⟩ := D
  refine adisk_Disk_Read.ok ⟨_, D.field 4, ?_⟩
  rw [D.down]
  refine cs h1 fun hd => has_spec D0 ⟨_, rfl, cnot (cd (fun a => ?_) (h2 hd))⟩
  have hi : i.toNat < S.lasts.length := by omega
  obtain ⟨p, e, c⟩ := D.lastCells hi D.l
  refine ⟨_, _, _, D.field 0, ⟨a.1, by rw [D.ln]; exact a.2⟩, ?_⟩
  rw [e]
  have hlen := blk_len (D.lw _ (List.getElem_mem hi))
  refine ⟨_, hlen, c, NewRow.intro hlen (bv_one _) List.length_replicate fun h4 n4 => ?_⟩
  have D4 := D.keep' n4.fr (Ag.refl _ _) (fun _ _ _ x => x)
  refine ⟨_, _, _, D4.field 1, ?_⟩
  refine ⟨fun n hh => 0 ≤ n ∧ n ≤ S.pend.length ∧ Fr No h hh ∧ Own hh h.size ∧ rd hh h.size = (readFrom S.lasts[i.toNat] i (S.pend.take n.toNat)).map bv ∧ (readFrom S.lasts[i.toNat] i (S.pend.take n.toNat)).length = 512,
    fun n _ => (S.pend.length - n).toNat, ⟨by omega, by omega, n4.fr, n4.own, n4.rd, D.lw _ (List.getElem_mem hi)⟩, ?_⟩
  rintro n h5 ⟨n0, n1, f5, o5, r5, l5⟩
  have D5 := D.keep' f5 (Ag.refl _ _) (fun _ _ _ x => x)
  rw [D.pn]
  refine cd (fun hn => ?_) fun hn => ?_
  rotate_left
  · have : readAt S i.toNat = readFrom S.lasts[i.toNat] i (S.pend.take n.toNat) := by
      rw [List.take_of_length_le (by omega), readAt, List.getD_eq_getElem?_getD, List.getElem?_eq_getElem hi, Option.getD_some, Int.toNat_of_nonneg a.1]
    exact h3 hd a.1 a.2 _ _ f5 (Nat.le_refl _) o5 (by rw [this]; exact r5) (by rw [this]; exact l5)
  have hn' : n.toNat < S.pend.length := by omega
  obtain ⟨q, e', c'⟩ := D5.pendCells hn' D5.p
  refine ⟨⟨n0, hn⟩, ?_⟩
  rw [e']
  have hp2 := D.pw _ (List.getElem_mem hn')
  have hpl := pcell_len hp2
  refine ⟨_, hpl, c', NewRow.intro hpl (pcell_one _) (List.length_cons.trans (congrArg (· + 1) List.length_replicate)) fun h7 n7 => ?_⟩
  have f7 := f5.new n7
  have hs5 := f5.size
  have hw : IntKind.wrap .i64 (n + 1) = n + 1 := wrap_i64 (by omega) (by have := D.pmax; omega)
  have ht : (n + 1).toNat = n.toNat + 1 := by omega
  refine ⟨_, rda n7.rd rfl, ?_⟩
  rw [hw]
  refine ce (fun hq => ?_) fun hq => ?_
  · have hb := blk_len hp2
    have r7 := n7.at_ o5.lt
    refine ⟨_, hb, cellsa n7.rd (pcell_data _), PutRow.intro (n7.ow o5) hb (bv_one _) (by rw [r7, r5, List.length_map, l5]; omega) fun h8 n8 => ⟨⟨by omega, by omega, f7.did n8 (fun x => by omega), n8.own, ?_, ?_⟩, falls hn⟩⟩
    · rw [n8.rd, r7, r5, put_all _ _ (by rw [hb, List.length_map, l5]), ht, readFrom_take hn', if_pos hq]; rfl
    · rw [ht, readFrom_take hn', if_pos hq]; exact hp2
  · refine ⟨⟨by omega, by omega, f7, n7.ow o5, ?_, ?_⟩, falls hn⟩
    · rw [n7.at_ o5.lt, r5, ht, readFrom_take hn', if_neg hq]
    · rw [ht, readFrom_take hn', if_neg hq]; exact l5
end Go.Proofs.YtcdpakjhjmchhaaDoor.Ad
namespace Go.Proofs.YtcdpakjhjmchhaaDoor.Ad
open Go Go.Proofs Go.Proofs.YtcdpakjhjmchhaaDoor.Wx Go.Proofs.YtcdpakjhjmchhaaDoor.Hp Go.Proofs.YtcdpakjhjmchhaaDoor.W
theorem Disk.putLast {h h' : Heap} {b : Nat} {S : RD} {col : Nat → Nat} {m : Nat} {r : Raw} {es : List Ent} (d : Disk h b S col m r es) {lb lo i : Nat} {y : List UInt8} (hi : i < S.lasts.length) (hy : y.length = 512)
    (e : r.la = some ⟨lb, lo, none⟩) (D : Did lb h h' (put (rd h lb) (lo + i * 512) (blk y))) : Disk h' b { S with lasts := S.lasts.set i y } col m r es := by
  have L := d.l
  rw [e] at L
  have hc : col lb = m + 1 := L.2.2.1
  have K := d.keep' (F := fun x => x = lb ∧ False) (h' := h) ⟨Nat.le_refl _, fun _ _ _ => rfl⟩ (Ag.refl _ _) (fun _ _ _ x => x.2)
  have hs : b ≠ lb := by intro x; have := d.sc; rw [x] at this; omega
  have g : Ag h.size col col := Ag.refl _ _
  have hk : ∀ k, k ≠ m + 1 → ∀ x, col x = k → ¬ (x = lb) := by intro k hk x hx e; rw [e] at hx; omega
  exact ⟨⟨d.left, d.leftb, d.down, d.writes, d.flushes, by rw [e]; exact L.putPart (fun x hx => blk_len (d.lw x hx)) hi (blk_len hy) D,
    fun x hx => by rcases List.mem_or_eq_of_mem_set hx with hx | rfl; exact d.lw x hx; exact hy, by simp only [List.length_set]; exact d.ln, by simp only [List.length_set]; exact d.lmax,
    d.p.keep D.fr g (hk _ (by omega)), d.pw, d.pn, by simp only [List.length_set]; exact d.pi, d.pmax, d.k.keep D.fr g (hk _ (by omega)), d.kn, d.t.keep D.fr g (hk _ (by omega)), d.tn, d.tmax, Ents.keep D.fr g (hk _ (by omega)) d.ts⟩, d.sc, D.ow d.so, (D.at_ d.so.lt hs).trans d.sr⟩
theorem take_snoc {α : Type} (xs : List α) (n : Nat) (h : n < xs.length) : xs.take (n + 1) = xs.take n ++ [xs[n]] := by
  rw [List.take_add_one, List.getElem?_eq_getElem h]; rfl
def chunks (bs : List UInt8) : List (List UInt8) := (List.range (bs.length / 512)).map fun i => (bs.drop (i * 512)).take 512
theorem chunks_length (bs : List UInt8) : (chunks bs).length = bs.length / 512 := by simp only [chunks, List.length_map, List.length_range]
theorem chunks_get (bs : List UInt8) {i : Nat} (h : i < (chunks bs).length) : (chunks bs)[i] = (bs.drop (i * 512)).take 512 := by simp only [chunks, List.getElem_map, List.getElem_range]
theorem Open_spec {a : Option Addr} {l c : Nat} {bs : List UInt8} {h : Heap} {K : Value → Heap → Prop} (col : Nat → Nat) (m : Nat) (hf : Free h col m) (B : StrAt h a l bs) (hlc : l ≤ c) (hl : l ≤ 140737488355328)
    (h1 : l % 512 ≠ 0 ∨ l = 0 ∨ 16384 < l / 512 → K (.tuple #[.pointer none, .int .i64 32]) h)
    (h2 : l % 512 = 0 → 0 < l → l / 512 ≤ 16384 → ∀ q h' col', Fr No h h' → Ag h.size col col' → DiskAt h' (some q) (fresh (chunks bs)) col' m → K (.tuple #[.pointer (some q), .int .i64 0]) h') :
    C.adisk_Open a l c h K := by
  have hbl := B.1
  have hd : Int.tdiv (l : Int) 512 = ((l / 512 : Nat) : Int) := by rw [Int.tdiv_eq_ediv_of_nonneg (by omega)]; omega
  have hmd : Int.tmod (l : Int) 512 = ((l % 512 : Nat) : Int) := by rw [Int.tmod_eq_emod_of_nonneg (by omega)]; omega
  have hw : IntKind.wrap .i64 (Int.tdiv (l : Int) 512) = ((l / 512 : Nat) : Int) := by rw [hd]; exact wrap_i64 (by omega) (by omega)
  refine adisk_Open.ok (cn (fun x => h1 (Or.inl (by omega))) fun x => ?_)
  rw [hw]
  refine New_spec col m (fun y => ⟨_, _, rfl, cn (fun _ => h1 (by omega)) (fun z => absurd z (by omega))⟩) fun y1 y2 q h' col' f1 g1 D1 => ⟨_, _, rfl, cn (fun z => absurd rfl z) fun _ => ?_⟩
  obtain ⟨b, r, es, hq, D1⟩ := D1
  have hq : q = ⟨b, 0, none⟩ := by simpa using hq
  subst hq
  rw [Int.toNat_natCast] at D1
  have hN := D1.ln
  simp only [fresh, List.length_replicate] at hN
  refine ⟨_, _, _, D1.field 0, ?_⟩
  refine ⟨fun n hh => 0 ≤ n ∧ n ≤ (l / 512 : Nat) ∧ Fr No h hh ∧ Disk hh b (fresh ((chunks bs).take n.toNat ++ List.replicate (l / 512 - n.toNat) zeroBlk)) col' m r es, fun n _ => ((l / 512 : Nat) - n).toNat,
    ⟨by omega, by omega, f1, by rw [show (0 : Int).toNat = 0 from rfl, List.take_zero, List.nil_append, Nat.sub_zero]; exact D1⟩, ?_⟩
  rintro n h3 ⟨n0, n1, f3, D3⟩
  rw [hN]
  have hcl := chunks_length bs
  refine cd (fun hn => ?_) fun hn => ?_
  rotate_left
  · have e : n.toNat = l / 512 := by omega
    rw [e, List.take_of_length_le (by rw [hcl, hbl]; omega), Nat.sub_self, List.replicate_zero, List.append_nil] at D3
    exact h2 (by omega) (by omega) (by omega) _ _ _ f3 g1 ⟨b, r, es, rfl, D3⟩
  have hn' : n.toNat < l / 512 := by omega
  refine ⟨_, _, _, D3.field 0, ⟨n0, by rw [hN]; exact hn⟩, ?_⟩
  obtain ⟨p, e, _⟩ := D3.l.get (by rw [hN]; omega)
  rw [e]
  have L := D3.l
  rw [e] at L
  obtain ⟨lb, lo, sp⟩ := p
  have hsp : sp = none := L.2.1
  subst hsp
  have hw3 : IntKind.wrap .i64 (n * 512) = ((n.toNat * 512 : Nat) : Int) := by rw [wrap_i64 (by omega) (by omega)]; omega
  have hw2 : IntKind.wrap .i64 (n + 1) = n + 1 := wrap_i64 (by omega) (by omega)
  simp only [hw3, hw2, Int.toNat_natCast]
  refine ⟨by omega, ?_⟩
  rw [if_neg (by omega), add_mk]
  have B3 := StrAt.take (StrAt.drop (StrAt.fr f3 B (fun _ _ x => x)) (n.toNat * 512)) (n := 512) (by omega)
  obtain ⟨w1, w2⟩ := L.wr
  rw [hN] at w2
  have hy : ((bs.drop (n.toNat * 512)).take 512).length = 512 := B3.1
  have hm : min (l - n.toNat * 512) 512 = 512 := by omega
  refine CopyP.intro (new := blk ((bs.drop (n.toNat * 512)).take 512)) (by rw [blk_len hy, hm]; rfl) B3.2 (bv_one _) w1 (by rw [blk_len hy]; omega) fun h4 d4 => ?_
  have hi : n.toNat < ((chunks bs).take n.toNat ++ List.replicate (l / 512 - n.toNat) zeroBlk).length := by rw [List.length_append, List.length_take, List.length_replicate, hcl, hbl]; omega
  have D4 := D3.putLast (i := n.toNat) hi hy e d4
  refine ⟨⟨by omega, by omega, ?_, ?_⟩, falls hn⟩
  · refine f3.did d4 fun x => ?_
    have hc : col' lb = m + 1 := L.2.2.1
    have := hf.new g1 (b := lb) (by omega) (by omega)
    omega
  · have ht : (n + 1).toNat = n.toNat + 1 := by omega
    have hx : n.toNat < (chunks bs).length := by rw [hcl, hbl]; omega
    have e1 : ((chunks bs).take n.toNat ++ List.replicate (l / 512 - n.toNat) zeroBlk).set n.toNat ((bs.drop (n.toNat * 512)).take 512) = (chunks bs).take (n + 1).toNat ++ List.replicate (l / 512 - (n + 1).toNat) zeroBlk := by
      have h1 : ((chunks bs).take n.toNat).length = n.toNat := by rw [List.length_take]; omega
      rw [List.set_append_right _ _ (by omega), h1, Nat.sub_self, show l / 512 - n.toNat = (l / 512 - (n + 1).toNat) + 1 by omega, List.replicate_succ, List.set_cons_zero, ht, take_snoc _ _ hx, chunks_get, List.append_assoc]; rfl
    rw [← e1]; exact D4
end Go.Proofs.YtcdpakjhjmchhaaDoor.Ad
namespace Go.Proofs.YtcdpakjhjmchhaaDoor.Ad
open Go Go.Proofs Go.Proofs.YtcdpakjhjmchhaaDoor.Wx Go.Proofs.YtcdpakjhjmchhaaDoor.Hp Go.Proofs.YtcdpakjhjmchhaaDoor.W
theorem Clone_spec {a : Option Addr} {l c : Nat} {bs : List UInt8} {h : Heap} {K : Value → Heap → Prop} (B : StrAt h a l bs) (hl : l ≤ 140737488355328)
    (hK : ∀ a' c' h', Fr No h h' → Sl h' 1 a' l c' (bs.map bv) (From h.size) → K (.slice a' l c') h') : C.slices_Clone_byte_byte a l c h K := by
  have hbl := B.1
  refine slices_Clone_byte_byte.ok (cs (fun e => ?_) fun _ => New.intro fun h2 n2 => ?_)
  · cases a with
    | none =>
      have e1 := B.2
      have e2 : bs.map bv = [] := e1
      have e2 : bs = [] := List.map_eq_nil_iff.mp e2
      subst e2
      have : l = 0 := hbl.symm
      subst this
      exact hK none 0 h (Fr.refl _ _) (Sl.nil _ _ _)
    | some p => simp at e
  · obtain ⟨s1, s2, s3⟩ := StrAt.src (StrAt.fr n2.fr B (fun _ _ x => x))
    refine ⟨_, s1, s2, s3, ?_⟩
    refine append_own (xs := []) (F := From h.size) (Sl.made n2 rfl (Nat.le_refl _) rfl (Nat.le_refl _) rfl) s1 rfl (by show (0 + l) * 1 ≤ _; omega) (by omega) fun a' c' h' f s => ?_
    rw [Nat.zero_add, List.nil_append] at s
    rw [Nat.zero_add]
    have := n2.size
    exact hK a' c' h' (n2.fr.trans f fun b hb e => by have : h.size ≤ b := e; omega) (s.mono fun b hb => by rcases hb with hb | hb; exact hb; show h.size ≤ b; omega)
end Go.Proofs.YtcdpakjhjmchhaaDoor.Ad
namespace Go.Proofs.YtcdpakjhjmchhaaDoor.Ad
open Go Go.Proofs Go.Proofs.YtcdpakjhjmchhaaDoor.Wx Go.Proofs.YtcdpakjhjmchhaaDoor.Hp Go.Proofs.YtcdpakjhjmchhaaDoor.W
/-- what a thing stands on has grown: of the old blocks it has the same -/
structure Gw (h : Heap) (D : Nat → Prop) (h' : Heap) (D' : Nat → Prop) : Prop where
  old : ∀ b, b < h.size → (D' b ↔ D b)
  lt : ∀ b, D' b → b < h'.size
theorem Gw.refl {h h' : Heap} {D : Nat → Prop} (hs : h.size ≤ h'.size) (hD : ∀ b, D b → b < h.size) : Gw h D h' D := ⟨fun _ _ => Iff.rfl, fun b hb => Nat.lt_of_lt_of_le (hD b hb) hs⟩
theorem Gw.trans {h h' h'' : Heap} {D D' D'' : Nat → Prop} (g : Gw h D h' D') (g' : Gw h' D' h'' D'') (hs : h.size ≤ h'.size) : Gw h D h'' D'' :=
  ⟨fun b hb => (g'.old b (by omega)).trans (g.old b hb), g'.lt⟩
theorem Gw.new {h h' : Heap} {D D' : Nat → Prop} (g : Gw h D h' D') {b : Nat} (hb : D' b) : D b ∨ h.size ≤ b := by
  rcases Nat.lt_or_ge b h.size with h1 | h1
  · exact .inl ((g.old b h1).mp hb)
  · exact .inr h1
def trim (col : Nat → Nat) (n : Nat) : Nat → Nat := fun b => if b < n then col b else 0
theorem trim_lt {col : Nat → Nat} {n b : Nat} (h : b < n) : trim col n b = col b := if_pos h
theorem trim_ge {col : Nat → Nat} {n b : Nat} (h : n ≤ b) : trim col n b = 0 := if_neg (by omega)
theorem ag_trim (col : Nat → Nat) (n : Nat) : Ag n col (trim col n) := fun _ hb => if_pos hb
def DiskF (h : Heap) (D : Nat → Prop) (d : Option Addr) (S : RD) : Prop := ∃ col, DiskAt h d S col 1 ∧ (∀ b, h.size ≤ b → col b = 0) ∧ ∀ b, D b ↔ 1 ≤ col b ∧ col b ≤ 6
theorem DiskF.mk {h : Heap} {d : Option Addr} {S : RD} {col : Nat → Nat} (a : DiskAt h d S col 1) : DiskF h (fun b => b < h.size ∧ 1 ≤ col b ∧ col b ≤ 6) d S := by
  refine ⟨trim col h.size, a.keep (F := No) (Fr.refl _ h) (ag_trim _ _) fun _ _ _ x => x, fun b hb => trim_ge hb, fun b => ⟨fun hb => by rw [trim_lt hb.1]; exact hb.2, fun hb => ?_⟩⟩
  rcases Nat.lt_or_ge b h.size with h1 | h1
  · rw [trim_lt h1] at hb; exact ⟨h1, hb⟩
  · rw [trim_ge h1] at hb; omega
theorem DiskF.lt {h : Heap} {D : Nat → Prop} {d : Option Addr} {S : RD} (a : DiskF h D d S) {b : Nat} (hb : D b) : b < h.size := by
  obtain ⟨col, _, hz, hD⟩ := a
  rcases Nat.lt_or_ge b h.size with h1 | h1
  · exact h1
  · have := (hD b).mp hb; rw [hz b h1] at this; omega
theorem DiskF.fr {h h' : Heap} {D F : Nat → Prop} {d : Option Addr} {S : RD} (a : DiskF h D d S) (f : Fr F h h') (hF : ∀ b, D b → ¬ F b) : DiskF h' D d S := by
  obtain ⟨col, a, hz, hD⟩ := a
  have := f.size
  exact ⟨col, a.keep f (Ag.refl _ _) fun b h1 h2 => hF b ((hD b).mpr ⟨h1, h2⟩), fun b hb => hz b (by omega), hD⟩
theorem DiskF.no {h h' : Heap} {D : Nat → Prop} {d : Option Addr} {S : RD} (a : DiskF h D d S) (f : Fr No h h') : DiskF h' D d S := a.fr f fun _ _ x => x
theorem DiskF.iff {h : Heap} {D D' : Nat → Prop} {d : Option Addr} {S : RD} (a : DiskF h D d S) (e : ∀ b, D' b ↔ D b) : DiskF h D' d S := by
  obtain ⟨col, a, hz, hD⟩ := a
  exact ⟨col, a, hz, fun b => (e b).trans (hD b)⟩
theorem DiskF.blocks {h : Heap} {D : Nat → Prop} {d : Option Addr} {S : RD} {K : Value → Heap → Prop} (a : DiskF h D d S) (hK : K (.int .i64 S.lasts.length) h) : C.adisk_Disk_Blocks d h K := by
  obtain ⟨col, a, _⟩ := a
  exact Blocks_spec a hK
theorem DiskF.read {h : Heap} {D : Nat → Prop} {d : Option Addr} {S : RD} {i : Int} {K : Value → Heap → Prop} (a : DiskF h D d S)
    (h1 : S.down = true → K (.tuple #[.slice none 0 0, .int .i64 30]) h)
    (h2 : S.down = false → ¬ (0 ≤ i ∧ i < S.lasts.length) → K (.tuple #[.slice none 0 0, .int .i64 31]) h)
    (h3 : S.down = false → 0 ≤ i → i < S.lasts.length → ∀ b h', Fr No h h' → Sl h' 1 (some ⟨b, 0, none⟩) 512 512 ((readAt S i.toNat).map bv) (From h.size) → (readAt S i.toNat).length = 512 →
      K (.tuple #[.slice (some ⟨b, 0, none⟩) 512 512, .int .i64 0]) h') :
    C.adisk_Disk_Read d i h K := by
  obtain ⟨col, a, _⟩ := a
  refine Read_spec a h1 h2 fun e i0 i1 b h' f hb o r l => h3 e i0 i1 b h' f ⟨by rw [List.length_map, l], rfl, hb, o, Nat.le_refl _, ?_, ?_⟩ l
  · show ((rd h' b).drop 0).take _ = _
    rw [r, List.drop_zero, List.take_length]
  · show 0 + 512 * 1 ≤ (rd h' b).length
    rw [r, List.length_map, l]; exact Nat.le_refl _
theorem openF_spec {a : Option Addr} {l c : Nat} {bs : List UInt8} {h : Heap} {K : Value → Heap → Prop} (B : StrAt h a l bs) (hlc : l ≤ c) (hl : l ≤ 140737488355328)
    (h1 : l % 512 ≠ 0 ∨ l = 0 ∨ 16384 < l / 512 → K (.tuple #[.pointer none, .int .i64 32]) h)
    (h2 : l % 512 = 0 → 0 < l → l / 512 ≤ 16384 → ∀ q h' D, Fr No h h' → (∀ b, D b → h.size ≤ b) → DiskF h' D (some q) (fresh (chunks bs)) → K (.tuple #[.pointer (some q), .int .i64 0]) h') :
    C.adisk_Open a l c h K := by
  refine Open_spec (fun _ => 0) 1 (fun _ _ h1 _ => absurd h1 (by show ¬ (1 ≤ 0); omega)) B hlc hl h1 fun y1 y2 y3 q h' col' f g a => ?_
  refine h2 y1 y2 y3 q h' _ f (fun b hb => ?_) (DiskF.mk a)
  rcases Nat.lt_or_ge b h.size with h1 | h1
  · have e : col' b = 0 := g b h1
    omega
  · exact h1
end Go.Proofs.YtcdpakjhjmchhaaDoor.Ad
