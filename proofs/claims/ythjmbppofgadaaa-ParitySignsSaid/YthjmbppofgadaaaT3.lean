import Derived.Test.YthjmbppofgadaaaT2
import Derived.Test.YthjmbppofgadaaaA5
import Derived.KernelRfl
set_option linter.unusedVariables false
set_option linter.unnecessarySimpa false
set_option linter.all false
set_option linter.unusedSimpArgs false
set_option linter.defProp false
namespace Go.Proofs.Ythjmbppofgadaaa
open Go.AM
theorem comp3 : comp tb [] Try.f3 = some F3 := by kernel_rfl
theorem comp6 : comp tb [] Try.f6 = some F6 := by kernel_rfl
theorem comp7 : comp tb [] Try.f7 = some F7 := by kernel_rfl
theorem comp8 : comp tb [(9, 9), (11, 11), (41, 9), (45, 9), (52, 11)] Try.f8 = some F8 := by kernel_rfl
theorem comp9 : comp tb [] Try.f9 = some F9 := by kernel_rfl
theorem comp10 : comp tb [] Try.f10 = some F10 := by kernel_rfl
theorem comp14 : comp tb [] Try.f14 = some F14 := by kernel_rfl
theorem comp16 : comp tb [] Try.f16 = some F16 := by kernel_rfl
theorem comp17 : comp tb [] Try.f17 = some F17 := by kernel_rfl
theorem comp20 : comp tb [(3, 3), (8, 3), (14, 3), (20, 3), (30, 3)] Try.f20 = some F20 := by kernel_rfl
theorem comp21 : comp tb [(6, 6), (7, 7)] Try.f21 = some F21 := by kernel_rfl
theorem comp22 : comp tb [(1, 1)] Try.f22 = some F22 := by kernel_rfl
theorem comp23 : comp tb [] Try.f23 = some F23 := by kernel_rfl
theorem comp24 : comp tb [] Try.f24 = some F24 := by kernel_rfl
theorem comp25 : comp tb [(6, 6)] Try.f25 = some F25 := by kernel_rfl
theorem comp26 : comp tb [] Try.f26 = some F26 := by kernel_rfl
theorem comp27 : comp tb [] Try.f27 = some F27 := by kernel_rfl
theorem comp28 : comp tb [] Try.f28 = some F28 := by kernel_rfl
theorem comp29 : comp tb [] Try.f29 = some F29 := by kernel_rfl
theorem comp32 : comp tb [] Try.f32 = some F32 := by kernel_rfl
theorem comp33 : comp tb [] Try.f33 = some F33 := by kernel_rfl
theorem comp34 : comp tb [] Try.f34 = some F34 := by kernel_rfl
theorem comp36 : comp tb [] Try.f36 = some F36 := by kernel_rfl
theorem comp40 : comp tb [(1, 1), (2, 2), (4, 4), (6, 1)] Try.f40 = some F40 := by kernel_rfl
theorem comp42 : comp tb [] Try.f42 = some F42 := by kernel_rfl
theorem comp43 : comp tb [] Try.f43 = some F43 := by kernel_rfl
theorem comp44 : comp tb [(1, 1), (2, 2), (4, 4), (6, 1), (19, 4), (24, 4)] Try.f44 = some F44 := by kernel_rfl
theorem comp45 : comp tb [] Try.f45 = some F45 := by kernel_rfl
theorem comp46 : comp tb [] Try.f46 = some F46 := by kernel_rfl
theorem comp47 : comp tb [] Try.f47 = some F47 := by kernel_rfl
theorem comp49 : comp tb [] Try.f49 = some F49 := by kernel_rfl
theorem comp50 : comp tb [] Try.f50 = some F50 := by kernel_rfl
theorem comp51 : comp tb [(1, 1), (2, 2), (4, 4), (6, 6), (7, 7), (9, 9), (11, 1), (14, 1), (18, 1), (23, 1), (32, 6), (38, 6), (54, 6), (57, 1), (65, 4), (78, 4), (85, 4)] Try.f51 = some F51 := by kernel_rfl
theorem comp52 : comp tb [(1, 1), (7, 1)] Try.f52 = some F52 := by kernel_rfl
theorem comp53 : comp tb [(1, 1), (2, 2), (4, 4), (6, 6), (9, 1), (12, 1), (16, 1), (22, 1), (29, 1), (46, 1), (53, 1), (59, 1), (64, 1), (75, 1), (90, 1), (97, 1), (107, 4), (110, 1), (119, 4)] Try.f53 = some F53 := by kernel_rfl
theorem comp54 : comp tb [] Try.f54 = some F54 := by kernel_rfl
theorem comp55 : comp tb [] Try.f55 = some F55 := by kernel_rfl
theorem comp56 : comp tb [(2, 2)] Try.f56 = some F56 := by kernel_rfl
theorem comp57 : comp tb [(4, 4)] Try.f57 = some F57 := by kernel_rfl
theorem comp58 : comp tb [(1, 1), (3, 1), (7, 1)] Try.f58 = some F58 := by kernel_rfl
theorem comp59 : comp tb [] Try.f59 = some F59 := by kernel_rfl
theorem comp60 : comp tb [(1, 1), (3, 1), (7, 1)] Try.f60 = some F60 := by kernel_rfl
theorem comp61 : comp tb [(2, 2), (8, 8), (10, 10), (11, 11), (49, 8), (73, 10)] Try.f61 = some F61 := by kernel_rfl
theorem comp62 : comp tb [(1, 1), (3, 1)] Try.f62 = some F62 := by kernel_rfl
theorem comp63 : comp tb [] Try.f63 = some F63 := by kernel_rfl
theorem comp64 : comp tb [] Try.f64 = some F64 := by kernel_rfl
theorem comp65 : comp tb [] Try.f65 = some F65 := by kernel_rfl
theorem comp66 : comp tb [] Try.f66 = some F66 := by kernel_rfl
theorem comp67 : comp tb [] Try.f67 = some F67 := by kernel_rfl
theorem comp68 : comp tb [(6, 6), (7, 7), (42, 7), (45, 7)] Try.f68 = some F68 := by kernel_rfl
theorem comp69 : comp tb [(1, 1)] Try.f69 = some F69 := by kernel_rfl
theorem comp70 : comp tb [(2, 2)] Try.f70 = some F70 := by kernel_rfl
theorem comp71 : comp tb [(4, 4)] Try.f71 = some F71 := by kernel_rfl
theorem comp72 : comp tb [(1, 1), (4, 1), (7, 1)] Try.f72 = some F72 := by kernel_rfl
theorem comp73 : comp tb [(2, 2), (3, 3), (4, 4), (5, 5), (6, 3)] Try.f73 = some F73 := by kernel_rfl
theorem comp74 : comp tb [(1, 1), (4, 1), (7, 1), (8, 1), (12, 1), (13, 1), (18, 1)] Try.f74 = some F74 := by kernel_rfl
theorem comp75 : comp tb [] Try.f75 = some F75 := by kernel_rfl
theorem comp76 : comp tb [] Try.f76 = some F76 := by kernel_rfl
theorem comp77 : comp tb [] Try.f77 = some F77 := by kernel_rfl
theorem comp79 : comp tb [] Try.f79 = some F79 := by kernel_rfl
theorem comp80 : comp tb [] Try.f80 = some F80 := by kernel_rfl
theorem comp81 : comp tb [] Try.f81 = some F81 := by kernel_rfl
theorem comp82 : comp tb [(1, 1), (2, 2), (3, 1), (6, 1)] Try.f82 = some F82 := by kernel_rfl
theorem comp83 : comp tb [(2, 2), (3, 3), (4, 4), (9, 2), (11, 3)] Try.f83 = some F83 := by kernel_rfl
theorem comp84 : comp tb [(1, 1), (5, 1), (9, 1), (14, 1), (16, 1)] Try.f84 = some F84 := by kernel_rfl
theorem comp85 : comp tb [(2, 2), (3, 3), (4, 4), (5, 5), (9, 2), (11, 3), (16, 2), (18, 3), (23, 2)] Try.f85 = some F85 := by kernel_rfl
theorem comp86 : comp tb [(1, 1), (11, 1), (15, 1)] Try.f86 = some F86 := by kernel_rfl
theorem comp89 : comp tb [] Try.f89 = some F89 := by kernel_rfl
theorem comp97 : comp tb [] Try.f97 = some F97 := by kernel_rfl
theorem comp98 : comp tb [] Try.f98 = some F98 := by kernel_rfl
theorem comp102 : comp tb [] Try.f102 = some F102 := by kernel_rfl
end Go.Proofs.Ythjmbppofgadaaa

namespace Go.Proofs.Ythjmbppofgadaaa
open Go Go.AM
def ext : Orc := fun f vs H => if f = 87 then onNil extAdd vs H else if f = 101 then onNil extSub vs H else  none
def G : Pg := ⟨tb, fun f => f == 10 || f == 14 || f == 32 || f == 33 || f == 43 || f == 81 || f == 89, fun f => Go.AM.look f fns, ext⟩
theorem G_tb : G.tb = tb := rfl
theorem G_imp : G.imp = fun f => f == 10 || f == 14 || f == 32 || f == 33 || f == 43 || f == 81 || f == 89 := rfl
theorem tb2 : Tab.at tb 2 = ⟨.int .i64, 1, 8, [.int .i64]⟩ := rfl
theorem ok2 : Tab.ok tb 2 = true := rfl
theorem sz2 : (Tab.at tb 2).size = 1 := rfl
theorem tb3 : Tab.at tb 3 = ⟨.int .i64, 1, 8, [.int .i64]⟩ := rfl
theorem ok3 : Tab.ok tb 3 = true := rfl
theorem sz3 : (Tab.at tb 3).size = 1 := rfl
theorem tb4 : Tab.at tb 4 = ⟨.bool, 1, 1, [.bool]⟩ := rfl
theorem ok4 : Tab.ok tb 4 = true := rfl
theorem sz4 : (Tab.at tb 4).size = 1 := rfl
theorem tb5 : Tab.at tb 5 = ⟨.int .u8, 1, 1, [.int .u8]⟩ := rfl
theorem ok5 : Tab.ok tb 5 = true := rfl
theorem sz5 : (Tab.at tb 5).size = 1 := rfl
theorem tb9 : Tab.at tb 9 = ⟨.str, 1, 16, [.str]⟩ := rfl
theorem ok9 : Tab.ok tb 9 = true := rfl
theorem sz9 : (Tab.at tb 9).size = 1 := rfl
theorem tb21 : Tab.at tb 21 = ⟨.int .i32, 1, 4, [.int .i32]⟩ := rfl
theorem ok21 : Tab.ok tb 21 = true := rfl
theorem sz21 : (Tab.at tb 21).size = 1 := rfl
theorem tb22 : Tab.at tb 22 = ⟨.slice 41, 1, 24, [.sl 2]⟩ := rfl
theorem ok22 : Tab.ok tb 22 = true := rfl
theorem sz22 : (Tab.at tb 22).size = 1 := rfl
theorem tb25 : Tab.at tb 25 = ⟨.slice 31, 1, 24, [.sl 1]⟩ := rfl
theorem ok25 : Tab.ok tb 25 = true := rfl
theorem sz25 : (Tab.at tb 25).size = 1 := rfl
theorem tb26 : Tab.at tb 26 = ⟨.int .i64, 1, 8, [.int .i64]⟩ := rfl
theorem ok26 : Tab.ok tb 26 = true := rfl
theorem sz26 : (Tab.at tb 26).size = 1 := rfl
theorem tb31 : Tab.at tb 31 = ⟨.slice 3, 1, 24, [.sl 1]⟩ := rfl
theorem ok31 : Tab.ok tb 31 = true := rfl
theorem sz31 : (Tab.at tb 31).size = 1 := rfl
theorem tb39 : Tab.at tb 39 = ⟨.slice 48, 1, 24, [.sl 2]⟩ := rfl
theorem ok39 : Tab.ok tb 39 = true := rfl
theorem sz39 : (Tab.at tb 39).size = 1 := rfl
theorem tb41 : Tab.at tb 41 = ⟨.struct [(0, 3), (1, 39)], 2, 32, [.int .i64, .sl 2]⟩ := rfl
theorem ok41 : Tab.ok tb 41 = true := rfl
theorem sz41 : (Tab.at tb 41).size = 2 := rfl
theorem tb48 : Tab.at tb 48 = ⟨.struct [(0, 9), (1, 31)], 2, 40, [.str, .sl 1]⟩ := rfl
theorem ok48 : Tab.ok tb 48 = true := rfl
theorem sz48 : (Tab.at tb 48).size = 2 := rfl
theorem tb49 : Tab.at tb 49 = ⟨.slice 54, 1, 24, [.sl 2]⟩ := rfl
theorem ok49 : Tab.ok tb 49 = true := rfl
theorem sz49 : (Tab.at tb 49).size = 1 := rfl
theorem tb52 : Tab.at tb 52 = ⟨.slice 61, 1, 24, [.sl 9]⟩ := rfl
theorem ok52 : Tab.ok tb 52 = true := rfl
theorem sz52 : (Tab.at tb 52).size = 1 := rfl
theorem tb54 : Tab.at tb 54 = ⟨.struct [(0, 3), (1, 52)], 2, 32, [.int .i64, .sl 9]⟩ := rfl
theorem ok54 : Tab.ok tb 54 = true := rfl
theorem sz54 : (Tab.at tb 54).size = 2 := rfl
theorem tb55 : Tab.at tb 55 = ⟨.ptr 128, 1, 8, [.ptr]⟩ := rfl
theorem ok55 : Tab.ok tb 55 = true := rfl
theorem sz55 : (Tab.at tb 55).size = 1 := rfl
theorem tb57 : Tab.at tb 57 = ⟨.struct [(0, 2), (1, 2), (2, 55)], 3, 24, [.int .i64, .int .i64, .ptr]⟩ := rfl
theorem ok57 : Tab.ok tb 57 = true := rfl
theorem sz57 : (Tab.at tb 57).size = 3 := rfl
theorem tb59 : Tab.at tb 59 = ⟨.array 6 21, 6, 24, [.int .i32, .int .i32, .int .i32, .int .i32, .int .i32, .int .i32]⟩ := rfl
theorem ok59 : Tab.ok tb 59 = true := rfl
theorem sz59 : (Tab.at tb 59).size = 6 := rfl
theorem tb61 : Tab.at tb 61 = ⟨.struct [(0, 57), (3, 59)], 9, 48, [.int .i64, .int .i64, .ptr, .int .i32, .int .i32, .int .i32, .int .i32, .int .i32, .int .i32]⟩ := rfl
theorem ok61 : Tab.ok tb 61 = true := rfl
theorem sz61 : (Tab.at tb 61).size = 9 := rfl
theorem tb63 : Tab.at tb 63 = ⟨.int .u64, 1, 8, [.int .u64]⟩ := rfl
theorem ok63 : Tab.ok tb 63 = true := rfl
theorem sz63 : (Tab.at tb 63).size = 1 := rfl
theorem tb66 : Tab.at tb 66 = ⟨.slice 71, 1, 24, [.sl 2]⟩ := rfl
theorem ok66 : Tab.ok tb 66 = true := rfl
theorem sz66 : (Tab.at tb 66).size = 1 := rfl
theorem tb69 : Tab.at tb 69 = ⟨.slice 99, 1, 24, [.sl 5]⟩ := rfl
theorem ok69 : Tab.ok tb 69 = true := rfl
theorem sz69 : (Tab.at tb 69).size = 1 := rfl
theorem tb71 : Tab.at tb 71 = ⟨.struct [(0, 3), (1, 69)], 2, 32, [.int .i64, .sl 5]⟩ := rfl
theorem ok71 : Tab.ok tb 71 = true := rfl
theorem sz71 : (Tab.at tb 71).size = 2 := rfl
theorem tb85 : Tab.at tb 85 = ⟨.int .u32, 1, 4, [.int .u32]⟩ := rfl
theorem ok85 : Tab.ok tb 85 = true := rfl
theorem sz85 : (Tab.at tb 85).size = 1 := rfl
theorem tb87 : Tab.at tb 87 = ⟨.int .u64, 1, 8, [.int .u64]⟩ := rfl
theorem ok87 : Tab.ok tb 87 = true := rfl
theorem sz87 : (Tab.at tb 87).size = 1 := rfl
theorem tb93 : Tab.at tb 93 = ⟨.slice 85, 1, 24, [.sl 1]⟩ := rfl
theorem ok93 : Tab.ok tb 93 = true := rfl
theorem sz93 : (Tab.at tb 93).size = 1 := rfl
theorem tb95 : Tab.at tb 95 = ⟨.struct [(0, 4), (1, 93)], 2, 32, [.bool, .sl 1]⟩ := rfl
theorem ok95 : Tab.ok tb 95 = true := rfl
theorem sz95 : (Tab.at tb 95).size = 2 := rfl
theorem tb97 : Tab.at tb 97 = ⟨.struct [(0, 95), (2, 95)], 4, 64, [.bool, .sl 1, .bool, .sl 1]⟩ := rfl
theorem ok97 : Tab.ok tb 97 = true := rfl
theorem sz97 : (Tab.at tb 97).size = 4 := rfl
theorem tb99 : Tab.at tb 99 = ⟨.struct [(0, 97), (4, 31)], 5, 88, [.bool, .sl 1, .bool, .sl 1, .sl 1]⟩ := rfl
theorem ok99 : Tab.ok tb 99 = true := rfl
theorem sz99 : (Tab.at tb 99).size = 5 := rfl
theorem tb113 : Tab.at tb 113 = ⟨.slice 87, 1, 24, [.sl 1]⟩ := rfl
theorem ok113 : Tab.ok tb 113 = true := rfl
theorem sz113 : (Tab.at tb 113).size = 1 := rfl
theorem tb128 : Tab.at tb 128 = ⟨.struct [(0, 4), (1, 113), (2, 113)], 3, 56, [.bool, .sl 1, .sl 1]⟩ := rfl
theorem ok128 : Tab.ok tb 128 = true := rfl
theorem sz128 : (Tab.at tb 128).size = 3 := rfl
theorem tb150 : Tab.at tb 150 = ⟨.slice 5, 1, 24, [.sl 1]⟩ := rfl
theorem ok150 : Tab.ok tb 150 = true := rfl
theorem sz150 : (Tab.at tb 150).size = 1 := rfl
theorem po41 : placesOk tb (Tab.at tb 41).k = true := rfl
theorem ze41 : (Tab.at tb 41).zeros.map C.t = [.t (.int .i64 0), .t (.nils)] := rfl
theorem pl41_0 : place tb (Tab.at tb 41).k 0 = some (0, 1) := rfl
theorem pl41_1 : place tb (Tab.at tb 41).k 1 = some (1, 1) := rfl
theorem po48 : placesOk tb (Tab.at tb 48).k = true := rfl
theorem ze48 : (Tab.at tb 48).zeros.map C.t = [.t (.str ⟨#[]⟩), .t (.nils)] := rfl
theorem pl48_0 : place tb (Tab.at tb 48).k 0 = some (0, 1) := rfl
theorem pl48_1 : place tb (Tab.at tb 48).k 1 = some (1, 1) := rfl
theorem po54 : placesOk tb (Tab.at tb 54).k = true := rfl
theorem ze54 : (Tab.at tb 54).zeros.map C.t = [.t (.int .i64 0), .t (.nils)] := rfl
theorem pl54_0 : place tb (Tab.at tb 54).k 0 = some (0, 1) := rfl
theorem pl54_1 : place tb (Tab.at tb 54).k 1 = some (1, 1) := rfl
theorem po57 : placesOk tb (Tab.at tb 57).k = true := rfl
theorem ze57 : (Tab.at tb 57).zeros.map C.t = [.t (.int .i64 0), .t (.int .i64 0), .t (.nilp)] := rfl
theorem pl57_0 : place tb (Tab.at tb 57).k 0 = some (0, 1) := rfl
theorem pl57_1 : place tb (Tab.at tb 57).k 1 = some (1, 1) := rfl
theorem pl57_2 : place tb (Tab.at tb 57).k 2 = some (2, 1) := rfl
theorem po61 : placesOk tb (Tab.at tb 61).k = true := rfl
theorem ze61 : (Tab.at tb 61).zeros.map C.t = [.t (.int .i64 0), .t (.int .i64 0), .t (.nilp), .t (.int .i32 0), .t (.int .i32 0), .t (.int .i32 0), .t (.int .i32 0), .t (.int .i32 0), .t (.int .i32 0)] := rfl
theorem pl61_0 : place tb (Tab.at tb 61).k 0 = some (0, 3) := rfl
theorem pl61_1 : place tb (Tab.at tb 61).k 1 = some (3, 6) := rfl
theorem po71 : placesOk tb (Tab.at tb 71).k = true := rfl
theorem ze71 : (Tab.at tb 71).zeros.map C.t = [.t (.int .i64 0), .t (.nils)] := rfl
theorem pl71_0 : place tb (Tab.at tb 71).k 0 = some (0, 1) := rfl
theorem pl71_1 : place tb (Tab.at tb 71).k 1 = some (1, 1) := rfl
theorem po95 : placesOk tb (Tab.at tb 95).k = true := rfl
theorem ze95 : (Tab.at tb 95).zeros.map C.t = [.t (.bool false), .t (.nils)] := rfl
theorem pl95_0 : place tb (Tab.at tb 95).k 0 = some (0, 1) := rfl
theorem pl95_1 : place tb (Tab.at tb 95).k 1 = some (1, 1) := rfl
theorem po97 : placesOk tb (Tab.at tb 97).k = true := rfl
theorem ze97 : (Tab.at tb 97).zeros.map C.t = [.t (.bool false), .t (.nils), .t (.bool false), .t (.nils)] := rfl
theorem pl97_0 : place tb (Tab.at tb 97).k 0 = some (0, 2) := rfl
theorem pl97_1 : place tb (Tab.at tb 97).k 1 = some (2, 2) := rfl
theorem po99 : placesOk tb (Tab.at tb 99).k = true := rfl
theorem ze99 : (Tab.at tb 99).zeros.map C.t = [.t (.bool false), .t (.nils), .t (.bool false), .t (.nils), .t (.nils)] := rfl
theorem pl99_0 : place tb (Tab.at tb 99).k 0 = some (0, 4) := rfl
theorem pl99_1 : place tb (Tab.at tb 99).k 1 = some (4, 1) := rfl
theorem po128 : placesOk tb (Tab.at tb 128).k = true := rfl
theorem ze128 : (Tab.at tb 128).zeros.map C.t = [.t (.bool false), .t (.nils), .t (.nils)] := rfl
theorem pl128_0 : place tb (Tab.at tb 128).k 0 = some (0, 1) := rfl
theorem pl128_1 : place tb (Tab.at tb 128).k 1 = some (1, 1) := rfl
theorem pl128_2 : place tb (Tab.at tb 128).k 2 = some (2, 1) := rfl
theorem po59 : placesOk tb (Tab.at tb 59).k = true := rfl
theorem ze59 : (Tab.at tb 59).zeros.map C.t = [.t (.int .i32 0), .t (.int .i32 0), .t (.int .i32 0), .t (.int .i32 0), .t (.int .i32 0), .t (.int .i32 0)] := rfl
theorem fn3 : G.fn 3 = some F3 := by kernel_rfl
theorem imp3 : G.imp 3 = false := rfl
theorem fn6 : G.fn 6 = some F6 := by kernel_rfl
theorem imp6 : G.imp 6 = false := rfl
theorem fn7 : G.fn 7 = some F7 := by kernel_rfl
theorem imp7 : G.imp 7 = false := rfl
theorem fn8 : G.fn 8 = some F8 := by kernel_rfl
theorem imp8 : G.imp 8 = false := rfl
theorem fn9 : G.fn 9 = some F9 := by kernel_rfl
theorem imp9 : G.imp 9 = false := rfl
theorem fn10 : G.fn 10 = some F10 := by kernel_rfl
theorem imp10 : G.imp 10 = true := rfl
theorem fn14 : G.fn 14 = some F14 := by kernel_rfl
theorem imp14 : G.imp 14 = true := rfl
theorem fn16 : G.fn 16 = some F16 := by kernel_rfl
theorem imp16 : G.imp 16 = false := rfl
theorem fn17 : G.fn 17 = some F17 := by kernel_rfl
theorem imp17 : G.imp 17 = false := rfl
theorem fn20 : G.fn 20 = some F20 := by kernel_rfl
theorem imp20 : G.imp 20 = false := rfl
theorem fn21 : G.fn 21 = some F21 := by kernel_rfl
theorem imp21 : G.imp 21 = false := rfl
theorem fn22 : G.fn 22 = some F22 := by kernel_rfl
theorem imp22 : G.imp 22 = false := rfl
theorem fn23 : G.fn 23 = some F23 := by kernel_rfl
theorem imp23 : G.imp 23 = false := rfl
theorem fn24 : G.fn 24 = some F24 := by kernel_rfl
theorem imp24 : G.imp 24 = false := rfl
theorem fn25 : G.fn 25 = some F25 := by kernel_rfl
theorem imp25 : G.imp 25 = false := rfl
theorem fn26 : G.fn 26 = some F26 := by kernel_rfl
theorem imp26 : G.imp 26 = false := rfl
theorem fn27 : G.fn 27 = some F27 := by kernel_rfl
theorem imp27 : G.imp 27 = false := rfl
theorem fn28 : G.fn 28 = some F28 := by kernel_rfl
theorem imp28 : G.imp 28 = false := rfl
theorem fn29 : G.fn 29 = some F29 := by kernel_rfl
theorem imp29 : G.imp 29 = false := rfl
theorem fn32 : G.fn 32 = some F32 := by kernel_rfl
theorem imp32 : G.imp 32 = true := rfl
theorem fn33 : G.fn 33 = some F33 := by kernel_rfl
theorem imp33 : G.imp 33 = true := rfl
theorem fn34 : G.fn 34 = some F34 := by kernel_rfl
theorem imp34 : G.imp 34 = false := rfl
theorem fn36 : G.fn 36 = some F36 := by kernel_rfl
theorem imp36 : G.imp 36 = false := rfl
theorem fn40 : G.fn 40 = some F40 := by kernel_rfl
theorem imp40 : G.imp 40 = false := rfl
theorem fn42 : G.fn 42 = some F42 := by kernel_rfl
theorem imp42 : G.imp 42 = false := rfl
theorem fn43 : G.fn 43 = some F43 := by kernel_rfl
theorem imp43 : G.imp 43 = true := rfl
theorem fn44 : G.fn 44 = some F44 := by kernel_rfl
theorem imp44 : G.imp 44 = false := rfl
theorem fn45 : G.fn 45 = some F45 := by kernel_rfl
theorem imp45 : G.imp 45 = false := rfl
theorem fn46 : G.fn 46 = some F46 := by kernel_rfl
theorem imp46 : G.imp 46 = false := rfl
theorem fn47 : G.fn 47 = some F47 := by kernel_rfl
theorem imp47 : G.imp 47 = false := rfl
theorem fn49 : G.fn 49 = some F49 := by kernel_rfl
theorem imp49 : G.imp 49 = false := rfl
theorem fn50 : G.fn 50 = some F50 := by kernel_rfl
theorem imp50 : G.imp 50 = false := rfl
theorem fn51 : G.fn 51 = some F51 := by kernel_rfl
theorem imp51 : G.imp 51 = false := rfl
theorem fn52 : G.fn 52 = some F52 := by kernel_rfl
theorem imp52 : G.imp 52 = false := rfl
theorem fn53 : G.fn 53 = some F53 := by kernel_rfl
theorem imp53 : G.imp 53 = false := rfl
theorem fn54 : G.fn 54 = some F54 := by kernel_rfl
theorem imp54 : G.imp 54 = false := rfl
theorem fn55 : G.fn 55 = some F55 := by kernel_rfl
theorem imp55 : G.imp 55 = false := rfl
theorem fn56 : G.fn 56 = some F56 := by kernel_rfl
theorem imp56 : G.imp 56 = false := rfl
theorem fn57 : G.fn 57 = some F57 := by kernel_rfl
theorem imp57 : G.imp 57 = false := rfl
theorem fn58 : G.fn 58 = some F58 := by kernel_rfl
theorem imp58 : G.imp 58 = false := rfl
theorem fn59 : G.fn 59 = some F59 := by kernel_rfl
theorem imp59 : G.imp 59 = false := rfl
theorem fn60 : G.fn 60 = some F60 := by kernel_rfl
theorem imp60 : G.imp 60 = false := rfl
theorem fn61 : G.fn 61 = some F61 := by kernel_rfl
theorem imp61 : G.imp 61 = false := rfl
theorem fn62 : G.fn 62 = some F62 := by kernel_rfl
theorem imp62 : G.imp 62 = false := rfl
theorem fn63 : G.fn 63 = some F63 := by kernel_rfl
theorem imp63 : G.imp 63 = false := rfl
theorem fn64 : G.fn 64 = some F64 := by kernel_rfl
theorem imp64 : G.imp 64 = false := rfl
theorem fn65 : G.fn 65 = some F65 := by kernel_rfl
theorem imp65 : G.imp 65 = false := rfl
theorem fn66 : G.fn 66 = some F66 := by kernel_rfl
theorem imp66 : G.imp 66 = false := rfl
theorem fn67 : G.fn 67 = some F67 := by kernel_rfl
theorem imp67 : G.imp 67 = false := rfl
theorem fn68 : G.fn 68 = some F68 := by kernel_rfl
theorem imp68 : G.imp 68 = false := rfl
theorem fn69 : G.fn 69 = some F69 := by kernel_rfl
theorem imp69 : G.imp 69 = false := rfl
theorem fn70 : G.fn 70 = some F70 := by kernel_rfl
theorem imp70 : G.imp 70 = false := rfl
theorem fn71 : G.fn 71 = some F71 := by kernel_rfl
theorem imp71 : G.imp 71 = false := rfl
theorem fn72 : G.fn 72 = some F72 := by kernel_rfl
theorem imp72 : G.imp 72 = false := rfl
theorem fn73 : G.fn 73 = some F73 := by kernel_rfl
theorem imp73 : G.imp 73 = false := rfl
theorem fn74 : G.fn 74 = some F74 := by kernel_rfl
theorem imp74 : G.imp 74 = false := rfl
theorem fn75 : G.fn 75 = some F75 := by kernel_rfl
theorem imp75 : G.imp 75 = false := rfl
theorem fn76 : G.fn 76 = some F76 := by kernel_rfl
theorem imp76 : G.imp 76 = false := rfl
theorem fn77 : G.fn 77 = some F77 := by kernel_rfl
theorem imp77 : G.imp 77 = false := rfl
theorem fn79 : G.fn 79 = some F79 := by kernel_rfl
theorem imp79 : G.imp 79 = false := rfl
theorem fn80 : G.fn 80 = some F80 := by kernel_rfl
theorem imp80 : G.imp 80 = false := rfl
theorem fn81 : G.fn 81 = some F81 := by kernel_rfl
theorem imp81 : G.imp 81 = true := rfl
theorem fn82 : G.fn 82 = some F82 := by kernel_rfl
theorem imp82 : G.imp 82 = false := rfl
theorem fn83 : G.fn 83 = some F83 := by kernel_rfl
theorem imp83 : G.imp 83 = false := rfl
theorem fn84 : G.fn 84 = some F84 := by kernel_rfl
theorem imp84 : G.imp 84 = false := rfl
theorem fn85 : G.fn 85 = some F85 := by kernel_rfl
theorem imp85 : G.imp 85 = false := rfl
theorem fn86 : G.fn 86 = some F86 := by kernel_rfl
theorem imp86 : G.imp 86 = false := rfl
theorem fn89 : G.fn 89 = some F89 := by kernel_rfl
theorem imp89 : G.imp 89 = true := rfl
theorem fn97 : G.fn 97 = some F97 := by kernel_rfl
theorem imp97 : G.imp 97 = false := rfl
theorem fn98 : G.fn 98 = some F98 := by kernel_rfl
theorem imp98 : G.imp 98 = false := rfl
theorem fn102 : G.fn 102 = some F102 := by kernel_rfl
theorem imp102 : G.imp 102 = false := rfl
theorem nofn87 : G.fn 87 = none := by kernel_rfl
theorem imp87 : G.imp 87 = false := rfl
theorem ev_add64 {x y c : Int} (hx : 0 ≤ x) (hy : 0 ≤ y) (hc : 0 ≤ c) (hc1 : c ≤ 1) (n : Nat) (hn : 1 ≤ n) : pcall G n 87 [wd x, wd y, wd c] [] = some (.tup [wd ((x + y + c) % 18446744073709551616), wd ((x + y + c) / 18446744073709551616)], []) := by
  obtain ⟨n, rfl⟩ : ∃ m, n = m + 1 := ⟨n - 1, by omega⟩
  rw [← extAdd_s hx hy hc hc1]
  simp only [pcall, nofn87]
  rfl
theorem nofn101 : G.fn 101 = none := by kernel_rfl
theorem imp101 : G.imp 101 = false := rfl
theorem ev_sub64 {x y c : Int} (hx : 0 ≤ x ∧ x < 18446744073709551616) (hy : 0 ≤ y ∧ y < 18446744073709551616) (hc : 0 ≤ c) (hc1 : c ≤ 1) (n : Nat) (hn : 1 ≤ n) : pcall G n 101 [wd x, wd y, wd c] [] = some (.tup [wd ((x - y - c) % 18446744073709551616), wd (if x < y + c then 1 else 0)], []) := by
  obtain ⟨n, rfl⟩ : ∃ m, n = m + 1 := ⟨n - 1, by omega⟩
  rw [← extSub_s hx hy hc hc1]
  simp only [pcall, nofn101]
  rfl
end Go.Proofs.Ythjmbppofgadaaa
