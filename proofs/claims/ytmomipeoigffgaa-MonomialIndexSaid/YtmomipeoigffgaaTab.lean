import Derived.Test.YtmomipeoigffgaaProg
import Derived.Test.YtmomipeoigffgaaAmComp
import Derived.KernelRfl
namespace Go.Proofs.Ytmomipeoigffgaa
open Go.AM
/-- The types. -/
def tb : Tab := [
  ⟨.other, 0, 0, []⟩,
  ⟨.func, 1, 8, [.fn]⟩,
  ⟨.int .i64, 1, 8, [.int .i64]⟩,
  ⟨.int .i64, 1, 8, [.int .i64]⟩,
  ⟨.bool, 1, 1, [.bool]⟩,
  ⟨.int .u8, 1, 1, [.int .u8]⟩,
  ⟨.int .u8, 1, 1, [.int .u8]⟩,
  ⟨.struct [(0, 2), (1, 3), (2, 4), (3, 6)], 4, 24, [.int .i64, .int .i64, .bool, .int .u8]⟩,
  ⟨.struct [(0, 2), (1, 3), (2, 4), (3, 6)], 4, 24, [.int .i64, .int .i64, .bool, .int .u8]⟩,
  ⟨.str, 1, 16, [.str]⟩,
  ⟨.str, 1, 16, [.str]⟩,
  ⟨.str, 1, 16, [.str]⟩,
  ⟨.int .u64, 1, 8, [.int .u64]⟩,
  ⟨.struct [(0, 9), (1, 12)], 2, 24, [.str, .int .u64]⟩,
  ⟨.struct [(0, 9), (1, 12)], 2, 24, [.str, .int .u64]⟩,
  ⟨.ptr 49, 1, 8, [.ptr]⟩,
  ⟨.ptr 52, 1, 8, [.ptr]⟩,
  ⟨.ptr 62, 1, 8, [.ptr]⟩,
  ⟨.struct [(0, 17)], 1, 8, [.ptr]⟩,
  ⟨.struct [(0, 17)], 1, 8, [.ptr]⟩,
  ⟨.other, 0, 0, []⟩,
  ⟨.int .i32, 1, 4, [.int .i32]⟩,
  ⟨.other, 0, 0, []⟩,
  ⟨.func, 1, 8, [.fn]⟩,
  ⟨.func, 1, 8, [.fn]⟩,
  ⟨.func, 1, 8, [.fn]⟩,
  ⟨.slice 31, 1, 24, [.sl 1]⟩,
  ⟨.int .i64, 1, 8, [.int .i64]⟩,
  ⟨.other, 0, 0, []⟩,
  ⟨.func, 1, 8, [.fn]⟩,
  ⟨.func, 1, 8, [.fn]⟩,
  ⟨.slice 3, 1, 24, [.sl 1]⟩,
  ⟨.func, 1, 8, [.fn]⟩,
  ⟨.func, 1, 8, [.fn]⟩,
  ⟨.func, 1, 8, [.fn]⟩,
  ⟨.func, 1, 8, [.fn]⟩,
  ⟨.func, 1, 8, [.fn]⟩,
  ⟨.func, 1, 8, [.fn]⟩,
  ⟨.func, 1, 8, [.fn]⟩,
  ⟨.other, 0, 0, []⟩,
  ⟨.func, 1, 8, [.fn]⟩,
  ⟨.func, 1, 8, [.fn]⟩,
  ⟨.func, 1, 8, [.fn]⟩,
  ⟨.func, 1, 8, [.fn]⟩,
  ⟨.func, 1, 8, [.fn]⟩,
  ⟨.func, 1, 8, [.fn]⟩,
  ⟨.func, 1, 8, [.fn]⟩,
  ⟨.func, 1, 8, [.fn]⟩,
  ⟨.struct [(0, 17), (1, 17), (2, 17), (3, 9)], 4, 40, [.ptr, .ptr, .ptr, .str]⟩,
  ⟨.struct [(0, 17), (1, 17), (2, 17), (3, 9)], 4, 40, [.ptr, .ptr, .ptr, .str]⟩,
  ⟨.array 0 16, 0, 0, []⟩,
  ⟨.struct [(0, 50)], 0, 0, []⟩,
  ⟨.struct [(0, 50)], 0, 0, []⟩,
  ⟨.func, 1, 8, [.fn]⟩,
  ⟨.int .u32, 1, 4, [.int .u32]⟩,
  ⟨.int .u8, 1, 1, [.int .u8]⟩,
  ⟨.int .u8, 1, 1, [.int .u8]⟩,
  ⟨.func, 1, 8, [.fn]⟩,
  ⟨.ptr 5, 1, 8, [.ptr]⟩,
  ⟨.int .i32, 1, 4, [.int .i32]⟩,
  ⟨.int .i32, 1, 4, [.int .i32]⟩,
  ⟨.struct [(0, 12), (1, 12), (2, 54), (3, 55), (4, 5), (5, 5), (6, 56), (7, 57), (8, 58), (9, 59), (10, 60)], 11, 48, [.int .u64, .int .u64, .int .u32, .int .u8, .int .u8, .int .u8, .int .u8, .fn, .ptr, .int .i32, .int .i32]⟩,
  ⟨.struct [(0, 12), (1, 12), (2, 54), (3, 55), (4, 5), (5, 5), (6, 56), (7, 57), (8, 58), (9, 59), (10, 60)], 11, 48, [.int .u64, .int .u64, .int .u32, .int .u8, .int .u8, .int .u8, .int .u8, .fn, .ptr, .int .i32, .int .i32]⟩,
  ⟨.other, 0, 0, []⟩]

/-- sosopt/sosoptlaw05.MonomialCount -/
def F3 : Fun := ⟨32, [4],
  .seq (
  .reg false [⟨some 4, .mv, [.const (.bool false)], none, .sync⟩]) (
  .seq (
  .reg false [⟨some 10, .mv, [.tmp 0], none, .sync⟩,
    ⟨some 11, .mv, [.tmp 1], none, .sync⟩,
    ⟨some 12, .call 10, [.tmp 10, .tmp 11], none, .sync⟩,
    ⟨some 9, .mv, [.tmp 12], none, .sync⟩,
    ⟨some 13, .ext 0, [.tmp 9], none, .sync⟩,
    ⟨some 14, .ext 1, [.tmp 9], none, .sync⟩,
    ⟨some 5, .mv, [.tmp 13], none, .sync⟩,
    ⟨some 6, .mv, [.tmp 14], none, .sync⟩]) (
  .seq (
  .reg false [⟨some 16, .mv, [.tmp 0], none, .sync⟩,
    ⟨some 17, .mv, [.tmp 1], none, .sync⟩,
    ⟨some 18, .call 11, [.tmp 16, .tmp 17], none, .sync⟩,
    ⟨some 15, .mv, [.tmp 18], none, .sync⟩,
    ⟨some 19, .ext 0, [.tmp 15], none, .sync⟩,
    ⟨some 20, .ext 1, [.tmp 15], none, .sync⟩,
    ⟨some 7, .mv, [.tmp 19], none, .sync⟩,
    ⟨some 8, .mv, [.tmp 20], none, .sync⟩]) (
  .seq (
  .reg false [⟨some 21, .mv, [.tmp 5], none, .sync⟩,
    ⟨some 22, .mv, [.tmp 7], none, .sync⟩,
    ⟨some 23, .bin .eql 3, [.tmp 21, .tmp 22], none, .sync⟩,
    ⟨some 24, .mv, [.tmp 23], none, .sync⟩,
    ⟨some 25, .mv, [.tmp 6], some (24, true), .sync⟩,
    ⟨some 26, .mv, [.tmp 8], some (24, true), .sync⟩,
    ⟨some 27, .bin .eql 4, [.tmp 25, .tmp 26], some (24, true), .sync⟩,
    ⟨some 28, .pick, [.tmp 24, .tmp 27, .const (.bool false)], none, .sync⟩,
    ⟨some 29, .mv, [.tmp 28], none, .sync⟩,
    ⟨some 30, .call 12, [], some (29, true), .sync⟩,
    ⟨some 31, .pick, [.tmp 29, .tmp 30, .const (.bool false)], none, .sync⟩,
    ⟨some 4, .mv, [.tmp 31], none, .sync⟩]) (
  .ret))))⟩

/-- sosopt/sosoptlaw05.MonomialAll -/
def F4 : Fun := ⟨50, [4],
  .seq (
  .reg false [⟨some 4, .mv, [.const (.bool false)], none, .sync⟩]) (
  .seq (
  .seq (
  .reg false [⟨some 12, .mv, [.tmp 0], none, .sync⟩,
    ⟨some 13, .mv, [.tmp 1], none, .sync⟩,
    ⟨some 14, .call 11, [.tmp 12, .tmp 13], none, .sync⟩,
    ⟨some 11, .mv, [.tmp 14], none, .sync⟩,
    ⟨some 15, .ext 0, [.tmp 11], none, .sync⟩,
    ⟨some 16, .ext 1, [.tmp 11], none, .sync⟩,
    ⟨some 5, .mv, [.tmp 15], none, .sync⟩,
    ⟨some 6, .mv, [.tmp 16], none, .sync⟩]) (
  .seq (
  .reg false [⟨some 17, .mv, [.tmp 6], none, .sync⟩,
    ⟨some 18, .mv, [.tmp 17], none, .sync⟩,
    ⟨some 19, .mv, [.tmp 5], some (18, true), .sync⟩,
    ⟨some 20, .bin .gtr 3, [.tmp 19, .const (.int .i64 500)], some (18, true), .sync⟩,
    ⟨some 21, .pick, [.tmp 18, .tmp 20, .const (.bool false)], none, .sync⟩,
    ⟨some 22, .mv, [.tmp 21], none, .sync⟩,
    ⟨some 23, .mv, [.tmp 5], some (22, true), .sync⟩,
    ⟨some 24, .bin .leq 3, [.tmp 23, .const (.int .i64 4096)], some (22, true), .sync⟩,
    ⟨some 25, .pick, [.tmp 22, .tmp 24, .const (.bool false)], none, .sync⟩]) (
  .cond (.tmp 25) (
    .seq (
    .reg false [⟨some 26, .call 12, [], none, .sync⟩,
      ⟨some 4, .mv, [.tmp 26], none, .sync⟩]) (
    .ret)) (
    .skip)))) (
  .seq (
  .reg false [⟨some 28, .mv, [.tmp 0], none, .sync⟩,
    ⟨some 29, .mv, [.tmp 1], none, .sync⟩,
    ⟨some 30, .call 13, [.tmp 28, .tmp 29], none, .sync⟩,
    ⟨some 27, .mv, [.tmp 30], none, .sync⟩,
    ⟨some 31, .ext 0, [.tmp 27], none, .sync⟩,
    ⟨some 32, .ext 1, [.tmp 27], none, .sync⟩,
    ⟨some 7, .mv, [.tmp 31], none, .sync⟩,
    ⟨some 8, .mv, [.tmp 32], none, .sync⟩]) (
  .seq (
  .reg false [⟨some 34, .mv, [.tmp 0], none, .sync⟩,
    ⟨some 35, .mv, [.tmp 1], none, .sync⟩,
    ⟨some 36, .call 14, [.tmp 34, .tmp 35], none, .sync⟩,
    ⟨some 33, .mv, [.tmp 36], none, .sync⟩,
    ⟨some 37, .ext 0, [.tmp 33], none, .sync⟩,
    ⟨some 38, .ext 1, [.tmp 33], none, .sync⟩,
    ⟨some 9, .mv, [.tmp 37], none, .sync⟩,
    ⟨some 10, .mv, [.tmp 38], none, .sync⟩]) (
  .seq (
  .reg false [⟨some 39, .mv, [.tmp 7], none, .sync⟩,
    ⟨some 40, .mv, [.tmp 9], none, .sync⟩,
    ⟨some 41, .call 15, [.tmp 39, .tmp 40], none, .sync⟩,
    ⟨some 42, .mv, [.tmp 41], none, .sync⟩,
    ⟨some 43, .mv, [.tmp 8], some (42, true), .sync⟩,
    ⟨some 44, .mv, [.tmp 10], some (42, true), .sync⟩,
    ⟨some 45, .bin .eql 27, [.tmp 43, .tmp 44], some (42, true), .sync⟩,
    ⟨some 46, .pick, [.tmp 42, .tmp 45, .const (.bool false)], none, .sync⟩,
    ⟨some 47, .mv, [.tmp 46], none, .sync⟩,
    ⟨some 48, .call 12, [], some (47, true), .sync⟩,
    ⟨some 49, .pick, [.tmp 47, .tmp 48, .const (.bool false)], none, .sync⟩,
    ⟨some 4, .mv, [.tmp 49], none, .sync⟩]) (
  .ret)))))⟩

/-- sosopt/sosoptlaw05.MonomialIndex -/
def F5 : Fun := ⟨117, [4],
  .seq (
  .reg false [⟨some 4, .mv, [.const (.bool false)], none, .sync⟩]) (
  .seq (
  .seq (
  .reg false [⟨some 14, .mv, [.tmp 0], none, .sync⟩,
    ⟨some 15, .mv, [.tmp 1], none, .sync⟩,
    ⟨some 16, .mkslice 26 2 [0, 1], [.tmp 14, .tmp 15], none, .sync⟩,
    ⟨some 17, .call 16, [.tmp 16], none, .sync⟩,
    ⟨some 18, .mv, [.tmp 17], none, .sync⟩,
    ⟨some 19, .mv, [.tmp 0], some (18, false), .sync⟩,
    ⟨some 20, .call 17, [.tmp 19], some (18, false), .sync⟩,
    ⟨some 21, .un .not, [.tmp 20], some (18, false), .sync⟩,
    ⟨some 22, .pick, [.tmp 18, .const (.bool true), .tmp 21], none, .sync⟩,
    ⟨some 23, .mv, [.tmp 22], none, .sync⟩,
    ⟨some 24, .mv, [.tmp 1], some (23, false), .sync⟩,
    ⟨some 25, .call 17, [.tmp 24], some (23, false), .sync⟩,
    ⟨some 26, .un .not, [.tmp 25], some (23, false), .sync⟩,
    ⟨some 27, .pick, [.tmp 23, .const (.bool true), .tmp 26], none, .sync⟩,
    ⟨some 28, .mv, [.tmp 27], none, .sync⟩,
    ⟨some 29, .mv, [.tmp 0], some (28, false), .sync⟩,
    ⟨some 30, .len 31, [.tmp 29], some (28, false), .sync⟩,
    ⟨some 31, .mv, [.tmp 1], some (28, false), .sync⟩,
    ⟨some 32, .len 31, [.tmp 31], some (28, false), .sync⟩,
    ⟨some 33, .bin .neq 3, [.tmp 30, .tmp 32], some (28, false), .sync⟩,
    ⟨some 34, .pick, [.tmp 28, .const (.bool true), .tmp 33], none, .sync⟩]) (
  .cond (.tmp 34) (
    .seq (
    .reg false [⟨some 35, .call 12, [], none, .sync⟩,
      ⟨some 4, .mv, [.tmp 35], none, .sync⟩]) (
    .ret)) (
    .skip))) (
  .seq (
  .reg false [⟨some 37, .mv, [.tmp 0], none, .sync⟩,
    ⟨some 38, .call 18, [.tmp 37], none, .sync⟩,
    ⟨some 36, .mv, [.tmp 38], none, .sync⟩,
    ⟨some 39, .ext 0, [.tmp 36], none, .sync⟩,
    ⟨some 40, .ext 1, [.tmp 36], none, .sync⟩,
    ⟨some 5, .mv, [.tmp 39], none, .sync⟩,
    ⟨some 6, .mv, [.tmp 40], none, .sync⟩]) (
  .seq (
  .reg false [⟨some 42, .mv, [.tmp 1], none, .sync⟩,
    ⟨some 43, .call 18, [.tmp 42], none, .sync⟩,
    ⟨some 41, .mv, [.tmp 43], none, .sync⟩,
    ⟨some 44, .ext 0, [.tmp 41], none, .sync⟩,
    ⟨some 45, .ext 1, [.tmp 41], none, .sync⟩,
    ⟨some 7, .mv, [.tmp 44], none, .sync⟩,
    ⟨some 8, .mv, [.tmp 45], none, .sync⟩]) (
  .seq (
  .seq (
  .reg false [⟨some 46, .mv, [.tmp 6], none, .sync⟩,
    ⟨some 47, .un .not, [.tmp 46], none, .sync⟩,
    ⟨some 48, .mv, [.tmp 47], none, .sync⟩,
    ⟨some 49, .mv, [.tmp 8], some (48, false), .sync⟩,
    ⟨some 50, .un .not, [.tmp 49], some (48, false), .sync⟩,
    ⟨some 51, .pick, [.tmp 48, .const (.bool true), .tmp 50], none, .sync⟩,
    ⟨some 52, .mv, [.tmp 51], none, .sync⟩,
    ⟨some 53, .mv, [.tmp 5], some (52, false), .sync⟩,
    ⟨some 54, .mv, [.tmp 7], some (52, false), .sync⟩,
    ⟨some 55, .bin .lss 3, [.tmp 53, .tmp 54], some (52, false), .sync⟩,
    ⟨some 56, .mv, [.tmp 0], some (52, false), .sync⟩,
    ⟨some 57, .mv, [.tmp 1], some (52, false), .sync⟩,
    ⟨some 58, .call 19, [.tmp 56, .tmp 57], some (52, false), .sync⟩,
    ⟨some 59, .bin .lss 3, [.tmp 58, .const (.int .i64 0)], some (52, false), .sync⟩,
    ⟨some 60, .bin .neq 4, [.tmp 55, .tmp 59], some (52, false), .sync⟩,
    ⟨some 61, .pick, [.tmp 52, .const (.bool true), .tmp 60], none, .sync⟩]) (
  .cond (.tmp 61) (
    .seq (
    .reg false [⟨some 4, .mv, [.const (.bool false)], none, .sync⟩]) (
    .ret)) (
    .skip))) (
  .seq (
  .reg false [⟨some 62, .mv, [.tmp 0], none, .sync⟩,
    ⟨some 63, .call 20, [.tmp 62], none, .sync⟩,
    ⟨some 9, .mv, [.tmp 63], none, .sync⟩]) (
  .seq (
  .seq (
  .reg false [⟨some 65, .mv, [.tmp 0], none, .sync⟩,
    ⟨some 66, .len 31, [.tmp 65], none, .sync⟩,
    ⟨some 67, .mv, [.tmp 9], none, .sync⟩,
    ⟨some 68, .call 10, [.tmp 66, .tmp 67], none, .sync⟩,
    ⟨some 64, .mv, [.tmp 68], none, .sync⟩,
    ⟨some 69, .ext 0, [.tmp 64], none, .sync⟩,
    ⟨some 70, .ext 1, [.tmp 64], none, .sync⟩,
    ⟨some 10, .mv, [.tmp 69], none, .sync⟩,
    ⟨some 11, .mv, [.tmp 70], none, .sync⟩]) (
  .seq (
  .reg false [⟨some 71, .mv, [.tmp 11], none, .sync⟩,
    ⟨some 72, .un .not, [.tmp 71], none, .sync⟩,
    ⟨some 73, .mv, [.tmp 72], none, .sync⟩,
    ⟨some 74, .mv, [.tmp 5], some (73, false), .sync⟩,
    ⟨some 75, .mv, [.tmp 10], some (73, false), .sync⟩,
    ⟨some 76, .bin .geq 3, [.tmp 74, .tmp 75], some (73, false), .sync⟩,
    ⟨some 77, .pick, [.tmp 73, .const (.bool true), .tmp 76], none, .sync⟩,
    ⟨some 78, .mv, [.tmp 77], none, .sync⟩,
    ⟨some 79, .mv, [.tmp 10], some (78, false), .sync⟩,
    ⟨some 80, .bin .gtr 3, [.tmp 79, .const (.int .i64 300)], some (78, false), .sync⟩,
    ⟨some 81, .pick, [.tmp 78, .const (.bool true), .tmp 80], none, .sync⟩]) (
  .cond (.tmp 81) (
    .seq (
    .reg false [⟨some 82, .mv, [.tmp 11], none, .sync⟩,
      ⟨some 83, .mv, [.tmp 82], none, .sync⟩,
      ⟨some 84, .mv, [.tmp 5], some (83, true), .sync⟩,
      ⟨some 85, .mv, [.tmp 10], some (83, true), .sync⟩,
      ⟨some 86, .bin .lss 3, [.tmp 84, .tmp 85], some (83, true), .sync⟩,
      ⟨some 87, .pick, [.tmp 83, .tmp 86, .const (.bool false)], none, .sync⟩,
      ⟨some 88, .mv, [.tmp 87], none, .sync⟩,
      ⟨some 89, .call 12, [], some (88, true), .sync⟩,
      ⟨some 90, .pick, [.tmp 88, .tmp 89, .const (.bool false)], none, .sync⟩,
      ⟨some 4, .mv, [.tmp 90], none, .sync⟩]) (
    .ret)) (
    .skip)))) (
  .seq (
  .reg false [⟨some 92, .mv, [.tmp 0], none, .sync⟩,
    ⟨some 93, .len 31, [.tmp 92], none, .sync⟩,
    ⟨some 94, .mv, [.tmp 9], none, .sync⟩,
    ⟨some 95, .call 13, [.tmp 93, .tmp 94], none, .sync⟩,
    ⟨some 91, .mv, [.tmp 95], none, .sync⟩,
    ⟨some 96, .ext 0, [.tmp 91], none, .sync⟩,
    ⟨some 97, .ext 1, [.tmp 91], none, .sync⟩,
    ⟨some 12, .mv, [.tmp 96], none, .sync⟩,
    ⟨some 13, .mv, [.tmp 97], none, .sync⟩]) (
  .seq (
  .reg false [⟨some 98, .mv, [.tmp 13], none, .sync⟩,
    ⟨some 99, .bin .eql 27, [.tmp 98, .const (.int .i64 0)], none, .sync⟩,
    ⟨some 100, .mv, [.tmp 99], none, .sync⟩,
    ⟨some 101, .mv, [.tmp 5], some (100, true), .sync⟩,
    ⟨some 102, .mv, [.tmp 12], some (100, true), .sync⟩,
    ⟨some 103, .len 26, [.tmp 102], some (100, true), .sync⟩,
    ⟨some 104, .bin .lss 3, [.tmp 101, .tmp 103], some (100, true), .sync⟩,
    ⟨some 105, .pick, [.tmp 100, .tmp 104, .const (.bool false)], none, .sync⟩,
    ⟨some 106, .mv, [.tmp 105], none, .sync⟩,
    ⟨some 107, .mv, [.tmp 12], some (106, true), .sync⟩,
    ⟨some 108, .mv, [.tmp 5], some (106, true), .sync⟩,
    ⟨some 109, .iaddr 26, [.tmp 107, .tmp 108], some (106, true), .sync⟩,
    ⟨some 110, .load 31, [.tmp 109], some (106, true), .sync⟩,
    ⟨some 111, .mv, [.tmp 0], some (106, true), .sync⟩,
    ⟨some 112, .call 21, [.tmp 110, .tmp 111], some (106, true), .sync⟩,
    ⟨some 113, .pick, [.tmp 106, .tmp 112, .const (.bool false)], none, .sync⟩,
    ⟨some 114, .mv, [.tmp 113], none, .sync⟩,
    ⟨some 115, .call 12, [], some (114, true), .sync⟩,
    ⟨some 116, .pick, [.tmp 114, .tmp 115, .const (.bool false)], none, .sync⟩,
    ⟨some 4, .mv, [.tmp 116], none, .sync⟩]) (
  .ret)))))))))⟩

/-- sosopt/sosoptlaw05.MonomialValid -/
def F6 : Fun := ⟨65, [4],
  .seq (
  .reg false [⟨some 4, .mv, [.const (.bool false)], none, .sync⟩]) (
  .seq (
  .seq (
  .reg false [⟨some 9, .mv, [.tmp 0], none, .sync⟩,
    ⟨some 10, .mv, [.tmp 1], none, .sync⟩,
    ⟨some 11, .mkslice 26 2 [0, 1], [.tmp 9, .tmp 10], none, .sync⟩,
    ⟨some 12, .call 16, [.tmp 11], none, .sync⟩]) (
  .cond (.tmp 12) (
    .seq (
    .reg false [⟨some 13, .call 12, [], none, .sync⟩,
      ⟨some 4, .mv, [.tmp 13], none, .sync⟩]) (
    .ret)) (
    .skip))) (
  .seq (
  .reg false [⟨some 15, .mv, [.tmp 0], none, .sync⟩,
    ⟨some 16, .call 18, [.tmp 15], none, .sync⟩,
    ⟨some 14, .mv, [.tmp 16], none, .sync⟩,
    ⟨some 17, .ext 0, [.tmp 14], none, .sync⟩,
    ⟨some 18, .ext 1, [.tmp 14], none, .sync⟩,
    ⟨some 5, .mv, [.tmp 17], none, .sync⟩,
    ⟨some 6, .mv, [.tmp 18], none, .sync⟩]) (
  .seq (
  .reg false [⟨some 20, .mv, [.tmp 0], none, .sync⟩,
    ⟨some 21, .call 22, [.tmp 20], none, .sync⟩,
    ⟨some 19, .mv, [.tmp 21], none, .sync⟩,
    ⟨some 22, .ext 0, [.tmp 19], none, .sync⟩,
    ⟨some 23, .ext 1, [.tmp 19], none, .sync⟩,
    ⟨some 7, .mv, [.tmp 22], none, .sync⟩,
    ⟨some 8, .mv, [.tmp 23], none, .sync⟩]) (
  .seq (
  .reg false [⟨some 24, .mv, [.tmp 0], none, .sync⟩,
    ⟨some 25, .call 17, [.tmp 24], none, .sync⟩,
    ⟨some 26, .mv, [.tmp 0], none, .sync⟩,
    ⟨some 27, .call 23, [.tmp 26], none, .sync⟩,
    ⟨some 28, .bin .eql 4, [.tmp 25, .tmp 27], none, .sync⟩,
    ⟨some 29, .mv, [.tmp 28], none, .sync⟩,
    ⟨some 30, .mv, [.tmp 0], some (29, true), .sync⟩,
    ⟨some 31, .call 20, [.tmp 30], some (29, true), .sync⟩,
    ⟨some 32, .mv, [.tmp 0], some (29, true), .sync⟩,
    ⟨some 33, .call 24, [.tmp 32], some (29, true), .sync⟩,
    ⟨some 34, .bin .eql 3, [.tmp 31, .tmp 33], some (29, true), .sync⟩,
    ⟨some 35, .pick, [.tmp 29, .tmp 34, .const (.bool false)], none, .sync⟩,
    ⟨some 36, .mv, [.tmp 35], none, .sync⟩,
    ⟨some 37, .mv, [.tmp 0], some (36, true), .sync⟩,
    ⟨some 38, .mv, [.tmp 1], some (36, true), .sync⟩,
    ⟨some 39, .call 19, [.tmp 37, .tmp 38], some (36, true), .sync⟩,
    ⟨some 40, .mv, [.tmp 0], some (36, true), .sync⟩,
    ⟨some 41, .mv, [.tmp 1], some (36, true), .sync⟩,
    ⟨some 42, .call 25, [.tmp 40, .tmp 41], some (36, true), .sync⟩,
    ⟨some 43, .bin .eql 3, [.tmp 39, .tmp 42], some (36, true), .sync⟩,
    ⟨some 44, .pick, [.tmp 36, .tmp 43, .const (.bool false)], none, .sync⟩,
    ⟨some 45, .mv, [.tmp 44], none, .sync⟩,
    ⟨some 46, .mv, [.tmp 5], some (45, true), .sync⟩,
    ⟨some 47, .mv, [.tmp 7], some (45, true), .sync⟩,
    ⟨some 48, .bin .eql 3, [.tmp 46, .tmp 47], some (45, true), .sync⟩,
    ⟨some 49, .pick, [.tmp 45, .tmp 48, .const (.bool false)], none, .sync⟩,
    ⟨some 50, .mv, [.tmp 49], none, .sync⟩,
    ⟨some 51, .mv, [.tmp 6], some (50, true), .sync⟩,
    ⟨some 52, .mv, [.tmp 8], some (50, true), .sync⟩,
    ⟨some 53, .bin .eql 4, [.tmp 51, .tmp 52], some (50, true), .sync⟩,
    ⟨some 54, .pick, [.tmp 50, .tmp 53, .const (.bool false)], none, .sync⟩,
    ⟨some 55, .mv, [.tmp 54], none, .sync⟩,
    ⟨some 56, .mv, [.tmp 0], some (55, true), .sync⟩,
    ⟨some 57, .call 26, [.tmp 56], some (55, true), .sync⟩,
    ⟨some 58, .mv, [.tmp 0], some (55, true), .sync⟩,
    ⟨some 59, .call 27, [.tmp 58], some (55, true), .sync⟩,
    ⟨some 60, .call 21, [.tmp 57, .tmp 59], some (55, true), .sync⟩,
    ⟨some 61, .pick, [.tmp 55, .tmp 60, .const (.bool false)], none, .sync⟩,
    ⟨some 62, .mv, [.tmp 61], none, .sync⟩,
    ⟨some 63, .call 12, [], some (62, true), .sync⟩,
    ⟨some 64, .pick, [.tmp 62, .tmp 63, .const (.bool false)], none, .sync⟩,
    ⟨some 4, .mv, [.tmp 64], none, .sync⟩]) (
  .ret)))))⟩

/-- sosopt/sosoptlaw05.MonomialOrder -/
def F7 : Fun := ⟨130, [6],
  .seq (
  .reg false [⟨some 6, .mv, [.const (.bool false)], none, .sync⟩]) (
  .seq (
  .seq (
  .reg false [⟨some 14, .mv, [.tmp 0], none, .sync⟩,
    ⟨some 15, .mv, [.tmp 1], none, .sync⟩,
    ⟨some 16, .mv, [.tmp 2], none, .sync⟩,
    ⟨some 17, .mkslice 26 3 [0, 1, 2], [.tmp 14, .tmp 15, .tmp 16], none, .sync⟩,
    ⟨some 18, .call 16, [.tmp 17], none, .sync⟩,
    ⟨some 19, .mv, [.tmp 18], none, .sync⟩,
    ⟨some 20, .mv, [.tmp 0], some (19, false), .sync⟩,
    ⟨some 21, .call 17, [.tmp 20], some (19, false), .sync⟩,
    ⟨some 22, .un .not, [.tmp 21], some (19, false), .sync⟩,
    ⟨some 23, .pick, [.tmp 19, .const (.bool true), .tmp 22], none, .sync⟩,
    ⟨some 24, .mv, [.tmp 23], none, .sync⟩,
    ⟨some 25, .mv, [.tmp 1], some (24, false), .sync⟩,
    ⟨some 26, .call 17, [.tmp 25], some (24, false), .sync⟩,
    ⟨some 27, .un .not, [.tmp 26], some (24, false), .sync⟩,
    ⟨some 28, .pick, [.tmp 24, .const (.bool true), .tmp 27], none, .sync⟩,
    ⟨some 29, .mv, [.tmp 28], none, .sync⟩,
    ⟨some 30, .mv, [.tmp 2], some (29, false), .sync⟩,
    ⟨some 31, .call 17, [.tmp 30], some (29, false), .sync⟩,
    ⟨some 32, .un .not, [.tmp 31], some (29, false), .sync⟩,
    ⟨some 33, .pick, [.tmp 29, .const (.bool true), .tmp 32], none, .sync⟩,
    ⟨some 34, .mv, [.tmp 33], none, .sync⟩,
    ⟨some 35, .mv, [.tmp 0], some (34, false), .sync⟩,
    ⟨some 36, .len 31, [.tmp 35], some (34, false), .sync⟩,
    ⟨some 37, .mv, [.tmp 1], some (34, false), .sync⟩,
    ⟨some 38, .len 31, [.tmp 37], some (34, false), .sync⟩,
    ⟨some 39, .bin .neq 3, [.tmp 36, .tmp 38], some (34, false), .sync⟩,
    ⟨some 40, .pick, [.tmp 34, .const (.bool true), .tmp 39], none, .sync⟩,
    ⟨some 41, .mv, [.tmp 40], none, .sync⟩,
    ⟨some 42, .mv, [.tmp 0], some (41, false), .sync⟩,
    ⟨some 43, .len 31, [.tmp 42], some (41, false), .sync⟩,
    ⟨some 44, .mv, [.tmp 2], some (41, false), .sync⟩,
    ⟨some 45, .len 31, [.tmp 44], some (41, false), .sync⟩,
    ⟨some 46, .bin .neq 3, [.tmp 43, .tmp 45], some (41, false), .sync⟩,
    ⟨some 47, .pick, [.tmp 41, .const (.bool true), .tmp 46], none, .sync⟩]) (
  .cond (.tmp 47) (
    .seq (
    .reg false [⟨some 48, .call 12, [], none, .sync⟩,
      ⟨some 6, .mv, [.tmp 48], none, .sync⟩]) (
    .ret)) (
    .skip))) (
  .seq (
  .reg false [⟨some 49, .mv, [.tmp 0], none, .sync⟩,
    ⟨some 50, .mv, [.tmp 1], none, .sync⟩,
    ⟨some 51, .call 19, [.tmp 49, .tmp 50], none, .sync⟩,
    ⟨some 52, .mv, [.tmp 1], none, .sync⟩,
    ⟨some 53, .mv, [.tmp 2], none, .sync⟩,
    ⟨some 54, .call 19, [.tmp 52, .tmp 53], none, .sync⟩,
    ⟨some 55, .mv, [.tmp 0], none, .sync⟩,
    ⟨some 56, .mv, [.tmp 2], none, .sync⟩,
    ⟨some 57, .call 19, [.tmp 55, .tmp 56], none, .sync⟩,
    ⟨some 7, .mv, [.tmp 51], none, .sync⟩,
    ⟨some 8, .mv, [.tmp 54], none, .sync⟩,
    ⟨some 9, .mv, [.tmp 57], none, .sync⟩]) (
  .seq (
  .seq (
  .reg false [⟨some 58, .mv, [.tmp 1], none, .sync⟩,
    ⟨some 59, .mv, [.tmp 0], none, .sync⟩,
    ⟨some 60, .call 19, [.tmp 58, .tmp 59], none, .sync⟩,
    ⟨some 61, .mv, [.tmp 7], none, .sync⟩,
    ⟨some 62, .un .neg, [.tmp 61], none, .sync⟩,
    ⟨some 63, .bin .neq 3, [.tmp 60, .tmp 62], none, .sync⟩,
    ⟨some 64, .mv, [.tmp 63], none, .sync⟩,
    ⟨some 65, .mv, [.tmp 7], some (64, false), .sync⟩,
    ⟨some 66, .bin .eql 3, [.tmp 65, .const (.int .i64 0)], some (64, false), .sync⟩,
    ⟨some 67, .mv, [.tmp 0], some (64, false), .sync⟩,
    ⟨some 68, .mv, [.tmp 1], some (64, false), .sync⟩,
    ⟨some 69, .call 21, [.tmp 67, .tmp 68], some (64, false), .sync⟩,
    ⟨some 70, .bin .neq 4, [.tmp 66, .tmp 69], some (64, false), .sync⟩,
    ⟨some 71, .pick, [.tmp 64, .const (.bool true), .tmp 70], none, .sync⟩,
    ⟨some 72, .mv, [.tmp 71], none, .sync⟩,
    ⟨some 73, .mv, [.tmp 7], some (72, false), .sync⟩,
    ⟨some 74, .bin .leq 3, [.tmp 73, .const (.int .i64 0)], some (72, false), .sync⟩,
    ⟨some 75, .mv, [.tmp 74], some (72, false), .sync⟩,
    ⟨some 76, .mv, [.tmp 8], some (75, true), .sync⟩,
    ⟨some 77, .bin .leq 3, [.tmp 76, .const (.int .i64 0)], some (75, true), .sync⟩,
    ⟨some 78, .pick, [.tmp 75, .tmp 77, .const (.bool false)], some (72, false), .sync⟩,
    ⟨some 79, .mv, [.tmp 78], some (72, false), .sync⟩,
    ⟨some 80, .mv, [.tmp 9], some (79, true), .sync⟩,
    ⟨some 81, .bin .gtr 3, [.tmp 80, .const (.int .i64 0)], some (79, true), .sync⟩,
    ⟨some 82, .pick, [.tmp 79, .tmp 81, .const (.bool false)], some (72, false), .sync⟩,
    ⟨some 83, .pick, [.tmp 72, .const (.bool true), .tmp 82], none, .sync⟩,
    ⟨some 84, .mv, [.tmp 83], none, .sync⟩,
    ⟨some 85, .mv, [.tmp 7], some (84, false), .sync⟩,
    ⟨some 86, .bin .lss 3, [.tmp 85, .const (.int .i64 0)], some (84, false), .sync⟩,
    ⟨some 87, .mv, [.tmp 86], some (84, false), .sync⟩,
    ⟨some 88, .mv, [.tmp 8], some (87, true), .sync⟩,
    ⟨some 89, .bin .leq 3, [.tmp 88, .const (.int .i64 0)], some (87, true), .sync⟩,
    ⟨some 90, .pick, [.tmp 87, .tmp 89, .const (.bool false)], some (84, false), .sync⟩,
    ⟨some 91, .mv, [.tmp 90], some (84, false), .sync⟩,
    ⟨some 92, .mv, [.tmp 9], some (91, true), .sync⟩,
    ⟨some 93, .bin .geq 3, [.tmp 92, .const (.int .i64 0)], some (91, true), .sync⟩,
    ⟨some 94, .pick, [.tmp 91, .tmp 93, .const (.bool false)], some (84, false), .sync⟩,
    ⟨some 95, .pick, [.tmp 84, .const (.bool true), .tmp 94], none, .sync⟩]) (
  .cond (.tmp 95) (
    .seq (
    .reg false [⟨some 6, .mv, [.const (.bool false)], none, .sync⟩]) (
    .ret)) (
    .skip))) (
  .seq (
  .seq (
  .reg false [⟨some 96, .mv, [.tmp 0], none, .sync⟩,
    ⟨some 97, .len 31, [.tmp 96], none, .sync⟩,
    ⟨some 98, .make 31, [.tmp 97, .tmp 97], none, .sync⟩,
    ⟨some 99, .mv, [.tmp 0], none, .sync⟩,
    ⟨some 100, .call 19, [.tmp 98, .tmp 99], none, .sync⟩,
    ⟨some 101, .bin .gtr 3, [.tmp 100, .const (.int .i64 0)], none, .sync⟩]) (
  .cond (.tmp 101) (
    .seq (
    .reg false [⟨some 6, .mv, [.const (.bool false)], none, .sync⟩]) (
    .ret)) (
    .skip))) (
  .seq (
  .reg false [⟨some 103, .mv, [.tmp 0], none, .sync⟩,
    ⟨some 104, .mv, [.tmp 2], none, .sync⟩,
    ⟨some 105, .call 28, [.tmp 103, .tmp 104], none, .sync⟩,
    ⟨some 102, .mv, [.tmp 105], none, .sync⟩,
    ⟨some 106, .ext 0, [.tmp 102], none, .sync⟩,
    ⟨some 107, .ext 1, [.tmp 102], none, .sync⟩,
    ⟨some 10, .mv, [.tmp 106], none, .sync⟩,
    ⟨some 11, .mv, [.tmp 107], none, .sync⟩]) (
  .seq (
  .reg false [⟨some 109, .mv, [.tmp 1], none, .sync⟩,
    ⟨some 110, .mv, [.tmp 2], none, .sync⟩,
    ⟨some 111, .call 28, [.tmp 109, .tmp 110], none, .sync⟩,
    ⟨some 108, .mv, [.tmp 111], none, .sync⟩,
    ⟨some 112, .ext 0, [.tmp 108], none, .sync⟩,
    ⟨some 113, .ext 1, [.tmp 108], none, .sync⟩,
    ⟨some 12, .mv, [.tmp 112], none, .sync⟩,
    ⟨some 13, .mv, [.tmp 113], none, .sync⟩]) (
  .seq (
  .reg false [⟨some 114, .mv, [.tmp 11], none, .sync⟩,
    ⟨some 115, .un .not, [.tmp 114], none, .sync⟩,
    ⟨some 116, .mv, [.tmp 115], none, .sync⟩,
    ⟨some 117, .mv, [.tmp 13], some (116, false), .sync⟩,
    ⟨some 118, .un .not, [.tmp 117], some (116, false), .sync⟩,
    ⟨some 119, .pick, [.tmp 116, .const (.bool true), .tmp 118], none, .sync⟩,
    ⟨some 120, .mv, [.tmp 119], none, .sync⟩,
    ⟨some 121, .mv, [.tmp 10], some (120, false), .sync⟩,
    ⟨some 122, .mv, [.tmp 12], some (120, false), .sync⟩,
    ⟨some 123, .call 19, [.tmp 121, .tmp 122], some (120, false), .sync⟩,
    ⟨some 124, .mv, [.tmp 7], some (120, false), .sync⟩,
    ⟨some 125, .bin .eql 3, [.tmp 123, .tmp 124], some (120, false), .sync⟩,
    ⟨some 126, .pick, [.tmp 120, .const (.bool true), .tmp 125], none, .sync⟩,
    ⟨some 127, .mv, [.tmp 126], none, .sync⟩,
    ⟨some 128, .call 12, [], some (127, true), .sync⟩,
    ⟨some 129, .pick, [.tmp 127, .tmp 128, .const (.bool false)], none, .sync⟩,
    ⟨some 6, .mv, [.tmp 129], none, .sync⟩]) (
  .ret))))))))⟩

/-- sosopt/sosoptlaw05.MonomialArithmetic -/
def F8 : Fun := ⟨98, [4],
  .seq (
  .reg false [⟨some 4, .mv, [.const (.bool false)], none, .sync⟩]) (
  .seq (
  .seq (
  .reg false [⟨some 17, .mv, [.tmp 0], none, .sync⟩,
    ⟨some 18, .mv, [.tmp 1], none, .sync⟩,
    ⟨some 19, .mkslice 26 2 [0, 1], [.tmp 17, .tmp 18], none, .sync⟩,
    ⟨some 20, .call 16, [.tmp 19], none, .sync⟩]) (
  .cond (.tmp 20) (
    .seq (
    .reg false [⟨some 21, .call 12, [], none, .sync⟩,
      ⟨some 4, .mv, [.tmp 21], none, .sync⟩]) (
    .ret)) (
    .skip))) (
  .seq (
  .reg false [⟨some 23, .mv, [.tmp 0], none, .sync⟩,
    ⟨some 24, .mv, [.tmp 1], none, .sync⟩,
    ⟨some 25, .call 28, [.tmp 23, .tmp 24], none, .sync⟩,
    ⟨some 22, .mv, [.tmp 25], none, .sync⟩,
    ⟨some 26, .ext 0, [.tmp 22], none, .sync⟩,
    ⟨some 27, .ext 1, [.tmp 22], none, .sync⟩,
    ⟨some 5, .mv, [.tmp 26], none, .sync⟩,
    ⟨some 6, .mv, [.tmp 27], none, .sync⟩]) (
  .seq (
  .reg false [⟨some 29, .mv, [.tmp 0], none, .sync⟩,
    ⟨some 30, .mv, [.tmp 1], none, .sync⟩,
    ⟨some 31, .call 29, [.tmp 29, .tmp 30], none, .sync⟩,
    ⟨some 28, .mv, [.tmp 31], none, .sync⟩,
    ⟨some 32, .ext 0, [.tmp 28], none, .sync⟩,
    ⟨some 33, .ext 1, [.tmp 28], none, .sync⟩,
    ⟨some 7, .mv, [.tmp 32], none, .sync⟩,
    ⟨some 8, .mv, [.tmp 33], none, .sync⟩]) (
  .seq (
  .reg false [⟨some 35, .mv, [.tmp 0], none, .sync⟩,
    ⟨some 36, .mv, [.tmp 1], none, .sync⟩,
    ⟨some 37, .call 30, [.tmp 35, .tmp 36], none, .sync⟩,
    ⟨some 34, .mv, [.tmp 37], none, .sync⟩,
    ⟨some 38, .ext 0, [.tmp 34], none, .sync⟩,
    ⟨some 39, .ext 1, [.tmp 34], none, .sync⟩,
    ⟨some 9, .mv, [.tmp 38], none, .sync⟩,
    ⟨some 10, .mv, [.tmp 39], none, .sync⟩]) (
  .seq (
  .reg false [⟨some 41, .mv, [.tmp 0], none, .sync⟩,
    ⟨some 42, .mv, [.tmp 1], none, .sync⟩,
    ⟨some 43, .call 31, [.tmp 41, .tmp 42], none, .sync⟩,
    ⟨some 40, .mv, [.tmp 43], none, .sync⟩,
    ⟨some 44, .ext 0, [.tmp 40], none, .sync⟩,
    ⟨some 45, .ext 1, [.tmp 40], none, .sync⟩,
    ⟨some 11, .mv, [.tmp 44], none, .sync⟩,
    ⟨some 12, .mv, [.tmp 45], none, .sync⟩]) (
  .seq (
  .reg false [⟨some 47, .mv, [.tmp 0], none, .sync⟩,
    ⟨some 48, .mv, [.tmp 1], none, .sync⟩,
    ⟨some 49, .call 32, [.tmp 47, .tmp 48], none, .sync⟩,
    ⟨some 46, .mv, [.tmp 49], none, .sync⟩,
    ⟨some 50, .ext 0, [.tmp 46], none, .sync⟩,
    ⟨some 51, .ext 1, [.tmp 46], none, .sync⟩,
    ⟨some 13, .mv, [.tmp 50], none, .sync⟩,
    ⟨some 14, .mv, [.tmp 51], none, .sync⟩]) (
  .seq (
  .reg false [⟨some 53, .mv, [.tmp 0], none, .sync⟩,
    ⟨some 54, .mv, [.tmp 1], none, .sync⟩,
    ⟨some 55, .call 33, [.tmp 53, .tmp 54], none, .sync⟩,
    ⟨some 52, .mv, [.tmp 55], none, .sync⟩,
    ⟨some 56, .ext 0, [.tmp 52], none, .sync⟩,
    ⟨some 57, .ext 1, [.tmp 52], none, .sync⟩,
    ⟨some 15, .mv, [.tmp 56], none, .sync⟩,
    ⟨some 16, .mv, [.tmp 57], none, .sync⟩]) (
  .seq (
  .reg false [⟨some 58, .mv, [.tmp 5], none, .sync⟩,
    ⟨some 59, .mv, [.tmp 7], none, .sync⟩,
    ⟨some 60, .call 21, [.tmp 58, .tmp 59], none, .sync⟩,
    ⟨some 61, .mv, [.tmp 60], none, .sync⟩,
    ⟨some 62, .mv, [.tmp 6], some (61, true), .sync⟩,
    ⟨some 63, .mv, [.tmp 8], some (61, true), .sync⟩,
    ⟨some 64, .bin .eql 4, [.tmp 62, .tmp 63], some (61, true), .sync⟩,
    ⟨some 65, .pick, [.tmp 61, .tmp 64, .const (.bool false)], none, .sync⟩,
    ⟨some 66, .mv, [.tmp 65], none, .sync⟩,
    ⟨some 67, .mv, [.tmp 9], some (66, true), .sync⟩,
    ⟨some 68, .mv, [.tmp 11], some (66, true), .sync⟩,
    ⟨some 69, .call 21, [.tmp 67, .tmp 68], some (66, true), .sync⟩,
    ⟨some 70, .pick, [.tmp 66, .tmp 69, .const (.bool false)], none, .sync⟩,
    ⟨some 71, .mv, [.tmp 70], none, .sync⟩,
    ⟨some 72, .mv, [.tmp 10], some (71, true), .sync⟩,
    ⟨some 73, .mv, [.tmp 12], some (71, true), .sync⟩,
    ⟨some 74, .bin .eql 4, [.tmp 72, .tmp 73], some (71, true), .sync⟩,
    ⟨some 75, .pick, [.tmp 71, .tmp 74, .const (.bool false)], none, .sync⟩,
    ⟨some 76, .mv, [.tmp 75], none, .sync⟩,
    ⟨some 77, .mv, [.tmp 13], some (76, true), .sync⟩,
    ⟨some 78, .mv, [.tmp 15], some (76, true), .sync⟩,
    ⟨some 79, .call 21, [.tmp 77, .tmp 78], some (76, true), .sync⟩,
    ⟨some 80, .pick, [.tmp 76, .tmp 79, .const (.bool false)], none, .sync⟩,
    ⟨some 81, .mv, [.tmp 80], none, .sync⟩,
    ⟨some 82, .mv, [.tmp 14], some (81, true), .sync⟩,
    ⟨some 83, .mv, [.tmp 16], some (81, true), .sync⟩,
    ⟨some 84, .bin .eql 4, [.tmp 82, .tmp 83], some (81, true), .sync⟩,
    ⟨some 85, .pick, [.tmp 81, .tmp 84, .const (.bool false)], none, .sync⟩,
    ⟨some 86, .mv, [.tmp 85], none, .sync⟩,
    ⟨some 87, .mv, [.tmp 0], some (86, true), .sync⟩,
    ⟨some 88, .mv, [.tmp 1], some (86, true), .sync⟩,
    ⟨some 89, .call 34, [.tmp 87, .tmp 88], some (86, true), .sync⟩,
    ⟨some 90, .mv, [.tmp 0], some (86, true), .sync⟩,
    ⟨some 91, .mv, [.tmp 1], some (86, true), .sync⟩,
    ⟨some 92, .call 35, [.tmp 90, .tmp 91], some (86, true), .sync⟩,
    ⟨some 93, .bin .eql 4, [.tmp 89, .tmp 92], some (86, true), .sync⟩,
    ⟨some 94, .pick, [.tmp 86, .tmp 93, .const (.bool false)], none, .sync⟩,
    ⟨some 95, .mv, [.tmp 94], none, .sync⟩,
    ⟨some 96, .call 12, [], some (95, true), .sync⟩,
    ⟨some 97, .pick, [.tmp 95, .tmp 96, .const (.bool false)], none, .sync⟩,
    ⟨some 4, .mv, [.tmp 97], none, .sync⟩]) (
  .ret)))))))))⟩

/-- sosopt/sosoptlaw05.MonomialLcm -/
def F9 : Fun := ⟨98, [6],
  .seq (
  .reg false [⟨some 6, .mv, [.const (.bool false)], none, .sync⟩]) (
  .seq (
  .seq (
  .reg false [⟨some 13, .mv, [.tmp 0], none, .sync⟩,
    ⟨some 14, .mv, [.tmp 1], none, .sync⟩,
    ⟨some 15, .mv, [.tmp 2], none, .sync⟩,
    ⟨some 16, .mkslice 26 3 [0, 1, 2], [.tmp 13, .tmp 14, .tmp 15], none, .sync⟩,
    ⟨some 17, .call 16, [.tmp 16], none, .sync⟩,
    ⟨some 18, .mv, [.tmp 17], none, .sync⟩,
    ⟨some 19, .mv, [.tmp 0], some (18, false), .sync⟩,
    ⟨some 20, .call 17, [.tmp 19], some (18, false), .sync⟩,
    ⟨some 21, .un .not, [.tmp 20], some (18, false), .sync⟩,
    ⟨some 22, .pick, [.tmp 18, .const (.bool true), .tmp 21], none, .sync⟩,
    ⟨some 23, .mv, [.tmp 22], none, .sync⟩,
    ⟨some 24, .mv, [.tmp 1], some (23, false), .sync⟩,
    ⟨some 25, .call 17, [.tmp 24], some (23, false), .sync⟩,
    ⟨some 26, .un .not, [.tmp 25], some (23, false), .sync⟩,
    ⟨some 27, .pick, [.tmp 23, .const (.bool true), .tmp 26], none, .sync⟩,
    ⟨some 28, .mv, [.tmp 27], none, .sync⟩,
    ⟨some 29, .mv, [.tmp 0], some (28, false), .sync⟩,
    ⟨some 30, .len 31, [.tmp 29], some (28, false), .sync⟩,
    ⟨some 31, .mv, [.tmp 1], some (28, false), .sync⟩,
    ⟨some 32, .len 31, [.tmp 31], some (28, false), .sync⟩,
    ⟨some 33, .bin .neq 3, [.tmp 30, .tmp 32], some (28, false), .sync⟩,
    ⟨some 34, .pick, [.tmp 28, .const (.bool true), .tmp 33], none, .sync⟩]) (
  .cond (.tmp 34) (
    .seq (
    .reg false [⟨some 35, .call 12, [], none, .sync⟩,
      ⟨some 6, .mv, [.tmp 35], none, .sync⟩]) (
    .ret)) (
    .skip))) (
  .seq (
  .reg false [⟨some 37, .mv, [.tmp 0], none, .sync⟩,
    ⟨some 38, .mv, [.tmp 1], none, .sync⟩,
    ⟨some 39, .call 28, [.tmp 37, .tmp 38], none, .sync⟩,
    ⟨some 36, .mv, [.tmp 39], none, .sync⟩,
    ⟨some 40, .ext 0, [.tmp 36], none, .sync⟩,
    ⟨some 41, .ext 1, [.tmp 36], none, .sync⟩,
    ⟨some 7, .mv, [.tmp 40], none, .sync⟩,
    ⟨some 8, .mv, [.tmp 41], none, .sync⟩]) (
  .seq (
  .seq (
  .reg false [⟨some 42, .mv, [.tmp 8], none, .sync⟩]) (
  .cond (.tmp 42) (
    .seq (
    .reg false [⟨some 44, .mv, [.tmp 7], none, .sync⟩,
      ⟨some 45, .mv, [.tmp 1], none, .sync⟩,
      ⟨some 46, .call 30, [.tmp 44, .tmp 45], none, .sync⟩,
      ⟨some 43, .mv, [.tmp 46], none, .sync⟩,
      ⟨some 47, .ext 0, [.tmp 43], none, .sync⟩,
      ⟨some 48, .ext 1, [.tmp 43], none, .sync⟩,
      ⟨some 9, .mv, [.tmp 47], none, .sync⟩,
      ⟨some 10, .mv, [.tmp 48], none, .sync⟩]) (
    .seq (
    .reg false [⟨some 49, .mv, [.tmp 10], none, .sync⟩,
      ⟨some 50, .un .not, [.tmp 49], none, .sync⟩,
      ⟨some 51, .mv, [.tmp 50], none, .sync⟩,
      ⟨some 52, .mv, [.tmp 9], some (51, false), .sync⟩,
      ⟨some 53, .mv, [.tmp 0], some (51, false), .sync⟩,
      ⟨some 54, .call 21, [.tmp 52, .tmp 53], some (51, false), .sync⟩,
      ⟨some 55, .un .not, [.tmp 54], some (51, false), .sync⟩,
      ⟨some 56, .pick, [.tmp 51, .const (.bool true), .tmp 55], none, .sync⟩]) (
    .cond (.tmp 56) (
      .seq (
      .reg false [⟨some 6, .mv, [.const (.bool false)], none, .sync⟩]) (
      .ret)) (
      .skip)))) (
    .skip))) (
  .seq (
  .reg false [⟨some 58, .mv, [.tmp 0], none, .sync⟩,
    ⟨some 59, .mv, [.tmp 1], none, .sync⟩,
    ⟨some 60, .call 32, [.tmp 58, .tmp 59], none, .sync⟩,
    ⟨some 57, .mv, [.tmp 60], none, .sync⟩,
    ⟨some 61, .ext 0, [.tmp 57], none, .sync⟩,
    ⟨some 62, .ext 1, [.tmp 57], none, .sync⟩,
    ⟨some 11, .mv, [.tmp 61], none, .sync⟩,
    ⟨some 12, .mv, [.tmp 62], none, .sync⟩]) (
  .seq (
  .seq (
  .reg false [⟨some 63, .mv, [.tmp 12], none, .sync⟩,
    ⟨some 64, .un .not, [.tmp 63], none, .sync⟩]) (
  .cond (.tmp 64) (
    .seq (
    .reg false [⟨some 65, .mv, [.tmp 8], none, .sync⟩,
      ⟨some 66, .un .not, [.tmp 65], none, .sync⟩,
      ⟨some 67, .mv, [.tmp 66], none, .sync⟩,
      ⟨some 68, .call 12, [], some (67, true), .sync⟩,
      ⟨some 69, .pick, [.tmp 67, .tmp 68, .const (.bool false)], none, .sync⟩,
      ⟨some 6, .mv, [.tmp 69], none, .sync⟩]) (
    .ret)) (
    .skip))) (
  .seq (
  .seq (
  .reg false [⟨some 70, .mv, [.tmp 0], none, .sync⟩,
    ⟨some 71, .mv, [.tmp 11], none, .sync⟩,
    ⟨some 72, .call 34, [.tmp 70, .tmp 71], none, .sync⟩,
    ⟨some 73, .un .not, [.tmp 72], none, .sync⟩,
    ⟨some 74, .mv, [.tmp 73], none, .sync⟩,
    ⟨some 75, .mv, [.tmp 1], some (74, false), .sync⟩,
    ⟨some 76, .mv, [.tmp 11], some (74, false), .sync⟩,
    ⟨some 77, .call 34, [.tmp 75, .tmp 76], some (74, false), .sync⟩,
    ⟨some 78, .un .not, [.tmp 77], some (74, false), .sync⟩,
    ⟨some 79, .pick, [.tmp 74, .const (.bool true), .tmp 78], none, .sync⟩]) (
  .cond (.tmp 79) (
    .seq (
    .reg false [⟨some 6, .mv, [.const (.bool false)], none, .sync⟩]) (
    .ret)) (
    .skip))) (
  .seq (
  .reg false [⟨some 80, .mv, [.tmp 0], none, .sync⟩,
    ⟨some 81, .mv, [.tmp 2], none, .sync⟩,
    ⟨some 82, .call 34, [.tmp 80, .tmp 81], none, .sync⟩,
    ⟨some 83, .un .not, [.tmp 82], none, .sync⟩,
    ⟨some 84, .mv, [.tmp 83], none, .sync⟩,
    ⟨some 85, .mv, [.tmp 1], some (84, false), .sync⟩,
    ⟨some 86, .mv, [.tmp 2], some (84, false), .sync⟩,
    ⟨some 87, .call 34, [.tmp 85, .tmp 86], some (84, false), .sync⟩,
    ⟨some 88, .un .not, [.tmp 87], some (84, false), .sync⟩,
    ⟨some 89, .pick, [.tmp 84, .const (.bool true), .tmp 88], none, .sync⟩,
    ⟨some 90, .mv, [.tmp 89], none, .sync⟩,
    ⟨some 91, .mv, [.tmp 11], some (90, false), .sync⟩,
    ⟨some 92, .mv, [.tmp 2], some (90, false), .sync⟩,
    ⟨some 93, .call 34, [.tmp 91, .tmp 92], some (90, false), .sync⟩,
    ⟨some 94, .pick, [.tmp 90, .const (.bool true), .tmp 93], none, .sync⟩,
    ⟨some 95, .mv, [.tmp 94], none, .sync⟩,
    ⟨some 96, .call 12, [], some (95, true), .sync⟩,
    ⟨some 97, .pick, [.tmp 95, .tmp 96, .const (.bool false)], none, .sync⟩,
    ⟨some 6, .mv, [.tmp 97], none, .sync⟩]) (
  .ret))))))))⟩

/-- sosopt/monomial.Count -/
def F10 : Fun := ⟨25, [4, 5],
  .seq (
  .reg false [⟨some 4, .mv, [.const (.int .i64 0)], none, .sync⟩,
    ⟨some 5, .mv, [.const (.bool false)], none, .sync⟩]) (
  .seq (
  .seq (
  .reg false [⟨some 6, .mv, [.tmp 0], none, .sync⟩,
    ⟨some 7, .bin .lss 3, [.tmp 6, .const (.int .i64 0)], none, .sync⟩,
    ⟨some 8, .mv, [.tmp 7], none, .sync⟩,
    ⟨some 9, .mv, [.tmp 0], some (8, false), .sync⟩,
    ⟨some 10, .bin .gtr 3, [.tmp 9, .const (.int .i64 6)], some (8, false), .sync⟩,
    ⟨some 11, .pick, [.tmp 8, .const (.bool true), .tmp 10], none, .sync⟩,
    ⟨some 12, .mv, [.tmp 11], none, .sync⟩,
    ⟨some 13, .mv, [.tmp 1], some (12, false), .sync⟩,
    ⟨some 14, .bin .lss 3, [.tmp 13, .const (.int .i64 0)], some (12, false), .sync⟩,
    ⟨some 15, .pick, [.tmp 12, .const (.bool true), .tmp 14], none, .sync⟩,
    ⟨some 16, .mv, [.tmp 15], none, .sync⟩,
    ⟨some 17, .mv, [.tmp 1], some (16, false), .sync⟩,
    ⟨some 18, .bin .gtr 3, [.tmp 17, .const (.int .i64 24)], some (16, false), .sync⟩,
    ⟨some 19, .pick, [.tmp 16, .const (.bool true), .tmp 18], none, .sync⟩]) (
  .cond (.tmp 19) (
    .seq (
    .reg false [⟨some 4, .mv, [.const (.int .i64 0)], none, .sync⟩,
      ⟨some 5, .mv, [.const (.bool false)], none, .sync⟩]) (
    .ret)) (
    .skip))) (
  .seq (
  .reg false [⟨some 20, .mv, [.tmp 0], none, .sync⟩,
    ⟨some 21, .mv, [.tmp 1], none, .sync⟩,
    ⟨some 22, .bin .add 3, [.tmp 20, .tmp 21], none, .sync⟩,
    ⟨some 23, .mv, [.tmp 0], none, .sync⟩,
    ⟨some 24, .call 36, [.tmp 22, .tmp 23], none, .sync⟩,
    ⟨some 4, .mv, [.tmp 24], none, .sync⟩,
    ⟨some 5, .mv, [.const (.bool true)], none, .sync⟩]) (
  .ret)))⟩

/-- sosopt/sosoptref05.Count -/
def F11 : Fun := ⟨35, [4, 5],
  .seq (
  .reg false [⟨some 4, .mv, [.const (.int .i64 0)], none, .sync⟩,
    ⟨some 5, .mv, [.const (.bool false)], none, .sync⟩]) (
  .seq (
  .seq (
  .reg false [⟨some 8, .mv, [.tmp 0], none, .sync⟩,
    ⟨some 9, .bin .lss 3, [.tmp 8, .const (.int .i64 0)], none, .sync⟩,
    ⟨some 10, .mv, [.tmp 9], none, .sync⟩,
    ⟨some 11, .mv, [.tmp 0], some (10, false), .sync⟩,
    ⟨some 12, .bin .gtr 3, [.tmp 11, .const (.int .i64 6)], some (10, false), .sync⟩,
    ⟨some 13, .pick, [.tmp 10, .const (.bool true), .tmp 12], none, .sync⟩,
    ⟨some 14, .mv, [.tmp 13], none, .sync⟩,
    ⟨some 15, .mv, [.tmp 1], some (14, false), .sync⟩,
    ⟨some 16, .bin .lss 3, [.tmp 15, .const (.int .i64 0)], some (14, false), .sync⟩,
    ⟨some 17, .pick, [.tmp 14, .const (.bool true), .tmp 16], none, .sync⟩,
    ⟨some 18, .mv, [.tmp 17], none, .sync⟩,
    ⟨some 19, .mv, [.tmp 1], some (18, false), .sync⟩,
    ⟨some 20, .bin .gtr 3, [.tmp 19, .const (.int .i64 24)], some (18, false), .sync⟩,
    ⟨some 21, .pick, [.tmp 18, .const (.bool true), .tmp 20], none, .sync⟩]) (
  .cond (.tmp 21) (
    .seq (
    .reg false [⟨some 4, .mv, [.const (.int .i64 0)], none, .sync⟩,
      ⟨some 5, .mv, [.const (.bool false)], none, .sync⟩]) (
    .ret)) (
    .skip))) (
  .seq (
  .reg false [⟨some 6, .mv, [.const (.int .i64 1)], none, .sync⟩]) (
  .seq (
  .seq (
  .reg false [⟨some 7, .mv, [.const (.int .i64 1)], none, .sync⟩]) (
  .block 0 (
    .loop [2, 3, 8, 9, 10, 11, 12, 13, 14, 15, 16, 17, 18, 19, 20, 21, 22, 23, 24, 25, 26, 27, 28, 29, 30, 31, 32, 33, 34] [] (
      .seq (
      .seq (
      .reg false [⟨some 22, .mv, [.tmp 7], none, .sync⟩,
        ⟨some 23, .mv, [.tmp 0], none, .sync⟩,
        ⟨some 24, .bin .leq 3, [.tmp 22, .tmp 23], none, .sync⟩]) (
      .cond (.tmp 24) (
        .skip) (
        .exit 0))) (
      .seq (
      .block 1 (
        .reg false [⟨some 27, .mv, [.tmp 6], none, .sync⟩,
          ⟨some 28, .mv, [.tmp 1], none, .sync⟩,
          ⟨some 29, .mv, [.tmp 7], none, .sync⟩,
          ⟨some 30, .bin .add 3, [.tmp 28, .tmp 29], none, .sync⟩,
          ⟨some 31, .bin .mul 3, [.tmp 27, .tmp 30], none, .sync⟩,
          ⟨some 32, .mv, [.tmp 7], none, .sync⟩,
          ⟨some 33, .bin .quo 3, [.tmp 31, .tmp 32], none, .sync⟩,
          ⟨some 6, .mv, [.tmp 33], none, .sync⟩])) (
      .reg false [⟨some 25, .mv, [.tmp 7], none, .sync⟩,
        ⟨some 26, .bin .add 3, [.tmp 25, .const (.int .i64 1)], none, .sync⟩,
        ⟨some 7, .mv, [.tmp 26], none, .sync⟩])))))) (
  .seq (
  .reg false [⟨some 34, .mv, [.tmp 6], none, .sync⟩,
    ⟨some 4, .mv, [.tmp 34], none, .sync⟩,
    ⟨some 5, .mv, [.const (.bool true)], none, .sync⟩]) (
  .ret)))))⟩

/-- sosopt/sosoptlaw05.awake -/
def F12 : Fun := ⟨41, [0],
  .seq (
  .reg false [⟨some 0, .mv, [.const (.bool false)], none, .sync⟩]) (
  .seq (
  .reg false [⟨some 6, .call 13, [.const (.int .i64 2), .const (.int .i64 2)], none, .sync⟩,
    ⟨some 5, .mv, [.tmp 6], none, .sync⟩,
    ⟨some 7, .ext 0, [.tmp 5], none, .sync⟩,
    ⟨some 8, .ext 1, [.tmp 5], none, .sync⟩,
    ⟨some 1, .mv, [.tmp 7], none, .sync⟩,
    ⟨some 2, .mv, [.tmp 8], none, .sync⟩]) (
  .seq (
  .reg false [⟨some 10, .mkslice 31 2 [0, 1], [.const (.int .i64 1), .const (.int .i64 1)], none, .sync⟩,
    ⟨some 11, .call 18, [.tmp 10], none, .sync⟩,
    ⟨some 9, .mv, [.tmp 11], none, .sync⟩,
    ⟨some 12, .ext 0, [.tmp 9], none, .sync⟩,
    ⟨some 13, .ext 1, [.tmp 9], none, .sync⟩,
    ⟨some 3, .mv, [.tmp 12], none, .sync⟩,
    ⟨some 4, .mv, [.tmp 13], none, .sync⟩]) (
  .seq (
  .reg false [⟨some 14, .mv, [.tmp 2], none, .sync⟩,
    ⟨some 15, .bin .eql 27, [.tmp 14, .const (.int .i64 0)], none, .sync⟩,
    ⟨some 16, .mv, [.tmp 15], none, .sync⟩,
    ⟨some 17, .mv, [.tmp 1], some (16, true), .sync⟩,
    ⟨some 18, .len 26, [.tmp 17], some (16, true), .sync⟩,
    ⟨some 19, .bin .eql 3, [.tmp 18, .const (.int .i64 6)], some (16, true), .sync⟩,
    ⟨some 20, .pick, [.tmp 16, .tmp 19, .const (.bool false)], none, .sync⟩,
    ⟨some 21, .mv, [.tmp 20], none, .sync⟩,
    ⟨some 22, .mv, [.tmp 1], some (21, true), .sync⟩,
    ⟨some 23, .iaddr 26, [.tmp 22, .const (.int .i64 3)], some (21, true), .sync⟩,
    ⟨some 24, .load 31, [.tmp 23], some (21, true), .sync⟩,
    ⟨some 25, .mkslice 31 2 [0, 1], [.const (.int .i64 0), .const (.int .i64 2)], some (21, true), .sync⟩,
    ⟨some 26, .call 21, [.tmp 24, .tmp 25], some (21, true), .sync⟩,
    ⟨some 27, .pick, [.tmp 21, .tmp 26, .const (.bool false)], none, .sync⟩,
    ⟨some 28, .mv, [.tmp 27], none, .sync⟩,
    ⟨some 29, .mv, [.tmp 3], some (28, true), .sync⟩,
    ⟨some 30, .bin .eql 3, [.tmp 29, .const (.int .i64 4)], some (28, true), .sync⟩,
    ⟨some 31, .pick, [.tmp 28, .tmp 30, .const (.bool false)], none, .sync⟩,
    ⟨some 32, .mv, [.tmp 31], none, .sync⟩,
    ⟨some 33, .mv, [.tmp 4], some (32, true), .sync⟩,
    ⟨some 34, .pick, [.tmp 32, .tmp 33, .const (.bool false)], none, .sync⟩,
    ⟨some 35, .mv, [.tmp 34], none, .sync⟩,
    ⟨some 36, .mkslice 31 2 [0, 1], [.const (.int .i64 1), .const (.int .i64 0)], some (35, true), .sync⟩,
    ⟨some 37, .mkslice 31 2 [0, 1], [.const (.int .i64 0), .const (.int .i64 1)], some (35, true), .sync⟩,
    ⟨some 38, .call 19, [.tmp 36, .tmp 37], some (35, true), .sync⟩,
    ⟨some 39, .bin .eql 3, [.tmp 38, .const (.int .i64 1)], some (35, true), .sync⟩,
    ⟨some 40, .pick, [.tmp 35, .tmp 39, .const (.bool false)], none, .sync⟩,
    ⟨some 0, .mv, [.tmp 40], none, .sync⟩]) (
  .ret))))⟩

/-- sosopt/monomial.All -/
def F13 : Fun := ⟨37, [4, 5],
  .seq (
  .reg false [⟨some 4, .mv, [.const (.slice none 0 0)], none, .sync⟩,
    ⟨some 5, .mv, [.const (.int .i64 0)], none, .sync⟩]) (
  .seq (
  .reg false [⟨some 13, .mv, [.tmp 0], none, .sync⟩,
    ⟨some 14, .mv, [.tmp 1], none, .sync⟩,
    ⟨some 15, .call 10, [.tmp 13, .tmp 14], none, .sync⟩,
    ⟨some 12, .mv, [.tmp 15], none, .sync⟩,
    ⟨some 16, .ext 0, [.tmp 12], none, .sync⟩,
    ⟨some 17, .ext 1, [.tmp 12], none, .sync⟩,
    ⟨some 6, .mv, [.tmp 16], none, .sync⟩,
    ⟨some 7, .mv, [.tmp 17], none, .sync⟩]) (
  .seq (
  .seq (
  .reg false [⟨some 18, .mv, [.tmp 7], none, .sync⟩,
    ⟨some 19, .un .not, [.tmp 18], none, .sync⟩]) (
  .cond (.tmp 19) (
    .seq (
    .reg false [⟨some 4, .mv, [.const (.slice none 0 0)], none, .sync⟩,
      ⟨some 5, .mv, [.const (.int .i64 3)], none, .sync⟩]) (
    .ret)) (
    .skip))) (
  .seq (
  .seq (
  .reg false [⟨some 20, .mv, [.tmp 6], none, .sync⟩,
    ⟨some 21, .bin .gtr 3, [.tmp 20, .const (.int .i64 4096)], none, .sync⟩]) (
  .cond (.tmp 21) (
    .seq (
    .reg false [⟨some 4, .mv, [.const (.slice none 0 0)], none, .sync⟩,
      ⟨some 5, .mv, [.const (.int .i64 2)], none, .sync⟩]) (
    .ret)) (
    .skip))) (
  .seq (
  .reg false [⟨some 8, .alloc 26, [], none, .sync⟩]) (
  .seq (
  .reg false [⟨some 22, .mv, [.tmp 0], none, .sync⟩,
    ⟨some 23, .make 31, [.tmp 22, .tmp 22], none, .sync⟩,
    ⟨some 9, .alloc 31, [], none, .sync⟩,
    ⟨none, .store 31, [.tmp 9, .tmp 23], none, .sync⟩]) (
  .seq (
  .reg false [⟨some 10, .alloc 43, [], none, .sync⟩]) (
  .seq (
  .reg false [⟨some 24, .mkfn 37, [.tmp 8, .tmp 9, .tmp 10], none, .sync⟩,
    ⟨none, .store 43, [.tmp 10, .tmp 24], none, .sync⟩]) (
  .seq (
  .seq (
  .reg false [⟨some 25, .mv, [.tmp 1], none, .sync⟩,
    ⟨some 26, .bin .add 3, [.tmp 25, .const (.int .i64 1)], none, .sync⟩,
    ⟨some 27, .mv, [.const (.int .i64 0)], none, .sync⟩]) (
  .block 0 (
    .loop [1, 2, 3, 6, 7, 9, 11, 12, 13, 14, 15, 16, 17, 18, 19, 20, 21, 22, 23, 24, 25, 28, 29, 30, 31, 32, 33, 34, 35, 36] [] (
      .seq (
      .reg false [⟨some 28, .bin .lss 3, [.tmp 27, .tmp 26], none, .sync⟩]) (
      .seq (
      .cond (.tmp 28) (
        .skip) (
        .exit 0)) (
      .seq (
      .block 1 (
        .seq (
        .reg false [⟨some 29, .mv, [.tmp 27], none, .sync⟩,
          ⟨some 11, .mv, [.tmp 29], none, .sync⟩]) (
        .reg false [⟨some 30, .load 43, [.tmp 10], none, .sync⟩,
          ⟨some 31, .mv, [.tmp 0], none, .sync⟩,
          ⟨some 32, .bin .sub 3, [.tmp 31, .const (.int .i64 1)], none, .sync⟩,
          ⟨some 33, .mv, [.tmp 11], none, .sync⟩,
          ⟨some 34, .callv, [.tmp 30, .tmp 32, .tmp 33], none, .sync⟩]))) (
      .reg false [⟨some 35, .bin .add 3, [.tmp 27, .const (.int .i64 1)], none, .sync⟩,
        ⟨some 27, .mv, [.tmp 35], none, .sync⟩]))))))) (
  .seq (
  .reg false [⟨some 36, .load 26, [.tmp 8], none, .sync⟩,
    ⟨some 4, .mv, [.tmp 36], none, .sync⟩,
    ⟨some 5, .mv, [.const (.int .i64 0)], none, .sync⟩]) (
  .ret))))))))))⟩

/-- sosopt/sosoptref05.All -/
def F14 : Fun := ⟨21, [4, 5],
  .seq (
  .reg false [⟨some 4, .mv, [.const (.slice none 0 0)], none, .sync⟩,
    ⟨some 5, .mv, [.const (.int .i64 0)], none, .sync⟩]) (
  .seq (
  .reg false [⟨some 9, .mv, [.tmp 0], none, .sync⟩,
    ⟨some 10, .mv, [.tmp 1], none, .sync⟩,
    ⟨some 11, .call 11, [.tmp 9, .tmp 10], none, .sync⟩,
    ⟨some 8, .mv, [.tmp 11], none, .sync⟩,
    ⟨some 12, .ext 0, [.tmp 8], none, .sync⟩,
    ⟨some 13, .ext 1, [.tmp 8], none, .sync⟩,
    ⟨some 6, .mv, [.tmp 12], none, .sync⟩,
    ⟨some 7, .mv, [.tmp 13], none, .sync⟩]) (
  .seq (
  .seq (
  .reg false [⟨some 14, .mv, [.tmp 7], none, .sync⟩,
    ⟨some 15, .un .not, [.tmp 14], none, .sync⟩]) (
  .cond (.tmp 15) (
    .seq (
    .reg false [⟨some 4, .mv, [.const (.slice none 0 0)], none, .sync⟩,
      ⟨some 5, .mv, [.const (.int .i64 3)], none, .sync⟩]) (
    .ret)) (
    .skip))) (
  .seq (
  .seq (
  .reg false [⟨some 16, .mv, [.tmp 6], none, .sync⟩,
    ⟨some 17, .bin .gtr 3, [.tmp 16, .const (.int .i64 4096)], none, .sync⟩]) (
  .cond (.tmp 17) (
    .seq (
    .reg false [⟨some 4, .mv, [.const (.slice none 0 0)], none, .sync⟩,
      ⟨some 5, .mv, [.const (.int .i64 2)], none, .sync⟩]) (
    .ret)) (
    .skip))) (
  .seq (
  .reg false [⟨some 18, .mv, [.tmp 0], none, .sync⟩,
    ⟨some 19, .mv, [.tmp 1], none, .sync⟩,
    ⟨some 20, .call 38, [.tmp 18, .tmp 19], none, .sync⟩,
    ⟨some 4, .mv, [.tmp 20], none, .sync⟩,
    ⟨some 5, .mv, [.const (.int .i64 0)], none, .sync⟩]) (
  .ret)))))⟩

/-- sosopt/sosoptkeep.Lists -/
def F15 : Fun := ⟨27, [4],
  .seq (
  .reg false [⟨some 4, .mv, [.const (.bool false)], none, .sync⟩]) (
  .seq (
  .seq (
  .reg false [⟨some 6, .mv, [.tmp 0], none, .sync⟩,
    ⟨some 7, .len 26, [.tmp 6], none, .sync⟩,
    ⟨some 8, .mv, [.tmp 1], none, .sync⟩,
    ⟨some 9, .len 26, [.tmp 8], none, .sync⟩,
    ⟨some 10, .bin .neq 3, [.tmp 7, .tmp 9], none, .sync⟩]) (
  .cond (.tmp 10) (
    .seq (
    .reg false [⟨some 4, .mv, [.const (.bool false)], none, .sync⟩]) (
    .ret)) (
    .skip))) (
  .seq (
  .seq (
  .reg false [⟨some 5, .mv, [.const (.int .i64 0)], none, .sync⟩]) (
  .block 0 (
    .loop [2, 3, 6, 7, 8, 9, 10, 11, 12, 13, 14, 15, 16, 17, 18, 19, 20, 21, 22, 23, 24, 25, 26] [] (
      .seq (
      .seq (
      .reg false [⟨some 11, .mv, [.tmp 5], none, .sync⟩,
        ⟨some 12, .mv, [.tmp 0], none, .sync⟩,
        ⟨some 13, .len 26, [.tmp 12], none, .sync⟩,
        ⟨some 14, .bin .lss 3, [.tmp 11, .tmp 13], none, .sync⟩]) (
      .cond (.tmp 14) (
        .skip) (
        .exit 0))) (
      .seq (
      .block 1 (
        .seq (
        .reg true [⟨some 17, .mv, [.tmp 0], none, .free⟩,
          ⟨some 18, .mv, [.tmp 5], none, .free⟩,
          ⟨some 19, .iaddr 26, [.tmp 17, .tmp 18], none, .free⟩,
          ⟨some 20, .load 31, [.tmp 19], none, .low⟩,
          ⟨some 21, .mv, [.tmp 1], none, .free⟩,
          ⟨some 22, .mv, [.tmp 5], none, .free⟩,
          ⟨some 23, .iaddr 26, [.tmp 21, .tmp 22], none, .free⟩,
          ⟨some 24, .load 31, [.tmp 23], none, .low⟩,
          ⟨some 25, .call 21, [.tmp 20, .tmp 24], none, .sync⟩,
          ⟨some 26, .un .not, [.tmp 25], none, .free⟩]) (
        .cond (.tmp 26) (
          .seq (
          .reg false [⟨some 4, .mv, [.const (.bool false)], none, .sync⟩]) (
          .ret)) (
          .skip)))) (
      .reg false [⟨some 15, .mv, [.tmp 5], none, .sync⟩,
        ⟨some 16, .bin .add 3, [.tmp 15, .const (.int .i64 1)], none, .sync⟩,
        ⟨some 5, .mv, [.tmp 16], none, .sync⟩])))))) (
  .seq (
  .reg false [⟨some 4, .mv, [.const (.bool true)], none, .sync⟩]) (
  .ret))))⟩

/-- sosopt/sosoptlaw05.long -/
def F16 : Fun := ⟨16, [2],
  .seq (
  .reg false [⟨some 2, .mv, [.const (.bool false)], none, .sync⟩]) (
  .seq (
  .seq (
  .reg false [⟨some 3, .mv, [.const (.int .i64 0)], none, .sync⟩]) (
  .block 0 (
    .loop [1, 4, 5, 6, 7, 8, 9, 10, 11, 12, 13, 14, 15] [] (
      .seq (
      .seq (
      .reg false [⟨some 4, .mv, [.tmp 3], none, .sync⟩,
        ⟨some 5, .mv, [.tmp 0], none, .sync⟩,
        ⟨some 6, .len 26, [.tmp 5], none, .sync⟩,
        ⟨some 7, .bin .lss 3, [.tmp 4, .tmp 6], none, .sync⟩]) (
      .cond (.tmp 7) (
        .skip) (
        .exit 0))) (
      .seq (
      .block 1 (
        .seq (
        .reg false [⟨some 10, .mv, [.tmp 0], none, .sync⟩,
          ⟨some 11, .mv, [.tmp 3], none, .sync⟩,
          ⟨some 12, .iaddr 26, [.tmp 10, .tmp 11], none, .sync⟩,
          ⟨some 13, .load 31, [.tmp 12], none, .sync⟩,
          ⟨some 14, .len 31, [.tmp 13], none, .sync⟩,
          ⟨some 15, .bin .gtr 3, [.tmp 14, .const (.int .i64 20)], none, .sync⟩]) (
        .cond (.tmp 15) (
          .seq (
          .reg false [⟨some 2, .mv, [.const (.bool true)], none, .sync⟩]) (
          .ret)) (
          .skip)))) (
      .reg false [⟨some 8, .mv, [.tmp 3], none, .sync⟩,
        ⟨some 9, .bin .add 3, [.tmp 8, .const (.int .i64 1)], none, .sync⟩,
        ⟨some 3, .mv, [.tmp 9], none, .sync⟩])))))) (
  .seq (
  .reg false [⟨some 2, .mv, [.const (.bool false)], none, .sync⟩]) (
  .ret)))⟩

/-- sosopt/monomial.Valid -/
def F17 : Fun := ⟨6, [2],
  .seq (
  .reg false [⟨some 2, .mv, [.const (.bool false)], none, .sync⟩]) (
  .seq (
  .reg false [⟨some 3, .mv, [.tmp 0], none, .sync⟩,
    ⟨some 4, .call 20, [.tmp 3], none, .sync⟩,
    ⟨some 5, .bin .geq 3, [.tmp 4, .const (.int .i64 0)], none, .sync⟩,
    ⟨some 2, .mv, [.tmp 5], none, .sync⟩]) (
  .ret))⟩

/-- sosopt/monomial.Index -/
def F18 : Fun := ⟨59, [2, 3],
  .seq (
  .reg false [⟨some 2, .mv, [.const (.int .i64 0)], none, .sync⟩,
    ⟨some 3, .mv, [.const (.bool false)], none, .sync⟩]) (
  .seq (
  .reg false [⟨some 10, .mv, [.tmp 0], none, .sync⟩,
    ⟨some 11, .call 20, [.tmp 10], none, .sync⟩,
    ⟨some 4, .mv, [.tmp 11], none, .sync⟩]) (
  .seq (
  .seq (
  .reg false [⟨some 12, .mv, [.tmp 4], none, .sync⟩,
    ⟨some 13, .bin .lss 3, [.tmp 12, .const (.int .i64 0)], none, .sync⟩]) (
  .cond (.tmp 13) (
    .seq (
    .reg false [⟨some 2, .mv, [.const (.int .i64 0)], none, .sync⟩,
      ⟨some 3, .mv, [.const (.bool false)], none, .sync⟩]) (
    .ret)) (
    .skip))) (
  .seq (
  .reg false [⟨some 14, .mv, [.tmp 0], none, .sync⟩,
    ⟨some 15, .len 31, [.tmp 14], none, .sync⟩,
    ⟨some 5, .mv, [.tmp 15], none, .sync⟩,
    ⟨some 6, .mv, [.const (.int .i64 0)], none, .sync⟩]) (
  .seq (
  .seq (
  .reg false [⟨some 16, .mv, [.tmp 4], none, .sync⟩,
    ⟨some 17, .bin .gtr 3, [.tmp 16, .const (.int .i64 0)], none, .sync⟩]) (
  .cond (.tmp 17) (
    .reg false [⟨some 18, .mv, [.tmp 5], none, .sync⟩,
      ⟨some 19, .mv, [.tmp 4], none, .sync⟩,
      ⟨some 20, .bin .add 3, [.tmp 18, .tmp 19], none, .sync⟩,
      ⟨some 21, .bin .sub 3, [.tmp 20, .const (.int .i64 1)], none, .sync⟩,
      ⟨some 22, .mv, [.tmp 5], none, .sync⟩,
      ⟨some 23, .call 36, [.tmp 21, .tmp 22], none, .sync⟩,
      ⟨some 6, .mv, [.tmp 23], none, .sync⟩]) (
    .skip))) (
  .seq (
  .reg false [⟨some 24, .mv, [.tmp 4], none, .sync⟩,
    ⟨some 7, .mv, [.tmp 24], none, .sync⟩]) (
  .seq (
  .seq (
  .reg false [⟨some 25, .mv, [.tmp 5], none, .sync⟩,
    ⟨some 26, .bin .sub 3, [.tmp 25, .const (.int .i64 1)], none, .sync⟩,
    ⟨some 8, .mv, [.tmp 26], none, .sync⟩]) (
  .block 0 (
    .loop [1, 4, 5, 9, 10, 11, 12, 13, 14, 15, 16, 17, 18, 19, 20, 21, 22, 23, 24, 25, 26, 27, 28, 29, 30, 31, 32, 33, 34, 35, 36, 37, 38, 39, 40, 41, 42, 43, 44, 45, 46, 47, 48, 49, 50, 51, 52, 53, 54, 55, 56, 57, 58] [] (
      .seq (
      .seq (
      .reg false [⟨some 27, .mv, [.tmp 8], none, .sync⟩,
        ⟨some 28, .bin .geq 3, [.tmp 27, .const (.int .i64 1)], none, .sync⟩]) (
      .cond (.tmp 28) (
        .skip) (
        .exit 0))) (
      .seq (
      .block 1 (
        .seq (
        .seq (
        .reg false [⟨some 31, .mv, [.tmp 0], none, .sync⟩,
          ⟨some 32, .mv, [.tmp 8], none, .sync⟩,
          ⟨some 33, .iaddr 31, [.tmp 31, .tmp 32], none, .sync⟩,
          ⟨some 34, .load 3, [.tmp 33], none, .sync⟩,
          ⟨some 35, .bin .add 3, [.tmp 34, .const (.int .i64 1)], none, .sync⟩,
          ⟨some 9, .mv, [.tmp 35], none, .sync⟩]) (
        .block 2 (
          .loop [1, 4, 5, 10, 11, 12, 13, 14, 15, 16, 17, 18, 19, 20, 21, 22, 23, 24, 25, 26, 27, 28, 29, 30, 31, 32, 33, 34, 35, 36, 37, 38, 39, 40, 41, 42, 43, 44, 45, 46, 47, 48, 49, 50, 51, 52, 53, 54, 55, 56, 57, 58] [] (
            .seq (
            .seq (
            .reg false [⟨some 36, .mv, [.tmp 9], none, .sync⟩,
              ⟨some 37, .mv, [.tmp 7], none, .sync⟩,
              ⟨some 38, .bin .leq 3, [.tmp 36, .tmp 37], none, .sync⟩]) (
            .cond (.tmp 38) (
              .skip) (
              .exit 2))) (
            .seq (
            .block 3 (
              .reg false [⟨some 41, .mv, [.tmp 6], none, .sync⟩,
                ⟨some 42, .mv, [.tmp 7], none, .sync⟩,
                ⟨some 43, .mv, [.tmp 9], none, .sync⟩,
                ⟨some 44, .bin .sub 3, [.tmp 42, .tmp 43], none, .sync⟩,
                ⟨some 45, .mv, [.tmp 8], none, .sync⟩,
                ⟨some 46, .bin .add 3, [.tmp 44, .tmp 45], none, .sync⟩,
                ⟨some 47, .bin .sub 3, [.tmp 46, .const (.int .i64 1)], none, .sync⟩,
                ⟨some 48, .mv, [.tmp 8], none, .sync⟩,
                ⟨some 49, .bin .sub 3, [.tmp 48, .const (.int .i64 1)], none, .sync⟩,
                ⟨some 50, .call 36, [.tmp 47, .tmp 49], none, .sync⟩,
                ⟨some 51, .bin .add 3, [.tmp 41, .tmp 50], none, .sync⟩,
                ⟨some 6, .mv, [.tmp 51], none, .sync⟩])) (
            .reg false [⟨some 39, .mv, [.tmp 9], none, .sync⟩,
              ⟨some 40, .bin .add 3, [.tmp 39, .const (.int .i64 1)], none, .sync⟩,
              ⟨some 9, .mv, [.tmp 40], none, .sync⟩])))))) (
        .reg false [⟨some 52, .mv, [.tmp 7], none, .sync⟩,
          ⟨some 53, .mv, [.tmp 0], none, .sync⟩,
          ⟨some 54, .mv, [.tmp 8], none, .sync⟩,
          ⟨some 55, .iaddr 31, [.tmp 53, .tmp 54], none, .sync⟩,
          ⟨some 56, .load 3, [.tmp 55], none, .sync⟩,
          ⟨some 57, .bin .sub 3, [.tmp 52, .tmp 56], none, .sync⟩,
          ⟨some 7, .mv, [.tmp 57], none, .sync⟩]))) (
      .reg false [⟨some 29, .mv, [.tmp 8], none, .sync⟩,
        ⟨some 30, .bin .sub 3, [.tmp 29, .const (.int .i64 1)], none, .sync⟩,
        ⟨some 8, .mv, [.tmp 30], none, .sync⟩])))))) (
  .seq (
  .reg false [⟨some 58, .mv, [.tmp 6], none, .sync⟩,
    ⟨some 2, .mv, [.tmp 58], none, .sync⟩,
    ⟨some 3, .mv, [.const (.bool true)], none, .sync⟩]) (
  .ret))))))))⟩

/-- sosopt/monomial.Compare -/
def F19 : Fun := ⟨61, [4],
  .seq (
  .reg false [⟨some 4, .mv, [.const (.int .i64 0)], none, .sync⟩]) (
  .seq (
  .reg false [⟨some 8, .mv, [.tmp 0], none, .sync⟩,
    ⟨some 9, .call 20, [.tmp 8], none, .sync⟩,
    ⟨some 10, .mv, [.tmp 1], none, .sync⟩,
    ⟨some 11, .call 20, [.tmp 10], none, .sync⟩,
    ⟨some 5, .mv, [.tmp 9], none, .sync⟩,
    ⟨some 6, .mv, [.tmp 11], none, .sync⟩]) (
  .seq (
  .block 0 (
    .seq (
    .reg false [⟨some 13, .mv, [.tmp 0], none, .sync⟩,
      ⟨some 14, .len 31, [.tmp 13], none, .sync⟩,
      ⟨some 15, .mv, [.tmp 1], none, .sync⟩,
      ⟨some 16, .len 31, [.tmp 15], none, .sync⟩,
      ⟨some 17, .bin .neq 3, [.tmp 14, .tmp 16], none, .sync⟩,
      ⟨some 18, .mv, [.tmp 17], none, .sync⟩,
      ⟨some 19, .mv, [.tmp 5], some (18, false), .sync⟩,
      ⟨some 20, .bin .lss 3, [.tmp 19, .const (.int .i64 0)], some (18, false), .sync⟩,
      ⟨some 21, .pick, [.tmp 18, .const (.bool true), .tmp 20], none, .sync⟩,
      ⟨some 22, .mv, [.tmp 21], none, .sync⟩,
      ⟨some 23, .mv, [.tmp 6], some (22, false), .sync⟩,
      ⟨some 24, .bin .lss 3, [.tmp 23, .const (.int .i64 0)], some (22, false), .sync⟩,
      ⟨some 25, .pick, [.tmp 22, .const (.bool true), .tmp 24], none, .sync⟩,
      ⟨some 12, .mv, [.tmp 25], none, .sync⟩]) (
    .cond (.tmp 12) (
      .seq (
      .reg false [⟨some 4, .mv, [.const (.int .i64 0)], none, .sync⟩]) (
      .ret)) (
      .seq (
      .reg false [⟨some 27, .mv, [.tmp 5], none, .sync⟩,
        ⟨some 28, .mv, [.tmp 6], none, .sync⟩,
        ⟨some 29, .bin .lss 3, [.tmp 27, .tmp 28], none, .sync⟩,
        ⟨some 26, .mv, [.tmp 29], none, .sync⟩]) (
      .cond (.tmp 26) (
        .seq (
        .reg false [⟨some 4, .mv, [.const (.int .i64 (-1))], none, .sync⟩]) (
        .ret)) (
        .seq (
        .reg false [⟨some 31, .mv, [.tmp 5], none, .sync⟩,
          ⟨some 32, .mv, [.tmp 6], none, .sync⟩,
          ⟨some 33, .bin .gtr 3, [.tmp 31, .tmp 32], none, .sync⟩,
          ⟨some 30, .mv, [.tmp 33], none, .sync⟩]) (
        .cond (.tmp 30) (
          .seq (
          .reg false [⟨some 4, .mv, [.const (.int .i64 1)], none, .sync⟩]) (
          .ret)) (
          .skip)))))))) (
  .seq (
  .seq (
  .reg false [⟨some 34, .mv, [.tmp 0], none, .sync⟩,
    ⟨some 35, .len 31, [.tmp 34], none, .sync⟩,
    ⟨some 36, .bin .sub 3, [.tmp 35, .const (.int .i64 1)], none, .sync⟩,
    ⟨some 7, .mv, [.tmp 36], none, .sync⟩]) (
  .block 1 (
    .loop [2, 3, 5, 6, 8, 9, 10, 11, 12, 13, 14, 15, 16, 17, 18, 19, 20, 21, 22, 23, 24, 25, 26, 27, 28, 29, 30, 31, 32, 33, 34, 35, 36, 37, 38, 39, 40, 41, 42, 43, 44, 45, 46, 47, 48, 49, 50, 51, 52, 53, 54, 55, 56, 57, 58, 59, 60] [] (
      .seq (
      .seq (
      .reg false [⟨some 37, .mv, [.tmp 7], none, .sync⟩,
        ⟨some 38, .bin .geq 3, [.tmp 37, .const (.int .i64 0)], none, .sync⟩]) (
      .cond (.tmp 38) (
        .skip) (
        .exit 1))) (
      .seq (
      .block 2 (
        .block 3 (
          .seq (
          .reg true [⟨some 42, .mv, [.tmp 0], none, .free⟩,
            ⟨some 43, .mv, [.tmp 7], none, .free⟩,
            ⟨some 44, .iaddr 31, [.tmp 42, .tmp 43], none, .free⟩,
            ⟨some 45, .load 3, [.tmp 44], none, .low⟩,
            ⟨some 46, .mv, [.tmp 1], none, .free⟩,
            ⟨some 47, .mv, [.tmp 7], none, .free⟩,
            ⟨some 48, .iaddr 31, [.tmp 46, .tmp 47], none, .free⟩,
            ⟨some 49, .load 3, [.tmp 48], none, .low⟩,
            ⟨some 50, .bin .gtr 3, [.tmp 45, .tmp 49], none, .free⟩,
            ⟨some 41, .mv, [.tmp 50], none, .free⟩]) (
          .cond (.tmp 41) (
            .seq (
            .reg false [⟨some 4, .mv, [.const (.int .i64 (-1))], none, .sync⟩]) (
            .ret)) (
            .seq (
            .reg true [⟨some 52, .mv, [.tmp 0], none, .free⟩,
              ⟨some 53, .mv, [.tmp 7], none, .free⟩,
              ⟨some 54, .iaddr 31, [.tmp 52, .tmp 53], none, .free⟩,
              ⟨some 55, .load 3, [.tmp 54], none, .low⟩,
              ⟨some 56, .mv, [.tmp 1], none, .free⟩,
              ⟨some 57, .mv, [.tmp 7], none, .free⟩,
              ⟨some 58, .iaddr 31, [.tmp 56, .tmp 57], none, .free⟩,
              ⟨some 59, .load 3, [.tmp 58], none, .low⟩,
              ⟨some 60, .bin .lss 3, [.tmp 55, .tmp 59], none, .free⟩,
              ⟨some 51, .mv, [.tmp 60], none, .free⟩]) (
            .cond (.tmp 51) (
              .seq (
              .reg false [⟨some 4, .mv, [.const (.int .i64 1)], none, .sync⟩]) (
              .ret)) (
              .skip))))))) (
      .reg false [⟨some 39, .mv, [.tmp 7], none, .sync⟩,
        ⟨some 40, .bin .sub 3, [.tmp 39, .const (.int .i64 1)], none, .sync⟩,
        ⟨some 7, .mv, [.tmp 40], none, .sync⟩])))))) (
  .seq (
  .reg false [⟨some 4, .mv, [.const (.int .i64 0)], none, .sync⟩]) (
  .ret)))))⟩

/-- sosopt/monomial.Degree -/
def F20 : Fun := ⟨28, [2],
  .seq (
  .reg false [⟨some 2, .mv, [.const (.int .i64 0)], none, .sync⟩]) (
  .seq (
  .seq (
  .reg false [⟨some 6, .mv, [.tmp 0], none, .sync⟩,
    ⟨some 7, .len 31, [.tmp 6], none, .sync⟩,
    ⟨some 8, .bin .gtr 3, [.tmp 7, .const (.int .i64 6)], none, .sync⟩]) (
  .cond (.tmp 8) (
    .seq (
    .reg false [⟨some 2, .mv, [.const (.int .i64 (-1))], none, .sync⟩]) (
    .ret)) (
    .skip))) (
  .seq (
  .reg false [⟨some 3, .mv, [.const (.int .i64 0)], none, .sync⟩]) (
  .seq (
  .seq (
  .reg false [⟨some 9, .mv, [.tmp 0], none, .sync⟩,
    ⟨some 10, .len 31, [.tmp 9], none, .sync⟩,
    ⟨some 11, .mv, [.const (.int .i64 0)], none, .sync⟩]) (
  .block 0 (
    .loop [0, 1, 4, 5, 6, 7, 8, 12, 13, 14, 15, 16, 17, 18, 19, 20, 21, 22, 23, 24, 25, 26, 27] [] (
      .seq (
      .reg false [⟨some 12, .bin .lss 3, [.tmp 11, .tmp 10], none, .sync⟩]) (
      .seq (
      .cond (.tmp 12) (
        .skip) (
        .exit 0)) (
      .seq (
      .block 1 (
        .seq (
        .reg false [⟨some 13, .iaddr 31, [.tmp 9, .tmp 11], none, .sync⟩,
          ⟨some 14, .load 3, [.tmp 13], none, .sync⟩,
          ⟨some 5, .mv, [.tmp 14], none, .sync⟩]) (
        .seq (
        .seq (
        .reg false [⟨some 15, .mv, [.tmp 5], none, .sync⟩,
          ⟨some 16, .bin .lss 3, [.tmp 15, .const (.int .i64 0)], none, .sync⟩,
          ⟨some 17, .mv, [.tmp 16], none, .sync⟩,
          ⟨some 18, .mv, [.tmp 5], some (17, false), .sync⟩,
          ⟨some 19, .bin .gtr 3, [.tmp 18, .const (.int .i64 24)], some (17, false), .sync⟩,
          ⟨some 20, .pick, [.tmp 17, .const (.bool true), .tmp 19], none, .sync⟩]) (
        .cond (.tmp 20) (
          .seq (
          .reg false [⟨some 2, .mv, [.const (.int .i64 (-1))], none, .sync⟩]) (
          .ret)) (
          .skip))) (
        .reg false [⟨some 21, .mv, [.tmp 3], none, .sync⟩,
          ⟨some 22, .mv, [.tmp 5], none, .sync⟩,
          ⟨some 23, .bin .add 3, [.tmp 21, .tmp 22], none, .sync⟩,
          ⟨some 3, .mv, [.tmp 23], none, .sync⟩])))) (
      .reg false [⟨some 24, .bin .add 3, [.tmp 11, .const (.int .i64 1)], none, .sync⟩,
        ⟨some 11, .mv, [.tmp 24], none, .sync⟩]))))))) (
  .seq (
  .seq (
  .reg false [⟨some 25, .mv, [.tmp 3], none, .sync⟩,
    ⟨some 26, .bin .gtr 3, [.tmp 25, .const (.int .i64 24)], none, .sync⟩]) (
  .cond (.tmp 26) (
    .seq (
    .reg false [⟨some 2, .mv, [.const (.int .i64 (-1))], none, .sync⟩]) (
    .ret)) (
    .skip))) (
  .seq (
  .reg false [⟨some 27, .mv, [.tmp 3], none, .sync⟩,
    ⟨some 2, .mv, [.tmp 27], none, .sync⟩]) (
  .ret))))))⟩

/-- sosopt/sosoptkeep.Ints -/
def F21 : Fun := ⟨26, [4],
  .seq (
  .reg false [⟨some 4, .mv, [.const (.bool false)], none, .sync⟩]) (
  .seq (
  .seq (
  .reg false [⟨some 6, .mv, [.tmp 0], none, .sync⟩,
    ⟨some 7, .len 31, [.tmp 6], none, .sync⟩,
    ⟨some 8, .mv, [.tmp 1], none, .sync⟩,
    ⟨some 9, .len 31, [.tmp 8], none, .sync⟩,
    ⟨some 10, .bin .neq 3, [.tmp 7, .tmp 9], none, .sync⟩]) (
  .cond (.tmp 10) (
    .seq (
    .reg false [⟨some 4, .mv, [.const (.bool false)], none, .sync⟩]) (
    .ret)) (
    .skip))) (
  .seq (
  .seq (
  .reg false [⟨some 5, .mv, [.const (.int .i64 0)], none, .sync⟩]) (
  .block 0 (
    .loop [2, 3, 6, 7, 8, 9, 10, 11, 12, 13, 14, 15, 16, 17, 18, 19, 20, 21, 22, 23, 24, 25] [] (
      .seq (
      .seq (
      .reg false [⟨some 11, .mv, [.tmp 5], none, .sync⟩,
        ⟨some 12, .mv, [.tmp 0], none, .sync⟩,
        ⟨some 13, .len 31, [.tmp 12], none, .sync⟩,
        ⟨some 14, .bin .lss 3, [.tmp 11, .tmp 13], none, .sync⟩]) (
      .cond (.tmp 14) (
        .skip) (
        .exit 0))) (
      .seq (
      .block 1 (
        .seq (
        .reg true [⟨some 17, .mv, [.tmp 0], none, .free⟩,
          ⟨some 18, .mv, [.tmp 5], none, .free⟩,
          ⟨some 19, .iaddr 31, [.tmp 17, .tmp 18], none, .free⟩,
          ⟨some 20, .load 3, [.tmp 19], none, .low⟩,
          ⟨some 21, .mv, [.tmp 1], none, .free⟩,
          ⟨some 22, .mv, [.tmp 5], none, .free⟩,
          ⟨some 23, .iaddr 31, [.tmp 21, .tmp 22], none, .free⟩,
          ⟨some 24, .load 3, [.tmp 23], none, .low⟩,
          ⟨some 25, .bin .neq 3, [.tmp 20, .tmp 24], none, .free⟩]) (
        .cond (.tmp 25) (
          .seq (
          .reg false [⟨some 4, .mv, [.const (.bool false)], none, .sync⟩]) (
          .ret)) (
          .skip)))) (
      .reg false [⟨some 15, .mv, [.tmp 5], none, .sync⟩,
        ⟨some 16, .bin .add 3, [.tmp 15, .const (.int .i64 1)], none, .sync⟩,
        ⟨some 5, .mv, [.tmp 16], none, .sync⟩])))))) (
  .seq (
  .reg false [⟨some 4, .mv, [.const (.bool true)], none, .sync⟩]) (
  .ret))))⟩

/-- sosopt/sosoptref05.Index -/
def F22 : Fun := ⟨56, [2, 3],
  .seq (
  .reg false [⟨some 2, .mv, [.const (.int .i64 0)], none, .sync⟩,
    ⟨some 3, .mv, [.const (.bool false)], none, .sync⟩]) (
  .seq (
  .seq (
  .reg false [⟨some 8, .mv, [.tmp 0], none, .sync⟩,
    ⟨some 9, .call 23, [.tmp 8], none, .sync⟩,
    ⟨some 10, .un .not, [.tmp 9], none, .sync⟩]) (
  .cond (.tmp 10) (
    .seq (
    .reg false [⟨some 2, .mv, [.const (.int .i64 0)], none, .sync⟩,
      ⟨some 3, .mv, [.const (.bool false)], none, .sync⟩]) (
    .ret)) (
    .skip))) (
  .seq (
  .reg false [⟨some 11, .mv, [.tmp 0], none, .sync⟩,
    ⟨some 12, .call 24, [.tmp 11], none, .sync⟩,
    ⟨some 4, .mv, [.tmp 12], none, .sync⟩]) (
  .seq (
  .reg false [⟨some 5, .mv, [.const (.int .i64 0)], none, .sync⟩]) (
  .seq (
  .seq (
  .reg false [⟨some 13, .mv, [.tmp 4], none, .sync⟩,
    ⟨some 14, .bin .gtr 3, [.tmp 13, .const (.int .i64 0)], none, .sync⟩]) (
  .cond (.tmp 14) (
    .reg false [⟨some 16, .mv, [.tmp 0], none, .sync⟩,
      ⟨some 17, .len 31, [.tmp 16], none, .sync⟩,
      ⟨some 18, .mv, [.tmp 4], none, .sync⟩,
      ⟨some 19, .bin .sub 3, [.tmp 18, .const (.int .i64 1)], none, .sync⟩,
      ⟨some 20, .call 11, [.tmp 17, .tmp 19], none, .sync⟩,
      ⟨some 15, .mv, [.tmp 20], none, .sync⟩,
      ⟨some 21, .ext 0, [.tmp 15], none, .sync⟩,
      ⟨some 22, .ext 1, [.tmp 15], none, .sync⟩,
      ⟨some 5, .mv, [.tmp 21], none, .sync⟩]) (
    .skip))) (
  .seq (
  .seq (
  .reg false [⟨some 23, .mv, [.tmp 0], none, .sync⟩,
    ⟨some 24, .len 31, [.tmp 23], none, .sync⟩,
    ⟨some 6, .mv, [.tmp 24], none, .sync⟩]) (
  .block 0 (
    .loop [1, 7, 8, 9, 10, 11, 12, 13, 14, 15, 16, 17, 18, 19, 20, 21, 22, 23, 24, 25, 26, 27, 28, 29, 30, 31, 32, 33, 34, 35, 36, 37, 38, 39, 40, 41, 42, 43, 44, 45, 46, 47, 48, 49, 50, 51, 52, 53, 54, 55] [] (
      .seq (
      .seq (
      .reg false [⟨some 25, .mv, [.tmp 6], none, .sync⟩,
        ⟨some 26, .bin .gtr 3, [.tmp 25, .const (.int .i64 1)], none, .sync⟩]) (
      .cond (.tmp 26) (
        .skip) (
        .exit 0))) (
      .seq (
      .block 1 (
        .seq (
        .seq (
        .reg false [⟨some 29, .mv, [.tmp 0], none, .sync⟩,
          ⟨some 30, .mv, [.tmp 6], none, .sync⟩,
          ⟨some 31, .bin .sub 3, [.tmp 30, .const (.int .i64 1)], none, .sync⟩,
          ⟨some 32, .iaddr 31, [.tmp 29, .tmp 31], none, .sync⟩,
          ⟨some 33, .load 3, [.tmp 32], none, .sync⟩,
          ⟨some 34, .bin .add 3, [.tmp 33, .const (.int .i64 1)], none, .sync⟩,
          ⟨some 7, .mv, [.tmp 34], none, .sync⟩]) (
        .block 2 (
          .loop [1, 8, 9, 10, 11, 12, 13, 14, 15, 16, 17, 18, 19, 20, 21, 22, 23, 24, 25, 26, 27, 28, 29, 30, 31, 32, 33, 34, 35, 36, 37, 38, 39, 40, 41, 42, 43, 44, 45, 46, 47, 48, 49, 50, 51, 52, 53, 54, 55] [] (
            .seq (
            .seq (
            .reg false [⟨some 35, .mv, [.tmp 7], none, .sync⟩,
              ⟨some 36, .mv, [.tmp 4], none, .sync⟩,
              ⟨some 37, .bin .leq 3, [.tmp 35, .tmp 36], none, .sync⟩]) (
            .cond (.tmp 37) (
              .skip) (
              .exit 2))) (
            .seq (
            .block 3 (
              .reg false [⟨some 40, .mv, [.tmp 5], none, .sync⟩,
                ⟨some 41, .mv, [.tmp 6], none, .sync⟩,
                ⟨some 42, .bin .sub 3, [.tmp 41, .const (.int .i64 1)], none, .sync⟩,
                ⟨some 43, .mv, [.tmp 4], none, .sync⟩,
                ⟨some 44, .mv, [.tmp 7], none, .sync⟩,
                ⟨some 45, .bin .sub 3, [.tmp 43, .tmp 44], none, .sync⟩,
                ⟨some 46, .call 39, [.tmp 42, .tmp 45], none, .sync⟩,
                ⟨some 47, .bin .add 3, [.tmp 40, .tmp 46], none, .sync⟩,
                ⟨some 5, .mv, [.tmp 47], none, .sync⟩])) (
            .reg false [⟨some 38, .mv, [.tmp 7], none, .sync⟩,
              ⟨some 39, .bin .add 3, [.tmp 38, .const (.int .i64 1)], none, .sync⟩,
              ⟨some 7, .mv, [.tmp 39], none, .sync⟩])))))) (
        .reg false [⟨some 48, .mv, [.tmp 4], none, .sync⟩,
          ⟨some 49, .mv, [.tmp 0], none, .sync⟩,
          ⟨some 50, .mv, [.tmp 6], none, .sync⟩,
          ⟨some 51, .bin .sub 3, [.tmp 50, .const (.int .i64 1)], none, .sync⟩,
          ⟨some 52, .iaddr 31, [.tmp 49, .tmp 51], none, .sync⟩,
          ⟨some 53, .load 3, [.tmp 52], none, .sync⟩,
          ⟨some 54, .bin .sub 3, [.tmp 48, .tmp 53], none, .sync⟩,
          ⟨some 4, .mv, [.tmp 54], none, .sync⟩]))) (
      .reg false [⟨some 27, .mv, [.tmp 6], none, .sync⟩,
        ⟨some 28, .bin .sub 3, [.tmp 27, .const (.int .i64 1)], none, .sync⟩,
        ⟨some 6, .mv, [.tmp 28], none, .sync⟩])))))) (
  .seq (
  .reg false [⟨some 55, .mv, [.tmp 5], none, .sync⟩,
    ⟨some 2, .mv, [.tmp 55], none, .sync⟩,
    ⟨some 3, .mv, [.const (.bool true)], none, .sync⟩]) (
  .ret)))))))⟩

/-- sosopt/sosoptref05.Valid -/
def F23 : Fun := ⟨11, [2],
  .seq (
  .reg false [⟨some 2, .mv, [.const (.bool false)], none, .sync⟩]) (
  .seq (
  .reg false [⟨some 3, .mv, [.tmp 0], none, .sync⟩,
    ⟨some 4, .len 31, [.tmp 3], none, .sync⟩,
    ⟨some 5, .bin .leq 3, [.tmp 4, .const (.int .i64 6)], none, .sync⟩,
    ⟨some 6, .mv, [.tmp 5], none, .sync⟩,
    ⟨some 7, .mv, [.tmp 0], some (6, true), .sync⟩,
    ⟨some 8, .call 24, [.tmp 7], some (6, true), .sync⟩,
    ⟨some 9, .bin .geq 3, [.tmp 8, .const (.int .i64 0)], some (6, true), .sync⟩,
    ⟨some 10, .pick, [.tmp 6, .tmp 9, .const (.bool false)], none, .sync⟩,
    ⟨some 2, .mv, [.tmp 10], none, .sync⟩]) (
  .ret))⟩

/-- sosopt/sosoptref05.Degree -/
def F24 : Fun := ⟨35, [2],
  .seq (
  .reg false [⟨some 2, .mv, [.const (.int .i64 0)], none, .sync⟩]) (
  .seq (
  .seq (
  .reg false [⟨some 5, .mv, [.tmp 0], none, .sync⟩,
    ⟨some 6, .len 31, [.tmp 5], none, .sync⟩,
    ⟨some 7, .bin .gtr 3, [.tmp 6, .const (.int .i64 6)], none, .sync⟩]) (
  .cond (.tmp 7) (
    .seq (
    .reg false [⟨some 2, .mv, [.const (.int .i64 (-1))], none, .sync⟩]) (
    .ret)) (
    .skip))) (
  .seq (
  .reg false [⟨some 3, .mv, [.const (.int .i64 0)], none, .sync⟩]) (
  .seq (
  .seq (
  .reg false [⟨some 4, .mv, [.const (.int .i64 0)], none, .sync⟩]) (
  .block 0 (
    .loop [1, 5, 6, 7, 8, 9, 10, 11, 12, 13, 14, 15, 16, 17, 18, 19, 20, 21, 22, 23, 24, 25, 26, 27, 28, 29, 30, 31, 32, 33, 34] [] (
      .seq (
      .seq (
      .reg false [⟨some 8, .mv, [.tmp 4], none, .sync⟩,
        ⟨some 9, .mv, [.tmp 0], none, .sync⟩,
        ⟨some 10, .len 31, [.tmp 9], none, .sync⟩,
        ⟨some 11, .bin .lss 3, [.tmp 8, .tmp 10], none, .sync⟩]) (
      .cond (.tmp 11) (
        .skip) (
        .exit 0))) (
      .seq (
      .block 1 (
        .seq (
        .seq (
        .reg false [⟨some 14, .mv, [.tmp 0], none, .sync⟩,
          ⟨some 15, .mv, [.tmp 4], none, .sync⟩,
          ⟨some 16, .iaddr 31, [.tmp 14, .tmp 15], none, .sync⟩,
          ⟨some 17, .load 3, [.tmp 16], none, .sync⟩,
          ⟨some 18, .bin .lss 3, [.tmp 17, .const (.int .i64 0)], none, .sync⟩,
          ⟨some 19, .mv, [.tmp 18], none, .sync⟩,
          ⟨some 20, .mv, [.tmp 0], some (19, false), .sync⟩,
          ⟨some 21, .mv, [.tmp 4], some (19, false), .sync⟩,
          ⟨some 22, .iaddr 31, [.tmp 20, .tmp 21], some (19, false), .sync⟩,
          ⟨some 23, .load 3, [.tmp 22], some (19, false), .sync⟩,
          ⟨some 24, .mv, [.tmp 3], some (19, false), .sync⟩,
          ⟨some 25, .bin .sub 3, [.const (.int .i64 24), .tmp 24], some (19, false), .sync⟩,
          ⟨some 26, .bin .gtr 3, [.tmp 23, .tmp 25], some (19, false), .sync⟩,
          ⟨some 27, .pick, [.tmp 19, .const (.bool true), .tmp 26], none, .sync⟩]) (
        .cond (.tmp 27) (
          .seq (
          .reg false [⟨some 2, .mv, [.const (.int .i64 (-1))], none, .sync⟩]) (
          .ret)) (
          .skip))) (
        .reg false [⟨some 28, .mv, [.tmp 3], none, .sync⟩,
          ⟨some 29, .mv, [.tmp 0], none, .sync⟩,
          ⟨some 30, .mv, [.tmp 4], none, .sync⟩,
          ⟨some 31, .iaddr 31, [.tmp 29, .tmp 30], none, .sync⟩,
          ⟨some 32, .load 3, [.tmp 31], none, .sync⟩,
          ⟨some 33, .bin .add 3, [.tmp 28, .tmp 32], none, .sync⟩,
          ⟨some 3, .mv, [.tmp 33], none, .sync⟩]))) (
      .reg false [⟨some 12, .mv, [.tmp 4], none, .sync⟩,
        ⟨some 13, .bin .add 3, [.tmp 12, .const (.int .i64 1)], none, .sync⟩,
        ⟨some 4, .mv, [.tmp 13], none, .sync⟩])))))) (
  .seq (
  .reg false [⟨some 34, .mv, [.tmp 3], none, .sync⟩,
    ⟨some 2, .mv, [.tmp 34], none, .sync⟩]) (
  .ret)))))⟩

/-- sosopt/sosoptref05.Compare -/
def F25 : Fun := ⟨12, [4],
  .seq (
  .reg false [⟨some 4, .mv, [.const (.int .i64 0)], none, .sync⟩]) (
  .seq (
  .seq (
  .reg false [⟨some 5, .mv, [.tmp 0], none, .sync⟩,
    ⟨some 6, .mv, [.tmp 1], none, .sync⟩,
    ⟨some 7, .call 40, [.tmp 5, .tmp 6], none, .sync⟩,
    ⟨some 8, .un .not, [.tmp 7], none, .sync⟩]) (
  .cond (.tmp 8) (
    .seq (
    .reg false [⟨some 4, .mv, [.const (.int .i64 0)], none, .sync⟩]) (
    .ret)) (
    .skip))) (
  .seq (
  .reg false [⟨some 9, .mv, [.tmp 0], none, .sync⟩,
    ⟨some 10, .mv, [.tmp 1], none, .sync⟩,
    ⟨some 11, .call 41, [.tmp 9, .tmp 10], none, .sync⟩,
    ⟨some 4, .mv, [.tmp 11], none, .sync⟩]) (
  .ret)))⟩

/-- sosopt/monomial.Parity -/
def F26 : Fun := ⟨26, [2],
  .seq (
  .reg false [⟨some 2, .mv, [.const (.slice none 0 0)], none, .sync⟩]) (
  .seq (
  .seq (
  .reg false [⟨some 6, .mv, [.tmp 0], none, .sync⟩,
    ⟨some 7, .call 17, [.tmp 6], none, .sync⟩,
    ⟨some 8, .un .not, [.tmp 7], none, .sync⟩]) (
  .cond (.tmp 8) (
    .seq (
    .reg false [⟨some 2, .mv, [.const (.slice none 0 0)], none, .sync⟩]) (
    .ret)) (
    .skip))) (
  .seq (
  .reg false [⟨some 9, .mv, [.tmp 0], none, .sync⟩,
    ⟨some 10, .len 31, [.tmp 9], none, .sync⟩,
    ⟨some 11, .make 31, [.tmp 10, .tmp 10], none, .sync⟩,
    ⟨some 3, .mv, [.tmp 11], none, .sync⟩]) (
  .seq (
  .seq (
  .reg false [⟨some 12, .mv, [.tmp 0], none, .sync⟩,
    ⟨some 13, .len 31, [.tmp 12], none, .sync⟩,
    ⟨some 14, .mv, [.const (.int .i64 0)], none, .sync⟩]) (
  .block 0 (
    .loop [0, 1, 4, 5, 6, 7, 8, 9, 10, 11, 15, 16, 17, 18, 19, 20, 21, 22, 23, 24, 25] [] (
      .seq (
      .reg false [⟨some 15, .bin .lss 3, [.tmp 14, .tmp 13], none, .sync⟩]) (
      .seq (
      .cond (.tmp 15) (
        .skip) (
        .exit 0)) (
      .seq (
      .block 1 (
        .seq (
        .reg false [⟨some 16, .mv, [.tmp 14], none, .sync⟩,
          ⟨some 17, .iaddr 31, [.tmp 12, .tmp 14], none, .sync⟩,
          ⟨some 18, .load 3, [.tmp 17], none, .sync⟩,
          ⟨some 4, .mv, [.tmp 16], none, .sync⟩,
          ⟨some 5, .mv, [.tmp 18], none, .sync⟩]) (
        .reg false [⟨some 19, .mv, [.tmp 3], none, .sync⟩,
          ⟨some 20, .mv, [.tmp 4], none, .sync⟩,
          ⟨some 21, .mv, [.tmp 5], none, .sync⟩,
          ⟨some 22, .bin .and 3, [.tmp 21, .const (.int .i64 1)], none, .sync⟩,
          ⟨some 23, .iaddr 31, [.tmp 19, .tmp 20], none, .sync⟩,
          ⟨none, .store 3, [.tmp 23, .tmp 22], none, .sync⟩]))) (
      .reg false [⟨some 24, .bin .add 3, [.tmp 14, .const (.int .i64 1)], none, .sync⟩,
        ⟨some 14, .mv, [.tmp 24], none, .sync⟩]))))))) (
  .seq (
  .reg false [⟨some 25, .mv, [.tmp 3], none, .sync⟩,
    ⟨some 2, .mv, [.tmp 25], none, .sync⟩]) (
  .ret)))))⟩

/-- sosopt/sosoptref05.Parity -/
def F27 : Fun := ⟨23, [2],
  .seq (
  .reg false [⟨some 2, .mv, [.const (.slice none 0 0)], none, .sync⟩]) (
  .seq (
  .seq (
  .reg false [⟨some 5, .mv, [.tmp 0], none, .sync⟩,
    ⟨some 6, .call 23, [.tmp 5], none, .sync⟩,
    ⟨some 7, .un .not, [.tmp 6], none, .sync⟩]) (
  .cond (.tmp 7) (
    .seq (
    .reg false [⟨some 2, .mv, [.const (.slice none 0 0)], none, .sync⟩]) (
    .ret)) (
    .skip))) (
  .seq (
  .reg false [⟨some 3, .mv, [.const (.slice none 0 0)], none, .sync⟩]) (
  .seq (
  .seq (
  .reg false [⟨some 4, .mv, [.const (.int .i64 0)], none, .sync⟩]) (
  .block 0 (
    .loop [1, 5, 6, 7, 8, 9, 10, 11, 12, 13, 14, 15, 16, 17, 18, 19, 20, 21, 22] [(3, 1)] (
      .seq (
      .seq (
      .reg false [⟨some 8, .mv, [.tmp 4], none, .sync⟩,
        ⟨some 9, .mv, [.tmp 0], none, .sync⟩,
        ⟨some 10, .len 31, [.tmp 9], none, .sync⟩,
        ⟨some 11, .bin .lss 3, [.tmp 8, .tmp 10], none, .sync⟩]) (
      .cond (.tmp 11) (
        .skip) (
        .exit 0))) (
      .seq (
      .block 1 (
        .reg false [⟨some 14, .mv, [.tmp 3], none, .sync⟩,
          ⟨some 15, .mv, [.tmp 0], none, .sync⟩,
          ⟨some 16, .mv, [.tmp 4], none, .sync⟩,
          ⟨some 17, .iaddr 31, [.tmp 15, .tmp 16], none, .sync⟩,
          ⟨some 18, .load 3, [.tmp 17], none, .sync⟩,
          ⟨some 19, .bin .rem 3, [.tmp 18, .const (.int .i64 2)], none, .sync⟩,
          ⟨some 20, .mkslice 31 1 [0], [.tmp 19], none, .sync⟩,
          ⟨some 21, .append 31, [.tmp 14, .tmp 20], none, .sync⟩,
          ⟨some 3, .mv, [.tmp 21], none, .sync⟩])) (
      .reg false [⟨some 12, .mv, [.tmp 4], none, .sync⟩,
        ⟨some 13, .bin .add 3, [.tmp 12, .const (.int .i64 1)], none, .sync⟩,
        ⟨some 4, .mv, [.tmp 13], none, .sync⟩])))))) (
  .seq (
  .reg false [⟨some 22, .mv, [.tmp 3], none, .sync⟩,
    ⟨some 2, .mv, [.tmp 22], none, .sync⟩]) (
  .ret)))))⟩

/-- sosopt/monomial.Mul -/
def F28 : Fun := ⟨11, [4, 5],
  .seq (
  .reg false [⟨some 4, .mv, [.const (.slice none 0 0)], none, .sync⟩,
    ⟨some 5, .mv, [.const (.bool false)], none, .sync⟩]) (
  .seq (
  .reg false [⟨some 6, .mv, [.tmp 0], none, .sync⟩,
    ⟨some 7, .mv, [.tmp 1], none, .sync⟩,
    ⟨some 8, .call 42, [.tmp 6, .tmp 7, .func 43], none, .sync⟩,
    ⟨some 9, .ext 0, [.tmp 8], none, .sync⟩,
    ⟨some 10, .ext 1, [.tmp 8], none, .sync⟩,
    ⟨some 4, .mv, [.tmp 9], none, .sync⟩,
    ⟨some 5, .mv, [.tmp 10], none, .sync⟩]) (
  .ret))⟩

/-- sosopt/sosoptref05.Mul -/
def F29 : Fun := ⟨37, [4, 5],
  .seq (
  .reg false [⟨some 4, .mv, [.const (.slice none 0 0)], none, .sync⟩,
    ⟨some 5, .mv, [.const (.bool false)], none, .sync⟩]) (
  .seq (
  .seq (
  .reg false [⟨some 8, .mv, [.tmp 0], none, .sync⟩,
    ⟨some 9, .mv, [.tmp 1], none, .sync⟩,
    ⟨some 10, .call 40, [.tmp 8, .tmp 9], none, .sync⟩,
    ⟨some 11, .un .not, [.tmp 10], none, .sync⟩]) (
  .cond (.tmp 11) (
    .seq (
    .reg false [⟨some 4, .mv, [.const (.slice none 0 0)], none, .sync⟩,
      ⟨some 5, .mv, [.const (.bool false)], none, .sync⟩]) (
    .ret)) (
    .skip))) (
  .seq (
  .reg false [⟨some 12, .mv, [.tmp 0], none, .sync⟩,
    ⟨some 13, .len 31, [.tmp 12], none, .sync⟩,
    ⟨some 14, .make 31, [.tmp 13, .tmp 13], none, .sync⟩,
    ⟨some 6, .mv, [.tmp 14], none, .sync⟩]) (
  .seq (
  .seq (
  .reg false [⟨some 7, .mv, [.const (.int .i64 0)], none, .sync⟩]) (
  .block 0 (
    .loop [2, 3, 8, 9, 10, 11, 12, 13, 14, 15, 16, 17, 18, 19, 20, 21, 22, 23, 24, 25, 26, 27, 28, 29, 30, 31, 32, 33, 34, 35, 36] [] (
      .seq (
      .seq (
      .reg false [⟨some 15, .mv, [.tmp 7], none, .sync⟩,
        ⟨some 16, .mv, [.tmp 0], none, .sync⟩,
        ⟨some 17, .len 31, [.tmp 16], none, .sync⟩,
        ⟨some 18, .bin .lss 3, [.tmp 15, .tmp 17], none, .sync⟩]) (
      .cond (.tmp 18) (
        .skip) (
        .exit 0))) (
      .seq (
      .block 1 (
        .reg true [⟨some 21, .mv, [.tmp 6], none, .free⟩,
          ⟨some 22, .mv, [.tmp 7], none, .free⟩,
          ⟨some 23, .mv, [.tmp 0], none, .free⟩,
          ⟨some 24, .mv, [.tmp 7], none, .free⟩,
          ⟨some 25, .iaddr 31, [.tmp 23, .tmp 24], none, .free⟩,
          ⟨some 26, .load 3, [.tmp 25], none, .low⟩,
          ⟨some 27, .mv, [.tmp 1], none, .free⟩,
          ⟨some 28, .mv, [.tmp 7], none, .free⟩,
          ⟨some 29, .iaddr 31, [.tmp 27, .tmp 28], none, .free⟩,
          ⟨some 30, .load 3, [.tmp 29], none, .low⟩,
          ⟨some 31, .bin .add 3, [.tmp 26, .tmp 30], none, .free⟩,
          ⟨some 32, .iaddr 31, [.tmp 21, .tmp 22], none, .free⟩,
          ⟨none, .store 3, [.tmp 32, .tmp 31], none, .sync⟩])) (
      .reg false [⟨some 19, .mv, [.tmp 7], none, .sync⟩,
        ⟨some 20, .bin .add 3, [.tmp 19, .const (.int .i64 1)], none, .sync⟩,
        ⟨some 7, .mv, [.tmp 20], none, .sync⟩])))))) (
  .seq (
  .seq (
  .reg false [⟨some 33, .mv, [.tmp 6], none, .sync⟩,
    ⟨some 34, .call 23, [.tmp 33], none, .sync⟩,
    ⟨some 35, .un .not, [.tmp 34], none, .sync⟩]) (
  .cond (.tmp 35) (
    .seq (
    .reg false [⟨some 4, .mv, [.const (.slice none 0 0)], none, .sync⟩,
      ⟨some 5, .mv, [.const (.bool false)], none, .sync⟩]) (
    .ret)) (
    .skip))) (
  .seq (
  .reg false [⟨some 36, .mv, [.tmp 6], none, .sync⟩,
    ⟨some 4, .mv, [.tmp 36], none, .sync⟩,
    ⟨some 5, .mv, [.const (.bool true)], none, .sync⟩]) (
  .ret))))))⟩

/-- sosopt/monomial.Div -/
def F30 : Fun := ⟨11, [4, 5],
  .seq (
  .reg false [⟨some 4, .mv, [.const (.slice none 0 0)], none, .sync⟩,
    ⟨some 5, .mv, [.const (.bool false)], none, .sync⟩]) (
  .seq (
  .reg false [⟨some 6, .mv, [.tmp 0], none, .sync⟩,
    ⟨some 7, .mv, [.tmp 1], none, .sync⟩,
    ⟨some 8, .call 42, [.tmp 6, .tmp 7, .func 44], none, .sync⟩,
    ⟨some 9, .ext 0, [.tmp 8], none, .sync⟩,
    ⟨some 10, .ext 1, [.tmp 8], none, .sync⟩,
    ⟨some 4, .mv, [.tmp 9], none, .sync⟩,
    ⟨some 5, .mv, [.tmp 10], none, .sync⟩]) (
  .ret))⟩

/-- sosopt/sosoptref05.Div -/
def F31 : Fun := ⟨34, [4, 5],
  .seq (
  .reg false [⟨some 4, .mv, [.const (.slice none 0 0)], none, .sync⟩,
    ⟨some 5, .mv, [.const (.bool false)], none, .sync⟩]) (
  .seq (
  .seq (
  .reg false [⟨some 8, .mv, [.tmp 1], none, .sync⟩,
    ⟨some 9, .mv, [.tmp 0], none, .sync⟩,
    ⟨some 10, .call 35, [.tmp 8, .tmp 9], none, .sync⟩,
    ⟨some 11, .un .not, [.tmp 10], none, .sync⟩]) (
  .cond (.tmp 11) (
    .seq (
    .reg false [⟨some 4, .mv, [.const (.slice none 0 0)], none, .sync⟩,
      ⟨some 5, .mv, [.const (.bool false)], none, .sync⟩]) (
    .ret)) (
    .skip))) (
  .seq (
  .reg false [⟨some 12, .mv, [.tmp 0], none, .sync⟩,
    ⟨some 13, .len 31, [.tmp 12], none, .sync⟩,
    ⟨some 14, .make 31, [.tmp 13, .tmp 13], none, .sync⟩,
    ⟨some 6, .mv, [.tmp 14], none, .sync⟩]) (
  .seq (
  .seq (
  .reg false [⟨some 7, .mv, [.const (.int .i64 0)], none, .sync⟩]) (
  .block 0 (
    .loop [2, 3, 8, 9, 10, 11, 12, 13, 14, 15, 16, 17, 18, 19, 20, 21, 22, 23, 24, 25, 26, 27, 28, 29, 30, 31, 32, 33] [] (
      .seq (
      .seq (
      .reg false [⟨some 15, .mv, [.tmp 7], none, .sync⟩,
        ⟨some 16, .mv, [.tmp 0], none, .sync⟩,
        ⟨some 17, .len 31, [.tmp 16], none, .sync⟩,
        ⟨some 18, .bin .lss 3, [.tmp 15, .tmp 17], none, .sync⟩]) (
      .cond (.tmp 18) (
        .skip) (
        .exit 0))) (
      .seq (
      .block 1 (
        .reg true [⟨some 21, .mv, [.tmp 6], none, .free⟩,
          ⟨some 22, .mv, [.tmp 7], none, .free⟩,
          ⟨some 23, .mv, [.tmp 0], none, .free⟩,
          ⟨some 24, .mv, [.tmp 7], none, .free⟩,
          ⟨some 25, .iaddr 31, [.tmp 23, .tmp 24], none, .free⟩,
          ⟨some 26, .load 3, [.tmp 25], none, .low⟩,
          ⟨some 27, .mv, [.tmp 1], none, .free⟩,
          ⟨some 28, .mv, [.tmp 7], none, .free⟩,
          ⟨some 29, .iaddr 31, [.tmp 27, .tmp 28], none, .free⟩,
          ⟨some 30, .load 3, [.tmp 29], none, .low⟩,
          ⟨some 31, .bin .sub 3, [.tmp 26, .tmp 30], none, .free⟩,
          ⟨some 32, .iaddr 31, [.tmp 21, .tmp 22], none, .free⟩,
          ⟨none, .store 3, [.tmp 32, .tmp 31], none, .sync⟩])) (
      .reg false [⟨some 19, .mv, [.tmp 7], none, .sync⟩,
        ⟨some 20, .bin .add 3, [.tmp 19, .const (.int .i64 1)], none, .sync⟩,
        ⟨some 7, .mv, [.tmp 20], none, .sync⟩])))))) (
  .seq (
  .reg false [⟨some 33, .mv, [.tmp 6], none, .sync⟩,
    ⟨some 4, .mv, [.tmp 33], none, .sync⟩,
    ⟨some 5, .mv, [.const (.bool true)], none, .sync⟩]) (
  .ret)))))⟩

/-- sosopt/monomial.Lcm -/
def F32 : Fun := ⟨11, [4, 5],
  .seq (
  .reg false [⟨some 4, .mv, [.const (.slice none 0 0)], none, .sync⟩,
    ⟨some 5, .mv, [.const (.bool false)], none, .sync⟩]) (
  .seq (
  .reg false [⟨some 6, .mv, [.tmp 0], none, .sync⟩,
    ⟨some 7, .mv, [.tmp 1], none, .sync⟩,
    ⟨some 8, .call 42, [.tmp 6, .tmp 7, .func 45], none, .sync⟩,
    ⟨some 9, .ext 0, [.tmp 8], none, .sync⟩,
    ⟨some 10, .ext 1, [.tmp 8], none, .sync⟩,
    ⟨some 4, .mv, [.tmp 9], none, .sync⟩,
    ⟨some 5, .mv, [.tmp 10], none, .sync⟩]) (
  .ret))⟩

/-- sosopt/sosoptref05.Lcm -/
def F33 : Fun := ⟨37, [4, 5],
  .seq (
  .reg false [⟨some 4, .mv, [.const (.slice none 0 0)], none, .sync⟩,
    ⟨some 5, .mv, [.const (.bool false)], none, .sync⟩]) (
  .seq (
  .seq (
  .reg false [⟨some 8, .mv, [.tmp 0], none, .sync⟩,
    ⟨some 9, .mv, [.tmp 1], none, .sync⟩,
    ⟨some 10, .call 40, [.tmp 8, .tmp 9], none, .sync⟩,
    ⟨some 11, .un .not, [.tmp 10], none, .sync⟩]) (
  .cond (.tmp 11) (
    .seq (
    .reg false [⟨some 4, .mv, [.const (.slice none 0 0)], none, .sync⟩,
      ⟨some 5, .mv, [.const (.bool false)], none, .sync⟩]) (
    .ret)) (
    .skip))) (
  .seq (
  .reg false [⟨some 12, .mv, [.tmp 0], none, .sync⟩,
    ⟨some 13, .len 31, [.tmp 12], none, .sync⟩,
    ⟨some 14, .make 31, [.tmp 13, .tmp 13], none, .sync⟩,
    ⟨some 6, .mv, [.tmp 14], none, .sync⟩]) (
  .seq (
  .seq (
  .reg false [⟨some 7, .mv, [.const (.int .i64 0)], none, .sync⟩]) (
  .block 0 (
    .loop [2, 3, 8, 9, 10, 11, 12, 13, 14, 15, 16, 17, 18, 19, 20, 21, 22, 23, 24, 25, 26, 27, 28, 29, 30, 31, 32, 33, 34, 35, 36] [] (
      .seq (
      .seq (
      .reg false [⟨some 15, .mv, [.tmp 7], none, .sync⟩,
        ⟨some 16, .mv, [.tmp 0], none, .sync⟩,
        ⟨some 17, .len 31, [.tmp 16], none, .sync⟩,
        ⟨some 18, .bin .lss 3, [.tmp 15, .tmp 17], none, .sync⟩]) (
      .cond (.tmp 18) (
        .skip) (
        .exit 0))) (
      .seq (
      .block 1 (
        .reg true [⟨some 21, .mv, [.tmp 6], none, .free⟩,
          ⟨some 22, .mv, [.tmp 7], none, .free⟩,
          ⟨some 23, .mv, [.tmp 0], none, .free⟩,
          ⟨some 24, .mv, [.tmp 7], none, .free⟩,
          ⟨some 25, .iaddr 31, [.tmp 23, .tmp 24], none, .free⟩,
          ⟨some 26, .load 3, [.tmp 25], none, .low⟩,
          ⟨some 27, .mv, [.tmp 1], none, .free⟩,
          ⟨some 28, .mv, [.tmp 7], none, .free⟩,
          ⟨some 29, .iaddr 31, [.tmp 27, .tmp 28], none, .free⟩,
          ⟨some 30, .load 3, [.tmp 29], none, .low⟩,
          ⟨some 31, .max, [.tmp 26, .tmp 30], none, .free⟩,
          ⟨some 32, .iaddr 31, [.tmp 21, .tmp 22], none, .free⟩,
          ⟨none, .store 3, [.tmp 32, .tmp 31], none, .sync⟩])) (
      .reg false [⟨some 19, .mv, [.tmp 7], none, .sync⟩,
        ⟨some 20, .bin .add 3, [.tmp 19, .const (.int .i64 1)], none, .sync⟩,
        ⟨some 7, .mv, [.tmp 20], none, .sync⟩])))))) (
  .seq (
  .seq (
  .reg false [⟨some 33, .mv, [.tmp 6], none, .sync⟩,
    ⟨some 34, .call 23, [.tmp 33], none, .sync⟩,
    ⟨some 35, .un .not, [.tmp 34], none, .sync⟩]) (
  .cond (.tmp 35) (
    .seq (
    .reg false [⟨some 4, .mv, [.const (.slice none 0 0)], none, .sync⟩,
      ⟨some 5, .mv, [.const (.bool false)], none, .sync⟩]) (
    .ret)) (
    .skip))) (
  .seq (
  .reg false [⟨some 36, .mv, [.tmp 6], none, .sync⟩,
    ⟨some 4, .mv, [.tmp 36], none, .sync⟩,
    ⟨some 5, .mv, [.const (.bool true)], none, .sync⟩]) (
  .ret))))))⟩

/-- sosopt/monomial.Divides -/
def F34 : Fun := ⟨14, [4],
  .seq (
  .reg false [⟨some 4, .mv, [.const (.bool false)], none, .sync⟩]) (
  .seq (
  .reg false [⟨some 8, .mv, [.tmp 1], none, .sync⟩,
    ⟨some 9, .mv, [.tmp 0], none, .sync⟩,
    ⟨some 10, .call 30, [.tmp 8, .tmp 9], none, .sync⟩,
    ⟨some 7, .mv, [.tmp 10], none, .sync⟩,
    ⟨some 11, .ext 0, [.tmp 7], none, .sync⟩,
    ⟨some 12, .ext 1, [.tmp 7], none, .sync⟩,
    ⟨some 5, .mv, [.tmp 11], none, .sync⟩,
    ⟨some 6, .mv, [.tmp 12], none, .sync⟩]) (
  .seq (
  .reg false [⟨some 13, .mv, [.tmp 6], none, .sync⟩,
    ⟨some 4, .mv, [.tmp 13], none, .sync⟩]) (
  .ret)))⟩

/-- sosopt/sosoptref05.Divides -/
def F35 : Fun := ⟨25, [4],
  .seq (
  .reg false [⟨some 4, .mv, [.const (.bool false)], none, .sync⟩]) (
  .seq (
  .seq (
  .reg false [⟨some 6, .mv, [.tmp 0], none, .sync⟩,
    ⟨some 7, .mv, [.tmp 1], none, .sync⟩,
    ⟨some 8, .call 40, [.tmp 6, .tmp 7], none, .sync⟩,
    ⟨some 9, .un .not, [.tmp 8], none, .sync⟩]) (
  .cond (.tmp 9) (
    .seq (
    .reg false [⟨some 4, .mv, [.const (.bool false)], none, .sync⟩]) (
    .ret)) (
    .skip))) (
  .seq (
  .seq (
  .reg false [⟨some 5, .mv, [.const (.int .i64 0)], none, .sync⟩]) (
  .block 0 (
    .loop [2, 3, 6, 7, 8, 9, 10, 11, 12, 13, 14, 15, 16, 17, 18, 19, 20, 21, 22, 23, 24] [] (
      .seq (
      .seq (
      .reg false [⟨some 10, .mv, [.tmp 5], none, .sync⟩,
        ⟨some 11, .mv, [.tmp 0], none, .sync⟩,
        ⟨some 12, .len 31, [.tmp 11], none, .sync⟩,
        ⟨some 13, .bin .lss 3, [.tmp 10, .tmp 12], none, .sync⟩]) (
      .cond (.tmp 13) (
        .skip) (
        .exit 0))) (
      .seq (
      .block 1 (
        .seq (
        .reg true [⟨some 16, .mv, [.tmp 0], none, .free⟩,
          ⟨some 17, .mv, [.tmp 5], none, .free⟩,
          ⟨some 18, .iaddr 31, [.tmp 16, .tmp 17], none, .free⟩,
          ⟨some 19, .load 3, [.tmp 18], none, .low⟩,
          ⟨some 20, .mv, [.tmp 1], none, .free⟩,
          ⟨some 21, .mv, [.tmp 5], none, .free⟩,
          ⟨some 22, .iaddr 31, [.tmp 20, .tmp 21], none, .free⟩,
          ⟨some 23, .load 3, [.tmp 22], none, .low⟩,
          ⟨some 24, .bin .gtr 3, [.tmp 19, .tmp 23], none, .free⟩]) (
        .cond (.tmp 24) (
          .seq (
          .reg false [⟨some 4, .mv, [.const (.bool false)], none, .sync⟩]) (
          .ret)) (
          .skip)))) (
      .reg false [⟨some 14, .mv, [.tmp 5], none, .sync⟩,
        ⟨some 15, .bin .add 3, [.tmp 14, .const (.int .i64 1)], none, .sync⟩,
        ⟨some 5, .mv, [.tmp 15], none, .sync⟩])))))) (
  .seq (
  .reg false [⟨some 4, .mv, [.const (.bool true)], none, .sync⟩]) (
  .ret))))⟩

/-- sosopt/monomial.choose -/
def F36 : Fun := ⟨22, [4],
  .seq (
  .reg false [⟨some 4, .mv, [.const (.int .i64 0)], none, .sync⟩]) (
  .seq (
  .reg false [⟨some 5, .mv, [.const (.int .i64 1)], none, .sync⟩]) (
  .seq (
  .seq (
  .reg false [⟨some 6, .mv, [.const (.int .i64 1)], none, .sync⟩]) (
  .block 0 (
    .loop [2, 3, 7, 8, 9, 10, 11, 12, 13, 14, 15, 16, 17, 18, 19, 20, 21] [] (
      .seq (
      .seq (
      .reg false [⟨some 7, .mv, [.tmp 6], none, .sync⟩,
        ⟨some 8, .mv, [.tmp 1], none, .sync⟩,
        ⟨some 9, .bin .leq 3, [.tmp 7, .tmp 8], none, .sync⟩]) (
      .cond (.tmp 9) (
        .skip) (
        .exit 0))) (
      .seq (
      .block 1 (
        .reg false [⟨some 12, .mv, [.tmp 5], none, .sync⟩,
          ⟨some 13, .mv, [.tmp 0], none, .sync⟩,
          ⟨some 14, .mv, [.tmp 1], none, .sync⟩,
          ⟨some 15, .bin .sub 3, [.tmp 13, .tmp 14], none, .sync⟩,
          ⟨some 16, .mv, [.tmp 6], none, .sync⟩,
          ⟨some 17, .bin .add 3, [.tmp 15, .tmp 16], none, .sync⟩,
          ⟨some 18, .bin .mul 3, [.tmp 12, .tmp 17], none, .sync⟩,
          ⟨some 19, .mv, [.tmp 6], none, .sync⟩,
          ⟨some 20, .bin .quo 3, [.tmp 18, .tmp 19], none, .sync⟩,
          ⟨some 5, .mv, [.tmp 20], none, .sync⟩])) (
      .reg false [⟨some 10, .mv, [.tmp 6], none, .sync⟩,
        ⟨some 11, .bin .add 3, [.tmp 10, .const (.int .i64 1)], none, .sync⟩,
        ⟨some 6, .mv, [.tmp 11], none, .sync⟩])))))) (
  .seq (
  .reg false [⟨some 21, .mv, [.tmp 5], none, .sync⟩,
    ⟨some 4, .mv, [.tmp 21], none, .sync⟩]) (
  .ret))))⟩

/-- sosopt/monomial.All$1 -/
def F37 : Fun := ⟨37, [],
  .seq (
  .seq (
  .reg false [⟨some 8, .mv, [.tmp 0], none, .sync⟩,
    ⟨some 9, .bin .lss 3, [.tmp 8, .const (.int .i64 0)], none, .sync⟩]) (
  .cond (.tmp 9) (
    .seq (
    .seq (
    .reg false [⟨some 10, .mv, [.tmp 1], none, .sync⟩,
      ⟨some 11, .bin .eql 3, [.tmp 10, .const (.int .i64 0)], none, .sync⟩]) (
    .cond (.tmp 11) (
      .reg true [⟨some 12, .load 26, [.tmp 2], none, .low⟩,
        ⟨some 13, .mkslice 31 0 [], [], none, .al⟩,
        ⟨some 14, .load 31, [.tmp 3], none, .low⟩,
        ⟨some 15, .append 31, [.tmp 13, .tmp 14], none, .al⟩,
        ⟨some 16, .mkslice 26 1 [0], [.tmp 15], none, .al⟩,
        ⟨some 17, .append 26, [.tmp 12, .tmp 16], none, .sync⟩,
        ⟨none, .store 26, [.tmp 2, .tmp 17], none, .sync⟩]) (
      .skip))) (
    .ret)) (
    .skip))) (
  .seq (
  .seq (
  .reg false [⟨some 18, .mv, [.tmp 1], none, .sync⟩,
    ⟨some 7, .mv, [.tmp 18], none, .sync⟩]) (
  .block 0 (
    .loop [2, 5, 6, 8, 9, 10, 11, 12, 13, 14, 15, 16, 17, 18, 19, 20, 21, 22, 23, 24, 25, 26, 27, 28, 29, 30, 31, 32, 33, 34, 35, 36] [] (
      .seq (
      .seq (
      .reg false [⟨some 19, .mv, [.tmp 7], none, .sync⟩,
        ⟨some 20, .bin .geq 3, [.tmp 19, .const (.int .i64 0)], none, .sync⟩]) (
      .cond (.tmp 20) (
        .skip) (
        .exit 0))) (
      .seq (
      .block 1 (
        .seq (
        .reg false [⟨some 23, .load 31, [.tmp 3], none, .sync⟩,
          ⟨some 24, .mv, [.tmp 0], none, .sync⟩,
          ⟨some 25, .mv, [.tmp 7], none, .sync⟩,
          ⟨some 26, .iaddr 31, [.tmp 23, .tmp 24], none, .sync⟩,
          ⟨none, .store 3, [.tmp 26, .tmp 25], none, .sync⟩]) (
        .reg false [⟨some 27, .load 43, [.tmp 4], none, .sync⟩,
          ⟨some 28, .mv, [.tmp 0], none, .sync⟩,
          ⟨some 29, .bin .sub 3, [.tmp 28, .const (.int .i64 1)], none, .sync⟩,
          ⟨some 30, .mv, [.tmp 1], none, .sync⟩,
          ⟨some 31, .mv, [.tmp 7], none, .sync⟩,
          ⟨some 32, .bin .sub 3, [.tmp 30, .tmp 31], none, .sync⟩,
          ⟨some 33, .callv, [.tmp 27, .tmp 29, .tmp 32], none, .sync⟩]))) (
      .reg false [⟨some 21, .mv, [.tmp 7], none, .sync⟩,
        ⟨some 22, .bin .sub 3, [.tmp 21, .const (.int .i64 1)], none, .sync⟩,
        ⟨some 7, .mv, [.tmp 22], none, .sync⟩])))))) (
  .reg false [⟨some 34, .load 31, [.tmp 3], none, .sync⟩,
    ⟨some 35, .mv, [.tmp 0], none, .sync⟩,
    ⟨some 36, .iaddr 31, [.tmp 34, .tmp 35], none, .sync⟩,
    ⟨none, .store 3, [.tmp 36, .const (.int .i64 0)], none, .sync⟩]))⟩

/-- sosopt/sosoptref05.List -/
def F38 : Fun := ⟨17, [4],
  .seq (
  .reg false [⟨some 4, .mv, [.const (.slice none 0 0)], none, .sync⟩]) (
  .seq (
  .reg false [⟨some 5, .mv, [.const (.slice none 0 0)], none, .sync⟩]) (
  .seq (
  .seq (
  .reg false [⟨some 6, .mv, [.const (.int .i64 0)], none, .sync⟩]) (
  .block 0 (
    .loop [2, 3, 7, 8, 9, 10, 11, 12, 13, 14, 15, 16] [(5, 1)] (
      .seq (
      .seq (
      .reg false [⟨some 7, .mv, [.tmp 6], none, .sync⟩,
        ⟨some 8, .mv, [.tmp 1], none, .sync⟩,
        ⟨some 9, .bin .leq 3, [.tmp 7, .tmp 8], none, .sync⟩]) (
      .cond (.tmp 9) (
        .skip) (
        .exit 0))) (
      .seq (
      .block 1 (
        .reg false [⟨some 12, .mv, [.tmp 5], none, .sync⟩,
          ⟨some 13, .mv, [.tmp 0], none, .sync⟩,
          ⟨some 14, .mv, [.tmp 6], none, .sync⟩,
          ⟨some 15, .call 46, [.tmp 12, .tmp 13, .tmp 14], none, .sync⟩,
          ⟨some 5, .mv, [.tmp 15], none, .sync⟩])) (
      .reg false [⟨some 10, .mv, [.tmp 6], none, .sync⟩,
        ⟨some 11, .bin .add 3, [.tmp 10, .const (.int .i64 1)], none, .sync⟩,
        ⟨some 6, .mv, [.tmp 11], none, .sync⟩])))))) (
  .seq (
  .reg false [⟨some 16, .mv, [.tmp 5], none, .sync⟩,
    ⟨some 4, .mv, [.tmp 16], none, .sync⟩]) (
  .ret))))⟩

/-- sosopt/sosoptref05.count -/
def F39 : Fun := ⟨15, [4],
  .seq (
  .reg false [⟨some 4, .mv, [.const (.int .i64 0)], none, .sync⟩]) (
  .seq (
  .reg false [⟨some 8, .mv, [.tmp 0], none, .sync⟩,
    ⟨some 9, .bin .sub 3, [.tmp 8, .const (.int .i64 1)], none, .sync⟩,
    ⟨some 10, .mv, [.tmp 1], none, .sync⟩,
    ⟨some 11, .call 11, [.tmp 9, .tmp 10], none, .sync⟩,
    ⟨some 7, .mv, [.tmp 11], none, .sync⟩,
    ⟨some 12, .ext 0, [.tmp 7], none, .sync⟩,
    ⟨some 13, .ext 1, [.tmp 7], none, .sync⟩,
    ⟨some 5, .mv, [.tmp 12], none, .sync⟩,
    ⟨some 6, .mv, [.tmp 13], none, .sync⟩]) (
  .seq (
  .reg false [⟨some 14, .mv, [.tmp 5], none, .sync⟩,
    ⟨some 4, .mv, [.tmp 14], none, .sync⟩]) (
  .ret)))⟩

/-- sosopt/sosoptref05.pair -/
def F40 : Fun := ⟨18, [4],
  .seq (
  .reg false [⟨some 4, .mv, [.const (.bool false)], none, .sync⟩]) (
  .seq (
  .reg false [⟨some 5, .mv, [.tmp 0], none, .sync⟩,
    ⟨some 6, .len 31, [.tmp 5], none, .sync⟩,
    ⟨some 7, .mv, [.tmp 1], none, .sync⟩,
    ⟨some 8, .len 31, [.tmp 7], none, .sync⟩,
    ⟨some 9, .bin .eql 3, [.tmp 6, .tmp 8], none, .sync⟩,
    ⟨some 10, .mv, [.tmp 9], none, .sync⟩,
    ⟨some 11, .mv, [.tmp 0], some (10, true), .sync⟩,
    ⟨some 12, .call 23, [.tmp 11], some (10, true), .sync⟩,
    ⟨some 13, .pick, [.tmp 10, .tmp 12, .const (.bool false)], none, .sync⟩,
    ⟨some 14, .mv, [.tmp 13], none, .sync⟩,
    ⟨some 15, .mv, [.tmp 1], some (14, true), .sync⟩,
    ⟨some 16, .call 23, [.tmp 15], some (14, true), .sync⟩,
    ⟨some 17, .pick, [.tmp 14, .tmp 16, .const (.bool false)], none, .sync⟩,
    ⟨some 4, .mv, [.tmp 17], none, .sync⟩]) (
  .ret))⟩

/-- sosopt/sosoptref05.Order -/
def F41 : Fun := ⟨58, [4],
  .seq (
  .reg false [⟨some 4, .mv, [.const (.int .i64 0)], none, .sync⟩]) (
  .seq (
  .reg false [⟨some 5, .mv, [.const (.int .i64 0)], none, .sync⟩,
    ⟨some 6, .mv, [.const (.int .i64 0)], none, .sync⟩]) (
  .seq (
  .seq (
  .reg false [⟨some 7, .mv, [.const (.int .i64 0)], none, .sync⟩]) (
  .block 0 (
    .loop [2, 3, 8, 9, 10, 11, 12, 13, 14, 15, 16, 17, 18, 19, 20, 21, 22, 23, 24, 25, 26, 27, 28, 29, 30, 31, 32, 33, 34, 35, 36, 37, 38, 39, 40, 41, 42, 43, 44, 45, 46, 47, 48, 49, 50, 51, 52, 53, 54, 55, 56, 57] [] (
      .seq (
      .seq (
      .reg false [⟨some 9, .mv, [.tmp 7], none, .sync⟩,
        ⟨some 10, .mv, [.tmp 0], none, .sync⟩,
        ⟨some 11, .len 31, [.tmp 10], none, .sync⟩,
        ⟨some 12, .bin .lss 3, [.tmp 9, .tmp 11], none, .sync⟩]) (
      .cond (.tmp 12) (
        .skip) (
        .exit 0))) (
      .seq (
      .block 1 (
        .reg true [⟨some 15, .mv, [.tmp 5], none, .free⟩,
          ⟨some 16, .mv, [.tmp 0], none, .free⟩,
          ⟨some 17, .mv, [.tmp 7], none, .free⟩,
          ⟨some 18, .iaddr 31, [.tmp 16, .tmp 17], none, .free⟩,
          ⟨some 19, .load 3, [.tmp 18], none, .low⟩,
          ⟨some 20, .bin .add 3, [.tmp 15, .tmp 19], none, .free⟩,
          ⟨some 21, .mv, [.tmp 6], none, .free⟩,
          ⟨some 22, .mv, [.tmp 1], none, .free⟩,
          ⟨some 23, .mv, [.tmp 7], none, .free⟩,
          ⟨some 24, .iaddr 31, [.tmp 22, .tmp 23], none, .free⟩,
          ⟨some 25, .load 3, [.tmp 24], none, .low⟩,
          ⟨some 26, .bin .add 3, [.tmp 21, .tmp 25], none, .free⟩,
          ⟨some 5, .mv, [.tmp 20], none, .free⟩,
          ⟨some 6, .mv, [.tmp 26], none, .free⟩])) (
      .reg false [⟨some 13, .mv, [.tmp 7], none, .sync⟩,
        ⟨some 14, .bin .add 3, [.tmp 13, .const (.int .i64 1)], none, .sync⟩,
        ⟨some 7, .mv, [.tmp 14], none, .sync⟩])))))) (
  .seq (
  .seq (
  .reg false [⟨some 27, .mv, [.tmp 5], none, .sync⟩,
    ⟨some 28, .mv, [.tmp 6], none, .sync⟩,
    ⟨some 29, .bin .neq 3, [.tmp 27, .tmp 28], none, .sync⟩]) (
  .cond (.tmp 29) (
    .seq (
    .seq (
    .reg false [⟨some 30, .mv, [.tmp 5], none, .sync⟩,
      ⟨some 31, .mv, [.tmp 6], none, .sync⟩,
      ⟨some 32, .bin .lss 3, [.tmp 30, .tmp 31], none, .sync⟩]) (
    .cond (.tmp 32) (
      .seq (
      .reg false [⟨some 4, .mv, [.const (.int .i64 (-1))], none, .sync⟩]) (
      .ret)) (
      .skip))) (
    .seq (
    .reg false [⟨some 4, .mv, [.const (.int .i64 1)], none, .sync⟩]) (
    .ret))) (
    .skip))) (
  .seq (
  .seq (
  .reg false [⟨some 33, .mv, [.tmp 0], none, .sync⟩,
    ⟨some 34, .len 31, [.tmp 33], none, .sync⟩,
    ⟨some 35, .bin .sub 3, [.tmp 34, .const (.int .i64 1)], none, .sync⟩,
    ⟨some 8, .mv, [.tmp 35], none, .sync⟩]) (
  .block 2 (
    .loop [2, 3, 5, 6, 7, 9, 10, 11, 12, 13, 14, 15, 16, 17, 18, 19, 20, 21, 22, 23, 24, 25, 26, 27, 28, 29, 30, 31, 32, 33, 34, 35, 36, 37, 38, 39, 40, 41, 42, 43, 44, 45, 46, 47, 48, 49, 50, 51, 52, 53, 54, 55, 56, 57] [] (
      .seq (
      .seq (
      .reg false [⟨some 36, .mv, [.tmp 8], none, .sync⟩,
        ⟨some 37, .bin .geq 3, [.tmp 36, .const (.int .i64 0)], none, .sync⟩]) (
      .cond (.tmp 37) (
        .skip) (
        .exit 2))) (
      .seq (
      .block 3 (
        .seq (
        .reg true [⟨some 40, .mv, [.tmp 0], none, .free⟩,
          ⟨some 41, .mv, [.tmp 8], none, .free⟩,
          ⟨some 42, .iaddr 31, [.tmp 40, .tmp 41], none, .free⟩,
          ⟨some 43, .load 3, [.tmp 42], none, .low⟩,
          ⟨some 44, .mv, [.tmp 1], none, .free⟩,
          ⟨some 45, .mv, [.tmp 8], none, .free⟩,
          ⟨some 46, .iaddr 31, [.tmp 44, .tmp 45], none, .free⟩,
          ⟨some 47, .load 3, [.tmp 46], none, .low⟩,
          ⟨some 48, .bin .neq 3, [.tmp 43, .tmp 47], none, .free⟩]) (
        .cond (.tmp 48) (
          .seq (
          .seq (
          .reg true [⟨some 49, .mv, [.tmp 0], none, .free⟩,
            ⟨some 50, .mv, [.tmp 8], none, .free⟩,
            ⟨some 51, .iaddr 31, [.tmp 49, .tmp 50], none, .free⟩,
            ⟨some 52, .load 3, [.tmp 51], none, .low⟩,
            ⟨some 53, .mv, [.tmp 1], none, .free⟩,
            ⟨some 54, .mv, [.tmp 8], none, .free⟩,
            ⟨some 55, .iaddr 31, [.tmp 53, .tmp 54], none, .free⟩,
            ⟨some 56, .load 3, [.tmp 55], none, .low⟩,
            ⟨some 57, .bin .gtr 3, [.tmp 52, .tmp 56], none, .free⟩]) (
          .cond (.tmp 57) (
            .seq (
            .reg false [⟨some 4, .mv, [.const (.int .i64 (-1))], none, .sync⟩]) (
            .ret)) (
            .skip))) (
          .seq (
          .reg false [⟨some 4, .mv, [.const (.int .i64 1)], none, .sync⟩]) (
          .ret))) (
          .skip)))) (
      .reg false [⟨some 38, .mv, [.tmp 8], none, .sync⟩,
        ⟨some 39, .bin .sub 3, [.tmp 38, .const (.int .i64 1)], none, .sync⟩,
        ⟨some 8, .mv, [.tmp 39], none, .sync⟩])))))) (
  .seq (
  .reg false [⟨some 4, .mv, [.const (.int .i64 0)], none, .sync⟩]) (
  .ret))))))⟩

/-- sosopt/monomial.join -/
def F42 : Fun := ⟨51, [6, 7],
  .seq (
  .reg false [⟨some 6, .mv, [.const (.slice none 0 0)], none, .sync⟩,
    ⟨some 7, .mv, [.const (.bool false)], none, .sync⟩]) (
  .seq (
  .seq (
  .reg false [⟨some 10, .mv, [.tmp 0], none, .sync⟩,
    ⟨some 11, .len 31, [.tmp 10], none, .sync⟩,
    ⟨some 12, .mv, [.tmp 1], none, .sync⟩,
    ⟨some 13, .len 31, [.tmp 12], none, .sync⟩,
    ⟨some 14, .bin .neq 3, [.tmp 11, .tmp 13], none, .sync⟩,
    ⟨some 15, .mv, [.tmp 14], none, .sync⟩,
    ⟨some 16, .mv, [.tmp 0], some (15, false), .sync⟩,
    ⟨some 17, .call 17, [.tmp 16], some (15, false), .sync⟩,
    ⟨some 18, .un .not, [.tmp 17], some (15, false), .sync⟩,
    ⟨some 19, .pick, [.tmp 15, .const (.bool true), .tmp 18], none, .sync⟩,
    ⟨some 20, .mv, [.tmp 19], none, .sync⟩,
    ⟨some 21, .mv, [.tmp 1], some (20, false), .sync⟩,
    ⟨some 22, .call 17, [.tmp 21], some (20, false), .sync⟩,
    ⟨some 23, .un .not, [.tmp 22], some (20, false), .sync⟩,
    ⟨some 24, .pick, [.tmp 20, .const (.bool true), .tmp 23], none, .sync⟩]) (
  .cond (.tmp 24) (
    .seq (
    .reg false [⟨some 6, .mv, [.const (.slice none 0 0)], none, .sync⟩,
      ⟨some 7, .mv, [.const (.bool false)], none, .sync⟩]) (
    .ret)) (
    .skip))) (
  .seq (
  .reg false [⟨some 25, .mv, [.tmp 0], none, .sync⟩,
    ⟨some 26, .len 31, [.tmp 25], none, .sync⟩,
    ⟨some 27, .make 31, [.tmp 26, .tmp 26], none, .sync⟩,
    ⟨some 8, .mv, [.tmp 27], none, .sync⟩]) (
  .seq (
  .seq (
  .reg false [⟨some 28, .mv, [.tmp 0], none, .sync⟩,
    ⟨some 29, .len 31, [.tmp 28], none, .sync⟩,
    ⟨some 30, .mv, [.const (.int .i64 0)], none, .sync⟩]) (
  .block 0 (
    .loop [3, 4, 5, 9, 10, 11, 12, 13, 14, 15, 16, 17, 18, 19, 20, 21, 22, 23, 24, 25, 26, 27, 28, 31, 32, 33, 34, 35, 36, 37, 38, 39, 40, 41, 42, 43, 44, 45, 46, 47, 48, 49, 50] [] (
      .seq (
      .reg false [⟨some 31, .bin .lss 3, [.tmp 30, .tmp 29], none, .sync⟩]) (
      .seq (
      .cond (.tmp 31) (
        .skip) (
        .exit 0)) (
      .seq (
      .block 1 (
        .seq (
        .reg false [⟨some 32, .mv, [.tmp 30], none, .sync⟩,
          ⟨some 9, .mv, [.tmp 32], none, .sync⟩]) (
        .reg true [⟨some 33, .mv, [.tmp 8], none, .free⟩,
          ⟨some 34, .mv, [.tmp 9], none, .free⟩,
          ⟨some 35, .mv, [.tmp 2], none, .free⟩,
          ⟨some 36, .mv, [.tmp 0], none, .free⟩,
          ⟨some 37, .mv, [.tmp 9], none, .free⟩,
          ⟨some 38, .iaddr 31, [.tmp 36, .tmp 37], none, .free⟩,
          ⟨some 39, .load 3, [.tmp 38], none, .low⟩,
          ⟨some 40, .mv, [.tmp 1], none, .free⟩,
          ⟨some 41, .mv, [.tmp 9], none, .free⟩,
          ⟨some 42, .iaddr 31, [.tmp 40, .tmp 41], none, .free⟩,
          ⟨some 43, .load 3, [.tmp 42], none, .low⟩,
          ⟨some 44, .callv, [.tmp 35, .tmp 39, .tmp 43], none, .sync⟩,
          ⟨some 45, .iaddr 31, [.tmp 33, .tmp 34], none, .free⟩,
          ⟨none, .store 3, [.tmp 45, .tmp 44], none, .sync⟩]))) (
      .reg false [⟨some 46, .bin .add 3, [.tmp 30, .const (.int .i64 1)], none, .sync⟩,
        ⟨some 30, .mv, [.tmp 46], none, .sync⟩]))))))) (
  .seq (
  .seq (
  .reg false [⟨some 47, .mv, [.tmp 8], none, .sync⟩,
    ⟨some 48, .call 17, [.tmp 47], none, .sync⟩,
    ⟨some 49, .un .not, [.tmp 48], none, .sync⟩]) (
  .cond (.tmp 49) (
    .seq (
    .reg false [⟨some 6, .mv, [.const (.slice none 0 0)], none, .sync⟩,
      ⟨some 7, .mv, [.const (.bool false)], none, .sync⟩]) (
    .ret)) (
    .skip))) (
  .seq (
  .reg false [⟨some 50, .mv, [.tmp 8], none, .sync⟩,
    ⟨some 6, .mv, [.tmp 50], none, .sync⟩,
    ⟨some 7, .mv, [.const (.bool true)], none, .sync⟩]) (
  .ret))))))⟩

/-- sosopt/monomial.Mul$1 -/
def F43 : Fun := ⟨8, [4],
  .seq (
  .reg false [⟨some 4, .mv, [.const (.int .i64 0)], none, .sync⟩]) (
  .seq (
  .reg false [⟨some 5, .mv, [.tmp 0], none, .sync⟩,
    ⟨some 6, .mv, [.tmp 1], none, .sync⟩,
    ⟨some 7, .bin .add 3, [.tmp 5, .tmp 6], none, .sync⟩,
    ⟨some 4, .mv, [.tmp 7], none, .sync⟩]) (
  .ret))⟩

/-- sosopt/monomial.Div$1 -/
def F44 : Fun := ⟨8, [4],
  .seq (
  .reg false [⟨some 4, .mv, [.const (.int .i64 0)], none, .sync⟩]) (
  .seq (
  .reg false [⟨some 5, .mv, [.tmp 0], none, .sync⟩,
    ⟨some 6, .mv, [.tmp 1], none, .sync⟩,
    ⟨some 7, .bin .sub 3, [.tmp 5, .tmp 6], none, .sync⟩,
    ⟨some 4, .mv, [.tmp 7], none, .sync⟩]) (
  .ret))⟩

/-- sosopt/monomial.Lcm$1 -/
def F45 : Fun := ⟨8, [4],
  .seq (
  .reg false [⟨some 4, .mv, [.const (.int .i64 0)], none, .sync⟩]) (
  .seq (
  .reg false [⟨some 5, .mv, [.tmp 0], none, .sync⟩,
    ⟨some 6, .mv, [.tmp 1], none, .sync⟩,
    ⟨some 7, .max, [.tmp 5, .tmp 6], none, .sync⟩,
    ⟨some 4, .mv, [.tmp 7], none, .sync⟩]) (
  .ret))⟩

/-- sosopt/sosoptref05.exact -/
def F46 : Fun := ⟨55, [6],
  .seq (
  .reg false [⟨some 6, .mv, [.const (.slice none 0 0)], none, .sync⟩]) (
  .seq (
  .seq (
  .reg false [⟨some 10, .mv, [.tmp 1], none, .sync⟩,
    ⟨some 11, .bin .eql 3, [.tmp 10, .const (.int .i64 0)], none, .sync⟩]) (
  .cond (.tmp 11) (
    .seq (
    .seq (
    .reg false [⟨some 12, .mv, [.tmp 2], none, .sync⟩,
      ⟨some 13, .bin .eql 3, [.tmp 12, .const (.int .i64 0)], none, .sync⟩]) (
    .cond (.tmp 13) (
      .reg false [⟨some 14, .mv, [.tmp 0], none, .sync⟩,
        ⟨some 15, .mkslice 26 1 [0], [.const (.slice none 0 0)], none, .sync⟩,
        ⟨some 16, .append 26, [.tmp 14, .tmp 15], none, .sync⟩,
        ⟨some 0, .mv, [.tmp 16], none, .sync⟩]) (
      .skip))) (
    .seq (
    .reg false [⟨some 17, .mv, [.tmp 0], none, .sync⟩,
      ⟨some 6, .mv, [.tmp 17], none, .sync⟩]) (
    .ret))) (
    .skip))) (
  .seq (
  .seq (
  .reg false [⟨some 18, .mv, [.tmp 1], none, .sync⟩,
    ⟨some 19, .bin .eql 3, [.tmp 18, .const (.int .i64 1)], none, .sync⟩]) (
  .cond (.tmp 19) (
    .seq (
    .reg false [⟨some 20, .mv, [.tmp 0], none, .sync⟩,
      ⟨some 21, .mv, [.tmp 2], none, .sync⟩,
      ⟨some 22, .mkslice 31 1 [0], [.tmp 21], none, .sync⟩,
      ⟨some 23, .mkslice 26 1 [0], [.tmp 22], none, .sync⟩,
      ⟨some 24, .append 26, [.tmp 20, .tmp 23], none, .sync⟩,
      ⟨some 6, .mv, [.tmp 24], none, .sync⟩]) (
    .ret)) (
    .skip))) (
  .seq (
  .seq (
  .reg false [⟨some 25, .mv, [.tmp 2], none, .sync⟩,
    ⟨some 7, .mv, [.tmp 25], none, .sync⟩]) (
  .block 0 (
    .loop [3, 4, 5, 8, 9, 10, 11, 12, 13, 14, 15, 16, 17, 18, 19, 20, 21, 22, 23, 24, 25, 26, 27, 28, 29, 30, 31, 32, 33, 34, 35, 36, 37, 38, 39, 40, 41, 42, 43, 44, 45, 46, 47, 48, 49, 50, 51, 52, 53, 54] [(0, 1)] (
      .seq (
      .seq (
      .reg false [⟨some 26, .mv, [.tmp 7], none, .sync⟩,
        ⟨some 27, .bin .geq 3, [.tmp 26, .const (.int .i64 0)], none, .sync⟩]) (
      .cond (.tmp 27) (
        .skip) (
        .exit 0))) (
      .seq (
      .block 1 (
        .seq (
        .reg false [⟨some 30, .mv, [.tmp 1], none, .sync⟩,
          ⟨some 31, .bin .sub 3, [.tmp 30, .const (.int .i64 1)], none, .sync⟩,
          ⟨some 32, .mv, [.tmp 2], none, .sync⟩,
          ⟨some 33, .mv, [.tmp 7], none, .sync⟩,
          ⟨some 34, .bin .sub 3, [.tmp 32, .tmp 33], none, .sync⟩,
          ⟨some 35, .call 46, [.const (.slice none 0 0), .tmp 31, .tmp 34], none, .sync⟩,
          ⟨some 8, .mv, [.tmp 35], none, .sync⟩]) (
        .seq (
        .reg false [⟨some 9, .mv, [.const (.int .i64 0)], none, .sync⟩]) (
        .block 2 (
          .loop [3, 4, 5, 10, 11, 12, 13, 14, 15, 16, 17, 18, 19, 20, 21, 22, 23, 24, 25, 26, 27, 28, 29, 30, 31, 32, 33, 34, 35, 36, 37, 38, 39, 40, 41, 42, 43, 44, 45, 46, 47, 48, 49, 50, 51, 52, 53, 54] [(0, 1)] (
            .seq (
            .seq (
            .reg false [⟨some 36, .mv, [.tmp 9], none, .sync⟩,
              ⟨some 37, .mv, [.tmp 8], none, .sync⟩,
              ⟨some 38, .len 26, [.tmp 37], none, .sync⟩,
              ⟨some 39, .bin .lss 3, [.tmp 36, .tmp 38], none, .sync⟩]) (
            .cond (.tmp 39) (
              .skip) (
              .exit 2))) (
            .seq (
            .block 3 (
              .reg false [⟨some 42, .mv, [.tmp 0], none, .sync⟩,
                ⟨some 43, .mkslice 31 0 [], [], none, .sync⟩,
                ⟨some 44, .mv, [.tmp 8], none, .sync⟩,
                ⟨some 45, .mv, [.tmp 9], none, .sync⟩,
                ⟨some 46, .iaddr 26, [.tmp 44, .tmp 45], none, .sync⟩,
                ⟨some 47, .load 31, [.tmp 46], none, .sync⟩,
                ⟨some 48, .append 31, [.tmp 43, .tmp 47], none, .sync⟩,
                ⟨some 49, .mv, [.tmp 7], none, .sync⟩,
                ⟨some 50, .mkslice 31 1 [0], [.tmp 49], none, .sync⟩,
                ⟨some 51, .append 31, [.tmp 48, .tmp 50], none, .sync⟩,
                ⟨some 52, .mkslice 26 1 [0], [.tmp 51], none, .sync⟩,
                ⟨some 53, .append 26, [.tmp 42, .tmp 52], none, .sync⟩,
                ⟨some 0, .mv, [.tmp 53], none, .sync⟩])) (
            .reg false [⟨some 40, .mv, [.tmp 9], none, .sync⟩,
              ⟨some 41, .bin .add 3, [.tmp 40, .const (.int .i64 1)], none, .sync⟩,
              ⟨some 9, .mv, [.tmp 41], none, .sync⟩])))))))) (
      .reg false [⟨some 28, .mv, [.tmp 7], none, .sync⟩,
        ⟨some 29, .bin .sub 3, [.tmp 28, .const (.int .i64 1)], none, .sync⟩,
        ⟨some 7, .mv, [.tmp 29], none, .sync⟩])))))) (
  .seq (
  .reg false [⟨some 54, .mv, [.tmp 0], none, .sync⟩,
    ⟨some 6, .mv, [.tmp 54], none, .sync⟩]) (
  .ret)))))⟩

def fns : List (Go.FuncId × Fun) := [(3, F3), (4, F4), (5, F5), (6, F6), (7, F7), (8, F8), (9, F9), (10, F10), (11, F11), (12, F12), (13, F13), (14, F14), (15, F15), (16, F16), (17, F17), (18, F18), (19, F19), (20, F20), (21, F21), (22, F22), (23, F23), (24, F24), (25, F25), (26, F26), (27, F27), (28, F28), (29, F29), (30, F30), (31, F31), (32, F32), (33, F33), (34, F34), (35, F35), (36, F36), (37, F37), (38, F38), (39, F39), (40, F40), (41, F41), (42, F42), (43, F43), (44, F44), (45, F45), (46, F46)]
end Go.Proofs.Ytmomipeoigffgaa
