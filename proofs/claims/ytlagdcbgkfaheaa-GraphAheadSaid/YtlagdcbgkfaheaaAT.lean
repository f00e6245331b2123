/- The table of this seat's types and functions that the engine asks; that it fits, by the kernel. Written by gentab.py. -/
import Derived.Test.YtlagdcbgkfaheaaA1
import Derived.KernelRfl
set_option maxRecDepth 100000
namespace Go.Abs
open Go
def tis : List TI := [
  default,
  ⟨true, .func, false, 1, 8, false, [.nilFunc]⟩,
  ⟨true, (.int .i64), false, 1, 8, false, [.int .i64 0]⟩,
  ⟨true, (.int .i64), false, 1, 8, false, [.int .i64 0]⟩,
  ⟨true, .bool, false, 1, 1, false, [.bool false]⟩,
  ⟨true, (.int .u8), false, 1, 1, false, [.int .u8 0]⟩,
  ⟨true, (.int .u8), false, 1, 1, false, [.int .u8 0]⟩,
  ⟨true, (.struct [(0, 2), (1, 3), (2, 4), (3, 6)]), true, 4, 24, true, [.int .i64 0, .int .i64 0, .bool false, .int .u8 0]⟩,
  ⟨true, (.struct [(0, 2), (1, 3), (2, 4), (3, 6)]), true, 4, 24, true, [.int .i64 0, .int .i64 0, .bool false, .int .u8 0]⟩,
  ⟨true, .string, false, 1, 16, false, [.string ⟨#[]⟩]⟩,
  ⟨true, .string, false, 1, 16, false, [.string ⟨#[]⟩]⟩,
  ⟨true, .string, false, 1, 16, false, [.string ⟨#[]⟩]⟩,
  ⟨true, (.int .u64), false, 1, 8, false, [.int .u64 0]⟩,
  ⟨true, (.struct [(0, 9), (1, 12)]), true, 2, 24, true, [.string ⟨#[]⟩, .int .u64 0]⟩,
  ⟨true, (.struct [(0, 9), (1, 12)]), true, 2, 24, true, [.string ⟨#[]⟩, .int .u64 0]⟩,
  ⟨true, .pointer, false, 1, 8, false, [.pointer none]⟩,
  ⟨true, .pointer, false, 1, 8, false, [.pointer none]⟩,
  ⟨true, .pointer, false, 1, 8, false, [.pointer none]⟩,
  ⟨true, (.struct [(0, 17)]), true, 1, 8, true, [.pointer none]⟩,
  ⟨true, (.struct [(0, 17)]), true, 1, 8, true, [.pointer none]⟩,
  ⟨true, .iface, false, 1, 16, false, [.nilIface]⟩,
  ⟨true, (.int .i32), false, 1, 4, false, [.int .i32 0]⟩,
  ⟨true, (.int .u64), false, 1, 8, false, [.int .u64 0]⟩,
  ⟨true, .func, false, 1, 8, false, [.nilFunc]⟩,
  ⟨true, .func, false, 1, 8, false, [.nilFunc]⟩,
  ⟨true, .func, false, 1, 8, false, [.nilFunc]⟩,
  ⟨true, .func, false, 1, 8, false, [.nilFunc]⟩,
  ⟨true, .func, false, 1, 8, false, [.nilFunc]⟩,
  ⟨true, (.slice 22), false, 1, 24, false, [.slice none 0 0]⟩,
  ⟨true, .func, false, 1, 8, false, [.nilFunc]⟩,
  ⟨true, .func, false, 1, 8, false, [.nilFunc]⟩,
  default,
  ⟨true, .func, false, 1, 8, false, [.nilFunc]⟩,
  ⟨true, .func, false, 1, 8, false, [.nilFunc]⟩,
  ⟨true, .func, false, 1, 8, false, [.nilFunc]⟩,
  ⟨true, .func, false, 1, 8, false, [.nilFunc]⟩,
  default,
  ⟨true, .func, false, 1, 8, false, [.nilFunc]⟩,
  ⟨true, .func, false, 1, 8, false, [.nilFunc]⟩,
  ⟨true, .func, false, 1, 8, false, [.nilFunc]⟩,
  ⟨true, (.slice 9), false, 1, 24, false, [.slice none 0 0]⟩,
  ⟨true, (.struct [(0, 9), (1, 4), (2, 22), (3, 40)]), true, 4, 56, true, [.string ⟨#[]⟩, .bool false, .int .u64 0, .slice none 0 0]⟩,
  ⟨true, (.struct [(0, 9), (1, 4), (2, 22), (3, 40)]), true, 4, 56, true, [.string ⟨#[]⟩, .bool false, .int .u64 0, .slice none 0 0]⟩,
  ⟨true, (.slice 51), false, 1, 24, false, [.slice none 0 0]⟩,
  ⟨true, .func, false, 1, 8, false, [.nilFunc]⟩,
  ⟨true, .func, false, 1, 8, false, [.nilFunc]⟩,
  ⟨true, .func, false, 1, 8, false, [.nilFunc]⟩,
  ⟨true, .func, false, 1, 8, false, [.nilFunc]⟩,
  ⟨true, (.array 2 22), true, 2, 16, true, [.int .u64 0, .int .u64 0]⟩,
  ⟨true, (.slice 104), false, 1, 24, false, [.slice none 0 0]⟩,
  ⟨true, (.struct [(0, 3), (1, 9), (2, 22), (3, 49), (4, 22), (5, 22), (6, 9)]), true, 7, 88, true, [.int .i64 0, .string ⟨#[]⟩, .int .u64 0, .slice none 0 0, .int .u64 0, .int .u64 0, .string ⟨#[]⟩]⟩,
  ⟨true, (.struct [(0, 3), (1, 9), (2, 22), (3, 49), (4, 22), (5, 22), (6, 9)]), true, 7, 88, true, [.int .i64 0, .string ⟨#[]⟩, .int .u64 0, .slice none 0 0, .int .u64 0, .int .u64 0, .string ⟨#[]⟩]⟩,
  ⟨true, (.int .i64), false, 1, 8, false, [.int .i64 0]⟩,
  default,
  ⟨true, .func, false, 1, 8, false, [.nilFunc]⟩,
  default,
  ⟨true, .func, false, 1, 8, false, [.nilFunc]⟩,
  ⟨true, .func, false, 1, 8, false, [.nilFunc]⟩,
  ⟨true, .func, false, 1, 8, false, [.nilFunc]⟩,
  ⟨true, .func, false, 1, 8, false, [.nilFunc]⟩,
  ⟨true, .func, false, 1, 8, false, [.nilFunc]⟩,
  ⟨true, (.slice 42), false, 1, 24, false, [.slice none 0 0]⟩,
  ⟨true, .func, false, 1, 8, false, [.nilFunc]⟩,
  ⟨true, (.slice 3), false, 1, 24, false, [.slice none 0 0]⟩,
  default,
  ⟨true, .func, false, 1, 8, false, [.nilFunc]⟩,
  ⟨true, .func, false, 1, 8, false, [.nilFunc]⟩,
  ⟨true, .func, false, 1, 8, false, [.nilFunc]⟩,
  ⟨true, .func, false, 1, 8, false, [.nilFunc]⟩,
  ⟨true, .func, false, 1, 8, false, [.nilFunc]⟩,
  ⟨true, (.slice 5), false, 1, 24, false, [.slice none 0 0]⟩,
  ⟨true, (.map 9 4), false, 1, 8, false, [.map none]⟩,
  ⟨true, .func, false, 1, 8, false, [.nilFunc]⟩,
  ⟨true, (.slice 116), false, 1, 24, false, [.slice none 0 0]⟩,
  ⟨true, .func, false, 1, 8, false, [.nilFunc]⟩,
  default,
  ⟨true, .func, false, 1, 8, false, [.nilFunc]⟩,
  default,
  ⟨true, .func, false, 1, 8, false, [.nilFunc]⟩,
  ⟨true, .func, false, 1, 8, false, [.nilFunc]⟩,
  ⟨true, .func, false, 1, 8, false, [.nilFunc]⟩,
  ⟨true, .func, false, 1, 8, false, [.nilFunc]⟩,
  ⟨true, .func, false, 1, 8, false, [.nilFunc]⟩,
  ⟨true, .func, false, 1, 8, false, [.nilFunc]⟩,
  ⟨true, .func, false, 1, 8, false, [.nilFunc]⟩,
  ⟨true, .func, false, 1, 8, false, [.nilFunc]⟩,
  ⟨true, .func, false, 1, 8, false, [.nilFunc]⟩,
  ⟨true, (.int .u64), false, 1, 8, false, [.int .u64 0]⟩,
  ⟨true, .func, false, 1, 8, false, [.nilFunc]⟩,
  ⟨true, (.array 16 5), true, 16, 16, true, [.int .u8 0, .int .u8 0, .int .u8 0, .int .u8 0, .int .u8 0, .int .u8 0, .int .u8 0, .int .u8 0, .int .u8 0, .int .u8 0, .int .u8 0, .int .u8 0, .int .u8 0, .int .u8 0, .int .u8 0, .int .u8 0]⟩,
  ⟨true, .func, false, 1, 8, false, [.nilFunc]⟩,
  ⟨true, .func, false, 1, 8, false, [.nilFunc]⟩,
  ⟨true, .func, false, 1, 8, false, [.nilFunc]⟩,
  ⟨true, .func, false, 1, 8, false, [.nilFunc]⟩,
  default,
  ⟨true, .func, false, 1, 8, false, [.nilFunc]⟩,
  ⟨true, .func, false, 1, 8, false, [.nilFunc]⟩,
  ⟨true, (.struct [(0, 96), (1, 3)]), true, 2, 16, true, [.nilFunc, .int .i64 0]⟩,
  ⟨true, (.struct [(0, 96), (1, 3)]), true, 2, 16, true, [.nilFunc, .int .i64 0]⟩,
  ⟨true, (.array 4 98), true, 8, 64, true, [.nilFunc, .int .i64 0, .nilFunc, .int .i64 0, .nilFunc, .int .i64 0, .nilFunc, .int .i64 0]⟩,
  ⟨true, .func, false, 1, 8, false, [.nilFunc]⟩,
  ⟨true, (.struct [(0, 42), (4, 51), (11, 4), (12, 28)]), true, 13, 176, true, [.string ⟨#[]⟩, .bool false, .int .u64 0, .slice none 0 0, .int .i64 0, .string ⟨#[]⟩, .int .u64 0, .slice none 0 0, .int .u64 0, .int .u64 0, .string ⟨#[]⟩, .bool false, .slice none 0 0]⟩,
  ⟨true, (.struct [(0, 42), (4, 51), (11, 4), (12, 28)]), true, 13, 176, true, [.string ⟨#[]⟩, .bool false, .int .u64 0, .slice none 0 0, .int .i64 0, .string ⟨#[]⟩, .int .u64 0, .slice none 0 0, .int .u64 0, .int .u64 0, .string ⟨#[]⟩, .bool false, .slice none 0 0]⟩,
  ⟨true, (.struct [(0, 9), (1, 22), (2, 4)]), true, 3, 32, true, [.string ⟨#[]⟩, .int .u64 0, .bool false]⟩,
  ⟨true, (.struct [(0, 9), (1, 22), (2, 4)]), true, 3, 32, true, [.string ⟨#[]⟩, .int .u64 0, .bool false]⟩,
  ⟨true, .func, false, 1, 8, false, [.nilFunc]⟩,
  ⟨true, .func, false, 1, 8, false, [.nilFunc]⟩,
  ⟨true, .pointer, false, 1, 8, false, [.pointer none]⟩,
  ⟨true, .func, false, 1, 8, false, [.nilFunc]⟩,
  ⟨true, .func, false, 1, 8, false, [.nilFunc]⟩,
  ⟨true, (.map 9 3), false, 1, 8, false, [.map none]⟩,
  ⟨true, .func, false, 1, 8, false, [.nilFunc]⟩,
  default,
  ⟨true, .func, false, 1, 8, false, [.nilFunc]⟩,
  ⟨true, .func, false, 1, 8, false, [.nilFunc]⟩,
  ⟨true, (.struct [(0, 9), (1, 4), (2, 22)]), true, 3, 32, true, [.string ⟨#[]⟩, .bool false, .int .u64 0]⟩,
  ⟨true, (.struct [(0, 9), (1, 4), (2, 22)]), true, 3, 32, true, [.string ⟨#[]⟩, .bool false, .int .u64 0]⟩,
  ⟨true, (.map 9 22), false, 1, 8, false, [.map none]⟩,
  ⟨true, .func, false, 1, 8, false, [.nilFunc]⟩,
  ⟨true, .func, false, 1, 8, false, [.nilFunc]⟩,
  ⟨true, .func, false, 1, 8, false, [.nilFunc]⟩,
  ⟨true, .func, false, 1, 8, false, [.nilFunc]⟩,
  ⟨true, .func, false, 1, 8, false, [.nilFunc]⟩,
  ⟨true, (.slice 85), false, 1, 24, false, [.slice none 0 0]⟩,
  ⟨true, .pointer, false, 1, 8, false, [.pointer none]⟩,
  ⟨true, (.struct [(0, 124), (1, 70)]), true, 2, 32, true, [.pointer none, .slice none 0 0]⟩,
  ⟨true, (.struct [(0, 124), (1, 70)]), true, 2, 32, true, [.pointer none, .slice none 0 0]⟩,
  ⟨true, .iface, false, 1, 16, false, [.nilIface]⟩,
  ⟨true, .iface, false, 1, 16, false, [.nilIface]⟩,
  ⟨true, .func, false, 1, 8, false, [.nilFunc]⟩,
  default,
  ⟨true, .func, false, 1, 8, false, [.nilFunc]⟩,
  ⟨true, .func, false, 1, 8, false, [.nilFunc]⟩,
  ⟨true, .func, false, 1, 8, false, [.nilFunc]⟩,
  ⟨true, .func, false, 1, 8, false, [.nilFunc]⟩,
  ⟨true, .func, false, 1, 8, false, [.nilFunc]⟩,
  ⟨true, .func, false, 1, 8, false, [.nilFunc]⟩,
  ⟨true, .func, false, 1, 8, false, [.nilFunc]⟩,
  ⟨true, .func, false, 1, 8, false, [.nilFunc]⟩,
  ⟨true, (.struct [(0, 40), (1, 110)]), true, 2, 32, true, [.slice none 0 0, .map none]⟩,
  ⟨true, (.struct [(0, 40), (1, 110)]), true, 2, 32, true, [.slice none 0 0, .map none]⟩,
  ⟨true, (.struct [(0, 140)]), true, 2, 32, true, [.slice none 0 0, .map none]⟩,
  ⟨true, (.struct [(0, 140)]), true, 2, 32, true, [.slice none 0 0, .map none]⟩,
  ⟨true, .func, false, 1, 8, false, [.nilFunc]⟩,
  ⟨true, .func, false, 1, 8, false, [.nilFunc]⟩,
  ⟨true, .func, false, 1, 8, false, [.nilFunc]⟩,
  ⟨true, .pointer, false, 1, 8, false, [.pointer none]⟩,
  ⟨true, .func, false, 1, 8, false, [.nilFunc]⟩,
  ⟨true, .func, false, 1, 8, false, [.nilFunc]⟩,
  ⟨true, .func, false, 1, 8, false, [.nilFunc]⟩,
  ⟨true, .func, false, 1, 8, false, [.nilFunc]⟩,
  ⟨true, .func, false, 1, 8, false, [.nilFunc]⟩,
  ⟨true, .pointer, false, 1, 8, false, [.pointer none]⟩,
  default,
  ⟨true, .func, false, 1, 8, false, [.nilFunc]⟩,
  ⟨true, (.struct [(0, 17), (1, 17), (2, 17), (3, 9)]), true, 4, 40, true, [.pointer none, .pointer none, .pointer none, .string ⟨#[]⟩]⟩,
  ⟨true, (.struct [(0, 17), (1, 17), (2, 17), (3, 9)]), true, 4, 40, true, [.pointer none, .pointer none, .pointer none, .string ⟨#[]⟩]⟩,
  ⟨true, (.array 0 16), true, 0, 0, true, []⟩,
  ⟨true, (.struct [(0, 157)]), true, 0, 0, true, []⟩,
  ⟨true, (.struct [(0, 157)]), true, 0, 0, true, []⟩,
  ⟨true, (.int .u32), false, 1, 4, false, [.int .u32 0]⟩,
  ⟨true, (.int .u8), false, 1, 1, false, [.int .u8 0]⟩,
  ⟨true, (.int .u8), false, 1, 1, false, [.int .u8 0]⟩,
  ⟨true, .func, false, 1, 8, false, [.nilFunc]⟩,
  ⟨true, (.int .i32), false, 1, 4, false, [.int .i32 0]⟩,
  ⟨true, (.int .i32), false, 1, 4, false, [.int .i32 0]⟩,
  ⟨true, (.struct [(0, 12), (1, 12), (2, 160), (3, 161), (4, 5), (5, 5), (6, 162), (7, 163), (8, 146), (9, 164), (10, 165)]), true, 11, 48, true, [.int .u64 0, .int .u64 0, .int .u32 0, .int .u8 0, .int .u8 0, .int .u8 0, .int .u8 0, .nilFunc, .pointer none, .int .i32 0, .int .i32 0]⟩,
  ⟨true, (.struct [(0, 12), (1, 12), (2, 160), (3, 161), (4, 5), (5, 5), (6, 162), (7, 163), (8, 146), (9, 164), (10, 165)]), true, 11, 48, true, [.int .u64 0, .int .u64 0, .int .u32 0, .int .u8 0, .int .u8 0, .int .u8 0, .int .u8 0, .nilFunc, .pointer none, .int .i32 0, .int .i32 0]⟩,
  ⟨true, .func, false, 1, 8, false, [.nilFunc]⟩]
def fnsOk : List Bool := [false, false, false, true, true, true, true, true, true, true, true, true, true, true, true, true, true, true, true, true, true, true, true, true, true, true, true, true, true, true, true, true, true, true, true, true, true, true, true, true, true, true, true, true, true, true, true, true, true, true, true, true, true, true, true, true, true, true, true, true, true, true, true, true, true, true, true, true, true, true, true, true, true, true, true, true, true, true, true, true, true, true, true, true, true, true, true, true, true, false, true, true, true, true, true, true, true, true, true, true, true, true, true, true, true, true, true, true, true, true, false, false, false, false, false, false, false, false, false, false, false, false, false, false, false, false, false, false, false, false]
def tisOk : List Nat := [1, 2, 3, 4, 5, 6, 7, 8, 9, 10, 11, 12, 13, 14, 15, 16, 17, 18, 19, 20, 21, 22, 23, 24, 25, 26, 27, 28, 29, 30, 32, 33, 34, 35, 37, 38, 39, 40, 41, 42, 43, 44, 45, 46, 47, 48, 49, 50, 51, 52, 54, 56, 57, 58, 59, 60, 61, 62, 63, 65, 66, 67, 68, 69, 70, 71, 72, 73, 74, 76, 78, 79, 80, 81, 82, 83, 84, 85, 86, 87, 88, 89, 90, 91, 92, 93, 95, 96, 97, 98, 99, 100, 101, 102, 103, 104, 105, 106, 107, 108, 109, 110, 111, 113, 114, 115, 116, 117, 118, 119, 120, 121, 122, 123, 124, 125, 126, 127, 128, 129, 131, 132, 133, 134, 135, 136, 137, 138, 139, 140, 141, 142, 143, 144, 145, 146, 147, 148, 149, 150, 151, 152, 154, 155, 156, 157, 158, 159, 160, 161, 162, 163, 164, 165, 166, 167, 168]
def eqsOk : List Bool := [false, false, false, false, false, false, false, false, false, false, false, false, false, false, false, false, false, false, false, false, false, false, false, false, false, false, false, false, false, false, false, false, false, false, false, false, false, false, false, false, false, false, false, false, false, false, false, false, false, false, false, false, false, false, false, false, false, false, false, false, false, false, false, false, false, false, false, false, false, false, false, false, false, false, false, false, false, false, false, false, false, false, false, false, false, false, false, false, false, false, false, false, false, false, false, false, false, false, false, false, false, false, false, false, true, false, false, false, false, false, false, false, false, false, false, false, true, false, false, false, false, false, false, false, false, false, false, false, false, false, false, false, false, false, false, false, false, false, false, false, false, false, false, false, false, false, false, false, false, false, false, false, false, false, false, false, false, false, false, false, false, false, false, false, false, false, false, false, false]
def tab : Tab := ⟨fun t => tis.getD t default, fun g => fnsOk.getD g false, fun t => eqsOk.getD t false⟩
theorem eqs_eq : (List.range 169).all (fun t => !(eqsOk.getD t false) || eqTy Go.Proofs.Try.prog t) = true := by kernel_rfl
theorem eqs_len : eqsOk.length = 169 := by kernel_rfl
theorem tis_eq : tisOk.map (fun t => tis.getD t default) = tisOk.map (tiOf Go.Proofs.Try.prog) := by kernel_rfl
theorem tis_in : (List.range 169).all (fun t => !(tis.getD t default).ok || tisOk.contains t) = true := by kernel_rfl
theorem fns_eq : (List.range 130).all (fun g => !(fnsOk.getD g false) || canEnter Go.Proofs.Try.prog g) = true := by kernel_rfl
theorem tis_len : tis.length = 169 := by kernel_rfl
theorem fns_len : fnsOk.length = 130 := by kernel_rfl
theorem draws_all : Go.Proofs.Try.prog.funcs.all fnApart = true := by kernel_rfl
theorem mixed_ok : Go.Proofs.Try.prog.follows .mixedOrders = true := by kernel_rfl
theorem tab_ok : TabOk Go.Proofs.Try.prog tab where
  ti := by
    intro t h
    have ht : t < 169 := by
      rcases Nat.lt_or_ge t tis.length with h1 | h1
      · rw [tis_len] at h1; exact h1
      · exfalso
        have : tis.getD t default = (default : TI) := by simp [List.getD_eq_getElem?_getD, List.getElem?_eq_none h1]
        simp only [tab, this] at h
        cases h
    have h2 := List.all_eq_true.1 tis_in t (List.mem_range.2 ht)
    have h3 : (tis.getD t default).ok = true := h
    rw [h3] at h2
    have hm : t ∈ tisOk := by simpa using h2
    have := List.map_inj_left.1 tis_eq t hm
    exact this
  fn := by
    intro g h
    have hg : g < 130 := by
      rcases Nat.lt_or_ge g fnsOk.length with h1 | h1
      · rw [fns_len] at h1; exact h1
      · exfalso
        have : fnsOk.getD g false = false := by simp [List.getD_eq_getElem?_getD, List.getElem?_eq_none h1]
        simp only [tab, this] at h
        cases h
    have h2 := List.all_eq_true.1 fns_eq g (List.mem_range.2 hg)
    have h3 : fnsOk.getD g false = true := h
    rw [h3] at h2
    simpa using h2
  eqs := by
    intro t h
    have ht : t < 169 := by
      rcases Nat.lt_or_ge t eqsOk.length with h1 | h1
      · rw [eqs_len] at h1; exact h1
      · exfalso
        have : eqsOk.getD t false = false := by simp [List.getD_eq_getElem?_getD, List.getElem?_eq_none h1]
        simp only [tab, this] at h
        cases h
    have h2 := List.all_eq_true.1 eqs_eq t (List.mem_range.2 ht)
    have h3 : eqsOk.getD t false = true := h
    rw [h3] at h2
    simpa using h2
  draws := fun g fn h => Array.all_eq_true'.1 draws_all fn (Array.mem_of_getElem? h)
  mixed := mixed_ok
end Go.Abs
