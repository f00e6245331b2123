/- The table of this seat's types and functions that the engine asks; that it fits, by the kernel. Written by gentab.py. -/
import Derived.Test.YthgjcmfbfigpbaaDoorA1
import Derived.KernelRfl
set_option maxRecDepth 100000
namespace Go.Abs
open Go
def tis : List TI := [
  default,
  ⟨true, .func, false, 1, 8, false, [.nilFunc]⟩,
  ⟨true, (.int .i64), false, 1, 8, false, [.int .i64 0]⟩,
  ⟨true, (.int .i64), false, 1, 8, false, [.int .i64 0]⟩,
  ⟨true, .bool, false, 1, 1, false, [.bool false]⟩,
  ⟨true, (.int .u8), false, 1, 1, false, [.int .u8 0]⟩,
  ⟨true, (.int .u8), false, 1, 1, false, [.int .u8 0]⟩,
  ⟨true, (.struct [(0, 2), (1, 3), (2, 4), (3, 6)]), true, 4, 24, true, [.int .i64 0, .int .i64 0, .bool false, .int .u8 0]⟩,
  ⟨true, (.struct [(0, 2), (1, 3), (2, 4), (3, 6)]), true, 4, 24, true, [.int .i64 0, .int .i64 0, .bool false, .int .u8 0]⟩,
  ⟨true, .string, false, 1, 16, false, [.string ⟨#[]⟩]⟩,
  ⟨true, .string, false, 1, 16, false, [.string ⟨#[]⟩]⟩,
  ⟨true, .string, false, 1, 16, false, [.string ⟨#[]⟩]⟩,
  ⟨true, (.int .u64), false, 1, 8, false, [.int .u64 0]⟩,
  ⟨true, (.struct [(0, 9), (1, 12)]), true, 2, 24, true, [.string ⟨#[]⟩, .int .u64 0]⟩,
  ⟨true, (.struct [(0, 9), (1, 12)]), true, 2, 24, true, [.string ⟨#[]⟩, .int .u64 0]⟩,
  ⟨true, .pointer, false, 1, 8, false, [.pointer none]⟩,
  ⟨true, .pointer, false, 1, 8, false, [.pointer none]⟩,
  ⟨true, .pointer, false, 1, 8, false, [.pointer none]⟩,
  ⟨true, (.struct [(0, 17)]), true, 1, 8, true, [.pointer none]⟩,
  ⟨true, (.struct [(0, 17)]), true, 1, 8, true, [.pointer none]⟩,
  ⟨true, .iface, false, 1, 16, false, [.nilIface]⟩,
  ⟨true, (.int .i32), false, 1, 4, false, [.int .i32 0]⟩,
  ⟨true, (.int .u64), false, 1, 8, false, [.int .u64 0]⟩,
  ⟨true, (.slice 35), false, 1, 24, false, [.slice none 0 0]⟩,
  ⟨true, (.struct [(0, 3), (1, 9), (2, 22), (3, 23), (4, 22), (5, 22), (6, 9)]), true, 7, 88, true, [.int .i64 0, .string ⟨#[]⟩, .int .u64 0, .slice none 0 0, .int .u64 0, .int .u64 0, .string ⟨#[]⟩]⟩,
  ⟨true, (.struct [(0, 3), (1, 9), (2, 22), (3, 23), (4, 22), (5, 22), (6, 9)]), true, 7, 88, true, [.int .i64 0, .string ⟨#[]⟩, .int .u64 0, .slice none 0 0, .int .u64 0, .int .u64 0, .string ⟨#[]⟩]⟩,
  ⟨true, .func, false, 1, 8, false, [.nilFunc]⟩,
  ⟨true, .func, false, 1, 8, false, [.nilFunc]⟩,
  ⟨true, (.int .i64), false, 1, 8, false, [.int .i64 0]⟩,
  default,
  ⟨true, .func, false, 1, 8, false, [.nilFunc]⟩,
  default,
  ⟨true, .func, false, 1, 8, false, [.nilFunc]⟩,
  ⟨true, .func, false, 1, 8, false, [.nilFunc]⟩,
  ⟨true, (.struct [(0, 9), (1, 22), (2, 4)]), true, 3, 32, true, [.string ⟨#[]⟩, .int .u64 0, .bool false]⟩,
  ⟨true, (.struct [(0, 9), (1, 22), (2, 4)]), true, 3, 32, true, [.string ⟨#[]⟩, .int .u64 0, .bool false]⟩,
  ⟨true, .func, false, 1, 8, false, [.nilFunc]⟩,
  ⟨true, .func, false, 1, 8, false, [.nilFunc]⟩,
  ⟨true, (.slice 9), false, 1, 24, false, [.slice none 0 0]⟩,
  ⟨true, (.slice 9), false, 1, 24, false, [.slice none 0 0]⟩,
  ⟨true, .func, false, 1, 8, false, [.nilFunc]⟩,
  ⟨true, .func, false, 1, 8, false, [.nilFunc]⟩,
  ⟨true, .func, false, 1, 8, false, [.nilFunc]⟩,
  ⟨true, .func, false, 1, 8, false, [.nilFunc]⟩,
  ⟨true, .func, false, 1, 8, false, [.nilFunc]⟩,
  ⟨true, .func, false, 1, 8, false, [.nilFunc]⟩,
  ⟨true, (.slice 25), false, 1, 24, false, [.slice none 0 0]⟩,
  ⟨true, .func, false, 1, 8, false, [.nilFunc]⟩,
  ⟨true, .pointer, false, 1, 8, false, [.pointer none]⟩,
  ⟨true, (.slice 5), false, 1, 24, false, [.slice none 0 0]⟩,
  ⟨true, (.struct [(0, 48), (1, 49)]), true, 2, 32, true, [.pointer none, .slice none 0 0]⟩,
  ⟨true, (.struct [(0, 48), (1, 49)]), true, 2, 32, true, [.pointer none, .slice none 0 0]⟩,
  ⟨true, .iface, false, 1, 16, false, [.nilIface]⟩,
  ⟨true, .iface, false, 1, 16, false, [.nilIface]⟩,
  default,
  ⟨true, .func, false, 1, 8, false, [.nilFunc]⟩,
  ⟨true, .func, false, 1, 8, false, [.nilFunc]⟩,
  ⟨true, .func, false, 1, 8, false, [.nilFunc]⟩,
  ⟨true, .func, false, 1, 8, false, [.nilFunc]⟩,
  ⟨true, .func, false, 1, 8, false, [.nilFunc]⟩,
  ⟨true, .pointer, false, 1, 8, false, [.pointer none]⟩,
  ⟨true, .func, false, 1, 8, false, [.nilFunc]⟩,
  ⟨true, .func, false, 1, 8, false, [.nilFunc]⟩,
  ⟨true, (.array 16 5), true, 16, 16, true, [.int .u8 0, .int .u8 0, .int .u8 0, .int .u8 0, .int .u8 0, .int .u8 0, .int .u8 0, .int .u8 0, .int .u8 0, .int .u8 0, .int .u8 0, .int .u8 0, .int .u8 0, .int .u8 0, .int .u8 0, .int .u8 0]⟩,
  ⟨true, .func, false, 1, 8, false, [.nilFunc]⟩,
  ⟨true, .func, false, 1, 8, false, [.nilFunc]⟩,
  ⟨true, (.int .u32), false, 1, 4, false, [.int .u32 0]⟩,
  ⟨true, .func, false, 1, 8, false, [.nilFunc]⟩,
  ⟨true, .pointer, false, 1, 8, false, [.pointer none]⟩,
  ⟨true, .pointer, false, 1, 8, false, [.pointer none]⟩,
  ⟨true, .func, false, 1, 8, false, [.nilFunc]⟩,
  default,
  ⟨true, .func, false, 1, 8, false, [.nilFunc]⟩,
  ⟨true, (.struct [(0, 3), (1, 9), (2, 9), (3, 22), (4, 22), (5, 22)]), true, 6, 64, true, [.int .i64 0, .string ⟨#[]⟩, .string ⟨#[]⟩, .int .u64 0, .int .u64 0, .int .u64 0]⟩,
  ⟨true, (.struct [(0, 3), (1, 9), (2, 9), (3, 22), (4, 22), (5, 22)]), true, 6, 64, true, [.int .i64 0, .string ⟨#[]⟩, .string ⟨#[]⟩, .int .u64 0, .int .u64 0, .int .u64 0]⟩,
  ⟨true, .func, false, 1, 8, false, [.nilFunc]⟩,
  ⟨true, .func, false, 1, 8, false, [.nilFunc]⟩,
  ⟨true, .func, false, 1, 8, false, [.nilFunc]⟩,
  ⟨true, .func, false, 1, 8, false, [.nilFunc]⟩,
  ⟨true, (.int .u64), false, 1, 8, false, [.int .u64 0]⟩,
  ⟨true, (.array 24 5), true, 24, 24, true, [.int .u8 0, .int .u8 0, .int .u8 0, .int .u8 0, .int .u8 0, .int .u8 0, .int .u8 0, .int .u8 0, .int .u8 0, .int .u8 0, .int .u8 0, .int .u8 0, .int .u8 0, .int .u8 0, .int .u8 0, .int .u8 0, .int .u8 0, .int .u8 0, .int .u8 0, .int .u8 0, .int .u8 0, .int .u8 0, .int .u8 0, .int .u8 0]⟩,
  ⟨true, .func, false, 1, 8, false, [.nilFunc]⟩,
  ⟨true, .func, false, 1, 8, false, [.nilFunc]⟩,
  default,
  ⟨true, .func, false, 1, 8, false, [.nilFunc]⟩,
  ⟨true, .func, false, 1, 8, false, [.nilFunc]⟩,
  ⟨true, .func, false, 1, 8, false, [.nilFunc]⟩,
  ⟨true, .func, false, 1, 8, false, [.nilFunc]⟩,
  default,
  ⟨true, .func, false, 1, 8, false, [.nilFunc]⟩,
  ⟨true, .func, false, 1, 8, false, [.nilFunc]⟩,
  ⟨true, (.slice 49), false, 1, 24, false, [.slice none 0 0]⟩,
  ⟨true, (.array 16 66), true, 16, 64, true, [.int .u32 0, .int .u32 0, .int .u32 0, .int .u32 0, .int .u32 0, .int .u32 0, .int .u32 0, .int .u32 0, .int .u32 0, .int .u32 0, .int .u32 0, .int .u32 0, .int .u32 0, .int .u32 0, .int .u32 0, .int .u32 0]⟩,
  ⟨true, .func, false, 1, 8, false, [.nilFunc]⟩,
  ⟨true, (.map 9 3), false, 1, 8, false, [.map none]⟩,
  ⟨true, (.struct [(0, 38), (1, 94)]), true, 2, 32, true, [.slice none 0 0, .map none]⟩,
  ⟨true, (.struct [(0, 38), (1, 94)]), true, 2, 32, true, [.slice none 0 0, .map none]⟩,
  ⟨true, (.struct [(0, 96)]), true, 2, 32, true, [.slice none 0 0, .map none]⟩,
  ⟨true, (.struct [(0, 96)]), true, 2, 32, true, [.slice none 0 0, .map none]⟩,
  default,
  ⟨true, .func, false, 1, 8, false, [.nilFunc]⟩,
  ⟨true, .func, false, 1, 8, false, [.nilFunc]⟩,
  ⟨true, (.array 20 22), true, 20, 160, true, [.int .u64 0, .int .u64 0, .int .u64 0, .int .u64 0, .int .u64 0, .int .u64 0, .int .u64 0, .int .u64 0, .int .u64 0, .int .u64 0, .int .u64 0, .int .u64 0, .int .u64 0, .int .u64 0, .int .u64 0, .int .u64 0, .int .u64 0, .int .u64 0, .int .u64 0, .int .u64 0]⟩,
  ⟨true, (.array 65 5), true, 65, 65, true, [.int .u8 0, .int .u8 0, .int .u8 0, .int .u8 0, .int .u8 0, .int .u8 0, .int .u8 0, .int .u8 0, .int .u8 0, .int .u8 0, .int .u8 0, .int .u8 0, .int .u8 0, .int .u8 0, .int .u8 0, .int .u8 0, .int .u8 0, .int .u8 0, .int .u8 0, .int .u8 0, .int .u8 0, .int .u8 0, .int .u8 0, .int .u8 0, .int .u8 0, .int .u8 0, .int .u8 0, .int .u8 0, .int .u8 0, .int .u8 0, .int .u8 0, .int .u8 0, .int .u8 0, .int .u8 0, .int .u8 0, .int .u8 0, .int .u8 0, .int .u8 0, .int .u8 0, .int .u8 0, .int .u8 0, .int .u8 0, .int .u8 0, .int .u8 0, .int .u8 0, .int .u8 0, .int .u8 0, .int .u8 0, .int .u8 0, .int .u8 0, .int .u8 0, .int .u8 0, .int .u8 0, .int .u8 0, .int .u8 0, .int .u8 0, .int .u8 0, .int .u8 0, .int .u8 0, .int .u8 0, .int .u8 0, .int .u8 0, .int .u8 0, .int .u8 0, .int .u8 0]⟩,
  ⟨true, .func, false, 1, 8, false, [.nilFunc]⟩,
  ⟨true, .func, false, 1, 8, false, [.nilFunc]⟩,
  default,
  ⟨true, .func, false, 1, 8, false, [.nilFunc]⟩,
  ⟨true, .func, false, 1, 8, false, [.nilFunc]⟩,
  ⟨true, .pointer, false, 1, 8, false, [.pointer none]⟩,
  ⟨true, .func, false, 1, 8, false, [.nilFunc]⟩,
  ⟨true, .func, false, 1, 8, false, [.nilFunc]⟩,
  ⟨true, (.array 32 5), true, 32, 32, true, [.int .u8 0, .int .u8 0, .int .u8 0, .int .u8 0, .int .u8 0, .int .u8 0, .int .u8 0, .int .u8 0, .int .u8 0, .int .u8 0, .int .u8 0, .int .u8 0, .int .u8 0, .int .u8 0, .int .u8 0, .int .u8 0, .int .u8 0, .int .u8 0, .int .u8 0, .int .u8 0, .int .u8 0, .int .u8 0, .int .u8 0, .int .u8 0, .int .u8 0, .int .u8 0, .int .u8 0, .int .u8 0, .int .u8 0, .int .u8 0, .int .u8 0, .int .u8 0]⟩,
  ⟨true, (.array 64 5), true, 64, 64, true, [.int .u8 0, .int .u8 0, .int .u8 0, .int .u8 0, .int .u8 0, .int .u8 0, .int .u8 0, .int .u8 0, .int .u8 0, .int .u8 0, .int .u8 0, .int .u8 0, .int .u8 0, .int .u8 0, .int .u8 0, .int .u8 0, .int .u8 0, .int .u8 0, .int .u8 0, .int .u8 0, .int .u8 0, .int .u8 0, .int .u8 0, .int .u8 0, .int .u8 0, .int .u8 0, .int .u8 0, .int .u8 0, .int .u8 0, .int .u8 0, .int .u8 0, .int .u8 0, .int .u8 0, .int .u8 0, .int .u8 0, .int .u8 0, .int .u8 0, .int .u8 0, .int .u8 0, .int .u8 0, .int .u8 0, .int .u8 0, .int .u8 0, .int .u8 0, .int .u8 0, .int .u8 0, .int .u8 0, .int .u8 0, .int .u8 0, .int .u8 0, .int .u8 0, .int .u8 0, .int .u8 0, .int .u8 0, .int .u8 0, .int .u8 0, .int .u8 0, .int .u8 0, .int .u8 0, .int .u8 0, .int .u8 0, .int .u8 0, .int .u8 0, .int .u8 0]⟩,
  ⟨true, (.struct [(0, 17), (1, 17), (2, 17), (3, 9)]), true, 4, 40, true, [.pointer none, .pointer none, .pointer none, .string ⟨#[]⟩]⟩,
  ⟨true, (.struct [(0, 17), (1, 17), (2, 17), (3, 9)]), true, 4, 40, true, [.pointer none, .pointer none, .pointer none, .string ⟨#[]⟩]⟩,
  ⟨true, (.array 0 16), true, 0, 0, true, []⟩,
  ⟨true, (.struct [(0, 116)]), true, 0, 0, true, []⟩,
  ⟨true, (.struct [(0, 116)]), true, 0, 0, true, []⟩,
  ⟨true, .func, false, 1, 8, false, [.nilFunc]⟩,
  ⟨true, (.int .u8), false, 1, 1, false, [.int .u8 0]⟩,
  ⟨true, (.int .u8), false, 1, 1, false, [.int .u8 0]⟩,
  ⟨true, .func, false, 1, 8, false, [.nilFunc]⟩,
  ⟨true, (.int .i32), false, 1, 4, false, [.int .i32 0]⟩,
  ⟨true, (.int .i32), false, 1, 4, false, [.int .i32 0]⟩,
  ⟨true, (.struct [(0, 12), (1, 12), (2, 66), (3, 120), (4, 5), (5, 5), (6, 121), (7, 122), (8, 68), (9, 123), (10, 124)]), true, 11, 48, true, [.int .u64 0, .int .u64 0, .int .u32 0, .int .u8 0, .int .u8 0, .int .u8 0, .int .u8 0, .nilFunc, .pointer none, .int .i32 0, .int .i32 0]⟩,
  ⟨true, (.struct [(0, 12), (1, 12), (2, 66), (3, 120), (4, 5), (5, 5), (6, 121), (7, 122), (8, 68), (9, 123), (10, 124)]), true, 11, 48, true, [.int .u64 0, .int .u64 0, .int .u32 0, .int .u8 0, .int .u8 0, .int .u8 0, .int .u8 0, .nilFunc, .pointer none, .int .i32 0, .int .i32 0]⟩]
def fnsOk : List Bool := [false, false, false, true, true, true, true, true, true, true, true, true, true, true, true, true, true, true, true, true, true, true, true, true, true, true, true, true, true, true, true, true, true, true, true, true, true, true, true, true, true, true, true, true, true, true, true, true, true, true, true, true, true, true, false, true, true, false, true, true, true, true, true, true, true, true, true, false, true, true, true, true, false, false, false, false, false, false, false, false, false, false, false, false, false, false, false, false, false, false, false, false, false, false, false, false, false, false]
def tisOk : List Nat := [1, 2, 3, 4, 5, 6, 7, 8, 9, 10, 11, 12, 13, 14, 15, 16, 17, 18, 19, 20, 21, 22, 23, 24, 25, 26, 27, 28, 30, 32, 33, 34, 35, 36, 37, 38, 39, 40, 41, 42, 43, 44, 45, 46, 47, 48, 49, 50, 51, 52, 53, 55, 56, 57, 58, 59, 60, 61, 62, 63, 64, 65, 66, 67, 68, 69, 70, 72, 73, 74, 75, 76, 77, 78, 79, 80, 81, 82, 84, 85, 86, 87, 89, 90, 91, 92, 93, 94, 95, 96, 97, 98, 100, 101, 102, 103, 104, 105, 107, 108, 109, 110, 111, 112, 113, 114, 115, 116, 117, 118, 119, 120, 121, 122, 123, 124, 125, 126]
def eqsOk : List Bool := [false, false, false, false, false, false, false, false, false, false, false, false, false, false, false, false, false, false, false, false, false, false, false, false, false, false, false, false, false, false, false, false, false, false, false, true, false, false, false, false, false, false, false, false, false, false, false, false, false, false, false, false, false, false, false, false, false, false, false, false, false, false, false, false, false, false, false, false, false, false, false, false, false, false, true, false, false, false, false, false, false, false, false, false, false, false, false, false, false, false, false, false, false, false, false, false, false, false, false, false, false, false, false, false, false, false, false, false, false, false, false, false, false, false, false, false, false, false, false, false, false, false, false, false, false, false, false]
def tab : Tab := ⟨fun t => tis.getD t default, fun g => fnsOk.getD g false, fun t => eqsOk.getD t false⟩
theorem eqs_eq : (List.range 127).all (fun t => !(eqsOk.getD t false) || eqTy Go.Proofs.Tryd.prog t) = true := by kernel_rfl
theorem eqs_len : eqsOk.length = 127 := by kernel_rfl
theorem tis_eq : tisOk.map (fun t => tis.getD t default) = tisOk.map (tiOf Go.Proofs.Tryd.prog) := by kernel_rfl
theorem tis_in : (List.range 127).all (fun t => !(tis.getD t default).ok || tisOk.contains t) = true := by kernel_rfl
theorem fns_eq : (List.range 98).all (fun g => !(fnsOk.getD g false) || canEnter Go.Proofs.Tryd.prog g) = true := by kernel_rfl
theorem tis_len : tis.length = 127 := by kernel_rfl
theorem fns_len : fnsOk.length = 98 := by kernel_rfl
theorem draws_all : Go.Proofs.Tryd.prog.funcs.all fnApart = true := by kernel_rfl
theorem mixed_ok : Go.Proofs.Tryd.prog.follows .mixedOrders = true := by kernel_rfl
theorem tab_ok : TabOk Go.Proofs.Tryd.prog tab where
  ti := by
    intro t h
    have ht : t < 127 := by
      rcases Nat.lt_or_ge t tis.length with h1 | h1
      · rw [tis_len] at h1; exact h1
      · exfalso
        have : tis.getD t default = (default : TI) := by simp [List.getD_eq_getElem?_getD, List.getElem?_eq_none h1]
        simp only [tab, this] at h
        cases h
    have h2 := List.all_eq_true.1 tis_in t (List.mem_range.2 ht)
    have h3 : (tis.getD t default).ok = true := h
    rw [h3] at h2
    have hm : t ∈ tisOk := by simpa using h2
    have := List.map_inj_left.1 tis_eq t hm
    exact this
  fn := by
    intro g h
    have hg : g < 98 := by
      rcases Nat.lt_or_ge g fnsOk.length with h1 | h1
      · rw [fns_len] at h1; exact h1
      · exfalso
        have : fnsOk.getD g false = false := by simp [List.getD_eq_getElem?_getD, List.getElem?_eq_none h1]
        simp only [tab, this] at h
        cases h
    have h2 := List.all_eq_true.1 fns_eq g (List.mem_range.2 hg)
    have h3 : fnsOk.getD g false = true := h
    rw [h3] at h2
    simpa using h2
  eqs := by
    intro t h
    have ht : t < 127 := by
      rcases Nat.lt_or_ge t eqsOk.length with h1 | h1
      · rw [eqs_len] at h1; exact h1
      · exfalso
        have : eqsOk.getD t false = false := by simp [List.getD_eq_getElem?_getD, List.getElem?_eq_none h1]
        simp only [tab, this] at h
        cases h
    have h2 := List.all_eq_true.1 eqs_eq t (List.mem_range.2 ht)
    have h3 : eqsOk.getD t false = true := h
    rw [h3] at h2
    simpa using h2
  draws := fun g fn h => Array.all_eq_true'.1 draws_all fn (Array.mem_of_getElem? h)
  mixed := mixed_ok
end Go.Abs
