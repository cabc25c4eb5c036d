/- What is asked of the types and functions of one program, as closed facts. -/
import Derived.Test.YtdbbbhjajkobaabProg
import Derived.Test.YtdbbbhjajkobaabH2
import Derived.KernelRfl
namespace Go.HL
open Go.Proofs
theorem y1 : tx Try.prog 1 = some ⟨⟨.other, 1, 8, some [.lit .nilFunc], []⟩, true, false, true, true⟩ := by kernel_rfl
@[simp ↓] theorem x1 (g : TX → Prop) : wtx Try.prog 1 g = g ⟨⟨.other, 1, 8, some [.lit .nilFunc], []⟩, true, false, true, true⟩ := wtx_of y1 g
@[simp] theorem s1 : notSlice Try.prog 1 = true := notSlice_of y1
theorem y2 : tx Try.prog 2 = some ⟨⟨.int .i64, 1, 8, some [.lit (.int .i64 0)], []⟩, true, false, true, true⟩ := by kernel_rfl
@[simp ↓] theorem x2 (g : TX → Prop) : wtx Try.prog 2 g = g ⟨⟨.int .i64, 1, 8, some [.lit (.int .i64 0)], []⟩, true, false, true, true⟩ := wtx_of y2 g
@[simp] theorem s2 : notSlice Try.prog 2 = true := notSlice_of y2
@[simp] theorem k2 : kindOf Try.prog 2 = .int .i64 := by kernel_rfl
theorem y3 : tx Try.prog 3 = some ⟨⟨.int .i64, 1, 8, some [.lit (.int .i64 0)], []⟩, true, false, true, true⟩ := by kernel_rfl
@[simp ↓] theorem x3 (g : TX → Prop) : wtx Try.prog 3 g = g ⟨⟨.int .i64, 1, 8, some [.lit (.int .i64 0)], []⟩, true, false, true, true⟩ := wtx_of y3 g
@[simp] theorem s3 : notSlice Try.prog 3 = true := notSlice_of y3
@[simp] theorem k3 : kindOf Try.prog 3 = .int .i64 := by kernel_rfl
theorem y4 : tx Try.prog 4 = some ⟨⟨.bool, 1, 1, some [.lit (.bool false)], []⟩, true, false, true, true⟩ := by kernel_rfl
@[simp ↓] theorem x4 (g : TX → Prop) : wtx Try.prog 4 g = g ⟨⟨.bool, 1, 1, some [.lit (.bool false)], []⟩, true, false, true, true⟩ := wtx_of y4 g
@[simp] theorem s4 : notSlice Try.prog 4 = true := notSlice_of y4
@[simp] theorem k4 : kindOf Try.prog 4 = .bool := by kernel_rfl
theorem y5 : tx Try.prog 5 = some ⟨⟨.int .u8, 1, 1, some [.lit (.int .u8 0)], []⟩, true, false, true, true⟩ := by kernel_rfl
@[simp ↓] theorem x5 (g : TX → Prop) : wtx Try.prog 5 g = g ⟨⟨.int .u8, 1, 1, some [.lit (.int .u8 0)], []⟩, true, false, true, true⟩ := wtx_of y5 g
@[simp] theorem s5 : notSlice Try.prog 5 = true := notSlice_of y5
@[simp] theorem k5 : kindOf Try.prog 5 = .int .u8 := by kernel_rfl
theorem y6 : tx Try.prog 6 = some ⟨⟨.int .u8, 1, 1, some [.lit (.int .u8 0)], []⟩, true, false, true, true⟩ := by kernel_rfl
@[simp ↓] theorem x6 (g : TX → Prop) : wtx Try.prog 6 g = g ⟨⟨.int .u8, 1, 1, some [.lit (.int .u8 0)], []⟩, true, false, true, true⟩ := wtx_of y6 g
@[simp] theorem s6 : notSlice Try.prog 6 = true := notSlice_of y6
@[simp] theorem k6 : kindOf Try.prog 6 = .int .u8 := by kernel_rfl
theorem y7 : tx Try.prog 7 = some ⟨⟨.struct, 4, 24, some [.lit (.int .i64 0), .lit (.int .i64 0), .lit (.bool false), .lit (.int .u8 0)], [(0, 1, false), (1, 1, false), (2, 1, false), (3, 1, false)]⟩, true, true, true, false⟩ := by kernel_rfl
@[simp ↓] theorem x7 (g : TX → Prop) : wtx Try.prog 7 g = g ⟨⟨.struct, 4, 24, some [.lit (.int .i64 0), .lit (.int .i64 0), .lit (.bool false), .lit (.int .u8 0)], [(0, 1, false), (1, 1, false), (2, 1, false), (3, 1, false)]⟩, true, true, true, false⟩ := wtx_of y7 g
@[simp] theorem s7 : notSlice Try.prog 7 = true := notSlice_of y7
@[simp] theorem k7 : kindOf Try.prog 7 = .struct := by kernel_rfl
theorem y8 : tx Try.prog 8 = some ⟨⟨.struct, 4, 24, some [.lit (.int .i64 0), .lit (.int .i64 0), .lit (.bool false), .lit (.int .u8 0)], [(0, 1, false), (1, 1, false), (2, 1, false), (3, 1, false)]⟩, true, true, true, false⟩ := by kernel_rfl
@[simp ↓] theorem x8 (g : TX → Prop) : wtx Try.prog 8 g = g ⟨⟨.struct, 4, 24, some [.lit (.int .i64 0), .lit (.int .i64 0), .lit (.bool false), .lit (.int .u8 0)], [(0, 1, false), (1, 1, false), (2, 1, false), (3, 1, false)]⟩, true, true, true, false⟩ := wtx_of y8 g
@[simp] theorem s8 : notSlice Try.prog 8 = true := notSlice_of y8
@[simp] theorem k8 : kindOf Try.prog 8 = .struct := by kernel_rfl
theorem y9 : tx Try.prog 9 = some ⟨⟨.str, 1, 16, some [.lit (.string ⟨#[]⟩)], []⟩, true, false, true, true⟩ := by kernel_rfl
@[simp ↓] theorem x9 (g : TX → Prop) : wtx Try.prog 9 g = g ⟨⟨.str, 1, 16, some [.lit (.string ⟨#[]⟩)], []⟩, true, false, true, true⟩ := wtx_of y9 g
@[simp] theorem s9 : notSlice Try.prog 9 = true := notSlice_of y9
@[simp] theorem k9 : kindOf Try.prog 9 = .str := by kernel_rfl
theorem y10 : tx Try.prog 10 = some ⟨⟨.str, 1, 16, some [.lit (.string ⟨#[]⟩)], []⟩, true, false, true, true⟩ := by kernel_rfl
@[simp ↓] theorem x10 (g : TX → Prop) : wtx Try.prog 10 g = g ⟨⟨.str, 1, 16, some [.lit (.string ⟨#[]⟩)], []⟩, true, false, true, true⟩ := wtx_of y10 g
@[simp] theorem s10 : notSlice Try.prog 10 = true := notSlice_of y10
@[simp] theorem k10 : kindOf Try.prog 10 = .str := by kernel_rfl
theorem y11 : tx Try.prog 11 = some ⟨⟨.str, 1, 16, some [.lit (.string ⟨#[]⟩)], []⟩, true, false, true, true⟩ := by kernel_rfl
@[simp ↓] theorem x11 (g : TX → Prop) : wtx Try.prog 11 g = g ⟨⟨.str, 1, 16, some [.lit (.string ⟨#[]⟩)], []⟩, true, false, true, true⟩ := wtx_of y11 g
@[simp] theorem s11 : notSlice Try.prog 11 = true := notSlice_of y11
@[simp] theorem k11 : kindOf Try.prog 11 = .str := by kernel_rfl
theorem y12 : tx Try.prog 12 = some ⟨⟨.int .u64, 1, 8, some [.lit (.int .u64 0)], []⟩, true, false, true, true⟩ := by kernel_rfl
@[simp ↓] theorem x12 (g : TX → Prop) : wtx Try.prog 12 g = g ⟨⟨.int .u64, 1, 8, some [.lit (.int .u64 0)], []⟩, true, false, true, true⟩ := wtx_of y12 g
@[simp] theorem s12 : notSlice Try.prog 12 = true := notSlice_of y12
@[simp] theorem k12 : kindOf Try.prog 12 = .int .u64 := by kernel_rfl
theorem y13 : tx Try.prog 13 = some ⟨⟨.struct, 2, 24, some [.lit (.string ⟨#[]⟩), .lit (.int .u64 0)], [(0, 1, false), (1, 1, false)]⟩, true, true, true, false⟩ := by kernel_rfl
@[simp ↓] theorem x13 (g : TX → Prop) : wtx Try.prog 13 g = g ⟨⟨.struct, 2, 24, some [.lit (.string ⟨#[]⟩), .lit (.int .u64 0)], [(0, 1, false), (1, 1, false)]⟩, true, true, true, false⟩ := wtx_of y13 g
@[simp] theorem s13 : notSlice Try.prog 13 = true := notSlice_of y13
@[simp] theorem k13 : kindOf Try.prog 13 = .struct := by kernel_rfl
theorem y14 : tx Try.prog 14 = some ⟨⟨.struct, 2, 24, some [.lit (.string ⟨#[]⟩), .lit (.int .u64 0)], [(0, 1, false), (1, 1, false)]⟩, true, true, true, false⟩ := by kernel_rfl
@[simp ↓] theorem x14 (g : TX → Prop) : wtx Try.prog 14 g = g ⟨⟨.struct, 2, 24, some [.lit (.string ⟨#[]⟩), .lit (.int .u64 0)], [(0, 1, false), (1, 1, false)]⟩, true, true, true, false⟩ := wtx_of y14 g
@[simp] theorem s14 : notSlice Try.prog 14 = true := notSlice_of y14
@[simp] theorem k14 : kindOf Try.prog 14 = .struct := by kernel_rfl
theorem y15 : tx Try.prog 15 = some ⟨⟨.ptr 209, 1, 8, some [.lit (.pointer none)], []⟩, true, false, true, true⟩ := by kernel_rfl
@[simp ↓] theorem x15 (g : TX → Prop) : wtx Try.prog 15 g = g ⟨⟨.ptr 209, 1, 8, some [.lit (.pointer none)], []⟩, true, false, true, true⟩ := wtx_of y15 g
@[simp] theorem s15 : notSlice Try.prog 15 = true := notSlice_of y15
@[simp] theorem k15 : kindOf Try.prog 15 = .ptr 209 := by kernel_rfl
theorem y16 : tx Try.prog 16 = some ⟨⟨.ptr 212, 1, 8, some [.lit (.pointer none)], []⟩, true, false, true, true⟩ := by kernel_rfl
@[simp ↓] theorem x16 (g : TX → Prop) : wtx Try.prog 16 g = g ⟨⟨.ptr 212, 1, 8, some [.lit (.pointer none)], []⟩, true, false, true, true⟩ := wtx_of y16 g
@[simp] theorem s16 : notSlice Try.prog 16 = true := notSlice_of y16
@[simp] theorem k16 : kindOf Try.prog 16 = .ptr 212 := by kernel_rfl
theorem y17 : tx Try.prog 17 = some ⟨⟨.ptr 221, 1, 8, some [.lit (.pointer none)], []⟩, true, false, true, true⟩ := by kernel_rfl
@[simp ↓] theorem x17 (g : TX → Prop) : wtx Try.prog 17 g = g ⟨⟨.ptr 221, 1, 8, some [.lit (.pointer none)], []⟩, true, false, true, true⟩ := wtx_of y17 g
@[simp] theorem s17 : notSlice Try.prog 17 = true := notSlice_of y17
@[simp] theorem k17 : kindOf Try.prog 17 = .ptr 221 := by kernel_rfl
theorem y18 : tx Try.prog 18 = some ⟨⟨.struct, 1, 8, some [.lit (.pointer none)], [(0, 1, false)]⟩, true, true, true, false⟩ := by kernel_rfl
@[simp ↓] theorem x18 (g : TX → Prop) : wtx Try.prog 18 g = g ⟨⟨.struct, 1, 8, some [.lit (.pointer none)], [(0, 1, false)]⟩, true, true, true, false⟩ := wtx_of y18 g
@[simp] theorem s18 : notSlice Try.prog 18 = true := notSlice_of y18
@[simp] theorem k18 : kindOf Try.prog 18 = .struct := by kernel_rfl
theorem y19 : tx Try.prog 19 = some ⟨⟨.struct, 1, 8, some [.lit (.pointer none)], [(0, 1, false)]⟩, true, true, true, false⟩ := by kernel_rfl
@[simp ↓] theorem x19 (g : TX → Prop) : wtx Try.prog 19 g = g ⟨⟨.struct, 1, 8, some [.lit (.pointer none)], [(0, 1, false)]⟩, true, true, true, false⟩ := wtx_of y19 g
@[simp] theorem s19 : notSlice Try.prog 19 = true := notSlice_of y19
@[simp] theorem k19 : kindOf Try.prog 19 = .struct := by kernel_rfl
theorem y20 : tx Try.prog 20 = some ⟨⟨.iface, 1, 16, some [.lit .nilIface], []⟩, true, false, true, true⟩ := by kernel_rfl
@[simp ↓] theorem x20 (g : TX → Prop) : wtx Try.prog 20 g = g ⟨⟨.iface, 1, 16, some [.lit .nilIface], []⟩, true, false, true, true⟩ := wtx_of y20 g
@[simp] theorem s20 : notSlice Try.prog 20 = true := notSlice_of y20
@[simp] theorem k20 : kindOf Try.prog 20 = .iface := by kernel_rfl
theorem y21 : tx Try.prog 21 = some ⟨⟨.int .i32, 1, 4, some [.lit (.int .i32 0)], []⟩, true, false, true, true⟩ := by kernel_rfl
@[simp ↓] theorem x21 (g : TX → Prop) : wtx Try.prog 21 g = g ⟨⟨.int .i32, 1, 4, some [.lit (.int .i32 0)], []⟩, true, false, true, true⟩ := wtx_of y21 g
@[simp] theorem s21 : notSlice Try.prog 21 = true := notSlice_of y21
@[simp] theorem k21 : kindOf Try.prog 21 = .int .i32 := by kernel_rfl
theorem y22 : tx Try.prog 22 = some ⟨⟨.slice 152, 1, 24, some [.list [] .nil], []⟩, true, false, true, true⟩ := by kernel_rfl
@[simp ↓] theorem x22 (g : TX → Prop) : wtx Try.prog 22 g = g ⟨⟨.slice 152, 1, 24, some [.list [] .nil], []⟩, true, false, true, true⟩ := wtx_of y22 g
@[simp] theorem s22 : notSlice Try.prog 22 = false := notSlice_of y22
@[simp] theorem k22 : kindOf Try.prog 22 = .slice 152 := by kernel_rfl
theorem y23 : tx Try.prog 23 = some ⟨⟨.slice 37, 1, 24, some [.list [] .nil], []⟩, true, false, true, true⟩ := by kernel_rfl
@[simp ↓] theorem x23 (g : TX → Prop) : wtx Try.prog 23 g = g ⟨⟨.slice 37, 1, 24, some [.list [] .nil], []⟩, true, false, true, true⟩ := wtx_of y23 g
@[simp] theorem s23 : notSlice Try.prog 23 = false := notSlice_of y23
@[simp] theorem k23 : kindOf Try.prog 23 = .slice 37 := by kernel_rfl
theorem y24 : tx Try.prog 24 = some ⟨⟨.other, 1, 8, some [.lit .nilFunc], []⟩, true, false, true, true⟩ := by kernel_rfl
@[simp ↓] theorem x24 (g : TX → Prop) : wtx Try.prog 24 g = g ⟨⟨.other, 1, 8, some [.lit .nilFunc], []⟩, true, false, true, true⟩ := wtx_of y24 g
@[simp] theorem s24 : notSlice Try.prog 24 = true := notSlice_of y24
theorem y25 : tx Try.prog 25 = some ⟨⟨.slice 98, 1, 24, some [.list [] .nil], []⟩, true, false, true, true⟩ := by kernel_rfl
@[simp ↓] theorem x25 (g : TX → Prop) : wtx Try.prog 25 g = g ⟨⟨.slice 98, 1, 24, some [.list [] .nil], []⟩, true, false, true, true⟩ := wtx_of y25 g
@[simp] theorem s25 : notSlice Try.prog 25 = false := notSlice_of y25
@[simp] theorem k25 : kindOf Try.prog 25 = .slice 98 := by kernel_rfl
theorem y27 : tx Try.prog 27 = some ⟨⟨.other, 1, 8, some [.lit .nilFunc], []⟩, true, false, true, true⟩ := by kernel_rfl
@[simp ↓] theorem x27 (g : TX → Prop) : wtx Try.prog 27 g = g ⟨⟨.other, 1, 8, some [.lit .nilFunc], []⟩, true, false, true, true⟩ := wtx_of y27 g
@[simp] theorem s27 : notSlice Try.prog 27 = true := notSlice_of y27
theorem y28 : tx Try.prog 28 = some ⟨⟨.other, 1, 8, some [.lit .nilFunc], []⟩, true, false, true, true⟩ := by kernel_rfl
@[simp ↓] theorem x28 (g : TX → Prop) : wtx Try.prog 28 g = g ⟨⟨.other, 1, 8, some [.lit .nilFunc], []⟩, true, false, true, true⟩ := wtx_of y28 g
@[simp] theorem s28 : notSlice Try.prog 28 = true := notSlice_of y28
theorem y29 : tx Try.prog 29 = some ⟨⟨.other, 1, 8, some [.lit .nilFunc], []⟩, true, false, true, true⟩ := by kernel_rfl
@[simp ↓] theorem x29 (g : TX → Prop) : wtx Try.prog 29 g = g ⟨⟨.other, 1, 8, some [.lit .nilFunc], []⟩, true, false, true, true⟩ := wtx_of y29 g
@[simp] theorem s29 : notSlice Try.prog 29 = true := notSlice_of y29
theorem y30 : tx Try.prog 30 = some ⟨⟨.other, 1, 8, some [.lit .nilFunc], []⟩, true, false, true, true⟩ := by kernel_rfl
@[simp ↓] theorem x30 (g : TX → Prop) : wtx Try.prog 30 g = g ⟨⟨.other, 1, 8, some [.lit .nilFunc], []⟩, true, false, true, true⟩ := wtx_of y30 g
@[simp] theorem s30 : notSlice Try.prog 30 = true := notSlice_of y30
theorem y31 : tx Try.prog 31 = some ⟨⟨.slice 117, 1, 24, some [.list [] .nil], []⟩, true, false, true, true⟩ := by kernel_rfl
@[simp ↓] theorem x31 (g : TX → Prop) : wtx Try.prog 31 g = g ⟨⟨.slice 117, 1, 24, some [.list [] .nil], []⟩, true, false, true, true⟩ := wtx_of y31 g
@[simp] theorem s31 : notSlice Try.prog 31 = false := notSlice_of y31
@[simp] theorem k31 : kindOf Try.prog 31 = .slice 117 := by kernel_rfl
theorem y32 : tx Try.prog 32 = some ⟨⟨.other, 1, 8, some [.lit .nilFunc], []⟩, true, false, true, true⟩ := by kernel_rfl
@[simp ↓] theorem x32 (g : TX → Prop) : wtx Try.prog 32 g = g ⟨⟨.other, 1, 8, some [.lit .nilFunc], []⟩, true, false, true, true⟩ := wtx_of y32 g
@[simp] theorem s32 : notSlice Try.prog 32 = true := notSlice_of y32
theorem y33 : tx Try.prog 33 = some ⟨⟨.other, 1, 8, some [.lit .nilFunc], []⟩, true, false, true, true⟩ := by kernel_rfl
@[simp ↓] theorem x33 (g : TX → Prop) : wtx Try.prog 33 g = g ⟨⟨.other, 1, 8, some [.lit .nilFunc], []⟩, true, false, true, true⟩ := wtx_of y33 g
@[simp] theorem s33 : notSlice Try.prog 33 = true := notSlice_of y33
theorem y34 : tx Try.prog 34 = some ⟨⟨.other, 1, 8, some [.lit .nilFunc], []⟩, true, false, true, true⟩ := by kernel_rfl
@[simp ↓] theorem x34 (g : TX → Prop) : wtx Try.prog 34 g = g ⟨⟨.other, 1, 8, some [.lit .nilFunc], []⟩, true, false, true, true⟩ := wtx_of y34 g
@[simp] theorem s34 : notSlice Try.prog 34 = true := notSlice_of y34
theorem y35 : tx Try.prog 35 = some ⟨⟨.slice 132, 1, 24, some [.list [] .nil], []⟩, true, false, true, true⟩ := by kernel_rfl
@[simp ↓] theorem x35 (g : TX → Prop) : wtx Try.prog 35 g = g ⟨⟨.slice 132, 1, 24, some [.list [] .nil], []⟩, true, false, true, true⟩ := wtx_of y35 g
@[simp] theorem s35 : notSlice Try.prog 35 = false := notSlice_of y35
@[simp] theorem k35 : kindOf Try.prog 35 = .slice 132 := by kernel_rfl
theorem y36 : tx Try.prog 36 = some ⟨⟨.struct, 5, 96, some [.lit (.string ⟨#[]⟩), .lit (.string ⟨#[]⟩), .lit (.string ⟨#[]⟩), .list [] .nil, .list [] .nil], [(0, 1, false), (1, 1, false), (2, 1, false), (3, 1, false), (4, 1, false)]⟩, true, true, true, false⟩ := by kernel_rfl
@[simp ↓] theorem x36 (g : TX → Prop) : wtx Try.prog 36 g = g ⟨⟨.struct, 5, 96, some [.lit (.string ⟨#[]⟩), .lit (.string ⟨#[]⟩), .lit (.string ⟨#[]⟩), .list [] .nil, .list [] .nil], [(0, 1, false), (1, 1, false), (2, 1, false), (3, 1, false), (4, 1, false)]⟩, true, true, true, false⟩ := wtx_of y36 g
@[simp] theorem s36 : notSlice Try.prog 36 = true := notSlice_of y36
@[simp] theorem k36 : kindOf Try.prog 36 = .struct := by kernel_rfl
theorem y37 : tx Try.prog 37 = some ⟨⟨.struct, 5, 96, some [.lit (.string ⟨#[]⟩), .lit (.string ⟨#[]⟩), .lit (.string ⟨#[]⟩), .list [] .nil, .list [] .nil], [(0, 1, false), (1, 1, false), (2, 1, false), (3, 1, false), (4, 1, false)]⟩, true, true, true, false⟩ := by kernel_rfl
@[simp ↓] theorem x37 (g : TX → Prop) : wtx Try.prog 37 g = g ⟨⟨.struct, 5, 96, some [.lit (.string ⟨#[]⟩), .lit (.string ⟨#[]⟩), .lit (.string ⟨#[]⟩), .list [] .nil, .list [] .nil], [(0, 1, false), (1, 1, false), (2, 1, false), (3, 1, false), (4, 1, false)]⟩, true, true, true, false⟩ := wtx_of y37 g
@[simp] theorem s37 : notSlice Try.prog 37 = true := notSlice_of y37
@[simp] theorem k37 : kindOf Try.prog 37 = .struct := by kernel_rfl
theorem y38 : tx Try.prog 38 = some ⟨⟨.other, 1, 8, some [.lit .nilFunc], []⟩, true, false, true, true⟩ := by kernel_rfl
@[simp ↓] theorem x38 (g : TX → Prop) : wtx Try.prog 38 g = g ⟨⟨.other, 1, 8, some [.lit .nilFunc], []⟩, true, false, true, true⟩ := wtx_of y38 g
@[simp] theorem s38 : notSlice Try.prog 38 = true := notSlice_of y38
theorem y39 : tx Try.prog 39 = some ⟨⟨.other, 1, 8, some [.lit .nilFunc], []⟩, true, false, true, true⟩ := by kernel_rfl
@[simp ↓] theorem x39 (g : TX → Prop) : wtx Try.prog 39 g = g ⟨⟨.other, 1, 8, some [.lit .nilFunc], []⟩, true, false, true, true⟩ := wtx_of y39 g
@[simp] theorem s39 : notSlice Try.prog 39 = true := notSlice_of y39
theorem y40 : tx Try.prog 40 = some ⟨⟨.slice 53, 1, 24, some [.list [] .nil], []⟩, true, false, true, true⟩ := by kernel_rfl
@[simp ↓] theorem x40 (g : TX → Prop) : wtx Try.prog 40 g = g ⟨⟨.slice 53, 1, 24, some [.list [] .nil], []⟩, true, false, true, true⟩ := wtx_of y40 g
@[simp] theorem s40 : notSlice Try.prog 40 = false := notSlice_of y40
@[simp] theorem k40 : kindOf Try.prog 40 = .slice 53 := by kernel_rfl
theorem y41 : tx Try.prog 41 = some ⟨⟨.ptr 127, 1, 8, some [.lit (.pointer none)], []⟩, true, false, true, true⟩ := by kernel_rfl
@[simp ↓] theorem x41 (g : TX → Prop) : wtx Try.prog 41 g = g ⟨⟨.ptr 127, 1, 8, some [.lit (.pointer none)], []⟩, true, false, true, true⟩ := wtx_of y41 g
@[simp] theorem s41 : notSlice Try.prog 41 = true := notSlice_of y41
@[simp] theorem k41 : kindOf Try.prog 41 = .ptr 127 := by kernel_rfl
theorem y42 : tx Try.prog 42 = some ⟨⟨.iface, 1, 16, some [.lit .nilIface], []⟩, true, false, true, true⟩ := by kernel_rfl
@[simp ↓] theorem x42 (g : TX → Prop) : wtx Try.prog 42 g = g ⟨⟨.iface, 1, 16, some [.lit .nilIface], []⟩, true, false, true, true⟩ := wtx_of y42 g
@[simp] theorem s42 : notSlice Try.prog 42 = true := notSlice_of y42
@[simp] theorem k42 : kindOf Try.prog 42 = .iface := by kernel_rfl
theorem y43 : tx Try.prog 43 = some ⟨⟨.iface, 1, 16, some [.lit .nilIface], []⟩, true, false, true, true⟩ := by kernel_rfl
@[simp ↓] theorem x43 (g : TX → Prop) : wtx Try.prog 43 g = g ⟨⟨.iface, 1, 16, some [.lit .nilIface], []⟩, true, false, true, true⟩ := wtx_of y43 g
@[simp] theorem s43 : notSlice Try.prog 43 = true := notSlice_of y43
@[simp] theorem k43 : kindOf Try.prog 43 = .iface := by kernel_rfl
theorem y45 : tx Try.prog 45 = some ⟨⟨.other, 1, 8, some [.lit .nilFunc], []⟩, true, false, true, true⟩ := by kernel_rfl
@[simp ↓] theorem x45 (g : TX → Prop) : wtx Try.prog 45 g = g ⟨⟨.other, 1, 8, some [.lit .nilFunc], []⟩, true, false, true, true⟩ := wtx_of y45 g
@[simp] theorem s45 : notSlice Try.prog 45 = true := notSlice_of y45
theorem y46 : tx Try.prog 46 = some ⟨⟨.other, 1, 8, some [.lit .nilFunc], []⟩, true, false, true, true⟩ := by kernel_rfl
@[simp ↓] theorem x46 (g : TX → Prop) : wtx Try.prog 46 g = g ⟨⟨.other, 1, 8, some [.lit .nilFunc], []⟩, true, false, true, true⟩ := wtx_of y46 g
@[simp] theorem s46 : notSlice Try.prog 46 = true := notSlice_of y46
theorem y47 : tx Try.prog 47 = some ⟨⟨.other, 1, 8, some [.lit .nilFunc], []⟩, true, false, true, true⟩ := by kernel_rfl
@[simp ↓] theorem x47 (g : TX → Prop) : wtx Try.prog 47 g = g ⟨⟨.other, 1, 8, some [.lit .nilFunc], []⟩, true, false, true, true⟩ := wtx_of y47 g
@[simp] theorem s47 : notSlice Try.prog 47 = true := notSlice_of y47
theorem y48 : tx Try.prog 48 = some ⟨⟨.other, 1, 8, some [.lit .nilFunc], []⟩, true, false, true, true⟩ := by kernel_rfl
@[simp ↓] theorem x48 (g : TX → Prop) : wtx Try.prog 48 g = g ⟨⟨.other, 1, 8, some [.lit .nilFunc], []⟩, true, false, true, true⟩ := wtx_of y48 g
@[simp] theorem s48 : notSlice Try.prog 48 = true := notSlice_of y48
theorem y49 : tx Try.prog 49 = some ⟨⟨.struct, 8, 104, some [.lit (.int .i64 0), .lit (.int .i64 0), .lit (.int .i64 0), .lit (.int .i64 0), .lit (.string ⟨#[]⟩), .lit (.string ⟨#[]⟩), .lit (.string ⟨#[]⟩), .list [] .nil], [(0, 1, false), (1, 1, false), (2, 1, false), (3, 1, false), (4, 1, false), (5, 1, false), (6, 1, false), (7, 1, false)]⟩, true, true, true, false⟩ := by kernel_rfl
@[simp ↓] theorem x49 (g : TX → Prop) : wtx Try.prog 49 g = g ⟨⟨.struct, 8, 104, some [.lit (.int .i64 0), .lit (.int .i64 0), .lit (.int .i64 0), .lit (.int .i64 0), .lit (.string ⟨#[]⟩), .lit (.string ⟨#[]⟩), .lit (.string ⟨#[]⟩), .list [] .nil], [(0, 1, false), (1, 1, false), (2, 1, false), (3, 1, false), (4, 1, false), (5, 1, false), (6, 1, false), (7, 1, false)]⟩, true, true, true, false⟩ := wtx_of y49 g
@[simp] theorem s49 : notSlice Try.prog 49 = true := notSlice_of y49
@[simp] theorem k49 : kindOf Try.prog 49 = .struct := by kernel_rfl
theorem y50 : tx Try.prog 50 = some ⟨⟨.struct, 8, 104, some [.lit (.int .i64 0), .lit (.int .i64 0), .lit (.int .i64 0), .lit (.int .i64 0), .lit (.string ⟨#[]⟩), .lit (.string ⟨#[]⟩), .lit (.string ⟨#[]⟩), .list [] .nil], [(0, 1, false), (1, 1, false), (2, 1, false), (3, 1, false), (4, 1, false), (5, 1, false), (6, 1, false), (7, 1, false)]⟩, true, true, true, false⟩ := by kernel_rfl
@[simp ↓] theorem x50 (g : TX → Prop) : wtx Try.prog 50 g = g ⟨⟨.struct, 8, 104, some [.lit (.int .i64 0), .lit (.int .i64 0), .lit (.int .i64 0), .lit (.int .i64 0), .lit (.string ⟨#[]⟩), .lit (.string ⟨#[]⟩), .lit (.string ⟨#[]⟩), .list [] .nil], [(0, 1, false), (1, 1, false), (2, 1, false), (3, 1, false), (4, 1, false), (5, 1, false), (6, 1, false), (7, 1, false)]⟩, true, true, true, false⟩ := wtx_of y50 g
@[simp] theorem s50 : notSlice Try.prog 50 = true := notSlice_of y50
@[simp] theorem k50 : kindOf Try.prog 50 = .struct := by kernel_rfl
theorem y51 : tx Try.prog 51 = some ⟨⟨.other, 1, 8, some [.lit .nilFunc], []⟩, true, false, true, true⟩ := by kernel_rfl
@[simp ↓] theorem x51 (g : TX → Prop) : wtx Try.prog 51 g = g ⟨⟨.other, 1, 8, some [.lit .nilFunc], []⟩, true, false, true, true⟩ := wtx_of y51 g
@[simp] theorem s51 : notSlice Try.prog 51 = true := notSlice_of y51
theorem y52 : tx Try.prog 52 = some ⟨⟨.struct, 12, 136, some [.lit (.int .i64 0), .lit (.bool false), .lit (.int .i64 0), .lit (.int .i64 0), .lit (.int .i64 0), .lit (.int .i64 0), .lit (.string ⟨#[]⟩), .lit (.string ⟨#[]⟩), .lit (.string ⟨#[]⟩), .list [] .nil, .lit (.int .i64 0), .lit (.int .i64 0)], [(0, 1, false), (1, 1, false), (2, 8, true), (10, 1, false), (11, 1, false)]⟩, true, true, true, false⟩ := by kernel_rfl
@[simp ↓] theorem x52 (g : TX → Prop) : wtx Try.prog 52 g = g ⟨⟨.struct, 12, 136, some [.lit (.int .i64 0), .lit (.bool false), .lit (.int .i64 0), .lit (.int .i64 0), .lit (.int .i64 0), .lit (.int .i64 0), .lit (.string ⟨#[]⟩), .lit (.string ⟨#[]⟩), .lit (.string ⟨#[]⟩), .list [] .nil, .lit (.int .i64 0), .lit (.int .i64 0)], [(0, 1, false), (1, 1, false), (2, 8, true), (10, 1, false), (11, 1, false)]⟩, true, true, true, false⟩ := wtx_of y52 g
@[simp] theorem s52 : notSlice Try.prog 52 = true := notSlice_of y52
@[simp] theorem k52 : kindOf Try.prog 52 = .struct := by kernel_rfl
theorem y53 : tx Try.prog 53 = some ⟨⟨.struct, 12, 136, some [.lit (.int .i64 0), .lit (.bool false), .lit (.int .i64 0), .lit (.int .i64 0), .lit (.int .i64 0), .lit (.int .i64 0), .lit (.string ⟨#[]⟩), .lit (.string ⟨#[]⟩), .lit (.string ⟨#[]⟩), .list [] .nil, .lit (.int .i64 0), .lit (.int .i64 0)], [(0, 1, false), (1, 1, false), (2, 8, true), (10, 1, false), (11, 1, false)]⟩, true, true, true, false⟩ := by kernel_rfl
@[simp ↓] theorem x53 (g : TX → Prop) : wtx Try.prog 53 g = g ⟨⟨.struct, 12, 136, some [.lit (.int .i64 0), .lit (.bool false), .lit (.int .i64 0), .lit (.int .i64 0), .lit (.int .i64 0), .lit (.int .i64 0), .lit (.string ⟨#[]⟩), .lit (.string ⟨#[]⟩), .lit (.string ⟨#[]⟩), .list [] .nil, .lit (.int .i64 0), .lit (.int .i64 0)], [(0, 1, false), (1, 1, false), (2, 8, true), (10, 1, false), (11, 1, false)]⟩, true, true, true, false⟩ := wtx_of y53 g
@[simp] theorem s53 : notSlice Try.prog 53 = true := notSlice_of y53
@[simp] theorem k53 : kindOf Try.prog 53 = .struct := by kernel_rfl
theorem y54 : tx Try.prog 54 = some ⟨⟨.other, 1, 8, some [.lit .nilFunc], []⟩, true, false, true, true⟩ := by kernel_rfl
@[simp ↓] theorem x54 (g : TX → Prop) : wtx Try.prog 54 g = g ⟨⟨.other, 1, 8, some [.lit .nilFunc], []⟩, true, false, true, true⟩ := wtx_of y54 g
@[simp] theorem s54 : notSlice Try.prog 54 = true := notSlice_of y54
theorem y55 : tx Try.prog 55 = some ⟨⟨.slice 3, 1, 24, some [.list [] .nil], []⟩, true, false, true, true⟩ := by kernel_rfl
@[simp ↓] theorem x55 (g : TX → Prop) : wtx Try.prog 55 g = g ⟨⟨.slice 3, 1, 24, some [.list [] .nil], []⟩, true, false, true, true⟩ := wtx_of y55 g
@[simp] theorem s55 : notSlice Try.prog 55 = false := notSlice_of y55
@[simp] theorem k55 : kindOf Try.prog 55 = .slice 3 := by kernel_rfl
theorem y56 : tx Try.prog 56 = some ⟨⟨.other, 1, 8, some [.lit .nilFunc], []⟩, true, false, true, true⟩ := by kernel_rfl
@[simp ↓] theorem x56 (g : TX → Prop) : wtx Try.prog 56 g = g ⟨⟨.other, 1, 8, some [.lit .nilFunc], []⟩, true, false, true, true⟩ := wtx_of y56 g
@[simp] theorem s56 : notSlice Try.prog 56 = true := notSlice_of y56
theorem y57 : tx Try.prog 57 = some ⟨⟨.struct, 8, 120, some [.lit (.int .i64 0), .lit (.int .i64 0), .lit (.string ⟨#[]⟩), .lit (.string ⟨#[]⟩), .lit (.string ⟨#[]⟩), .list [] .nil, .list [] .nil, .lit (.int .i64 0)], [(0, 1, false), (1, 1, false), (2, 1, false), (3, 1, false), (4, 1, false), (5, 1, false), (6, 1, false), (7, 1, false)]⟩, true, true, true, false⟩ := by kernel_rfl
@[simp ↓] theorem x57 (g : TX → Prop) : wtx Try.prog 57 g = g ⟨⟨.struct, 8, 120, some [.lit (.int .i64 0), .lit (.int .i64 0), .lit (.string ⟨#[]⟩), .lit (.string ⟨#[]⟩), .lit (.string ⟨#[]⟩), .list [] .nil, .list [] .nil, .lit (.int .i64 0)], [(0, 1, false), (1, 1, false), (2, 1, false), (3, 1, false), (4, 1, false), (5, 1, false), (6, 1, false), (7, 1, false)]⟩, true, true, true, false⟩ := wtx_of y57 g
@[simp] theorem s57 : notSlice Try.prog 57 = true := notSlice_of y57
@[simp] theorem k57 : kindOf Try.prog 57 = .struct := by kernel_rfl
theorem y58 : tx Try.prog 58 = some ⟨⟨.struct, 8, 120, some [.lit (.int .i64 0), .lit (.int .i64 0), .lit (.string ⟨#[]⟩), .lit (.string ⟨#[]⟩), .lit (.string ⟨#[]⟩), .list [] .nil, .list [] .nil, .lit (.int .i64 0)], [(0, 1, false), (1, 1, false), (2, 1, false), (3, 1, false), (4, 1, false), (5, 1, false), (6, 1, false), (7, 1, false)]⟩, true, true, true, false⟩ := by kernel_rfl
@[simp ↓] theorem x58 (g : TX → Prop) : wtx Try.prog 58 g = g ⟨⟨.struct, 8, 120, some [.lit (.int .i64 0), .lit (.int .i64 0), .lit (.string ⟨#[]⟩), .lit (.string ⟨#[]⟩), .lit (.string ⟨#[]⟩), .list [] .nil, .list [] .nil, .lit (.int .i64 0)], [(0, 1, false), (1, 1, false), (2, 1, false), (3, 1, false), (4, 1, false), (5, 1, false), (6, 1, false), (7, 1, false)]⟩, true, true, true, false⟩ := wtx_of y58 g
@[simp] theorem s58 : notSlice Try.prog 58 = true := notSlice_of y58
@[simp] theorem k58 : kindOf Try.prog 58 = .struct := by kernel_rfl
theorem y60 : tx Try.prog 60 = some ⟨⟨.other, 1, 8, some [.lit .nilFunc], []⟩, true, false, true, true⟩ := by kernel_rfl
@[simp ↓] theorem x60 (g : TX → Prop) : wtx Try.prog 60 g = g ⟨⟨.other, 1, 8, some [.lit .nilFunc], []⟩, true, false, true, true⟩ := wtx_of y60 g
@[simp] theorem s60 : notSlice Try.prog 60 = true := notSlice_of y60
theorem y61 : tx Try.prog 61 = some ⟨⟨.other, 1, 8, some [.lit .nilFunc], []⟩, true, false, true, true⟩ := by kernel_rfl
@[simp ↓] theorem x61 (g : TX → Prop) : wtx Try.prog 61 g = g ⟨⟨.other, 1, 8, some [.lit .nilFunc], []⟩, true, false, true, true⟩ := wtx_of y61 g
@[simp] theorem s61 : notSlice Try.prog 61 = true := notSlice_of y61
theorem y62 : tx Try.prog 62 = some ⟨⟨.int .i64, 1, 8, some [.lit (.int .i64 0)], []⟩, true, false, true, true⟩ := by kernel_rfl
@[simp ↓] theorem x62 (g : TX → Prop) : wtx Try.prog 62 g = g ⟨⟨.int .i64, 1, 8, some [.lit (.int .i64 0)], []⟩, true, false, true, true⟩ := wtx_of y62 g
@[simp] theorem s62 : notSlice Try.prog 62 = true := notSlice_of y62
@[simp] theorem k62 : kindOf Try.prog 62 = .int .i64 := by kernel_rfl
theorem y63 : tx Try.prog 63 = some ⟨⟨.ptr 137, 1, 8, some [.lit (.pointer none)], []⟩, true, false, true, true⟩ := by kernel_rfl
@[simp ↓] theorem x63 (g : TX → Prop) : wtx Try.prog 63 g = g ⟨⟨.ptr 137, 1, 8, some [.lit (.pointer none)], []⟩, true, false, true, true⟩ := wtx_of y63 g
@[simp] theorem s63 : notSlice Try.prog 63 = true := notSlice_of y63
@[simp] theorem k63 : kindOf Try.prog 63 = .ptr 137 := by kernel_rfl
theorem y64 : tx Try.prog 64 = some ⟨⟨.other, 1, 8, some [.lit .nilFunc], []⟩, true, false, true, true⟩ := by kernel_rfl
@[simp ↓] theorem x64 (g : TX → Prop) : wtx Try.prog 64 g = g ⟨⟨.other, 1, 8, some [.lit .nilFunc], []⟩, true, false, true, true⟩ := wtx_of y64 g
@[simp] theorem s64 : notSlice Try.prog 64 = true := notSlice_of y64
theorem y65 : tx Try.prog 65 = some ⟨⟨.other, 1, 8, some [.lit .nilFunc], []⟩, true, false, true, true⟩ := by kernel_rfl
@[simp ↓] theorem x65 (g : TX → Prop) : wtx Try.prog 65 g = g ⟨⟨.other, 1, 8, some [.lit .nilFunc], []⟩, true, false, true, true⟩ := wtx_of y65 g
@[simp] theorem s65 : notSlice Try.prog 65 = true := notSlice_of y65
theorem y66 : tx Try.prog 66 = some ⟨⟨.other, 1, 8, some [.lit .nilFunc], []⟩, true, false, true, true⟩ := by kernel_rfl
@[simp ↓] theorem x66 (g : TX → Prop) : wtx Try.prog 66 g = g ⟨⟨.other, 1, 8, some [.lit .nilFunc], []⟩, true, false, true, true⟩ := wtx_of y66 g
@[simp] theorem s66 : notSlice Try.prog 66 = true := notSlice_of y66
theorem y67 : tx Try.prog 67 = some ⟨⟨.other, 1, 8, some [.lit .nilFunc], []⟩, true, false, true, true⟩ := by kernel_rfl
@[simp ↓] theorem x67 (g : TX → Prop) : wtx Try.prog 67 g = g ⟨⟨.other, 1, 8, some [.lit .nilFunc], []⟩, true, false, true, true⟩ := wtx_of y67 g
@[simp] theorem s67 : notSlice Try.prog 67 = true := notSlice_of y67
theorem y68 : tx Try.prog 68 = some ⟨⟨.other, 1, 8, some [.lit .nilFunc], []⟩, true, false, true, true⟩ := by kernel_rfl
@[simp ↓] theorem x68 (g : TX → Prop) : wtx Try.prog 68 g = g ⟨⟨.other, 1, 8, some [.lit .nilFunc], []⟩, true, false, true, true⟩ := wtx_of y68 g
@[simp] theorem s68 : notSlice Try.prog 68 = true := notSlice_of y68
theorem y69 : tx Try.prog 69 = some ⟨⟨.other, 1, 8, some [.lit .nilFunc], []⟩, true, false, true, true⟩ := by kernel_rfl
@[simp ↓] theorem x69 (g : TX → Prop) : wtx Try.prog 69 g = g ⟨⟨.other, 1, 8, some [.lit .nilFunc], []⟩, true, false, true, true⟩ := wtx_of y69 g
@[simp] theorem s69 : notSlice Try.prog 69 = true := notSlice_of y69
theorem y70 : tx Try.prog 70 = some ⟨⟨.other, 1, 8, some [.lit .nilFunc], []⟩, true, false, true, true⟩ := by kernel_rfl
@[simp ↓] theorem x70 (g : TX → Prop) : wtx Try.prog 70 g = g ⟨⟨.other, 1, 8, some [.lit .nilFunc], []⟩, true, false, true, true⟩ := wtx_of y70 g
@[simp] theorem s70 : notSlice Try.prog 70 = true := notSlice_of y70
theorem y71 : tx Try.prog 71 = some ⟨⟨.other, 1, 8, some [.lit .nilFunc], []⟩, true, false, true, true⟩ := by kernel_rfl
@[simp ↓] theorem x71 (g : TX → Prop) : wtx Try.prog 71 g = g ⟨⟨.other, 1, 8, some [.lit .nilFunc], []⟩, true, false, true, true⟩ := wtx_of y71 g
@[simp] theorem s71 : notSlice Try.prog 71 = true := notSlice_of y71
theorem y72 : tx Try.prog 72 = some ⟨⟨.other, 1, 8, some [.lit .nilFunc], []⟩, true, false, true, true⟩ := by kernel_rfl
@[simp ↓] theorem x72 (g : TX → Prop) : wtx Try.prog 72 g = g ⟨⟨.other, 1, 8, some [.lit .nilFunc], []⟩, true, false, true, true⟩ := wtx_of y72 g
@[simp] theorem s72 : notSlice Try.prog 72 = true := notSlice_of y72
theorem y74 : tx Try.prog 74 = some ⟨⟨.other, 1, 8, some [.lit .nilFunc], []⟩, true, false, true, true⟩ := by kernel_rfl
@[simp ↓] theorem x74 (g : TX → Prop) : wtx Try.prog 74 g = g ⟨⟨.other, 1, 8, some [.lit .nilFunc], []⟩, true, false, true, true⟩ := wtx_of y74 g
@[simp] theorem s74 : notSlice Try.prog 74 = true := notSlice_of y74
theorem y75 : tx Try.prog 75 = some ⟨⟨.other, 1, 8, some [.lit .nilFunc], []⟩, true, false, true, true⟩ := by kernel_rfl
@[simp ↓] theorem x75 (g : TX → Prop) : wtx Try.prog 75 g = g ⟨⟨.other, 1, 8, some [.lit .nilFunc], []⟩, true, false, true, true⟩ := wtx_of y75 g
@[simp] theorem s75 : notSlice Try.prog 75 = true := notSlice_of y75
theorem y76 : tx Try.prog 76 = some ⟨⟨.other, 1, 8, some [.lit .nilFunc], []⟩, true, false, true, true⟩ := by kernel_rfl
@[simp ↓] theorem x76 (g : TX → Prop) : wtx Try.prog 76 g = g ⟨⟨.other, 1, 8, some [.lit .nilFunc], []⟩, true, false, true, true⟩ := wtx_of y76 g
@[simp] theorem s76 : notSlice Try.prog 76 = true := notSlice_of y76
theorem y77 : tx Try.prog 77 = some ⟨⟨.other, 1, 8, some [.lit .nilFunc], []⟩, true, false, true, true⟩ := by kernel_rfl
@[simp ↓] theorem x77 (g : TX → Prop) : wtx Try.prog 77 g = g ⟨⟨.other, 1, 8, some [.lit .nilFunc], []⟩, true, false, true, true⟩ := wtx_of y77 g
@[simp] theorem s77 : notSlice Try.prog 77 = true := notSlice_of y77
theorem y78 : tx Try.prog 78 = some ⟨⟨.other, 1, 8, some [.lit .nilFunc], []⟩, true, false, true, true⟩ := by kernel_rfl
@[simp ↓] theorem x78 (g : TX → Prop) : wtx Try.prog 78 g = g ⟨⟨.other, 1, 8, some [.lit .nilFunc], []⟩, true, false, true, true⟩ := wtx_of y78 g
@[simp] theorem s78 : notSlice Try.prog 78 = true := notSlice_of y78
theorem y79 : tx Try.prog 79 = some ⟨⟨.other, 1, 8, some [.lit .nilFunc], []⟩, true, false, true, true⟩ := by kernel_rfl
@[simp ↓] theorem x79 (g : TX → Prop) : wtx Try.prog 79 g = g ⟨⟨.other, 1, 8, some [.lit .nilFunc], []⟩, true, false, true, true⟩ := wtx_of y79 g
@[simp] theorem s79 : notSlice Try.prog 79 = true := notSlice_of y79
theorem y81 : tx Try.prog 81 = some ⟨⟨.other, 1, 8, some [.lit .nilFunc], []⟩, true, false, true, true⟩ := by kernel_rfl
@[simp ↓] theorem x81 (g : TX → Prop) : wtx Try.prog 81 g = g ⟨⟨.other, 1, 8, some [.lit .nilFunc], []⟩, true, false, true, true⟩ := wtx_of y81 g
@[simp] theorem s81 : notSlice Try.prog 81 = true := notSlice_of y81
theorem y82 : tx Try.prog 82 = some ⟨⟨.other, 1, 8, some [.lit .nilFunc], []⟩, true, false, true, true⟩ := by kernel_rfl
@[simp ↓] theorem x82 (g : TX → Prop) : wtx Try.prog 82 g = g ⟨⟨.other, 1, 8, some [.lit .nilFunc], []⟩, true, false, true, true⟩ := wtx_of y82 g
@[simp] theorem s82 : notSlice Try.prog 82 = true := notSlice_of y82
theorem y83 : tx Try.prog 83 = some ⟨⟨.other, 1, 8, some [.lit .nilFunc], []⟩, true, false, true, true⟩ := by kernel_rfl
@[simp ↓] theorem x83 (g : TX → Prop) : wtx Try.prog 83 g = g ⟨⟨.other, 1, 8, some [.lit .nilFunc], []⟩, true, false, true, true⟩ := wtx_of y83 g
@[simp] theorem s83 : notSlice Try.prog 83 = true := notSlice_of y83
theorem y84 : tx Try.prog 84 = some ⟨⟨.other, 1, 8, some [.lit .nilFunc], []⟩, true, false, true, true⟩ := by kernel_rfl
@[simp ↓] theorem x84 (g : TX → Prop) : wtx Try.prog 84 g = g ⟨⟨.other, 1, 8, some [.lit .nilFunc], []⟩, true, false, true, true⟩ := wtx_of y84 g
@[simp] theorem s84 : notSlice Try.prog 84 = true := notSlice_of y84
theorem y85 : tx Try.prog 85 = some ⟨⟨.ptr 145, 1, 8, some [.lit (.pointer none)], []⟩, true, false, true, true⟩ := by kernel_rfl
@[simp ↓] theorem x85 (g : TX → Prop) : wtx Try.prog 85 g = g ⟨⟨.ptr 145, 1, 8, some [.lit (.pointer none)], []⟩, true, false, true, true⟩ := wtx_of y85 g
@[simp] theorem s85 : notSlice Try.prog 85 = true := notSlice_of y85
@[simp] theorem k85 : kindOf Try.prog 85 = .ptr 145 := by kernel_rfl
theorem y86 : tx Try.prog 86 = some ⟨⟨.other, 1, 8, some [.lit .nilFunc], []⟩, true, false, true, true⟩ := by kernel_rfl
@[simp ↓] theorem x86 (g : TX → Prop) : wtx Try.prog 86 g = g ⟨⟨.other, 1, 8, some [.lit .nilFunc], []⟩, true, false, true, true⟩ := wtx_of y86 g
@[simp] theorem s86 : notSlice Try.prog 86 = true := notSlice_of y86
theorem y87 : tx Try.prog 87 = some ⟨⟨.slice 50, 1, 24, some [.list [] .nil], []⟩, true, false, true, true⟩ := by kernel_rfl
@[simp ↓] theorem x87 (g : TX → Prop) : wtx Try.prog 87 g = g ⟨⟨.slice 50, 1, 24, some [.list [] .nil], []⟩, true, false, true, true⟩ := wtx_of y87 g
@[simp] theorem s87 : notSlice Try.prog 87 = false := notSlice_of y87
@[simp] theorem k87 : kindOf Try.prog 87 = .slice 50 := by kernel_rfl
theorem y88 : tx Try.prog 88 = some ⟨⟨.other, 1, 8, some [.lit .nilFunc], []⟩, true, false, true, true⟩ := by kernel_rfl
@[simp ↓] theorem x88 (g : TX → Prop) : wtx Try.prog 88 g = g ⟨⟨.other, 1, 8, some [.lit .nilFunc], []⟩, true, false, true, true⟩ := wtx_of y88 g
@[simp] theorem s88 : notSlice Try.prog 88 = true := notSlice_of y88
theorem y89 : tx Try.prog 89 = some ⟨⟨.other, 1, 8, some [.lit .nilFunc], []⟩, true, false, true, true⟩ := by kernel_rfl
@[simp ↓] theorem x89 (g : TX → Prop) : wtx Try.prog 89 g = g ⟨⟨.other, 1, 8, some [.lit .nilFunc], []⟩, true, false, true, true⟩ := wtx_of y89 g
@[simp] theorem s89 : notSlice Try.prog 89 = true := notSlice_of y89
theorem y90 : tx Try.prog 90 = some ⟨⟨.other, 1, 8, some [.lit .nilFunc], []⟩, true, false, true, true⟩ := by kernel_rfl
@[simp ↓] theorem x90 (g : TX → Prop) : wtx Try.prog 90 g = g ⟨⟨.other, 1, 8, some [.lit .nilFunc], []⟩, true, false, true, true⟩ := wtx_of y90 g
@[simp] theorem s90 : notSlice Try.prog 90 = true := notSlice_of y90
theorem y92 : tx Try.prog 92 = some ⟨⟨.other, 1, 8, some [.lit .nilFunc], []⟩, true, false, true, true⟩ := by kernel_rfl
@[simp ↓] theorem x92 (g : TX → Prop) : wtx Try.prog 92 g = g ⟨⟨.other, 1, 8, some [.lit .nilFunc], []⟩, true, false, true, true⟩ := wtx_of y92 g
@[simp] theorem s92 : notSlice Try.prog 92 = true := notSlice_of y92
theorem y94 : tx Try.prog 94 = some ⟨⟨.other, 1, 8, some [.lit .nilFunc], []⟩, true, false, true, true⟩ := by kernel_rfl
@[simp ↓] theorem x94 (g : TX → Prop) : wtx Try.prog 94 g = g ⟨⟨.other, 1, 8, some [.lit .nilFunc], []⟩, true, false, true, true⟩ := wtx_of y94 g
@[simp] theorem s94 : notSlice Try.prog 94 = true := notSlice_of y94
theorem y95 : tx Try.prog 95 = some ⟨⟨.other, 1, 8, some [.lit .nilFunc], []⟩, true, false, true, true⟩ := by kernel_rfl
@[simp ↓] theorem x95 (g : TX → Prop) : wtx Try.prog 95 g = g ⟨⟨.other, 1, 8, some [.lit .nilFunc], []⟩, true, false, true, true⟩ := wtx_of y95 g
@[simp] theorem s95 : notSlice Try.prog 95 = true := notSlice_of y95
theorem y96 : tx Try.prog 96 = some ⟨⟨.other, 1, 8, some [.lit .nilFunc], []⟩, true, false, true, true⟩ := by kernel_rfl
@[simp ↓] theorem x96 (g : TX → Prop) : wtx Try.prog 96 g = g ⟨⟨.other, 1, 8, some [.lit .nilFunc], []⟩, true, false, true, true⟩ := wtx_of y96 g
@[simp] theorem s96 : notSlice Try.prog 96 = true := notSlice_of y96
theorem y97 : tx Try.prog 97 = some ⟨⟨.struct, 6, 104, some [.lit (.int .i64 0), .lit (.string ⟨#[]⟩), .lit (.string ⟨#[]⟩), .lit (.string ⟨#[]⟩), .list [] .nil, .list [] .nil], [(0, 1, false), (1, 1, false), (2, 1, false), (3, 1, false), (4, 1, false), (5, 1, false)]⟩, true, true, true, false⟩ := by kernel_rfl
@[simp ↓] theorem x97 (g : TX → Prop) : wtx Try.prog 97 g = g ⟨⟨.struct, 6, 104, some [.lit (.int .i64 0), .lit (.string ⟨#[]⟩), .lit (.string ⟨#[]⟩), .lit (.string ⟨#[]⟩), .list [] .nil, .list [] .nil], [(0, 1, false), (1, 1, false), (2, 1, false), (3, 1, false), (4, 1, false), (5, 1, false)]⟩, true, true, true, false⟩ := wtx_of y97 g
@[simp] theorem s97 : notSlice Try.prog 97 = true := notSlice_of y97
@[simp] theorem k97 : kindOf Try.prog 97 = .struct := by kernel_rfl
theorem y98 : tx Try.prog 98 = some ⟨⟨.struct, 6, 104, some [.lit (.int .i64 0), .lit (.string ⟨#[]⟩), .lit (.string ⟨#[]⟩), .lit (.string ⟨#[]⟩), .list [] .nil, .list [] .nil], [(0, 1, false), (1, 1, false), (2, 1, false), (3, 1, false), (4, 1, false), (5, 1, false)]⟩, true, true, true, false⟩ := by kernel_rfl
@[simp ↓] theorem x98 (g : TX → Prop) : wtx Try.prog 98 g = g ⟨⟨.struct, 6, 104, some [.lit (.int .i64 0), .lit (.string ⟨#[]⟩), .lit (.string ⟨#[]⟩), .lit (.string ⟨#[]⟩), .list [] .nil, .list [] .nil], [(0, 1, false), (1, 1, false), (2, 1, false), (3, 1, false), (4, 1, false), (5, 1, false)]⟩, true, true, true, false⟩ := wtx_of y98 g
@[simp] theorem s98 : notSlice Try.prog 98 = true := notSlice_of y98
@[simp] theorem k98 : kindOf Try.prog 98 = .struct := by kernel_rfl
theorem y99 : tx Try.prog 99 = some ⟨⟨.other, 1, 8, some [.lit .nilFunc], []⟩, true, false, true, true⟩ := by kernel_rfl
@[simp ↓] theorem x99 (g : TX → Prop) : wtx Try.prog 99 g = g ⟨⟨.other, 1, 8, some [.lit .nilFunc], []⟩, true, false, true, true⟩ := wtx_of y99 g
@[simp] theorem s99 : notSlice Try.prog 99 = true := notSlice_of y99
theorem y100 : tx Try.prog 100 = some ⟨⟨.other, 1, 8, some [.lit .nilFunc], []⟩, true, false, true, true⟩ := by kernel_rfl
@[simp ↓] theorem x100 (g : TX → Prop) : wtx Try.prog 100 g = g ⟨⟨.other, 1, 8, some [.lit .nilFunc], []⟩, true, false, true, true⟩ := wtx_of y100 g
@[simp] theorem s100 : notSlice Try.prog 100 = true := notSlice_of y100
theorem y102 : tx Try.prog 102 = some ⟨⟨.other, 1, 8, some [.lit .nilFunc], []⟩, true, false, true, true⟩ := by kernel_rfl
@[simp ↓] theorem x102 (g : TX → Prop) : wtx Try.prog 102 g = g ⟨⟨.other, 1, 8, some [.lit .nilFunc], []⟩, true, false, true, true⟩ := wtx_of y102 g
@[simp] theorem s102 : notSlice Try.prog 102 = true := notSlice_of y102
theorem y103 : tx Try.prog 103 = some ⟨⟨.slice 105, 1, 24, some [.list [] .nil], []⟩, true, false, true, true⟩ := by kernel_rfl
@[simp ↓] theorem x103 (g : TX → Prop) : wtx Try.prog 103 g = g ⟨⟨.slice 105, 1, 24, some [.list [] .nil], []⟩, true, false, true, true⟩ := wtx_of y103 g
@[simp] theorem s103 : notSlice Try.prog 103 = false := notSlice_of y103
@[simp] theorem k103 : kindOf Try.prog 103 = .slice 105 := by kernel_rfl
theorem y104 : tx Try.prog 104 = some ⟨⟨.struct, 2, 32, some [.lit (.string ⟨#[]⟩), .lit (.string ⟨#[]⟩)], [(0, 1, false), (1, 1, false)]⟩, true, true, true, false⟩ := by kernel_rfl
@[simp ↓] theorem x104 (g : TX → Prop) : wtx Try.prog 104 g = g ⟨⟨.struct, 2, 32, some [.lit (.string ⟨#[]⟩), .lit (.string ⟨#[]⟩)], [(0, 1, false), (1, 1, false)]⟩, true, true, true, false⟩ := wtx_of y104 g
@[simp] theorem s104 : notSlice Try.prog 104 = true := notSlice_of y104
@[simp] theorem k104 : kindOf Try.prog 104 = .struct := by kernel_rfl
theorem y105 : tx Try.prog 105 = some ⟨⟨.struct, 2, 32, some [.lit (.string ⟨#[]⟩), .lit (.string ⟨#[]⟩)], [(0, 1, false), (1, 1, false)]⟩, true, true, true, false⟩ := by kernel_rfl
@[simp ↓] theorem x105 (g : TX → Prop) : wtx Try.prog 105 g = g ⟨⟨.struct, 2, 32, some [.lit (.string ⟨#[]⟩), .lit (.string ⟨#[]⟩)], [(0, 1, false), (1, 1, false)]⟩, true, true, true, false⟩ := wtx_of y105 g
@[simp] theorem s105 : notSlice Try.prog 105 = true := notSlice_of y105
@[simp] theorem k105 : kindOf Try.prog 105 = .struct := by kernel_rfl
@[simp] theorem q105 : eqKinds Try.prog 105 = some [.str, .str] := by kernel_rfl
theorem y106 : tx Try.prog 106 = some ⟨⟨.struct, 3, 72, some [.list [] .nil, .list [] .nil, .list [] .nil], [(0, 1, false), (1, 1, false), (2, 1, false)]⟩, true, true, true, false⟩ := by kernel_rfl
@[simp ↓] theorem x106 (g : TX → Prop) : wtx Try.prog 106 g = g ⟨⟨.struct, 3, 72, some [.list [] .nil, .list [] .nil, .list [] .nil], [(0, 1, false), (1, 1, false), (2, 1, false)]⟩, true, true, true, false⟩ := wtx_of y106 g
@[simp] theorem s106 : notSlice Try.prog 106 = true := notSlice_of y106
@[simp] theorem k106 : kindOf Try.prog 106 = .struct := by kernel_rfl
theorem y107 : tx Try.prog 107 = some ⟨⟨.struct, 3, 72, some [.list [] .nil, .list [] .nil, .list [] .nil], [(0, 1, false), (1, 1, false), (2, 1, false)]⟩, true, true, true, false⟩ := by kernel_rfl
@[simp ↓] theorem x107 (g : TX → Prop) : wtx Try.prog 107 g = g ⟨⟨.struct, 3, 72, some [.list [] .nil, .list [] .nil, .list [] .nil], [(0, 1, false), (1, 1, false), (2, 1, false)]⟩, true, true, true, false⟩ := wtx_of y107 g
@[simp] theorem s107 : notSlice Try.prog 107 = true := notSlice_of y107
@[simp] theorem k107 : kindOf Try.prog 107 = .struct := by kernel_rfl
theorem y108 : tx Try.prog 108 = some ⟨⟨.other, 1, 8, some [.lit .nilFunc], []⟩, true, false, true, true⟩ := by kernel_rfl
@[simp ↓] theorem x108 (g : TX → Prop) : wtx Try.prog 108 g = g ⟨⟨.other, 1, 8, some [.lit .nilFunc], []⟩, true, false, true, true⟩ := wtx_of y108 g
@[simp] theorem s108 : notSlice Try.prog 108 = true := notSlice_of y108
theorem y109 : tx Try.prog 109 = some ⟨⟨.ptr 37, 1, 8, some [.lit (.pointer none)], []⟩, true, false, true, true⟩ := by kernel_rfl
@[simp ↓] theorem x109 (g : TX → Prop) : wtx Try.prog 109 g = g ⟨⟨.ptr 37, 1, 8, some [.lit (.pointer none)], []⟩, true, false, true, true⟩ := wtx_of y109 g
@[simp] theorem s109 : notSlice Try.prog 109 = true := notSlice_of y109
@[simp] theorem k109 : kindOf Try.prog 109 = .ptr 37 := by kernel_rfl
theorem y110 : tx Try.prog 110 = some ⟨⟨.other, 1, 8, some [.lit .nilFunc], []⟩, true, false, true, true⟩ := by kernel_rfl
@[simp ↓] theorem x110 (g : TX → Prop) : wtx Try.prog 110 g = g ⟨⟨.other, 1, 8, some [.lit .nilFunc], []⟩, true, false, true, true⟩ := wtx_of y110 g
@[simp] theorem s110 : notSlice Try.prog 110 = true := notSlice_of y110
theorem y111 : tx Try.prog 111 = some ⟨⟨.other, 1, 8, some [.lit .nilFunc], []⟩, true, false, true, true⟩ := by kernel_rfl
@[simp ↓] theorem x111 (g : TX → Prop) : wtx Try.prog 111 g = g ⟨⟨.other, 1, 8, some [.lit .nilFunc], []⟩, true, false, true, true⟩ := wtx_of y111 g
@[simp] theorem s111 : notSlice Try.prog 111 = true := notSlice_of y111
theorem y112 : tx Try.prog 112 = some ⟨⟨.slice 113, 1, 24, some [.list [] .nil], []⟩, true, false, true, true⟩ := by kernel_rfl
@[simp ↓] theorem x112 (g : TX → Prop) : wtx Try.prog 112 g = g ⟨⟨.slice 113, 1, 24, some [.list [] .nil], []⟩, true, false, true, true⟩ := wtx_of y112 g
@[simp] theorem s112 : notSlice Try.prog 112 = false := notSlice_of y112
@[simp] theorem k112 : kindOf Try.prog 112 = .slice 113 := by kernel_rfl
theorem y113 : tx Try.prog 113 = some ⟨⟨.struct, 2, 32, some [.lit (.string ⟨#[]⟩), .lit (.string ⟨#[]⟩)], [(0, 1, false), (1, 1, false)]⟩, true, true, true, false⟩ := by kernel_rfl
@[simp ↓] theorem x113 (g : TX → Prop) : wtx Try.prog 113 g = g ⟨⟨.struct, 2, 32, some [.lit (.string ⟨#[]⟩), .lit (.string ⟨#[]⟩)], [(0, 1, false), (1, 1, false)]⟩, true, true, true, false⟩ := wtx_of y113 g
@[simp] theorem s113 : notSlice Try.prog 113 = true := notSlice_of y113
@[simp] theorem k113 : kindOf Try.prog 113 = .struct := by kernel_rfl
@[simp] theorem q113 : eqKinds Try.prog 113 = some [.str, .str] := by kernel_rfl
theorem y115 : tx Try.prog 115 = some ⟨⟨.other, 1, 8, some [.lit .nilFunc], []⟩, true, false, true, true⟩ := by kernel_rfl
@[simp ↓] theorem x115 (g : TX → Prop) : wtx Try.prog 115 g = g ⟨⟨.other, 1, 8, some [.lit .nilFunc], []⟩, true, false, true, true⟩ := wtx_of y115 g
@[simp] theorem s115 : notSlice Try.prog 115 = true := notSlice_of y115
theorem y116 : tx Try.prog 116 = some ⟨⟨.struct, 6, 104, some [.lit (.int .i64 0), .lit (.string ⟨#[]⟩), .lit (.string ⟨#[]⟩), .lit (.string ⟨#[]⟩), .list [] .nil, .list [] .nil], [(0, 1, false), (1, 1, false), (2, 1, false), (3, 1, false), (4, 1, false), (5, 1, false)]⟩, true, true, true, false⟩ := by kernel_rfl
@[simp ↓] theorem x116 (g : TX → Prop) : wtx Try.prog 116 g = g ⟨⟨.struct, 6, 104, some [.lit (.int .i64 0), .lit (.string ⟨#[]⟩), .lit (.string ⟨#[]⟩), .lit (.string ⟨#[]⟩), .list [] .nil, .list [] .nil], [(0, 1, false), (1, 1, false), (2, 1, false), (3, 1, false), (4, 1, false), (5, 1, false)]⟩, true, true, true, false⟩ := wtx_of y116 g
@[simp] theorem s116 : notSlice Try.prog 116 = true := notSlice_of y116
@[simp] theorem k116 : kindOf Try.prog 116 = .struct := by kernel_rfl
theorem y117 : tx Try.prog 117 = some ⟨⟨.struct, 6, 104, some [.lit (.int .i64 0), .lit (.string ⟨#[]⟩), .lit (.string ⟨#[]⟩), .lit (.string ⟨#[]⟩), .list [] .nil, .list [] .nil], [(0, 1, false), (1, 1, false), (2, 1, false), (3, 1, false), (4, 1, false), (5, 1, false)]⟩, true, true, true, false⟩ := by kernel_rfl
@[simp ↓] theorem x117 (g : TX → Prop) : wtx Try.prog 117 g = g ⟨⟨.struct, 6, 104, some [.lit (.int .i64 0), .lit (.string ⟨#[]⟩), .lit (.string ⟨#[]⟩), .lit (.string ⟨#[]⟩), .list [] .nil, .list [] .nil], [(0, 1, false), (1, 1, false), (2, 1, false), (3, 1, false), (4, 1, false), (5, 1, false)]⟩, true, true, true, false⟩ := wtx_of y117 g
@[simp] theorem s117 : notSlice Try.prog 117 = true := notSlice_of y117
@[simp] theorem k117 : kindOf Try.prog 117 = .struct := by kernel_rfl
theorem y118 : tx Try.prog 118 = some ⟨⟨.other, 1, 8, some [.lit .nilFunc], []⟩, true, false, true, true⟩ := by kernel_rfl
@[simp ↓] theorem x118 (g : TX → Prop) : wtx Try.prog 118 g = g ⟨⟨.other, 1, 8, some [.lit .nilFunc], []⟩, true, false, true, true⟩ := wtx_of y118 g
@[simp] theorem s118 : notSlice Try.prog 118 = true := notSlice_of y118
theorem y119 : tx Try.prog 119 = some ⟨⟨.other, 1, 8, some [.lit .nilFunc], []⟩, true, false, true, true⟩ := by kernel_rfl
@[simp ↓] theorem x119 (g : TX → Prop) : wtx Try.prog 119 g = g ⟨⟨.other, 1, 8, some [.lit .nilFunc], []⟩, true, false, true, true⟩ := wtx_of y119 g
@[simp] theorem s119 : notSlice Try.prog 119 = true := notSlice_of y119
theorem y120 : tx Try.prog 120 = some ⟨⟨.other, 1, 8, some [.lit .nilFunc], []⟩, true, false, true, true⟩ := by kernel_rfl
@[simp ↓] theorem x120 (g : TX → Prop) : wtx Try.prog 120 g = g ⟨⟨.other, 1, 8, some [.lit .nilFunc], []⟩, true, false, true, true⟩ := wtx_of y120 g
@[simp] theorem s120 : notSlice Try.prog 120 = true := notSlice_of y120
theorem y121 : tx Try.prog 121 = some ⟨⟨.other, 1, 8, some [.lit .nilFunc], []⟩, true, false, true, true⟩ := by kernel_rfl
@[simp ↓] theorem x121 (g : TX → Prop) : wtx Try.prog 121 g = g ⟨⟨.other, 1, 8, some [.lit .nilFunc], []⟩, true, false, true, true⟩ := wtx_of y121 g
@[simp] theorem s121 : notSlice Try.prog 121 = true := notSlice_of y121
theorem y122 : tx Try.prog 122 = some ⟨⟨.ptr 168, 1, 8, some [.lit (.pointer none)], []⟩, true, false, true, true⟩ := by kernel_rfl
@[simp ↓] theorem x122 (g : TX → Prop) : wtx Try.prog 122 g = g ⟨⟨.ptr 168, 1, 8, some [.lit (.pointer none)], []⟩, true, false, true, true⟩ := wtx_of y122 g
@[simp] theorem s122 : notSlice Try.prog 122 = true := notSlice_of y122
@[simp] theorem k122 : kindOf Try.prog 122 = .ptr 168 := by kernel_rfl
theorem y124 : tx Try.prog 124 = some ⟨⟨.other, 1, 8, some [.lit .nilFunc], []⟩, true, false, true, true⟩ := by kernel_rfl
@[simp ↓] theorem x124 (g : TX → Prop) : wtx Try.prog 124 g = g ⟨⟨.other, 1, 8, some [.lit .nilFunc], []⟩, true, false, true, true⟩ := wtx_of y124 g
@[simp] theorem s124 : notSlice Try.prog 124 = true := notSlice_of y124
theorem y125 : tx Try.prog 125 = some ⟨⟨.other, 1, 8, some [.lit .nilFunc], []⟩, true, false, true, true⟩ := by kernel_rfl
@[simp ↓] theorem x125 (g : TX → Prop) : wtx Try.prog 125 g = g ⟨⟨.other, 1, 8, some [.lit .nilFunc], []⟩, true, false, true, true⟩ := wtx_of y125 g
@[simp] theorem s125 : notSlice Try.prog 125 = true := notSlice_of y125
theorem y126 : tx Try.prog 126 = some ⟨⟨.struct, 2, 16, some [.lit (.pointer none), .lit (.int .i64 0)], [(0, 1, false), (1, 1, false)]⟩, true, true, true, false⟩ := by kernel_rfl
@[simp ↓] theorem x126 (g : TX → Prop) : wtx Try.prog 126 g = g ⟨⟨.struct, 2, 16, some [.lit (.pointer none), .lit (.int .i64 0)], [(0, 1, false), (1, 1, false)]⟩, true, true, true, false⟩ := wtx_of y126 g
@[simp] theorem s126 : notSlice Try.prog 126 = true := notSlice_of y126
@[simp] theorem k126 : kindOf Try.prog 126 = .struct := by kernel_rfl
theorem y127 : tx Try.prog 127 = some ⟨⟨.struct, 2, 16, some [.lit (.pointer none), .lit (.int .i64 0)], [(0, 1, false), (1, 1, false)]⟩, true, true, true, false⟩ := by kernel_rfl
@[simp ↓] theorem x127 (g : TX → Prop) : wtx Try.prog 127 g = g ⟨⟨.struct, 2, 16, some [.lit (.pointer none), .lit (.int .i64 0)], [(0, 1, false), (1, 1, false)]⟩, true, true, true, false⟩ := wtx_of y127 g
@[simp] theorem s127 : notSlice Try.prog 127 = true := notSlice_of y127
@[simp] theorem k127 : kindOf Try.prog 127 = .struct := by kernel_rfl
theorem y128 : tx Try.prog 128 = some ⟨⟨.other, 1, 8, some [.lit .nilFunc], []⟩, true, false, true, true⟩ := by kernel_rfl
@[simp ↓] theorem x128 (g : TX → Prop) : wtx Try.prog 128 g = g ⟨⟨.other, 1, 8, some [.lit .nilFunc], []⟩, true, false, true, true⟩ := wtx_of y128 g
@[simp] theorem s128 : notSlice Try.prog 128 = true := notSlice_of y128
theorem y129 : tx Try.prog 129 = some ⟨⟨.other, 1, 8, some [.lit .nilFunc], []⟩, true, false, true, true⟩ := by kernel_rfl
@[simp ↓] theorem x129 (g : TX → Prop) : wtx Try.prog 129 g = g ⟨⟨.other, 1, 8, some [.lit .nilFunc], []⟩, true, false, true, true⟩ := wtx_of y129 g
@[simp] theorem s129 : notSlice Try.prog 129 = true := notSlice_of y129
theorem y130 : tx Try.prog 130 = some ⟨⟨.ptr 58, 1, 8, some [.lit (.pointer none)], []⟩, true, false, true, true⟩ := by kernel_rfl
@[simp ↓] theorem x130 (g : TX → Prop) : wtx Try.prog 130 g = g ⟨⟨.ptr 58, 1, 8, some [.lit (.pointer none)], []⟩, true, false, true, true⟩ := wtx_of y130 g
@[simp] theorem s130 : notSlice Try.prog 130 = true := notSlice_of y130
@[simp] theorem k130 : kindOf Try.prog 130 = .ptr 58 := by kernel_rfl
theorem y131 : tx Try.prog 131 = some ⟨⟨.struct, 3, 40, some [.lit (.string ⟨#[]⟩), .lit (.string ⟨#[]⟩), .lit (.bool false)], [(0, 1, false), (1, 1, false), (2, 1, false)]⟩, true, true, true, false⟩ := by kernel_rfl
@[simp ↓] theorem x131 (g : TX → Prop) : wtx Try.prog 131 g = g ⟨⟨.struct, 3, 40, some [.lit (.string ⟨#[]⟩), .lit (.string ⟨#[]⟩), .lit (.bool false)], [(0, 1, false), (1, 1, false), (2, 1, false)]⟩, true, true, true, false⟩ := wtx_of y131 g
@[simp] theorem s131 : notSlice Try.prog 131 = true := notSlice_of y131
@[simp] theorem k131 : kindOf Try.prog 131 = .struct := by kernel_rfl
theorem y132 : tx Try.prog 132 = some ⟨⟨.struct, 3, 40, some [.lit (.string ⟨#[]⟩), .lit (.string ⟨#[]⟩), .lit (.bool false)], [(0, 1, false), (1, 1, false), (2, 1, false)]⟩, true, true, true, false⟩ := by kernel_rfl
@[simp ↓] theorem x132 (g : TX → Prop) : wtx Try.prog 132 g = g ⟨⟨.struct, 3, 40, some [.lit (.string ⟨#[]⟩), .lit (.string ⟨#[]⟩), .lit (.bool false)], [(0, 1, false), (1, 1, false), (2, 1, false)]⟩, true, true, true, false⟩ := wtx_of y132 g
@[simp] theorem s132 : notSlice Try.prog 132 = true := notSlice_of y132
@[simp] theorem k132 : kindOf Try.prog 132 = .struct := by kernel_rfl
@[simp] theorem q132 : eqKinds Try.prog 132 = some [.str, .str, .bool] := by kernel_rfl
theorem y133 : tx Try.prog 133 = some ⟨⟨.other, 1, 8, some [.lit .nilFunc], []⟩, true, false, true, true⟩ := by kernel_rfl
@[simp ↓] theorem x133 (g : TX → Prop) : wtx Try.prog 133 g = g ⟨⟨.other, 1, 8, some [.lit .nilFunc], []⟩, true, false, true, true⟩ := wtx_of y133 g
@[simp] theorem s133 : notSlice Try.prog 133 = true := notSlice_of y133
theorem y134 : tx Try.prog 134 = some ⟨⟨.other, 1, 8, some [.lit .nilFunc], []⟩, true, false, true, true⟩ := by kernel_rfl
@[simp ↓] theorem x134 (g : TX → Prop) : wtx Try.prog 134 g = g ⟨⟨.other, 1, 8, some [.lit .nilFunc], []⟩, true, false, true, true⟩ := wtx_of y134 g
@[simp] theorem s134 : notSlice Try.prog 134 = true := notSlice_of y134
theorem y135 : tx Try.prog 135 = some ⟨⟨.slice 58, 1, 24, some [.list [] .nil], []⟩, true, false, true, true⟩ := by kernel_rfl
@[simp ↓] theorem x135 (g : TX → Prop) : wtx Try.prog 135 g = g ⟨⟨.slice 58, 1, 24, some [.list [] .nil], []⟩, true, false, true, true⟩ := wtx_of y135 g
@[simp] theorem s135 : notSlice Try.prog 135 = false := notSlice_of y135
@[simp] theorem k135 : kindOf Try.prog 135 = .slice 58 := by kernel_rfl
theorem y136 : tx Try.prog 136 = some ⟨⟨.struct, 4, 48, some [.list [] .nil, .lit (.int .i64 0), .lit (.int .i64 0), .lit (.int .i64 0)], [(0, 1, false), (1, 1, false), (2, 1, false), (3, 1, false)]⟩, true, true, true, false⟩ := by kernel_rfl
@[simp ↓] theorem x136 (g : TX → Prop) : wtx Try.prog 136 g = g ⟨⟨.struct, 4, 48, some [.list [] .nil, .lit (.int .i64 0), .lit (.int .i64 0), .lit (.int .i64 0)], [(0, 1, false), (1, 1, false), (2, 1, false), (3, 1, false)]⟩, true, true, true, false⟩ := wtx_of y136 g
@[simp] theorem s136 : notSlice Try.prog 136 = true := notSlice_of y136
@[simp] theorem k136 : kindOf Try.prog 136 = .struct := by kernel_rfl
theorem y137 : tx Try.prog 137 = some ⟨⟨.struct, 4, 48, some [.list [] .nil, .lit (.int .i64 0), .lit (.int .i64 0), .lit (.int .i64 0)], [(0, 1, false), (1, 1, false), (2, 1, false), (3, 1, false)]⟩, true, true, true, false⟩ := by kernel_rfl
@[simp ↓] theorem x137 (g : TX → Prop) : wtx Try.prog 137 g = g ⟨⟨.struct, 4, 48, some [.list [] .nil, .lit (.int .i64 0), .lit (.int .i64 0), .lit (.int .i64 0)], [(0, 1, false), (1, 1, false), (2, 1, false), (3, 1, false)]⟩, true, true, true, false⟩ := wtx_of y137 g
@[simp] theorem s137 : notSlice Try.prog 137 = true := notSlice_of y137
@[simp] theorem k137 : kindOf Try.prog 137 = .struct := by kernel_rfl
theorem y138 : tx Try.prog 138 = some ⟨⟨.other, 1, 8, some [.lit .nilFunc], []⟩, true, false, true, true⟩ := by kernel_rfl
@[simp ↓] theorem x138 (g : TX → Prop) : wtx Try.prog 138 g = g ⟨⟨.other, 1, 8, some [.lit .nilFunc], []⟩, true, false, true, true⟩ := wtx_of y138 g
@[simp] theorem s138 : notSlice Try.prog 138 = true := notSlice_of y138
theorem y139 : tx Try.prog 139 = some ⟨⟨.other, 1, 8, some [.lit .nilFunc], []⟩, true, false, true, true⟩ := by kernel_rfl
@[simp ↓] theorem x139 (g : TX → Prop) : wtx Try.prog 139 g = g ⟨⟨.other, 1, 8, some [.lit .nilFunc], []⟩, true, false, true, true⟩ := wtx_of y139 g
@[simp] theorem s139 : notSlice Try.prog 139 = true := notSlice_of y139
theorem y140 : tx Try.prog 140 = some ⟨⟨.other, 1, 8, some [.lit .nilFunc], []⟩, true, false, true, true⟩ := by kernel_rfl
@[simp ↓] theorem x140 (g : TX → Prop) : wtx Try.prog 140 g = g ⟨⟨.other, 1, 8, some [.lit .nilFunc], []⟩, true, false, true, true⟩ := wtx_of y140 g
@[simp] theorem s140 : notSlice Try.prog 140 = true := notSlice_of y140
theorem y141 : tx Try.prog 141 = some ⟨⟨.other, 1, 8, some [.lit .nilFunc], []⟩, true, false, true, true⟩ := by kernel_rfl
@[simp ↓] theorem x141 (g : TX → Prop) : wtx Try.prog 141 g = g ⟨⟨.other, 1, 8, some [.lit .nilFunc], []⟩, true, false, true, true⟩ := wtx_of y141 g
@[simp] theorem s141 : notSlice Try.prog 141 = true := notSlice_of y141
theorem y142 : tx Try.prog 142 = some ⟨⟨.other, 1, 8, some [.lit .nilFunc], []⟩, true, false, true, true⟩ := by kernel_rfl
@[simp ↓] theorem x142 (g : TX → Prop) : wtx Try.prog 142 g = g ⟨⟨.other, 1, 8, some [.lit .nilFunc], []⟩, true, false, true, true⟩ := wtx_of y142 g
@[simp] theorem s142 : notSlice Try.prog 142 = true := notSlice_of y142
theorem y143 : tx Try.prog 143 = some ⟨⟨.other, 1, 8, some [.lit .nilFunc], []⟩, true, false, true, true⟩ := by kernel_rfl
@[simp ↓] theorem x143 (g : TX → Prop) : wtx Try.prog 143 g = g ⟨⟨.other, 1, 8, some [.lit .nilFunc], []⟩, true, false, true, true⟩ := wtx_of y143 g
@[simp] theorem s143 : notSlice Try.prog 143 = true := notSlice_of y143
theorem y144 : tx Try.prog 144 = some ⟨⟨.struct, 2, 32, some [.lit (.pointer none), .list [] .nil], [(0, 1, false), (1, 1, false)]⟩, true, true, true, false⟩ := by kernel_rfl
@[simp ↓] theorem x144 (g : TX → Prop) : wtx Try.prog 144 g = g ⟨⟨.struct, 2, 32, some [.lit (.pointer none), .list [] .nil], [(0, 1, false), (1, 1, false)]⟩, true, true, true, false⟩ := wtx_of y144 g
@[simp] theorem s144 : notSlice Try.prog 144 = true := notSlice_of y144
@[simp] theorem k144 : kindOf Try.prog 144 = .struct := by kernel_rfl
theorem y145 : tx Try.prog 145 = some ⟨⟨.struct, 2, 32, some [.lit (.pointer none), .list [] .nil], [(0, 1, false), (1, 1, false)]⟩, true, true, true, false⟩ := by kernel_rfl
@[simp ↓] theorem x145 (g : TX → Prop) : wtx Try.prog 145 g = g ⟨⟨.struct, 2, 32, some [.lit (.pointer none), .list [] .nil], [(0, 1, false), (1, 1, false)]⟩, true, true, true, false⟩ := wtx_of y145 g
@[simp] theorem s145 : notSlice Try.prog 145 = true := notSlice_of y145
@[simp] theorem k145 : kindOf Try.prog 145 = .struct := by kernel_rfl
theorem y146 : tx Try.prog 146 = some ⟨⟨.other, 1, 8, some [.lit .nilFunc], []⟩, true, false, true, true⟩ := by kernel_rfl
@[simp ↓] theorem x146 (g : TX → Prop) : wtx Try.prog 146 g = g ⟨⟨.other, 1, 8, some [.lit .nilFunc], []⟩, true, false, true, true⟩ := wtx_of y146 g
@[simp] theorem s146 : notSlice Try.prog 146 = true := notSlice_of y146
theorem y147 : tx Try.prog 147 = some ⟨⟨.other, 1, 8, some [.lit .nilFunc], []⟩, true, false, true, true⟩ := by kernel_rfl
@[simp ↓] theorem x147 (g : TX → Prop) : wtx Try.prog 147 g = g ⟨⟨.other, 1, 8, some [.lit .nilFunc], []⟩, true, false, true, true⟩ := wtx_of y147 g
@[simp] theorem s147 : notSlice Try.prog 147 = true := notSlice_of y147
theorem y148 : tx Try.prog 148 = some ⟨⟨.other, 1, 8, some [.lit .nilFunc], []⟩, true, false, true, true⟩ := by kernel_rfl
@[simp ↓] theorem x148 (g : TX → Prop) : wtx Try.prog 148 g = g ⟨⟨.other, 1, 8, some [.lit .nilFunc], []⟩, true, false, true, true⟩ := wtx_of y148 g
@[simp] theorem s148 : notSlice Try.prog 148 = true := notSlice_of y148
theorem y149 : tx Try.prog 149 = some ⟨⟨.other, 1, 8, some [.lit .nilFunc], []⟩, true, false, true, true⟩ := by kernel_rfl
@[simp ↓] theorem x149 (g : TX → Prop) : wtx Try.prog 149 g = g ⟨⟨.other, 1, 8, some [.lit .nilFunc], []⟩, true, false, true, true⟩ := wtx_of y149 g
@[simp] theorem s149 : notSlice Try.prog 149 = true := notSlice_of y149
theorem y150 : tx Try.prog 150 = some ⟨⟨.other, 1, 8, some [.lit .nilFunc], []⟩, true, false, true, true⟩ := by kernel_rfl
@[simp ↓] theorem x150 (g : TX → Prop) : wtx Try.prog 150 g = g ⟨⟨.other, 1, 8, some [.lit .nilFunc], []⟩, true, false, true, true⟩ := wtx_of y150 g
@[simp] theorem s150 : notSlice Try.prog 150 = true := notSlice_of y150
theorem y151 : tx Try.prog 151 = some ⟨⟨.struct, 3, 40, some [.lit (.int .i64 0), .lit (.string ⟨#[]⟩), .lit (.string ⟨#[]⟩)], [(0, 1, false), (1, 1, false), (2, 1, false)]⟩, true, true, true, false⟩ := by kernel_rfl
@[simp ↓] theorem x151 (g : TX → Prop) : wtx Try.prog 151 g = g ⟨⟨.struct, 3, 40, some [.lit (.int .i64 0), .lit (.string ⟨#[]⟩), .lit (.string ⟨#[]⟩)], [(0, 1, false), (1, 1, false), (2, 1, false)]⟩, true, true, true, false⟩ := wtx_of y151 g
@[simp] theorem s151 : notSlice Try.prog 151 = true := notSlice_of y151
@[simp] theorem k151 : kindOf Try.prog 151 = .struct := by kernel_rfl
theorem y152 : tx Try.prog 152 = some ⟨⟨.struct, 3, 40, some [.lit (.int .i64 0), .lit (.string ⟨#[]⟩), .lit (.string ⟨#[]⟩)], [(0, 1, false), (1, 1, false), (2, 1, false)]⟩, true, true, true, false⟩ := by kernel_rfl
@[simp ↓] theorem x152 (g : TX → Prop) : wtx Try.prog 152 g = g ⟨⟨.struct, 3, 40, some [.lit (.int .i64 0), .lit (.string ⟨#[]⟩), .lit (.string ⟨#[]⟩)], [(0, 1, false), (1, 1, false), (2, 1, false)]⟩, true, true, true, false⟩ := wtx_of y152 g
@[simp] theorem s152 : notSlice Try.prog 152 = true := notSlice_of y152
@[simp] theorem k152 : kindOf Try.prog 152 = .struct := by kernel_rfl
@[simp] theorem q152 : eqKinds Try.prog 152 = some [.int .i64, .str, .str] := by kernel_rfl
theorem y153 : tx Try.prog 153 = some ⟨⟨.other, 1, 8, some [.lit .nilFunc], []⟩, true, false, true, true⟩ := by kernel_rfl
@[simp ↓] theorem x153 (g : TX → Prop) : wtx Try.prog 153 g = g ⟨⟨.other, 1, 8, some [.lit .nilFunc], []⟩, true, false, true, true⟩ := wtx_of y153 g
@[simp] theorem s153 : notSlice Try.prog 153 = true := notSlice_of y153
theorem y155 : tx Try.prog 155 = some ⟨⟨.other, 1, 8, some [.lit .nilFunc], []⟩, true, false, true, true⟩ := by kernel_rfl
@[simp ↓] theorem x155 (g : TX → Prop) : wtx Try.prog 155 g = g ⟨⟨.other, 1, 8, some [.lit .nilFunc], []⟩, true, false, true, true⟩ := wtx_of y155 g
@[simp] theorem s155 : notSlice Try.prog 155 = true := notSlice_of y155
theorem y156 : tx Try.prog 156 = some ⟨⟨.other, 1, 8, some [.lit .nilFunc], []⟩, true, false, true, true⟩ := by kernel_rfl
@[simp ↓] theorem x156 (g : TX → Prop) : wtx Try.prog 156 g = g ⟨⟨.other, 1, 8, some [.lit .nilFunc], []⟩, true, false, true, true⟩ := wtx_of y156 g
@[simp] theorem s156 : notSlice Try.prog 156 = true := notSlice_of y156
theorem y157 : tx Try.prog 157 = some ⟨⟨.other, 1, 8, some [.lit .nilFunc], []⟩, true, false, true, true⟩ := by kernel_rfl
@[simp ↓] theorem x157 (g : TX → Prop) : wtx Try.prog 157 g = g ⟨⟨.other, 1, 8, some [.lit .nilFunc], []⟩, true, false, true, true⟩ := wtx_of y157 g
@[simp] theorem s157 : notSlice Try.prog 157 = true := notSlice_of y157
theorem y158 : tx Try.prog 158 = some ⟨⟨.slice 4, 1, 24, some [.list [] .nil], []⟩, true, false, true, true⟩ := by kernel_rfl
@[simp ↓] theorem x158 (g : TX → Prop) : wtx Try.prog 158 g = g ⟨⟨.slice 4, 1, 24, some [.list [] .nil], []⟩, true, false, true, true⟩ := wtx_of y158 g
@[simp] theorem s158 : notSlice Try.prog 158 = false := notSlice_of y158
@[simp] theorem k158 : kindOf Try.prog 158 = .slice 4 := by kernel_rfl
theorem y159 : tx Try.prog 159 = some ⟨⟨.other, 1, 8, some [.lit .nilFunc], []⟩, true, false, true, true⟩ := by kernel_rfl
@[simp ↓] theorem x159 (g : TX → Prop) : wtx Try.prog 159 g = g ⟨⟨.other, 1, 8, some [.lit .nilFunc], []⟩, true, false, true, true⟩ := wtx_of y159 g
@[simp] theorem s159 : notSlice Try.prog 159 = true := notSlice_of y159
theorem y160 : tx Try.prog 160 = some ⟨⟨.other, 1, 8, some [.lit .nilFunc], []⟩, true, false, true, true⟩ := by kernel_rfl
@[simp ↓] theorem x160 (g : TX → Prop) : wtx Try.prog 160 g = g ⟨⟨.other, 1, 8, some [.lit .nilFunc], []⟩, true, false, true, true⟩ := wtx_of y160 g
@[simp] theorem s160 : notSlice Try.prog 160 = true := notSlice_of y160
theorem y161 : tx Try.prog 161 = some ⟨⟨.slice 171, 1, 24, some [.list [] .nil], []⟩, true, false, true, true⟩ := by kernel_rfl
@[simp ↓] theorem x161 (g : TX → Prop) : wtx Try.prog 161 g = g ⟨⟨.slice 171, 1, 24, some [.list [] .nil], []⟩, true, false, true, true⟩ := wtx_of y161 g
@[simp] theorem s161 : notSlice Try.prog 161 = false := notSlice_of y161
@[simp] theorem k161 : kindOf Try.prog 161 = .slice 171 := by kernel_rfl
theorem y162 : tx Try.prog 162 = some ⟨⟨.struct, 0, 0, some [], []⟩, true, true, true, false⟩ := by kernel_rfl
@[simp ↓] theorem x162 (g : TX → Prop) : wtx Try.prog 162 g = g ⟨⟨.struct, 0, 0, some [], []⟩, true, true, true, false⟩ := wtx_of y162 g
@[simp] theorem s162 : notSlice Try.prog 162 = true := notSlice_of y162
@[simp] theorem k162 : kindOf Try.prog 162 = .struct := by kernel_rfl
theorem y163 : tx Try.prog 163 = some ⟨⟨.struct, 0, 0, some [], []⟩, true, true, true, false⟩ := by kernel_rfl
@[simp ↓] theorem x163 (g : TX → Prop) : wtx Try.prog 163 g = g ⟨⟨.struct, 0, 0, some [], []⟩, true, true, true, false⟩ := wtx_of y163 g
@[simp] theorem s163 : notSlice Try.prog 163 = true := notSlice_of y163
@[simp] theorem k163 : kindOf Try.prog 163 = .struct := by kernel_rfl
theorem y164 : tx Try.prog 164 = some ⟨⟨.struct, 0, 0, some [], []⟩, true, true, true, false⟩ := by kernel_rfl
@[simp ↓] theorem x164 (g : TX → Prop) : wtx Try.prog 164 g = g ⟨⟨.struct, 0, 0, some [], []⟩, true, true, true, false⟩ := wtx_of y164 g
@[simp] theorem s164 : notSlice Try.prog 164 = true := notSlice_of y164
@[simp] theorem k164 : kindOf Try.prog 164 = .struct := by kernel_rfl
theorem y165 : tx Try.prog 165 = some ⟨⟨.struct, 1, 8, some [.lit (.int .i64 0)], [(0, 0, true), (0, 0, true), (0, 1, false)]⟩, true, true, true, false⟩ := by kernel_rfl
@[simp ↓] theorem x165 (g : TX → Prop) : wtx Try.prog 165 g = g ⟨⟨.struct, 1, 8, some [.lit (.int .i64 0)], [(0, 0, true), (0, 0, true), (0, 1, false)]⟩, true, true, true, false⟩ := wtx_of y165 g
@[simp] theorem s165 : notSlice Try.prog 165 = true := notSlice_of y165
@[simp] theorem k165 : kindOf Try.prog 165 = .struct := by kernel_rfl
theorem y166 : tx Try.prog 166 = some ⟨⟨.struct, 1, 8, some [.lit (.int .i64 0)], [(0, 0, true), (0, 0, true), (0, 1, false)]⟩, true, true, true, false⟩ := by kernel_rfl
@[simp ↓] theorem x166 (g : TX → Prop) : wtx Try.prog 166 g = g ⟨⟨.struct, 1, 8, some [.lit (.int .i64 0)], [(0, 0, true), (0, 0, true), (0, 1, false)]⟩, true, true, true, false⟩ := wtx_of y166 g
@[simp] theorem s166 : notSlice Try.prog 166 = true := notSlice_of y166
@[simp] theorem k166 : kindOf Try.prog 166 = .struct := by kernel_rfl
theorem y167 : tx Try.prog 167 = some ⟨⟨.struct, 4, 64, some [.list [] .nil, .list [] .nil, .lit (.int .i64 0), .lit (.int .i64 0)], [(0, 1, false), (1, 1, false), (2, 1, false), (3, 1, true)]⟩, true, true, true, false⟩ := by kernel_rfl
@[simp ↓] theorem x167 (g : TX → Prop) : wtx Try.prog 167 g = g ⟨⟨.struct, 4, 64, some [.list [] .nil, .list [] .nil, .lit (.int .i64 0), .lit (.int .i64 0)], [(0, 1, false), (1, 1, false), (2, 1, false), (3, 1, true)]⟩, true, true, true, false⟩ := wtx_of y167 g
@[simp] theorem s167 : notSlice Try.prog 167 = true := notSlice_of y167
@[simp] theorem k167 : kindOf Try.prog 167 = .struct := by kernel_rfl
theorem y168 : tx Try.prog 168 = some ⟨⟨.struct, 4, 64, some [.list [] .nil, .list [] .nil, .lit (.int .i64 0), .lit (.int .i64 0)], [(0, 1, false), (1, 1, false), (2, 1, false), (3, 1, true)]⟩, true, true, true, false⟩ := by kernel_rfl
@[simp ↓] theorem x168 (g : TX → Prop) : wtx Try.prog 168 g = g ⟨⟨.struct, 4, 64, some [.list [] .nil, .list [] .nil, .lit (.int .i64 0), .lit (.int .i64 0)], [(0, 1, false), (1, 1, false), (2, 1, false), (3, 1, true)]⟩, true, true, true, false⟩ := wtx_of y168 g
@[simp] theorem s168 : notSlice Try.prog 168 = true := notSlice_of y168
@[simp] theorem k168 : kindOf Try.prog 168 = .struct := by kernel_rfl
theorem y169 : tx Try.prog 169 = some ⟨⟨.other, 1, 8, some [.lit .nilFunc], []⟩, true, false, true, true⟩ := by kernel_rfl
@[simp ↓] theorem x169 (g : TX → Prop) : wtx Try.prog 169 g = g ⟨⟨.other, 1, 8, some [.lit .nilFunc], []⟩, true, false, true, true⟩ := wtx_of y169 g
@[simp] theorem s169 : notSlice Try.prog 169 = true := notSlice_of y169
theorem y170 : tx Try.prog 170 = some ⟨⟨.struct, 9, 128, some [.lit (.int .i64 0), .lit (.int .i64 0), .lit (.int .i64 0), .lit (.string ⟨#[]⟩), .lit (.string ⟨#[]⟩), .lit (.string ⟨#[]⟩), .list [] .nil, .list [] .nil, .lit (.int .i64 0)], [(0, 1, false), (1, 8, true)]⟩, true, true, true, false⟩ := by kernel_rfl
@[simp ↓] theorem x170 (g : TX → Prop) : wtx Try.prog 170 g = g ⟨⟨.struct, 9, 128, some [.lit (.int .i64 0), .lit (.int .i64 0), .lit (.int .i64 0), .lit (.string ⟨#[]⟩), .lit (.string ⟨#[]⟩), .lit (.string ⟨#[]⟩), .list [] .nil, .list [] .nil, .lit (.int .i64 0)], [(0, 1, false), (1, 8, true)]⟩, true, true, true, false⟩ := wtx_of y170 g
@[simp] theorem s170 : notSlice Try.prog 170 = true := notSlice_of y170
@[simp] theorem k170 : kindOf Try.prog 170 = .struct := by kernel_rfl
theorem y171 : tx Try.prog 171 = some ⟨⟨.struct, 9, 128, some [.lit (.int .i64 0), .lit (.int .i64 0), .lit (.int .i64 0), .lit (.string ⟨#[]⟩), .lit (.string ⟨#[]⟩), .lit (.string ⟨#[]⟩), .list [] .nil, .list [] .nil, .lit (.int .i64 0)], [(0, 1, false), (1, 8, true)]⟩, true, true, true, false⟩ := by kernel_rfl
@[simp ↓] theorem x171 (g : TX → Prop) : wtx Try.prog 171 g = g ⟨⟨.struct, 9, 128, some [.lit (.int .i64 0), .lit (.int .i64 0), .lit (.int .i64 0), .lit (.string ⟨#[]⟩), .lit (.string ⟨#[]⟩), .lit (.string ⟨#[]⟩), .list [] .nil, .list [] .nil, .lit (.int .i64 0)], [(0, 1, false), (1, 8, true)]⟩, true, true, true, false⟩ := wtx_of y171 g
@[simp] theorem s171 : notSlice Try.prog 171 = true := notSlice_of y171
@[simp] theorem k171 : kindOf Try.prog 171 = .struct := by kernel_rfl
theorem y172 : tx Try.prog 172 = some ⟨⟨.other, 1, 8, some [.lit .nilFunc], []⟩, true, false, true, true⟩ := by kernel_rfl
@[simp ↓] theorem x172 (g : TX → Prop) : wtx Try.prog 172 g = g ⟨⟨.other, 1, 8, some [.lit .nilFunc], []⟩, true, false, true, true⟩ := wtx_of y172 g
@[simp] theorem s172 : notSlice Try.prog 172 = true := notSlice_of y172
theorem y173 : tx Try.prog 173 = some ⟨⟨.other, 1, 8, some [.lit .nilFunc], []⟩, true, false, true, true⟩ := by kernel_rfl
@[simp ↓] theorem x173 (g : TX → Prop) : wtx Try.prog 173 g = g ⟨⟨.other, 1, 8, some [.lit .nilFunc], []⟩, true, false, true, true⟩ := wtx_of y173 g
@[simp] theorem s173 : notSlice Try.prog 173 = true := notSlice_of y173
theorem y174 : tx Try.prog 174 = some ⟨⟨.other, 1, 8, some [.lit .nilFunc], []⟩, true, false, true, true⟩ := by kernel_rfl
@[simp ↓] theorem x174 (g : TX → Prop) : wtx Try.prog 174 g = g ⟨⟨.other, 1, 8, some [.lit .nilFunc], []⟩, true, false, true, true⟩ := wtx_of y174 g
@[simp] theorem s174 : notSlice Try.prog 174 = true := notSlice_of y174
theorem y175 : tx Try.prog 175 = some ⟨⟨.other, 1, 8, some [.lit .nilFunc], []⟩, true, false, true, true⟩ := by kernel_rfl
@[simp ↓] theorem x175 (g : TX → Prop) : wtx Try.prog 175 g = g ⟨⟨.other, 1, 8, some [.lit .nilFunc], []⟩, true, false, true, true⟩ := wtx_of y175 g
@[simp] theorem s175 : notSlice Try.prog 175 = true := notSlice_of y175
theorem y176 : tx Try.prog 176 = some ⟨⟨.other, 1, 8, some [.lit .nilFunc], []⟩, true, false, true, true⟩ := by kernel_rfl
@[simp ↓] theorem x176 (g : TX → Prop) : wtx Try.prog 176 g = g ⟨⟨.other, 1, 8, some [.lit .nilFunc], []⟩, true, false, true, true⟩ := wtx_of y176 g
@[simp] theorem s176 : notSlice Try.prog 176 = true := notSlice_of y176
theorem y177 : tx Try.prog 177 = some ⟨⟨.other, 1, 8, some [.lit .nilFunc], []⟩, true, false, true, true⟩ := by kernel_rfl
@[simp ↓] theorem x177 (g : TX → Prop) : wtx Try.prog 177 g = g ⟨⟨.other, 1, 8, some [.lit .nilFunc], []⟩, true, false, true, true⟩ := wtx_of y177 g
@[simp] theorem s177 : notSlice Try.prog 177 = true := notSlice_of y177
theorem y178 : tx Try.prog 178 = some ⟨⟨.other, 1, 8, some [.lit .nilFunc], []⟩, true, false, true, true⟩ := by kernel_rfl
@[simp ↓] theorem x178 (g : TX → Prop) : wtx Try.prog 178 g = g ⟨⟨.other, 1, 8, some [.lit .nilFunc], []⟩, true, false, true, true⟩ := wtx_of y178 g
@[simp] theorem s178 : notSlice Try.prog 178 = true := notSlice_of y178
theorem y179 : tx Try.prog 179 = some ⟨⟨.other, 1, 8, some [.lit .nilFunc], []⟩, true, false, true, true⟩ := by kernel_rfl
@[simp ↓] theorem x179 (g : TX → Prop) : wtx Try.prog 179 g = g ⟨⟨.other, 1, 8, some [.lit .nilFunc], []⟩, true, false, true, true⟩ := wtx_of y179 g
@[simp] theorem s179 : notSlice Try.prog 179 = true := notSlice_of y179
theorem y180 : tx Try.prog 180 = some ⟨⟨.ptr 186, 1, 8, some [.lit (.pointer none)], []⟩, true, false, true, true⟩ := by kernel_rfl
@[simp ↓] theorem x180 (g : TX → Prop) : wtx Try.prog 180 g = g ⟨⟨.ptr 186, 1, 8, some [.lit (.pointer none)], []⟩, true, false, true, true⟩ := wtx_of y180 g
@[simp] theorem s180 : notSlice Try.prog 180 = true := notSlice_of y180
@[simp] theorem k180 : kindOf Try.prog 180 = .ptr 186 := by kernel_rfl
theorem y181 : tx Try.prog 181 = some ⟨⟨.map 9 3, 1, 8, some [.lit (.map none)], []⟩, true, false, true, true⟩ := by kernel_rfl
@[simp ↓] theorem x181 (g : TX → Prop) : wtx Try.prog 181 g = g ⟨⟨.map 9 3, 1, 8, some [.lit (.map none)], []⟩, true, false, true, true⟩ := wtx_of y181 g
@[simp] theorem s181 : notSlice Try.prog 181 = true := notSlice_of y181
@[simp] theorem k181 : kindOf Try.prog 181 = .map 9 3 := by kernel_rfl
theorem y182 : tx Try.prog 182 = some ⟨⟨.struct, 2, 16, some [.lit (.map none), .lit (.bool false)], [(0, 1, false), (1, 1, false)]⟩, true, true, true, false⟩ := by kernel_rfl
@[simp ↓] theorem x182 (g : TX → Prop) : wtx Try.prog 182 g = g ⟨⟨.struct, 2, 16, some [.lit (.map none), .lit (.bool false)], [(0, 1, false), (1, 1, false)]⟩, true, true, true, false⟩ := wtx_of y182 g
@[simp] theorem s182 : notSlice Try.prog 182 = true := notSlice_of y182
@[simp] theorem k182 : kindOf Try.prog 182 = .struct := by kernel_rfl
theorem y183 : tx Try.prog 183 = some ⟨⟨.struct, 2, 16, some [.lit (.map none), .lit (.bool false)], [(0, 1, false), (1, 1, false)]⟩, true, true, true, false⟩ := by kernel_rfl
@[simp ↓] theorem x183 (g : TX → Prop) : wtx Try.prog 183 g = g ⟨⟨.struct, 2, 16, some [.lit (.map none), .lit (.bool false)], [(0, 1, false), (1, 1, false)]⟩, true, true, true, false⟩ := wtx_of y183 g
@[simp] theorem s183 : notSlice Try.prog 183 = true := notSlice_of y183
@[simp] theorem k183 : kindOf Try.prog 183 = .struct := by kernel_rfl
theorem y184 : tx Try.prog 184 = some ⟨⟨.slice 183, 1, 24, some [.list [] .nil], []⟩, true, false, true, true⟩ := by kernel_rfl
@[simp ↓] theorem x184 (g : TX → Prop) : wtx Try.prog 184 g = g ⟨⟨.slice 183, 1, 24, some [.list [] .nil], []⟩, true, false, true, true⟩ := wtx_of y184 g
@[simp] theorem s184 : notSlice Try.prog 184 = false := notSlice_of y184
@[simp] theorem k184 : kindOf Try.prog 184 = .slice 183 := by kernel_rfl
theorem y185 : tx Try.prog 185 = some ⟨⟨.struct, 3, 40, some [.list [] .nil, .lit (.int .i64 0), .lit (.map none)], [(0, 1, false), (1, 1, false), (2, 1, false)]⟩, true, true, true, false⟩ := by kernel_rfl
@[simp ↓] theorem x185 (g : TX → Prop) : wtx Try.prog 185 g = g ⟨⟨.struct, 3, 40, some [.list [] .nil, .lit (.int .i64 0), .lit (.map none)], [(0, 1, false), (1, 1, false), (2, 1, false)]⟩, true, true, true, false⟩ := wtx_of y185 g
@[simp] theorem s185 : notSlice Try.prog 185 = true := notSlice_of y185
@[simp] theorem k185 : kindOf Try.prog 185 = .struct := by kernel_rfl
theorem y186 : tx Try.prog 186 = some ⟨⟨.struct, 3, 40, some [.list [] .nil, .lit (.int .i64 0), .lit (.map none)], [(0, 1, false), (1, 1, false), (2, 1, false)]⟩, true, true, true, false⟩ := by kernel_rfl
@[simp ↓] theorem x186 (g : TX → Prop) : wtx Try.prog 186 g = g ⟨⟨.struct, 3, 40, some [.list [] .nil, .lit (.int .i64 0), .lit (.map none)], [(0, 1, false), (1, 1, false), (2, 1, false)]⟩, true, true, true, false⟩ := wtx_of y186 g
@[simp] theorem s186 : notSlice Try.prog 186 = true := notSlice_of y186
@[simp] theorem k186 : kindOf Try.prog 186 = .struct := by kernel_rfl
theorem y187 : tx Try.prog 187 = some ⟨⟨.other, 1, 8, some [.lit .nilFunc], []⟩, true, false, true, true⟩ := by kernel_rfl
@[simp ↓] theorem x187 (g : TX → Prop) : wtx Try.prog 187 g = g ⟨⟨.other, 1, 8, some [.lit .nilFunc], []⟩, true, false, true, true⟩ := wtx_of y187 g
@[simp] theorem s187 : notSlice Try.prog 187 = true := notSlice_of y187
theorem y189 : tx Try.prog 189 = some ⟨⟨.other, 1, 8, some [.lit .nilFunc], []⟩, true, false, true, true⟩ := by kernel_rfl
@[simp ↓] theorem x189 (g : TX → Prop) : wtx Try.prog 189 g = g ⟨⟨.other, 1, 8, some [.lit .nilFunc], []⟩, true, false, true, true⟩ := wtx_of y189 g
@[simp] theorem s189 : notSlice Try.prog 189 = true := notSlice_of y189
theorem y190 : tx Try.prog 190 = some ⟨⟨.other, 1, 8, some [.lit .nilFunc], []⟩, true, false, true, true⟩ := by kernel_rfl
@[simp ↓] theorem x190 (g : TX → Prop) : wtx Try.prog 190 g = g ⟨⟨.other, 1, 8, some [.lit .nilFunc], []⟩, true, false, true, true⟩ := wtx_of y190 g
@[simp] theorem s190 : notSlice Try.prog 190 = true := notSlice_of y190
theorem y191 : tx Try.prog 191 = some ⟨⟨.other, 1, 8, some [.lit .nilFunc], []⟩, true, false, true, true⟩ := by kernel_rfl
@[simp ↓] theorem x191 (g : TX → Prop) : wtx Try.prog 191 g = g ⟨⟨.other, 1, 8, some [.lit .nilFunc], []⟩, true, false, true, true⟩ := wtx_of y191 g
@[simp] theorem s191 : notSlice Try.prog 191 = true := notSlice_of y191
theorem y192 : tx Try.prog 192 = some ⟨⟨.other, 1, 8, some [.lit .nilFunc], []⟩, true, false, true, true⟩ := by kernel_rfl
@[simp ↓] theorem x192 (g : TX → Prop) : wtx Try.prog 192 g = g ⟨⟨.other, 1, 8, some [.lit .nilFunc], []⟩, true, false, true, true⟩ := wtx_of y192 g
@[simp] theorem s192 : notSlice Try.prog 192 = true := notSlice_of y192
theorem y193 : tx Try.prog 193 = some ⟨⟨.ptr 166, 1, 8, some [.lit (.pointer none)], []⟩, true, false, true, true⟩ := by kernel_rfl
@[simp ↓] theorem x193 (g : TX → Prop) : wtx Try.prog 193 g = g ⟨⟨.ptr 166, 1, 8, some [.lit (.pointer none)], []⟩, true, false, true, true⟩ := wtx_of y193 g
@[simp] theorem s193 : notSlice Try.prog 193 = true := notSlice_of y193
@[simp] theorem k193 : kindOf Try.prog 193 = .ptr 166 := by kernel_rfl
theorem y194 : tx Try.prog 194 = some ⟨⟨.other, 1, 8, some [.lit .nilFunc], []⟩, true, false, true, true⟩ := by kernel_rfl
@[simp ↓] theorem x194 (g : TX → Prop) : wtx Try.prog 194 g = g ⟨⟨.other, 1, 8, some [.lit .nilFunc], []⟩, true, false, true, true⟩ := wtx_of y194 g
@[simp] theorem s194 : notSlice Try.prog 194 = true := notSlice_of y194
theorem y195 : tx Try.prog 195 = some ⟨⟨.ptr 2, 1, 8, some [.lit (.pointer none)], []⟩, true, false, true, true⟩ := by kernel_rfl
@[simp ↓] theorem x195 (g : TX → Prop) : wtx Try.prog 195 g = g ⟨⟨.ptr 2, 1, 8, some [.lit (.pointer none)], []⟩, true, false, true, true⟩ := wtx_of y195 g
@[simp] theorem s195 : notSlice Try.prog 195 = true := notSlice_of y195
@[simp] theorem k195 : kindOf Try.prog 195 = .ptr 2 := by kernel_rfl
theorem y196 : tx Try.prog 196 = some ⟨⟨.other, 1, 8, some [.lit .nilFunc], []⟩, true, false, true, true⟩ := by kernel_rfl
@[simp ↓] theorem x196 (g : TX → Prop) : wtx Try.prog 196 g = g ⟨⟨.other, 1, 8, some [.lit .nilFunc], []⟩, true, false, true, true⟩ := wtx_of y196 g
@[simp] theorem s196 : notSlice Try.prog 196 = true := notSlice_of y196
theorem y197 : tx Try.prog 197 = some ⟨⟨.other, 1, 8, some [.lit .nilFunc], []⟩, true, false, true, true⟩ := by kernel_rfl
@[simp ↓] theorem x197 (g : TX → Prop) : wtx Try.prog 197 g = g ⟨⟨.other, 1, 8, some [.lit .nilFunc], []⟩, true, false, true, true⟩ := wtx_of y197 g
@[simp] theorem s197 : notSlice Try.prog 197 = true := notSlice_of y197
theorem y198 : tx Try.prog 198 = some ⟨⟨.other, 1, 8, some [.lit .nilFunc], []⟩, true, false, true, true⟩ := by kernel_rfl
@[simp ↓] theorem x198 (g : TX → Prop) : wtx Try.prog 198 g = g ⟨⟨.other, 1, 8, some [.lit .nilFunc], []⟩, true, false, true, true⟩ := wtx_of y198 g
@[simp] theorem s198 : notSlice Try.prog 198 = true := notSlice_of y198
theorem y199 : tx Try.prog 199 = some ⟨⟨.other, 1, 8, some [.lit .nilFunc], []⟩, true, false, true, true⟩ := by kernel_rfl
@[simp ↓] theorem x199 (g : TX → Prop) : wtx Try.prog 199 g = g ⟨⟨.other, 1, 8, some [.lit .nilFunc], []⟩, true, false, true, true⟩ := wtx_of y199 g
@[simp] theorem s199 : notSlice Try.prog 199 = true := notSlice_of y199
theorem y200 : tx Try.prog 200 = some ⟨⟨.other, 1, 8, some [.lit .nilFunc], []⟩, true, false, true, true⟩ := by kernel_rfl
@[simp ↓] theorem x200 (g : TX → Prop) : wtx Try.prog 200 g = g ⟨⟨.other, 1, 8, some [.lit .nilFunc], []⟩, true, false, true, true⟩ := wtx_of y200 g
@[simp] theorem s200 : notSlice Try.prog 200 = true := notSlice_of y200
theorem y201 : tx Try.prog 201 = some ⟨⟨.other, 1, 8, some [.lit .nilFunc], []⟩, true, false, true, true⟩ := by kernel_rfl
@[simp ↓] theorem x201 (g : TX → Prop) : wtx Try.prog 201 g = g ⟨⟨.other, 1, 8, some [.lit .nilFunc], []⟩, true, false, true, true⟩ := wtx_of y201 g
@[simp] theorem s201 : notSlice Try.prog 201 = true := notSlice_of y201
theorem y202 : tx Try.prog 202 = some ⟨⟨.other, 1, 8, some [.lit .nilFunc], []⟩, true, false, true, true⟩ := by kernel_rfl
@[simp ↓] theorem x202 (g : TX → Prop) : wtx Try.prog 202 g = g ⟨⟨.other, 1, 8, some [.lit .nilFunc], []⟩, true, false, true, true⟩ := wtx_of y202 g
@[simp] theorem s202 : notSlice Try.prog 202 = true := notSlice_of y202
theorem y203 : tx Try.prog 203 = some ⟨⟨.other, 1, 8, some [.lit .nilFunc], []⟩, true, false, true, true⟩ := by kernel_rfl
@[simp ↓] theorem x203 (g : TX → Prop) : wtx Try.prog 203 g = g ⟨⟨.other, 1, 8, some [.lit .nilFunc], []⟩, true, false, true, true⟩ := wtx_of y203 g
@[simp] theorem s203 : notSlice Try.prog 203 = true := notSlice_of y203
theorem y204 : tx Try.prog 204 = some ⟨⟨.other, 1, 8, some [.lit .nilFunc], []⟩, true, false, true, true⟩ := by kernel_rfl
@[simp ↓] theorem x204 (g : TX → Prop) : wtx Try.prog 204 g = g ⟨⟨.other, 1, 8, some [.lit .nilFunc], []⟩, true, false, true, true⟩ := wtx_of y204 g
@[simp] theorem s204 : notSlice Try.prog 204 = true := notSlice_of y204
theorem y205 : tx Try.prog 205 = some ⟨⟨.ptr 183, 1, 8, some [.lit (.pointer none)], []⟩, true, false, true, true⟩ := by kernel_rfl
@[simp ↓] theorem x205 (g : TX → Prop) : wtx Try.prog 205 g = g ⟨⟨.ptr 183, 1, 8, some [.lit (.pointer none)], []⟩, true, false, true, true⟩ := wtx_of y205 g
@[simp] theorem s205 : notSlice Try.prog 205 = true := notSlice_of y205
@[simp] theorem k205 : kindOf Try.prog 205 = .ptr 183 := by kernel_rfl
theorem y206 : tx Try.prog 206 = some ⟨⟨.other, 1, 8, some [.lit .nilFunc], []⟩, true, false, true, true⟩ := by kernel_rfl
@[simp ↓] theorem x206 (g : TX → Prop) : wtx Try.prog 206 g = g ⟨⟨.other, 1, 8, some [.lit .nilFunc], []⟩, true, false, true, true⟩ := wtx_of y206 g
@[simp] theorem s206 : notSlice Try.prog 206 = true := notSlice_of y206
theorem y207 : tx Try.prog 207 = some ⟨⟨.other, 1, 8, some [.lit .nilFunc], []⟩, true, false, true, true⟩ := by kernel_rfl
@[simp ↓] theorem x207 (g : TX → Prop) : wtx Try.prog 207 g = g ⟨⟨.other, 1, 8, some [.lit .nilFunc], []⟩, true, false, true, true⟩ := wtx_of y207 g
@[simp] theorem s207 : notSlice Try.prog 207 = true := notSlice_of y207
theorem y208 : tx Try.prog 208 = some ⟨⟨.struct, 4, 40, some [.lit (.pointer none), .lit (.pointer none), .lit (.pointer none), .lit (.string ⟨#[]⟩)], [(0, 1, false), (1, 1, false), (2, 1, false), (3, 1, false)]⟩, true, true, true, false⟩ := by kernel_rfl
@[simp ↓] theorem x208 (g : TX → Prop) : wtx Try.prog 208 g = g ⟨⟨.struct, 4, 40, some [.lit (.pointer none), .lit (.pointer none), .lit (.pointer none), .lit (.string ⟨#[]⟩)], [(0, 1, false), (1, 1, false), (2, 1, false), (3, 1, false)]⟩, true, true, true, false⟩ := wtx_of y208 g
@[simp] theorem s208 : notSlice Try.prog 208 = true := notSlice_of y208
@[simp] theorem k208 : kindOf Try.prog 208 = .struct := by kernel_rfl
theorem y209 : tx Try.prog 209 = some ⟨⟨.struct, 4, 40, some [.lit (.pointer none), .lit (.pointer none), .lit (.pointer none), .lit (.string ⟨#[]⟩)], [(0, 1, false), (1, 1, false), (2, 1, false), (3, 1, false)]⟩, true, true, true, false⟩ := by kernel_rfl
@[simp ↓] theorem x209 (g : TX → Prop) : wtx Try.prog 209 g = g ⟨⟨.struct, 4, 40, some [.lit (.pointer none), .lit (.pointer none), .lit (.pointer none), .lit (.string ⟨#[]⟩)], [(0, 1, false), (1, 1, false), (2, 1, false), (3, 1, false)]⟩, true, true, true, false⟩ := wtx_of y209 g
@[simp] theorem s209 : notSlice Try.prog 209 = true := notSlice_of y209
@[simp] theorem k209 : kindOf Try.prog 209 = .struct := by kernel_rfl
theorem y210 : tx Try.prog 210 = some ⟨⟨.array 0 16, 0, 0, some [], []⟩, true, false, true, false⟩ := by kernel_rfl
@[simp ↓] theorem x210 (g : TX → Prop) : wtx Try.prog 210 g = g ⟨⟨.array 0 16, 0, 0, some [], []⟩, true, false, true, false⟩ := wtx_of y210 g
@[simp] theorem s210 : notSlice Try.prog 210 = true := notSlice_of y210
@[simp] theorem k210 : kindOf Try.prog 210 = .array 0 16 := by kernel_rfl
theorem y211 : tx Try.prog 211 = some ⟨⟨.struct, 0, 0, some [], [(0, 0, true)]⟩, true, true, true, false⟩ := by kernel_rfl
@[simp ↓] theorem x211 (g : TX → Prop) : wtx Try.prog 211 g = g ⟨⟨.struct, 0, 0, some [], [(0, 0, true)]⟩, true, true, true, false⟩ := wtx_of y211 g
@[simp] theorem s211 : notSlice Try.prog 211 = true := notSlice_of y211
@[simp] theorem k211 : kindOf Try.prog 211 = .struct := by kernel_rfl
theorem y212 : tx Try.prog 212 = some ⟨⟨.struct, 0, 0, some [], [(0, 0, true)]⟩, true, true, true, false⟩ := by kernel_rfl
@[simp ↓] theorem x212 (g : TX → Prop) : wtx Try.prog 212 g = g ⟨⟨.struct, 0, 0, some [], [(0, 0, true)]⟩, true, true, true, false⟩ := wtx_of y212 g
@[simp] theorem s212 : notSlice Try.prog 212 = true := notSlice_of y212
@[simp] theorem k212 : kindOf Try.prog 212 = .struct := by kernel_rfl
theorem y213 : tx Try.prog 213 = some ⟨⟨.int .u32, 1, 4, some [.lit (.int .u32 0)], []⟩, true, false, true, true⟩ := by kernel_rfl
@[simp ↓] theorem x213 (g : TX → Prop) : wtx Try.prog 213 g = g ⟨⟨.int .u32, 1, 4, some [.lit (.int .u32 0)], []⟩, true, false, true, true⟩ := wtx_of y213 g
@[simp] theorem s213 : notSlice Try.prog 213 = true := notSlice_of y213
@[simp] theorem k213 : kindOf Try.prog 213 = .int .u32 := by kernel_rfl
theorem y214 : tx Try.prog 214 = some ⟨⟨.int .u8, 1, 1, some [.lit (.int .u8 0)], []⟩, true, false, true, true⟩ := by kernel_rfl
@[simp ↓] theorem x214 (g : TX → Prop) : wtx Try.prog 214 g = g ⟨⟨.int .u8, 1, 1, some [.lit (.int .u8 0)], []⟩, true, false, true, true⟩ := wtx_of y214 g
@[simp] theorem s214 : notSlice Try.prog 214 = true := notSlice_of y214
@[simp] theorem k214 : kindOf Try.prog 214 = .int .u8 := by kernel_rfl
theorem y215 : tx Try.prog 215 = some ⟨⟨.int .u8, 1, 1, some [.lit (.int .u8 0)], []⟩, true, false, true, true⟩ := by kernel_rfl
@[simp ↓] theorem x215 (g : TX → Prop) : wtx Try.prog 215 g = g ⟨⟨.int .u8, 1, 1, some [.lit (.int .u8 0)], []⟩, true, false, true, true⟩ := wtx_of y215 g
@[simp] theorem s215 : notSlice Try.prog 215 = true := notSlice_of y215
@[simp] theorem k215 : kindOf Try.prog 215 = .int .u8 := by kernel_rfl
theorem y216 : tx Try.prog 216 = some ⟨⟨.other, 1, 8, some [.lit .nilFunc], []⟩, true, false, true, true⟩ := by kernel_rfl
@[simp ↓] theorem x216 (g : TX → Prop) : wtx Try.prog 216 g = g ⟨⟨.other, 1, 8, some [.lit .nilFunc], []⟩, true, false, true, true⟩ := wtx_of y216 g
@[simp] theorem s216 : notSlice Try.prog 216 = true := notSlice_of y216
theorem y217 : tx Try.prog 217 = some ⟨⟨.ptr 5, 1, 8, some [.lit (.pointer none)], []⟩, true, false, true, true⟩ := by kernel_rfl
@[simp ↓] theorem x217 (g : TX → Prop) : wtx Try.prog 217 g = g ⟨⟨.ptr 5, 1, 8, some [.lit (.pointer none)], []⟩, true, false, true, true⟩ := wtx_of y217 g
@[simp] theorem s217 : notSlice Try.prog 217 = true := notSlice_of y217
@[simp] theorem k217 : kindOf Try.prog 217 = .ptr 5 := by kernel_rfl
theorem y218 : tx Try.prog 218 = some ⟨⟨.int .i32, 1, 4, some [.lit (.int .i32 0)], []⟩, true, false, true, true⟩ := by kernel_rfl
@[simp ↓] theorem x218 (g : TX → Prop) : wtx Try.prog 218 g = g ⟨⟨.int .i32, 1, 4, some [.lit (.int .i32 0)], []⟩, true, false, true, true⟩ := wtx_of y218 g
@[simp] theorem s218 : notSlice Try.prog 218 = true := notSlice_of y218
@[simp] theorem k218 : kindOf Try.prog 218 = .int .i32 := by kernel_rfl
theorem y219 : tx Try.prog 219 = some ⟨⟨.int .i32, 1, 4, some [.lit (.int .i32 0)], []⟩, true, false, true, true⟩ := by kernel_rfl
@[simp ↓] theorem x219 (g : TX → Prop) : wtx Try.prog 219 g = g ⟨⟨.int .i32, 1, 4, some [.lit (.int .i32 0)], []⟩, true, false, true, true⟩ := wtx_of y219 g
@[simp] theorem s219 : notSlice Try.prog 219 = true := notSlice_of y219
@[simp] theorem k219 : kindOf Try.prog 219 = .int .i32 := by kernel_rfl
theorem y220 : tx Try.prog 220 = some ⟨⟨.struct, 11, 48, some [.lit (.int .u64 0), .lit (.int .u64 0), .lit (.int .u32 0), .lit (.int .u8 0), .lit (.int .u8 0), .lit (.int .u8 0), .lit (.int .u8 0), .lit .nilFunc, .lit (.pointer none), .lit (.int .i32 0), .lit (.int .i32 0)], [(0, 1, false), (1, 1, false), (2, 1, false), (3, 1, false), (4, 1, false), (5, 1, false), (6, 1, false), (7, 1, false), (8, 1, false), (9, 1, false), (10, 1, false)]⟩, true, true, true, false⟩ := by kernel_rfl
@[simp ↓] theorem x220 (g : TX → Prop) : wtx Try.prog 220 g = g ⟨⟨.struct, 11, 48, some [.lit (.int .u64 0), .lit (.int .u64 0), .lit (.int .u32 0), .lit (.int .u8 0), .lit (.int .u8 0), .lit (.int .u8 0), .lit (.int .u8 0), .lit .nilFunc, .lit (.pointer none), .lit (.int .i32 0), .lit (.int .i32 0)], [(0, 1, false), (1, 1, false), (2, 1, false), (3, 1, false), (4, 1, false), (5, 1, false), (6, 1, false), (7, 1, false), (8, 1, false), (9, 1, false), (10, 1, false)]⟩, true, true, true, false⟩ := wtx_of y220 g
@[simp] theorem s220 : notSlice Try.prog 220 = true := notSlice_of y220
@[simp] theorem k220 : kindOf Try.prog 220 = .struct := by kernel_rfl
theorem y221 : tx Try.prog 221 = some ⟨⟨.struct, 11, 48, some [.lit (.int .u64 0), .lit (.int .u64 0), .lit (.int .u32 0), .lit (.int .u8 0), .lit (.int .u8 0), .lit (.int .u8 0), .lit (.int .u8 0), .lit .nilFunc, .lit (.pointer none), .lit (.int .i32 0), .lit (.int .i32 0)], [(0, 1, false), (1, 1, false), (2, 1, false), (3, 1, false), (4, 1, false), (5, 1, false), (6, 1, false), (7, 1, false), (8, 1, false), (9, 1, false), (10, 1, false)]⟩, true, true, true, false⟩ := by kernel_rfl
@[simp ↓] theorem x221 (g : TX → Prop) : wtx Try.prog 221 g = g ⟨⟨.struct, 11, 48, some [.lit (.int .u64 0), .lit (.int .u64 0), .lit (.int .u32 0), .lit (.int .u8 0), .lit (.int .u8 0), .lit (.int .u8 0), .lit (.int .u8 0), .lit .nilFunc, .lit (.pointer none), .lit (.int .i32 0), .lit (.int .i32 0)], [(0, 1, false), (1, 1, false), (2, 1, false), (3, 1, false), (4, 1, false), (5, 1, false), (6, 1, false), (7, 1, false), (8, 1, false), (9, 1, false), (10, 1, false)]⟩, true, true, true, false⟩ := wtx_of y221 g
@[simp] theorem s221 : notSlice Try.prog 221 = true := notSlice_of y221
@[simp] theorem k221 : kindOf Try.prog 221 = .struct := by kernel_rfl
theorem y222 : tx Try.prog 222 = some ⟨⟨.other, 1, 8, some [.lit (.pointer none)], []⟩, true, false, true, true⟩ := by kernel_rfl
@[simp ↓] theorem x222 (g : TX → Prop) : wtx Try.prog 222 g = g ⟨⟨.other, 1, 8, some [.lit (.pointer none)], []⟩, true, false, true, true⟩ := wtx_of y222 g
@[simp] theorem s222 : notSlice Try.prog 222 = true := notSlice_of y222
@[simp] theorem n0 : entersB Try.prog 0 = false := by kernel_rfl
@[simp] theorem n1 : entersB Try.prog 1 = false := by kernel_rfl
@[simp] theorem n2 : entersB Try.prog 2 = true := by kernel_rfl
@[simp] theorem n3 : entersB Try.prog 3 = true := by kernel_rfl
@[simp] theorem n4 : entersB Try.prog 4 = true := by kernel_rfl
@[simp] theorem n5 : entersB Try.prog 5 = true := by kernel_rfl
@[simp] theorem n6 : entersB Try.prog 6 = true := by kernel_rfl
@[simp] theorem n7 : entersB Try.prog 7 = true := by kernel_rfl
@[simp] theorem n8 : entersB Try.prog 8 = true := by kernel_rfl
@[simp] theorem n9 : entersB Try.prog 9 = true := by kernel_rfl
@[simp] theorem n10 : entersB Try.prog 10 = true := by kernel_rfl
@[simp] theorem n11 : entersB Try.prog 11 = true := by kernel_rfl
@[simp] theorem n12 : entersB Try.prog 12 = true := by kernel_rfl
@[simp] theorem n13 : entersB Try.prog 13 = true := by kernel_rfl
@[simp] theorem n14 : entersB Try.prog 14 = true := by kernel_rfl
@[simp] theorem n15 : entersB Try.prog 15 = true := by kernel_rfl
@[simp] theorem n16 : entersB Try.prog 16 = true := by kernel_rfl
@[simp] theorem n17 : entersB Try.prog 17 = true := by kernel_rfl
@[simp] theorem n18 : entersB Try.prog 18 = true := by kernel_rfl
@[simp] theorem n19 : entersB Try.prog 19 = true := by kernel_rfl
@[simp] theorem n20 : entersB Try.prog 20 = true := by kernel_rfl
@[simp] theorem n21 : entersB Try.prog 21 = true := by kernel_rfl
@[simp] theorem n22 : entersB Try.prog 22 = true := by kernel_rfl
@[simp] theorem n23 : entersB Try.prog 23 = true := by kernel_rfl
@[simp] theorem n24 : entersB Try.prog 24 = true := by kernel_rfl
@[simp] theorem n25 : entersB Try.prog 25 = true := by kernel_rfl
@[simp] theorem n26 : entersB Try.prog 26 = true := by kernel_rfl
@[simp] theorem n27 : entersB Try.prog 27 = true := by kernel_rfl
@[simp] theorem n28 : entersB Try.prog 28 = true := by kernel_rfl
@[simp] theorem n29 : entersB Try.prog 29 = true := by kernel_rfl
@[simp] theorem n30 : entersB Try.prog 30 = true := by kernel_rfl
@[simp] theorem n31 : entersB Try.prog 31 = true := by kernel_rfl
@[simp] theorem n32 : entersB Try.prog 32 = true := by kernel_rfl
@[simp] theorem n33 : entersB Try.prog 33 = true := by kernel_rfl
@[simp] theorem n34 : entersB Try.prog 34 = true := by kernel_rfl
@[simp] theorem n35 : entersB Try.prog 35 = true := by kernel_rfl
@[simp] theorem n36 : entersB Try.prog 36 = true := by kernel_rfl
@[simp] theorem n37 : entersB Try.prog 37 = true := by kernel_rfl
@[simp] theorem n38 : entersB Try.prog 38 = true := by kernel_rfl
@[simp] theorem n39 : entersB Try.prog 39 = true := by kernel_rfl
@[simp] theorem n40 : entersB Try.prog 40 = true := by kernel_rfl
@[simp] theorem n41 : entersB Try.prog 41 = true := by kernel_rfl
@[simp] theorem n42 : entersB Try.prog 42 = true := by kernel_rfl
@[simp] theorem n43 : entersB Try.prog 43 = true := by kernel_rfl
@[simp] theorem n44 : entersB Try.prog 44 = true := by kernel_rfl
@[simp] theorem n45 : entersB Try.prog 45 = true := by kernel_rfl
@[simp] theorem n46 : entersB Try.prog 46 = true := by kernel_rfl
@[simp] theorem n47 : entersB Try.prog 47 = true := by kernel_rfl
@[simp] theorem n48 : entersB Try.prog 48 = true := by kernel_rfl
@[simp] theorem n49 : entersB Try.prog 49 = true := by kernel_rfl
@[simp] theorem n50 : entersB Try.prog 50 = true := by kernel_rfl
@[simp] theorem n51 : entersB Try.prog 51 = true := by kernel_rfl
@[simp] theorem n52 : entersB Try.prog 52 = true := by kernel_rfl
@[simp] theorem n53 : entersB Try.prog 53 = true := by kernel_rfl
@[simp] theorem n54 : entersB Try.prog 54 = true := by kernel_rfl
@[simp] theorem n55 : entersB Try.prog 55 = true := by kernel_rfl
@[simp] theorem n56 : entersB Try.prog 56 = true := by kernel_rfl
@[simp] theorem n57 : entersB Try.prog 57 = true := by kernel_rfl
@[simp] theorem n58 : entersB Try.prog 58 = true := by kernel_rfl
@[simp] theorem n59 : entersB Try.prog 59 = true := by kernel_rfl
@[simp] theorem n60 : entersB Try.prog 60 = true := by kernel_rfl
@[simp] theorem n61 : entersB Try.prog 61 = true := by kernel_rfl
@[simp] theorem n62 : entersB Try.prog 62 = true := by kernel_rfl
@[simp] theorem n63 : entersB Try.prog 63 = true := by kernel_rfl
@[simp] theorem n64 : entersB Try.prog 64 = true := by kernel_rfl
@[simp] theorem n65 : entersB Try.prog 65 = true := by kernel_rfl
@[simp] theorem n66 : entersB Try.prog 66 = true := by kernel_rfl
@[simp] theorem n67 : entersB Try.prog 67 = true := by kernel_rfl
@[simp] theorem n68 : entersB Try.prog 68 = true := by kernel_rfl
@[simp] theorem n69 : entersB Try.prog 69 = true := by kernel_rfl
@[simp] theorem n70 : entersB Try.prog 70 = true := by kernel_rfl
@[simp] theorem n71 : entersB Try.prog 71 = true := by kernel_rfl
@[simp] theorem n72 : entersB Try.prog 72 = true := by kernel_rfl
@[simp] theorem n73 : entersB Try.prog 73 = true := by kernel_rfl
@[simp] theorem n74 : entersB Try.prog 74 = true := by kernel_rfl
@[simp] theorem n75 : entersB Try.prog 75 = true := by kernel_rfl
@[simp] theorem n76 : entersB Try.prog 76 = true := by kernel_rfl
@[simp] theorem n77 : entersB Try.prog 77 = true := by kernel_rfl
@[simp] theorem n78 : entersB Try.prog 78 = true := by kernel_rfl
@[simp] theorem n79 : entersB Try.prog 79 = true := by kernel_rfl
@[simp] theorem n80 : entersB Try.prog 80 = true := by kernel_rfl
@[simp] theorem n81 : entersB Try.prog 81 = true := by kernel_rfl
@[simp] theorem n82 : entersB Try.prog 82 = true := by kernel_rfl
@[simp] theorem n83 : entersB Try.prog 83 = true := by kernel_rfl
@[simp] theorem n84 : entersB Try.prog 84 = true := by kernel_rfl
@[simp] theorem n85 : entersB Try.prog 85 = true := by kernel_rfl
@[simp] theorem n86 : entersB Try.prog 86 = true := by kernel_rfl
@[simp] theorem n87 : entersB Try.prog 87 = true := by kernel_rfl
@[simp] theorem n88 : entersB Try.prog 88 = true := by kernel_rfl
@[simp] theorem n89 : entersB Try.prog 89 = true := by kernel_rfl
@[simp] theorem n90 : entersB Try.prog 90 = true := by kernel_rfl
@[simp] theorem n91 : entersB Try.prog 91 = true := by kernel_rfl
@[simp] theorem n92 : entersB Try.prog 92 = true := by kernel_rfl
@[simp] theorem n93 : entersB Try.prog 93 = true := by kernel_rfl
@[simp] theorem n94 : entersB Try.prog 94 = true := by kernel_rfl
@[simp] theorem n95 : entersB Try.prog 95 = true := by kernel_rfl
@[simp] theorem n96 : entersB Try.prog 96 = true := by kernel_rfl
@[simp] theorem n97 : entersB Try.prog 97 = true := by kernel_rfl
@[simp] theorem n98 : entersB Try.prog 98 = true := by kernel_rfl
@[simp] theorem n99 : entersB Try.prog 99 = true := by kernel_rfl
@[simp] theorem n100 : entersB Try.prog 100 = true := by kernel_rfl
@[simp] theorem n101 : entersB Try.prog 101 = true := by kernel_rfl
@[simp] theorem n102 : entersB Try.prog 102 = true := by kernel_rfl
@[simp] theorem n103 : entersB Try.prog 103 = true := by kernel_rfl
@[simp] theorem n104 : entersB Try.prog 104 = true := by kernel_rfl
@[simp] theorem n105 : entersB Try.prog 105 = true := by kernel_rfl
@[simp] theorem n106 : entersB Try.prog 106 = true := by kernel_rfl
@[simp] theorem n107 : entersB Try.prog 107 = true := by kernel_rfl
@[simp] theorem n108 : entersB Try.prog 108 = true := by kernel_rfl
@[simp] theorem n109 : entersB Try.prog 109 = true := by kernel_rfl
@[simp] theorem n110 : entersB Try.prog 110 = true := by kernel_rfl
@[simp] theorem n111 : entersB Try.prog 111 = true := by kernel_rfl
@[simp] theorem n112 : entersB Try.prog 112 = true := by kernel_rfl
@[simp] theorem n113 : entersB Try.prog 113 = true := by kernel_rfl
@[simp] theorem n114 : entersB Try.prog 114 = true := by kernel_rfl
@[simp] theorem n115 : entersB Try.prog 115 = true := by kernel_rfl
@[simp] theorem n116 : entersB Try.prog 116 = true := by kernel_rfl
@[simp] theorem n117 : entersB Try.prog 117 = true := by kernel_rfl
@[simp] theorem n118 : entersB Try.prog 118 = true := by kernel_rfl
@[simp] theorem n119 : entersB Try.prog 119 = true := by kernel_rfl
@[simp] theorem n120 : entersB Try.prog 120 = true := by kernel_rfl
@[simp] theorem n121 : entersB Try.prog 121 = true := by kernel_rfl
@[simp] theorem n122 : entersB Try.prog 122 = true := by kernel_rfl
@[simp] theorem n123 : entersB Try.prog 123 = true := by kernel_rfl
@[simp] theorem n124 : entersB Try.prog 124 = true := by kernel_rfl
@[simp] theorem n125 : entersB Try.prog 125 = true := by kernel_rfl
@[simp] theorem n126 : entersB Try.prog 126 = true := by kernel_rfl
@[simp] theorem n127 : entersB Try.prog 127 = true := by kernel_rfl
@[simp] theorem n128 : entersB Try.prog 128 = true := by kernel_rfl
@[simp] theorem n129 : entersB Try.prog 129 = true := by kernel_rfl
@[simp] theorem n130 : entersB Try.prog 130 = true := by kernel_rfl
@[simp] theorem n131 : entersB Try.prog 131 = true := by kernel_rfl
@[simp] theorem n132 : entersB Try.prog 132 = true := by kernel_rfl
@[simp] theorem n133 : entersB Try.prog 133 = true := by kernel_rfl
@[simp] theorem n134 : entersB Try.prog 134 = true := by kernel_rfl
@[simp] theorem n135 : entersB Try.prog 135 = true := by kernel_rfl
@[simp] theorem n136 : entersB Try.prog 136 = true := by kernel_rfl
@[simp] theorem n137 : entersB Try.prog 137 = true := by kernel_rfl
@[simp] theorem n138 : entersB Try.prog 138 = true := by kernel_rfl
@[simp] theorem n139 : entersB Try.prog 139 = true := by kernel_rfl
@[simp] theorem n140 : entersB Try.prog 140 = true := by kernel_rfl
@[simp] theorem n141 : entersB Try.prog 141 = true := by kernel_rfl
@[simp] theorem n142 : entersB Try.prog 142 = true := by kernel_rfl
@[simp] theorem n143 : entersB Try.prog 143 = true := by kernel_rfl
@[simp] theorem n144 : entersB Try.prog 144 = false := by kernel_rfl
@[simp] theorem n145 : entersB Try.prog 145 = false := by kernel_rfl
@[simp] theorem n146 : entersB Try.prog 146 = true := by kernel_rfl
@[simp] theorem n147 : entersB Try.prog 147 = true := by kernel_rfl
@[simp] theorem n148 : entersB Try.prog 148 = false := by kernel_rfl
@[simp] theorem n149 : entersB Try.prog 149 = true := by kernel_rfl
@[simp] theorem n150 : entersB Try.prog 150 = true := by kernel_rfl
@[simp] theorem n151 : entersB Try.prog 151 = true := by kernel_rfl
@[simp] theorem n152 : entersB Try.prog 152 = true := by kernel_rfl
@[simp] theorem n153 : entersB Try.prog 153 = false := by kernel_rfl
@[simp] theorem n154 : entersB Try.prog 154 = true := by kernel_rfl
@[simp] theorem n155 : entersB Try.prog 155 = true := by kernel_rfl
@[simp] theorem n156 : entersB Try.prog 156 = true := by kernel_rfl
@[simp] theorem n157 : entersB Try.prog 157 = true := by kernel_rfl
@[simp] theorem n158 : entersB Try.prog 158 = true := by kernel_rfl
@[simp] theorem n159 : entersB Try.prog 159 = true := by kernel_rfl
@[simp] theorem n160 : entersB Try.prog 160 = true := by kernel_rfl
@[simp] theorem n161 : entersB Try.prog 161 = true := by kernel_rfl
@[simp] theorem n162 : entersB Try.prog 162 = true := by kernel_rfl
@[simp] theorem n163 : entersB Try.prog 163 = false := by kernel_rfl
@[simp] theorem n164 : entersB Try.prog 164 = false := by kernel_rfl
@[simp] theorem n165 : entersB Try.prog 165 = false := by kernel_rfl
@[simp] theorem n166 : entersB Try.prog 166 = false := by kernel_rfl
@[simp] theorem n167 : entersB Try.prog 167 = false := by kernel_rfl
@[simp] theorem n168 : entersB Try.prog 168 = false := by kernel_rfl
@[simp] theorem n169 : entersB Try.prog 169 = false := by kernel_rfl
@[simp] theorem n170 : entersB Try.prog 170 = false := by kernel_rfl
@[simp] theorem n171 : entersB Try.prog 171 = false := by kernel_rfl
@[simp] theorem n172 : entersB Try.prog 172 = false := by kernel_rfl
@[simp] theorem n173 : entersB Try.prog 173 = false := by kernel_rfl
@[simp] theorem n174 : entersB Try.prog 174 = false := by kernel_rfl
@[simp] theorem n175 : entersB Try.prog 175 = false := by kernel_rfl
@[simp] theorem n176 : entersB Try.prog 176 = false := by kernel_rfl
@[simp] theorem n177 : entersB Try.prog 177 = false := by kernel_rfl
@[simp] theorem n178 : entersB Try.prog 178 = false := by kernel_rfl
@[simp] theorem n179 : entersB Try.prog 179 = false := by kernel_rfl
theorem mixed : Try.prog.follows .mixedOrders = true := by kernel_rfl
end Go.HL
