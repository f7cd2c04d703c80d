/- What the program's tables hold, as instances. Printed by gen_tab.py. -/
import Derived.Test.YtbjcdgcdnbnknaaOps
namespace Go.Proofs.Ytbjcdgcdnbnknaa.Sx
open Go.RowKit
instance : Und Try.prog 2 (.int .i64) := ⟨Try.underlying2⟩
instance : Inf Try.prog 2 (.int .i64 0) 1 8 := ⟨by kernel_rfl⟩
instance : Und Try.prog 3 (.int .i64) := ⟨Try.underlying3⟩
instance : Inf Try.prog 3 (.int .i64 0) 1 8 := ⟨by kernel_rfl⟩
instance : Und Try.prog 4 .bool := ⟨Try.underlying4⟩
instance : Inf Try.prog 4 (.bool false) 1 1 := ⟨by kernel_rfl⟩
instance : Und Try.prog 5 (.int .u8) := ⟨Try.underlying5⟩
instance : Inf Try.prog 5 (.int .u8 0) 1 1 := ⟨by kernel_rfl⟩
instance : Und Try.prog 9 .string := ⟨Try.underlying9⟩
instance : Inf Try.prog 9 (.string ⟨#[]⟩) 1 16 := ⟨by kernel_rfl⟩
instance : Und Try.prog 12 (.int .u64) := ⟨Try.underlying12⟩
instance : Inf Try.prog 12 (.int .u64 0) 1 8 := ⟨by kernel_rfl⟩
instance : Und Try.prog 13 (.struct #[{ name := "msg", type := 9, offset := 0, embedded := false, tag := "", pkgPath := "runtime", byteOffset := 0 }, { name := "addr", type := 12, offset := 1, embedded := false, tag := "", pkgPath := "runtime", byteOffset := 16 }]) := ⟨Try.underlying13⟩
instance : Inf Try.prog 13 (.agg #[(.string ⟨#[]⟩), (.int .u64 0)]) 2 24 := ⟨by kernel_rfl⟩
instance : Fld Try.prog 13 0 0 := ⟨fun _ _ => by kernel_rfl⟩
instance : Fld Try.prog 13 1 1 := ⟨fun _ _ => by kernel_rfl⟩
instance : Flds Try.prog 13 [(0, 1), (1, 1)] := ⟨⟨_, Try.underlying13, fun _ => by kernel_rfl⟩⟩
instance : Inf Try.prog 20 .nilIface 1 16 := ⟨by kernel_rfl⟩
instance : Und Try.prog 21 (.int .i32) := ⟨Try.underlying21⟩
instance : Inf Try.prog 21 (.int .i32 0) 1 4 := ⟨by kernel_rfl⟩
instance : Und Try.prog 22 (.slice 36) := ⟨Try.underlying22⟩
instance : Inf Try.prog 22 (.slice none 0 0) 1 24 := ⟨by kernel_rfl⟩
instance : Inf Try.prog 23 .nilFunc 1 8 := ⟨by kernel_rfl⟩
instance : Und Try.prog 24 (.slice 3) := ⟨Try.underlying24⟩
instance : Inf Try.prog 24 (.slice none 0 0) 1 24 := ⟨by kernel_rfl⟩
instance : Inf Try.prog 25 .nilFunc 1 8 := ⟨by kernel_rfl⟩
instance : Und Try.prog 26 (.int .i64) := ⟨Try.underlying26⟩
instance : Inf Try.prog 26 (.int .i64 0) 1 8 := ⟨by kernel_rfl⟩
instance : Inf Try.prog 28 .nilFunc 1 8 := ⟨by kernel_rfl⟩
instance : Und Try.prog 29 (.struct #[{ name := "L", type := 24, offset := 0, embedded := false, tag := "", pkgPath := "", byteOffset := 0 }, { name := "E", type := 3, offset := 1, embedded := false, tag := "", pkgPath := "", byteOffset := 24 }]) := ⟨Try.underlying29⟩
instance : Inf Try.prog 29 (.agg #[(.slice none 0 0), (.int .i64 0)]) 2 32 := ⟨by kernel_rfl⟩
instance : Fld Try.prog 29 0 0 := ⟨fun _ _ => by kernel_rfl⟩
instance : Fld Try.prog 29 1 1 := ⟨fun _ _ => by kernel_rfl⟩
instance : Flds Try.prog 29 [(0, 1), (1, 1)] := ⟨⟨_, Try.underlying29, fun _ => by kernel_rfl⟩⟩
instance : Und Try.prog 30 (.struct #[{ name := "L", type := 24, offset := 0, embedded := false, tag := "", pkgPath := "", byteOffset := 0 }, { name := "E", type := 3, offset := 1, embedded := false, tag := "", pkgPath := "", byteOffset := 24 }]) := ⟨Try.underlying30⟩
instance : Inf Try.prog 30 (.agg #[(.slice none 0 0), (.int .i64 0)]) 2 32 := ⟨by kernel_rfl⟩
instance : Fld Try.prog 30 0 0 := ⟨fun _ _ => by kernel_rfl⟩
instance : Fld Try.prog 30 1 1 := ⟨fun _ _ => by kernel_rfl⟩
instance : Flds Try.prog 30 [(0, 1), (1, 1)] := ⟨⟨_, Try.underlying30, fun _ => by kernel_rfl⟩⟩
instance : Inf Try.prog 31 .nilFunc 1 8 := ⟨by kernel_rfl⟩
instance : Inf Try.prog 32 .nilFunc 1 8 := ⟨by kernel_rfl⟩
instance : Inf Try.prog 33 .nilFunc 1 8 := ⟨by kernel_rfl⟩
instance : Inf Try.prog 34 .nilFunc 1 8 := ⟨by kernel_rfl⟩
instance : Inf Try.prog 35 .nilFunc 1 8 := ⟨by kernel_rfl⟩
instance : Und Try.prog 36 (.int .u16) := ⟨Try.underlying36⟩
instance : Inf Try.prog 36 (.int .u16 0) 1 2 := ⟨by kernel_rfl⟩
instance : Inf Try.prog 37 .nilFunc 1 8 := ⟨by kernel_rfl⟩
instance : Inf Try.prog 39 .nilFunc 1 8 := ⟨by kernel_rfl⟩
instance : Und Try.prog 40 (.struct #[{ name := "L", type := 24, offset := 0, embedded := false, tag := "", pkgPath := "", byteOffset := 0 }, { name := "Next", type := 3, offset := 1, embedded := false, tag := "", pkgPath := "", byteOffset := 24 }, { name := "E", type := 3, offset := 2, embedded := false, tag := "", pkgPath := "", byteOffset := 32 }]) := ⟨Try.underlying40⟩
instance : Inf Try.prog 40 (.agg #[(.slice none 0 0), (.int .i64 0), (.int .i64 0)]) 3 40 := ⟨by kernel_rfl⟩
instance : Fld Try.prog 40 0 0 := ⟨fun _ _ => by kernel_rfl⟩
instance : Fld Try.prog 40 1 1 := ⟨fun _ _ => by kernel_rfl⟩
instance : Fld Try.prog 40 2 2 := ⟨fun _ _ => by kernel_rfl⟩
instance : Flds Try.prog 40 [(0, 1), (1, 1), (2, 1)] := ⟨⟨_, Try.underlying40, fun _ => by kernel_rfl⟩⟩
instance : Und Try.prog 41 (.struct #[{ name := "L", type := 24, offset := 0, embedded := false, tag := "", pkgPath := "", byteOffset := 0 }, { name := "Next", type := 3, offset := 1, embedded := false, tag := "", pkgPath := "", byteOffset := 24 }, { name := "E", type := 3, offset := 2, embedded := false, tag := "", pkgPath := "", byteOffset := 32 }]) := ⟨Try.underlying41⟩
instance : Inf Try.prog 41 (.agg #[(.slice none 0 0), (.int .i64 0), (.int .i64 0)]) 3 40 := ⟨by kernel_rfl⟩
instance : Fld Try.prog 41 0 0 := ⟨fun _ _ => by kernel_rfl⟩
instance : Fld Try.prog 41 1 1 := ⟨fun _ _ => by kernel_rfl⟩
instance : Fld Try.prog 41 2 2 := ⟨fun _ _ => by kernel_rfl⟩
instance : Flds Try.prog 41 [(0, 1), (1, 1), (2, 1)] := ⟨⟨_, Try.underlying41, fun _ => by kernel_rfl⟩⟩
instance : Inf Try.prog 42 .nilFunc 1 8 := ⟨by kernel_rfl⟩
instance : Inf Try.prog 43 .nilFunc 1 8 := ⟨by kernel_rfl⟩
instance : Inf Try.prog 44 .nilFunc 1 8 := ⟨by kernel_rfl⟩
instance : Und Try.prog 45 (.slice 5) := ⟨Try.underlying45⟩
instance : Inf Try.prog 45 (.slice none 0 0) 1 24 := ⟨by kernel_rfl⟩
instance : Inf Try.prog 46 .nilFunc 1 8 := ⟨by kernel_rfl⟩
instance : Inf Try.prog 47 .nilFunc 1 8 := ⟨by kernel_rfl⟩
instance : Inf Try.prog 48 .nilFunc 1 8 := ⟨by kernel_rfl⟩
instance : Inf Try.prog 49 .nilFunc 1 8 := ⟨by kernel_rfl⟩
instance : Inf Try.prog 50 .nilFunc 1 8 := ⟨by kernel_rfl⟩
instance : Inf Try.prog 51 .nilFunc 1 8 := ⟨by kernel_rfl⟩
instance : Inf Try.prog 52 .nilFunc 1 8 := ⟨by kernel_rfl⟩
instance : Inf Try.prog 53 .nilFunc 1 8 := ⟨by kernel_rfl⟩
instance : Inf Try.prog 54 .nilFunc 1 8 := ⟨by kernel_rfl⟩
instance : Und Try.prog 55 (.int .u64) := ⟨Try.underlying55⟩
instance : Inf Try.prog 55 (.int .u64 0) 1 8 := ⟨by kernel_rfl⟩
instance : Inf Try.prog 57 .nilFunc 1 8 := ⟨by kernel_rfl⟩
instance : Inf Try.prog 58 .nilFunc 1 8 := ⟨by kernel_rfl⟩
instance : Und Try.prog 60 (.struct #[{ name := "N", type := 55, offset := 0, embedded := false, tag := "", pkgPath := "", byteOffset := 0 }, { name := "Next", type := 3, offset := 1, embedded := false, tag := "", pkgPath := "", byteOffset := 8 }, { name := "E", type := 3, offset := 2, embedded := false, tag := "", pkgPath := "", byteOffset := 16 }]) := ⟨Try.underlying60⟩
instance : Inf Try.prog 60 (.agg #[(.int .u64 0), (.int .i64 0), (.int .i64 0)]) 3 24 := ⟨by kernel_rfl⟩
instance : Fld Try.prog 60 0 0 := ⟨fun _ _ => by kernel_rfl⟩
instance : Fld Try.prog 60 1 1 := ⟨fun _ _ => by kernel_rfl⟩
instance : Fld Try.prog 60 2 2 := ⟨fun _ _ => by kernel_rfl⟩
instance : Flds Try.prog 60 [(0, 1), (1, 1), (2, 1)] := ⟨⟨_, Try.underlying60, fun _ => by kernel_rfl⟩⟩
instance : Und Try.prog 61 (.struct #[{ name := "N", type := 55, offset := 0, embedded := false, tag := "", pkgPath := "", byteOffset := 0 }, { name := "Next", type := 3, offset := 1, embedded := false, tag := "", pkgPath := "", byteOffset := 8 }, { name := "E", type := 3, offset := 2, embedded := false, tag := "", pkgPath := "", byteOffset := 16 }]) := ⟨Try.underlying61⟩
instance : Inf Try.prog 61 (.agg #[(.int .u64 0), (.int .i64 0), (.int .i64 0)]) 3 24 := ⟨by kernel_rfl⟩
instance : Fld Try.prog 61 0 0 := ⟨fun _ _ => by kernel_rfl⟩
instance : Fld Try.prog 61 1 1 := ⟨fun _ _ => by kernel_rfl⟩
instance : Fld Try.prog 61 2 2 := ⟨fun _ _ => by kernel_rfl⟩
instance : Flds Try.prog 61 [(0, 1), (1, 1), (2, 1)] := ⟨⟨_, Try.underlying61, fun _ => by kernel_rfl⟩⟩
instance : Inf Try.prog 62 .nilFunc 1 8 := ⟨by kernel_rfl⟩
instance : Und Try.prog 63 (.pointer 65) := ⟨Try.underlying63⟩
instance : Inf Try.prog 63 (.pointer none) 1 8 := ⟨by kernel_rfl⟩
instance : Meth Try.prog 63 "Len" 65 none := ⟨fun a v u h => by subst h; kernel_rfl⟩
instance : Meth Try.prog 63 "Reset" 66 none := ⟨fun a v u h => by subst h; kernel_rfl⟩
instance : Meth Try.prog 63 "String" 35 none := ⟨fun a v u h => by subst h; kernel_rfl⟩
instance : Meth Try.prog 63 "WriteString" 33 none := ⟨fun a v u h => by subst h; kernel_rfl⟩
instance : Meth Try.prog 63 "strings.copyCheck" 44 none := ⟨fun a v u h => by subst h; kernel_rfl⟩
instance : Und Try.prog 64 (.struct #[{ name := "addr", type := 63, offset := 0, embedded := false, tag := "", pkgPath := "strings", byteOffset := 0 }, { name := "buf", type := 45, offset := 1, embedded := false, tag := "", pkgPath := "strings", byteOffset := 8 }]) := ⟨Try.underlying64⟩
instance : Inf Try.prog 64 (.agg #[(.pointer none), (.slice none 0 0)]) 2 32 := ⟨by kernel_rfl⟩
instance : Fld Try.prog 64 0 0 := ⟨fun _ _ => by kernel_rfl⟩
instance : Fld Try.prog 64 1 1 := ⟨fun _ _ => by kernel_rfl⟩
instance : Flds Try.prog 64 [(0, 1), (1, 1)] := ⟨⟨_, Try.underlying64, fun _ => by kernel_rfl⟩⟩
instance : Und Try.prog 65 (.struct #[{ name := "addr", type := 63, offset := 0, embedded := false, tag := "", pkgPath := "strings", byteOffset := 0 }, { name := "buf", type := 45, offset := 1, embedded := false, tag := "", pkgPath := "strings", byteOffset := 8 }]) := ⟨Try.underlying65⟩
instance : Inf Try.prog 65 (.agg #[(.pointer none), (.slice none 0 0)]) 2 32 := ⟨by kernel_rfl⟩
instance : Fld Try.prog 65 0 0 := ⟨fun _ _ => by kernel_rfl⟩
instance : Fld Try.prog 65 1 1 := ⟨fun _ _ => by kernel_rfl⟩
instance : Flds Try.prog 65 [(0, 1), (1, 1)] := ⟨⟨_, Try.underlying65, fun _ => by kernel_rfl⟩⟩
instance : Inf Try.prog 66 .nilIface 1 16 := ⟨by kernel_rfl⟩
instance : Inf Try.prog 67 .nilIface 1 16 := ⟨by kernel_rfl⟩
instance : Inf Try.prog 69 .nilFunc 1 8 := ⟨by kernel_rfl⟩
instance : Inf Try.prog 70 .nilFunc 1 8 := ⟨by kernel_rfl⟩
instance : Inf Try.prog 71 .nilFunc 1 8 := ⟨by kernel_rfl⟩
instance : Inf Try.prog 72 .nilFunc 1 8 := ⟨by kernel_rfl⟩
instance : Und Try.prog 73 (.pointer 75) := ⟨Try.underlying73⟩
instance : Inf Try.prog 73 (.pointer none) 1 8 := ⟨by kernel_rfl⟩
theorem meth_73_39 (a : Addr) (v : World) : (method (Try.prog.types.size + Made.depth) 73 (.pointer (some a)) "Len").run Try.prog v = (match v.cell? a with | some u => .ok (39, u) v | none => (match v.farLoad Try.prog a false with | .ok (u, _) => .ok (39, u) v | .error h => .halt h v)) := by kernel_rfl
instance : Meth Try.prog 73 "Len" 39 (some 75) := ⟨fun a v u h => by rw [meth_73_39, h]⟩
theorem meth_73_67 (a : Addr) (v : World) : (method (Try.prog.types.size + Made.depth) 73 (.pointer (some a)) "Less").run Try.prog v = (match v.cell? a with | some u => .ok (67, u) v | none => (match v.farLoad Try.prog a false with | .ok (u, _) => .ok (67, u) v | .error h => .halt h v)) := by kernel_rfl
instance : Meth Try.prog 73 "Less" 67 (some 75) := ⟨fun a v u h => by rw [meth_73_67, h]⟩
instance : Meth Try.prog 73 "Pop" 68 none := ⟨fun a v u h => by subst h; kernel_rfl⟩
instance : Meth Try.prog 73 "Push" 69 none := ⟨fun a v u h => by subst h; kernel_rfl⟩
theorem meth_73_70 (a : Addr) (v : World) : (method (Try.prog.types.size + Made.depth) 73 (.pointer (some a)) "Swap").run Try.prog v = (match v.cell? a with | some u => .ok (70, u) v | none => (match v.farLoad Try.prog a false with | .ok (u, _) => .ok (70, u) v | .error h => .halt h v)) := by kernel_rfl
instance : Meth Try.prog 73 "Swap" 70 (some 75) := ⟨fun a v u h => by rw [meth_73_70, h]⟩
instance : Und Try.prog 74 (.slice 78) := ⟨Try.underlying74⟩
instance : Inf Try.prog 74 (.slice none 0 0) 1 24 := ⟨by kernel_rfl⟩
instance : Und Try.prog 75 (.slice 78) := ⟨Try.underlying75⟩
instance : Inf Try.prog 75 (.slice none 0 0) 1 24 := ⟨by kernel_rfl⟩
instance : Inf Try.prog 76 .nilFunc 1 8 := ⟨by kernel_rfl⟩
instance : Und Try.prog 77 (.struct #[{ name := "at", type := 3, offset := 0, embedded := false, tag := "", pkgPath := "wringer/hist", byteOffset := 0 }, { name := "n", type := 3, offset := 1, embedded := false, tag := "", pkgPath := "wringer/hist", byteOffset := 8 }]) := ⟨Try.underlying77⟩
instance : Inf Try.prog 77 (.agg #[(.int .i64 0), (.int .i64 0)]) 2 16 := ⟨by kernel_rfl⟩
instance : Fld Try.prog 77 0 0 := ⟨fun _ _ => by kernel_rfl⟩
instance : Fld Try.prog 77 1 1 := ⟨fun _ _ => by kernel_rfl⟩
instance : Flds Try.prog 77 [(0, 1), (1, 1)] := ⟨⟨_, Try.underlying77, fun _ => by kernel_rfl⟩⟩
instance : Eq2 Try.prog 77 := ⟨⟨{ name := "at", type := 3, offset := 0, embedded := false, tag := "", pkgPath := "wringer/hist", byteOffset := 0 }, { name := "n", type := 3, offset := 1, embedded := false, tag := "", pkgPath := "wringer/hist", byteOffset := 8 }, .i64, .i64, by kernel_rfl, by kernel_rfl, by kernel_rfl, by kernel_rfl, by decide, by decide, rfl, rfl, by kernel_rfl, by kernel_rfl⟩⟩
instance : Und Try.prog 78 (.struct #[{ name := "at", type := 3, offset := 0, embedded := false, tag := "", pkgPath := "wringer/hist", byteOffset := 0 }, { name := "n", type := 3, offset := 1, embedded := false, tag := "", pkgPath := "wringer/hist", byteOffset := 8 }]) := ⟨Try.underlying78⟩
instance : Inf Try.prog 78 (.agg #[(.int .i64 0), (.int .i64 0)]) 2 16 := ⟨by kernel_rfl⟩
instance : Fld Try.prog 78 0 0 := ⟨fun _ _ => by kernel_rfl⟩
instance : Fld Try.prog 78 1 1 := ⟨fun _ _ => by kernel_rfl⟩
instance : Flds Try.prog 78 [(0, 1), (1, 1)] := ⟨⟨_, Try.underlying78, fun _ => by kernel_rfl⟩⟩
instance : Eq2 Try.prog 78 := ⟨⟨{ name := "at", type := 3, offset := 0, embedded := false, tag := "", pkgPath := "wringer/hist", byteOffset := 0 }, { name := "n", type := 3, offset := 1, embedded := false, tag := "", pkgPath := "wringer/hist", byteOffset := 8 }, .i64, .i64, by kernel_rfl, by kernel_rfl, by kernel_rfl, by kernel_rfl, by decide, by decide, rfl, rfl, by kernel_rfl, by kernel_rfl⟩⟩
instance : Inf Try.prog 79 .nilFunc 1 8 := ⟨by kernel_rfl⟩
instance : Inf Try.prog 81 .nilFunc 1 8 := ⟨by kernel_rfl⟩
instance : Und Try.prog 82 (.pointer 84) := ⟨Try.underlying82⟩
instance : Inf Try.prog 82 (.pointer none) 1 8 := ⟨by kernel_rfl⟩
theorem meth_82_71 (a : Addr) (v : World) : (method (Try.prog.types.size + Made.depth) 82 (.pointer (some a)) "Len").run Try.prog v = (match v.cell? a with | some u => .ok (71, u) v | none => (match v.farLoad Try.prog a false with | .ok (u, _) => .ok (71, u) v | .error h => .halt h v)) := by kernel_rfl
instance : Meth Try.prog 82 "Len" 71 (some 84) := ⟨fun a v u h => by rw [meth_82_71, h]⟩
theorem meth_82_72 (a : Addr) (v : World) : (method (Try.prog.types.size + Made.depth) 82 (.pointer (some a)) "Less").run Try.prog v = (match v.cell? a with | some u => .ok (72, u) v | none => (match v.farLoad Try.prog a false with | .ok (u, _) => .ok (72, u) v | .error h => .halt h v)) := by kernel_rfl
instance : Meth Try.prog 82 "Less" 72 (some 84) := ⟨fun a v u h => by rw [meth_82_72, h]⟩
instance : Meth Try.prog 82 "Pop" 73 none := ⟨fun a v u h => by subst h; kernel_rfl⟩
instance : Meth Try.prog 82 "Push" 74 none := ⟨fun a v u h => by subst h; kernel_rfl⟩
theorem meth_82_75 (a : Addr) (v : World) : (method (Try.prog.types.size + Made.depth) 82 (.pointer (some a)) "Swap").run Try.prog v = (match v.cell? a with | some u => .ok (75, u) v | none => (match v.farLoad Try.prog a false with | .ok (u, _) => .ok (75, u) v | .error h => .halt h v)) := by kernel_rfl
instance : Meth Try.prog 82 "Swap" 75 (some 84) := ⟨fun a v u h => by rw [meth_82_75, h]⟩
instance : Und Try.prog 83 (.slice 86) := ⟨Try.underlying83⟩
instance : Inf Try.prog 83 (.slice none 0 0) 1 24 := ⟨by kernel_rfl⟩
instance : Und Try.prog 84 (.slice 86) := ⟨Try.underlying84⟩
instance : Inf Try.prog 84 (.slice none 0 0) 1 24 := ⟨by kernel_rfl⟩
instance : Und Try.prog 85 (.struct #[{ name := "at", type := 3, offset := 0, embedded := false, tag := "", pkgPath := "wringer/norm", byteOffset := 0 }, { name := "n", type := 3, offset := 1, embedded := false, tag := "", pkgPath := "wringer/norm", byteOffset := 8 }]) := ⟨Try.underlying85⟩
instance : Inf Try.prog 85 (.agg #[(.int .i64 0), (.int .i64 0)]) 2 16 := ⟨by kernel_rfl⟩
instance : Fld Try.prog 85 0 0 := ⟨fun _ _ => by kernel_rfl⟩
instance : Fld Try.prog 85 1 1 := ⟨fun _ _ => by kernel_rfl⟩
instance : Flds Try.prog 85 [(0, 1), (1, 1)] := ⟨⟨_, Try.underlying85, fun _ => by kernel_rfl⟩⟩
instance : Eq2 Try.prog 85 := ⟨⟨{ name := "at", type := 3, offset := 0, embedded := false, tag := "", pkgPath := "wringer/norm", byteOffset := 0 }, { name := "n", type := 3, offset := 1, embedded := false, tag := "", pkgPath := "wringer/norm", byteOffset := 8 }, .i64, .i64, by kernel_rfl, by kernel_rfl, by kernel_rfl, by kernel_rfl, by decide, by decide, rfl, rfl, by kernel_rfl, by kernel_rfl⟩⟩
instance : Und Try.prog 86 (.struct #[{ name := "at", type := 3, offset := 0, embedded := false, tag := "", pkgPath := "wringer/norm", byteOffset := 0 }, { name := "n", type := 3, offset := 1, embedded := false, tag := "", pkgPath := "wringer/norm", byteOffset := 8 }]) := ⟨Try.underlying86⟩
instance : Inf Try.prog 86 (.agg #[(.int .i64 0), (.int .i64 0)]) 2 16 := ⟨by kernel_rfl⟩
instance : Fld Try.prog 86 0 0 := ⟨fun _ _ => by kernel_rfl⟩
instance : Fld Try.prog 86 1 1 := ⟨fun _ _ => by kernel_rfl⟩
instance : Flds Try.prog 86 [(0, 1), (1, 1)] := ⟨⟨_, Try.underlying86, fun _ => by kernel_rfl⟩⟩
instance : Eq2 Try.prog 86 := ⟨⟨{ name := "at", type := 3, offset := 0, embedded := false, tag := "", pkgPath := "wringer/norm", byteOffset := 0 }, { name := "n", type := 3, offset := 1, embedded := false, tag := "", pkgPath := "wringer/norm", byteOffset := 8 }, .i64, .i64, by kernel_rfl, by kernel_rfl, by kernel_rfl, by kernel_rfl, by decide, by decide, rfl, rfl, by kernel_rfl, by kernel_rfl⟩⟩
instance : Und Try.prog 87 (.pointer 86) := ⟨Try.underlying87⟩
instance : Inf Try.prog 87 (.pointer none) 1 8 := ⟨by kernel_rfl⟩
instance : Inf Try.prog 88 .nilFunc 1 8 := ⟨by kernel_rfl⟩
instance : Inf Try.prog 89 .nilFunc 1 8 := ⟨by kernel_rfl⟩
instance : Inf Try.prog 90 .nilFunc 1 8 := ⟨by kernel_rfl⟩
instance : Inf Try.prog 91 .nilFunc 1 8 := ⟨by kernel_rfl⟩
instance : Und Try.prog 92 (.struct #[{ name := "s", type := 9, offset := 0, embedded := false, tag := "", pkgPath := "wringer/vint", byteOffset := 0 }]) := ⟨Try.underlying92⟩
instance : Inf Try.prog 92 (.agg #[(.string ⟨#[]⟩)]) 1 16 := ⟨by kernel_rfl⟩
instance : Fld Try.prog 92 0 0 := ⟨fun _ _ => by kernel_rfl⟩
instance : Flds Try.prog 92 [(0, 1)] := ⟨⟨_, Try.underlying92, fun _ => by kernel_rfl⟩⟩
instance : Und Try.prog 93 (.struct #[{ name := "s", type := 9, offset := 0, embedded := false, tag := "", pkgPath := "wringer/vint", byteOffset := 0 }]) := ⟨Try.underlying93⟩
instance : Inf Try.prog 93 (.agg #[(.string ⟨#[]⟩)]) 1 16 := ⟨by kernel_rfl⟩
instance : Fld Try.prog 93 0 0 := ⟨fun _ _ => by kernel_rfl⟩
instance : Flds Try.prog 93 [(0, 1)] := ⟨⟨_, Try.underlying93, fun _ => by kernel_rfl⟩⟩
instance : Und Try.prog 94 (.int .u64) := ⟨Try.underlying94⟩
instance : Inf Try.prog 94 (.int .u64 0) 1 8 := ⟨by kernel_rfl⟩
instance : Und Try.prog 95 (.pointer 5) := ⟨Try.underlying95⟩
instance : Inf Try.prog 95 (.pointer none) 1 8 := ⟨by kernel_rfl⟩
instance : Inf Try.prog 96 .nilIface 1 16 := ⟨by kernel_rfl⟩
instance : Inf Try.prog 97 .nilIface 1 16 := ⟨by kernel_rfl⟩
instance : Inf Try.prog 98 .nilFunc 1 8 := ⟨by kernel_rfl⟩
instance : Inf Try.prog 99 .nilFunc 1 8 := ⟨by kernel_rfl⟩
instance : Inf Try.prog 100 .nilFunc 1 8 := ⟨by kernel_rfl⟩
instance : Inf Try.prog 101 .nilFunc 1 8 := ⟨by kernel_rfl⟩
instance : Inf Try.prog 102 .nilFunc 1 8 := ⟨by kernel_rfl⟩
instance : Inf Try.prog 105 .nilFunc 1 8 := ⟨by kernel_rfl⟩
instance : Und Try.prog 111 (.int .u32) := ⟨Try.underlying111⟩
instance : Inf Try.prog 111 (.int .u32 0) 1 4 := ⟨by kernel_rfl⟩
instance : Fun Try.prog 3 := ⟨fun _ _ => by kernel_rfl⟩
instance : Fun Try.prog 4 := ⟨fun _ _ => by kernel_rfl⟩
instance : Fun Try.prog 5 := ⟨fun _ _ => by kernel_rfl⟩
instance : Fun Try.prog 6 := ⟨fun _ _ => by kernel_rfl⟩
instance : Fun Try.prog 7 := ⟨fun _ _ => by kernel_rfl⟩
instance : Fun Try.prog 8 := ⟨fun _ _ => by kernel_rfl⟩
instance : Fun Try.prog 9 := ⟨fun _ _ => by kernel_rfl⟩
instance : Fun Try.prog 10 := ⟨fun _ _ => by kernel_rfl⟩
instance : Fun Try.prog 11 := ⟨fun _ _ => by kernel_rfl⟩
instance : Fun Try.prog 12 := ⟨fun _ _ => by kernel_rfl⟩
instance : Fun Try.prog 13 := ⟨fun _ _ => by kernel_rfl⟩
instance : Fun Try.prog 14 := ⟨fun _ _ => by kernel_rfl⟩
instance : Fun Try.prog 15 := ⟨fun _ _ => by kernel_rfl⟩
instance : Fun Try.prog 16 := ⟨fun _ _ => by kernel_rfl⟩
instance : Fun Try.prog 17 := ⟨fun _ _ => by kernel_rfl⟩
instance : Fun Try.prog 18 := ⟨fun _ _ => by kernel_rfl⟩
instance : Fun Try.prog 19 := ⟨fun _ _ => by kernel_rfl⟩
instance : Fun Try.prog 20 := ⟨fun _ _ => by kernel_rfl⟩
instance : Fun Try.prog 21 := ⟨fun _ _ => by kernel_rfl⟩
instance : Fun Try.prog 22 := ⟨fun _ _ => by kernel_rfl⟩
instance : Fun Try.prog 23 := ⟨fun _ _ => by kernel_rfl⟩
instance : Fun Try.prog 24 := ⟨fun _ _ => by kernel_rfl⟩
instance : Fun Try.prog 25 := ⟨fun _ _ => by kernel_rfl⟩
instance : Fun Try.prog 26 := ⟨fun _ _ => by kernel_rfl⟩
instance : Fun Try.prog 27 := ⟨fun _ _ => by kernel_rfl⟩
instance : Fun Try.prog 28 := ⟨fun _ _ => by kernel_rfl⟩
instance : Fun Try.prog 29 := ⟨fun _ _ => by kernel_rfl⟩
instance : Fun Try.prog 30 := ⟨fun _ _ => by kernel_rfl⟩
instance : Fun Try.prog 31 := ⟨fun _ _ => by kernel_rfl⟩
instance : Fun Try.prog 32 := ⟨fun _ _ => by kernel_rfl⟩
instance : Fun Try.prog 33 := ⟨fun _ _ => by kernel_rfl⟩
instance : Fun Try.prog 34 := ⟨fun _ _ => by kernel_rfl⟩
instance : Fun Try.prog 35 := ⟨fun _ _ => by kernel_rfl⟩
instance : Fun Try.prog 36 := ⟨fun _ _ => by kernel_rfl⟩
instance : Fun Try.prog 37 := ⟨fun _ _ => by kernel_rfl⟩
instance : Fun Try.prog 38 := ⟨fun _ _ => by kernel_rfl⟩
instance : Fun Try.prog 39 := ⟨fun _ _ => by kernel_rfl⟩
instance : Fun Try.prog 40 := ⟨fun _ _ => by kernel_rfl⟩
instance : Fun Try.prog 41 := ⟨fun _ _ => by kernel_rfl⟩
instance : Fun Try.prog 42 := ⟨fun _ _ => by kernel_rfl⟩
instance : Fun Try.prog 43 := ⟨fun _ _ => by kernel_rfl⟩
instance : Fun Try.prog 44 := ⟨fun _ _ => by kernel_rfl⟩
instance : Fun Try.prog 45 := ⟨fun _ _ => by kernel_rfl⟩
instance : Fun Try.prog 46 := ⟨fun _ _ => by kernel_rfl⟩
instance : Fun Try.prog 47 := ⟨fun _ _ => by kernel_rfl⟩
instance : Fun Try.prog 65 := ⟨fun _ _ => by kernel_rfl⟩
instance : Fun Try.prog 67 := ⟨fun _ _ => by kernel_rfl⟩
instance : Fun Try.prog 68 := ⟨fun _ _ => by kernel_rfl⟩
instance : Fun Try.prog 69 := ⟨fun _ _ => by kernel_rfl⟩
instance : Fun Try.prog 70 := ⟨fun _ _ => by kernel_rfl⟩
instance : Fun Try.prog 71 := ⟨fun _ _ => by kernel_rfl⟩
instance : Fun Try.prog 72 := ⟨fun _ _ => by kernel_rfl⟩
instance : Fun Try.prog 73 := ⟨fun _ _ => by kernel_rfl⟩
instance : Fun Try.prog 74 := ⟨fun _ _ => by kernel_rfl⟩
instance : Fun Try.prog 75 := ⟨fun _ _ => by kernel_rfl⟩
theorem mixed : Try.prog.follows .mixedOrders = true := by kernel_rfl
end Go.Proofs.Ytbjcdgcdnbnknaa.Sx
