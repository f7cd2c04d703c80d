/- What the program's tables hold, as instances. Printed by gen_tab.py. -/
import Derived.Test.YtdakocdfpdglfaaOps
namespace Go.Proofs.Ytdakocdfpdglfaa.Sx
open Go.RowKit
instance : Und Try.prog 2 (.int .i64) := ⟨Try.underlying2⟩
instance : Inf Try.prog 2 (.int .i64 0) 1 8 := ⟨by kernel_rfl⟩
instance : Und Try.prog 3 (.int .i64) := ⟨Try.underlying3⟩
instance : Inf Try.prog 3 (.int .i64 0) 1 8 := ⟨by kernel_rfl⟩
instance : Und Try.prog 4 .bool := ⟨Try.underlying4⟩
instance : Inf Try.prog 4 (.bool false) 1 1 := ⟨by kernel_rfl⟩
instance : Und Try.prog 5 (.int .u8) := ⟨Try.underlying5⟩
instance : Inf Try.prog 5 (.int .u8 0) 1 1 := ⟨by kernel_rfl⟩
instance : Und Try.prog 9 .string := ⟨Try.underlying9⟩
instance : Inf Try.prog 9 (.string ⟨#[]⟩) 1 16 := ⟨by kernel_rfl⟩
instance : Und Try.prog 12 (.int .u64) := ⟨Try.underlying12⟩
instance : Inf Try.prog 12 (.int .u64 0) 1 8 := ⟨by kernel_rfl⟩
instance : Und Try.prog 13 (.struct #[{ name := "msg", type := 9, offset := 0, embedded := false, tag := "", pkgPath := "runtime", byteOffset := 0 }, { name := "addr", type := 12, offset := 1, embedded := false, tag := "", pkgPath := "runtime", byteOffset := 16 }]) := ⟨Try.underlying13⟩
instance : Inf Try.prog 13 (.agg #[(.string ⟨#[]⟩), (.int .u64 0)]) 2 24 := ⟨by kernel_rfl⟩
instance : Fld Try.prog 13 0 0 := ⟨fun _ _ => by kernel_rfl⟩
instance : Fld Try.prog 13 1 1 := ⟨fun _ _ => by kernel_rfl⟩
instance : Flds Try.prog 13 [(0, 1), (1, 1)] := ⟨⟨_, Try.underlying13, fun _ => by kernel_rfl⟩⟩
instance : Inf Try.prog 20 .nilIface 1 16 := ⟨by kernel_rfl⟩
instance : Und Try.prog 21 (.int .i32) := ⟨Try.underlying21⟩
instance : Inf Try.prog 21 (.int .i32 0) 1 4 := ⟨by kernel_rfl⟩
instance : Und Try.prog 22 (.slice 55) := ⟨Try.underlying22⟩
instance : Inf Try.prog 22 (.slice none 0 0) 1 24 := ⟨by kernel_rfl⟩
instance : Inf Try.prog 23 .nilFunc 1 8 := ⟨by kernel_rfl⟩
instance : Und Try.prog 24 (.slice 3) := ⟨Try.underlying24⟩
instance : Inf Try.prog 24 (.slice none 0 0) 1 24 := ⟨by kernel_rfl⟩
instance : Und Try.prog 25 (.struct #[{ name := "L", type := 24, offset := 0, embedded := false, tag := "", pkgPath := "", byteOffset := 0 }, { name := "E", type := 3, offset := 1, embedded := false, tag := "", pkgPath := "", byteOffset := 24 }]) := ⟨Try.underlying25⟩
instance : Inf Try.prog 25 (.agg #[(.slice none 0 0), (.int .i64 0)]) 2 32 := ⟨by kernel_rfl⟩
instance : Fld Try.prog 25 0 0 := ⟨fun _ _ => by kernel_rfl⟩
instance : Fld Try.prog 25 1 1 := ⟨fun _ _ => by kernel_rfl⟩
instance : Flds Try.prog 25 [(0, 1), (1, 1)] := ⟨⟨_, Try.underlying25, fun _ => by kernel_rfl⟩⟩
instance : Und Try.prog 26 (.struct #[{ name := "L", type := 24, offset := 0, embedded := false, tag := "", pkgPath := "", byteOffset := 0 }, { name := "E", type := 3, offset := 1, embedded := false, tag := "", pkgPath := "", byteOffset := 24 }]) := ⟨Try.underlying26⟩
instance : Inf Try.prog 26 (.agg #[(.slice none 0 0), (.int .i64 0)]) 2 32 := ⟨by kernel_rfl⟩
instance : Fld Try.prog 26 0 0 := ⟨fun _ _ => by kernel_rfl⟩
instance : Fld Try.prog 26 1 1 := ⟨fun _ _ => by kernel_rfl⟩
instance : Flds Try.prog 26 [(0, 1), (1, 1)] := ⟨⟨_, Try.underlying26, fun _ => by kernel_rfl⟩⟩
instance : Inf Try.prog 27 .nilFunc 1 8 := ⟨by kernel_rfl⟩
instance : Inf Try.prog 28 .nilFunc 1 8 := ⟨by kernel_rfl⟩
instance : Und Try.prog 29 (.slice 60) := ⟨Try.underlying29⟩
instance : Inf Try.prog 29 (.slice none 0 0) 1 24 := ⟨by kernel_rfl⟩
instance : Und Try.prog 30 (.int .i64) := ⟨Try.underlying30⟩
instance : Inf Try.prog 30 (.int .i64 0) 1 8 := ⟨by kernel_rfl⟩
instance : Inf Try.prog 32 .nilFunc 1 8 := ⟨by kernel_rfl⟩
instance : Inf Try.prog 33 .nilFunc 1 8 := ⟨by kernel_rfl⟩
instance : Inf Try.prog 34 .nilFunc 1 8 := ⟨by kernel_rfl⟩
instance : Inf Try.prog 35 .nilFunc 1 8 := ⟨by kernel_rfl⟩
instance : Und Try.prog 36 (.slice 2) := ⟨Try.underlying36⟩
instance : Inf Try.prog 36 (.slice none 0 0) 1 24 := ⟨by kernel_rfl⟩
instance : Und Try.prog 37 (.int .u64) := ⟨Try.underlying37⟩
instance : Inf Try.prog 37 (.int .u64 0) 1 8 := ⟨by kernel_rfl⟩
instance : Und Try.prog 38 (.slice 41) := ⟨Try.underlying38⟩
instance : Inf Try.prog 38 (.slice none 0 0) 1 24 := ⟨by kernel_rfl⟩
instance : Inf Try.prog 39 .nilFunc 1 8 := ⟨by kernel_rfl⟩
instance : Und Try.prog 40 (.struct #[{ name := "Class", type := 3, offset := 0, embedded := false, tag := "", pkgPath := "", byteOffset := 0 }, { name := "Rest", type := 37, offset := 1, embedded := false, tag := "", pkgPath := "", byteOffset := 8 }]) := ⟨Try.underlying40⟩
instance : Inf Try.prog 40 (.agg #[(.int .i64 0), (.int .u64 0)]) 2 16 := ⟨by kernel_rfl⟩
instance : Fld Try.prog 40 0 0 := ⟨fun _ _ => by kernel_rfl⟩
instance : Fld Try.prog 40 1 1 := ⟨fun _ _ => by kernel_rfl⟩
instance : Flds Try.prog 40 [(0, 1), (1, 1)] := ⟨⟨_, Try.underlying40, fun _ => by kernel_rfl⟩⟩
instance : Eq2 Try.prog 40 := ⟨⟨{ name := "Class", type := 3, offset := 0, embedded := false, tag := "", pkgPath := "", byteOffset := 0 }, { name := "Rest", type := 37, offset := 1, embedded := false, tag := "", pkgPath := "", byteOffset := 8 }, .i64, .u64, by kernel_rfl, by kernel_rfl, by kernel_rfl, by kernel_rfl, by decide, by decide, rfl, rfl, by kernel_rfl, by kernel_rfl⟩⟩
instance : Und Try.prog 41 (.struct #[{ name := "Class", type := 3, offset := 0, embedded := false, tag := "", pkgPath := "", byteOffset := 0 }, { name := "Rest", type := 37, offset := 1, embedded := false, tag := "", pkgPath := "", byteOffset := 8 }]) := ⟨Try.underlying41⟩
instance : Inf Try.prog 41 (.agg #[(.int .i64 0), (.int .u64 0)]) 2 16 := ⟨by kernel_rfl⟩
instance : Fld Try.prog 41 0 0 := ⟨fun _ _ => by kernel_rfl⟩
instance : Fld Try.prog 41 1 1 := ⟨fun _ _ => by kernel_rfl⟩
instance : Flds Try.prog 41 [(0, 1), (1, 1)] := ⟨⟨_, Try.underlying41, fun _ => by kernel_rfl⟩⟩
instance : Eq2 Try.prog 41 := ⟨⟨{ name := "Class", type := 3, offset := 0, embedded := false, tag := "", pkgPath := "", byteOffset := 0 }, { name := "Rest", type := 37, offset := 1, embedded := false, tag := "", pkgPath := "", byteOffset := 8 }, .i64, .u64, by kernel_rfl, by kernel_rfl, by kernel_rfl, by kernel_rfl, by decide, by decide, rfl, rfl, by kernel_rfl, by kernel_rfl⟩⟩
instance : Inf Try.prog 43 .nilFunc 1 8 := ⟨by kernel_rfl⟩
instance : Inf Try.prog 44 .nilFunc 1 8 := ⟨by kernel_rfl⟩
instance : Inf Try.prog 45 .nilFunc 1 8 := ⟨by kernel_rfl⟩
instance : Inf Try.prog 46 .nilFunc 1 8 := ⟨by kernel_rfl⟩
instance : Inf Try.prog 48 .nilFunc 1 8 := ⟨by kernel_rfl⟩
instance : Inf Try.prog 49 .nilFunc 1 8 := ⟨by kernel_rfl⟩
instance : Inf Try.prog 50 .nilFunc 1 8 := ⟨by kernel_rfl⟩
instance : Inf Try.prog 51 .nilFunc 1 8 := ⟨by kernel_rfl⟩
instance : Inf Try.prog 52 .nilFunc 1 8 := ⟨by kernel_rfl⟩
instance : Und Try.prog 53 (.slice 5) := ⟨Try.underlying53⟩
instance : Inf Try.prog 53 (.slice none 0 0) 1 24 := ⟨by kernel_rfl⟩
instance : Inf Try.prog 54 .nilFunc 1 8 := ⟨by kernel_rfl⟩
instance : Und Try.prog 55 (.int .u16) := ⟨Try.underlying55⟩
instance : Inf Try.prog 55 (.int .u16 0) 1 2 := ⟨by kernel_rfl⟩
instance : Inf Try.prog 56 .nilFunc 1 8 := ⟨by kernel_rfl⟩
instance : Inf Try.prog 57 .nilFunc 1 8 := ⟨by kernel_rfl⟩
instance : Inf Try.prog 58 .nilFunc 1 8 := ⟨by kernel_rfl⟩
instance : Und Try.prog 59 (.struct #[{ name := "Bits", type := 3, offset := 0, embedded := false, tag := "", pkgPath := "", byteOffset := 0 }, { name := "Len", type := 3, offset := 1, embedded := false, tag := "", pkgPath := "", byteOffset := 8 }]) := ⟨Try.underlying59⟩
instance : Inf Try.prog 59 (.agg #[(.int .i64 0), (.int .i64 0)]) 2 16 := ⟨by kernel_rfl⟩
instance : Fld Try.prog 59 0 0 := ⟨fun _ _ => by kernel_rfl⟩
instance : Fld Try.prog 59 1 1 := ⟨fun _ _ => by kernel_rfl⟩
instance : Flds Try.prog 59 [(0, 1), (1, 1)] := ⟨⟨_, Try.underlying59, fun _ => by kernel_rfl⟩⟩
instance : Eq2 Try.prog 59 := ⟨⟨{ name := "Bits", type := 3, offset := 0, embedded := false, tag := "", pkgPath := "", byteOffset := 0 }, { name := "Len", type := 3, offset := 1, embedded := false, tag := "", pkgPath := "", byteOffset := 8 }, .i64, .i64, by kernel_rfl, by kernel_rfl, by kernel_rfl, by kernel_rfl, by decide, by decide, rfl, rfl, by kernel_rfl, by kernel_rfl⟩⟩
instance : Und Try.prog 60 (.struct #[{ name := "Bits", type := 3, offset := 0, embedded := false, tag := "", pkgPath := "", byteOffset := 0 }, { name := "Len", type := 3, offset := 1, embedded := false, tag := "", pkgPath := "", byteOffset := 8 }]) := ⟨Try.underlying60⟩
instance : Inf Try.prog 60 (.agg #[(.int .i64 0), (.int .i64 0)]) 2 16 := ⟨by kernel_rfl⟩
instance : Fld Try.prog 60 0 0 := ⟨fun _ _ => by kernel_rfl⟩
instance : Fld Try.prog 60 1 1 := ⟨fun _ _ => by kernel_rfl⟩
instance : Flds Try.prog 60 [(0, 1), (1, 1)] := ⟨⟨_, Try.underlying60, fun _ => by kernel_rfl⟩⟩
instance : Eq2 Try.prog 60 := ⟨⟨{ name := "Bits", type := 3, offset := 0, embedded := false, tag := "", pkgPath := "", byteOffset := 0 }, { name := "Len", type := 3, offset := 1, embedded := false, tag := "", pkgPath := "", byteOffset := 8 }, .i64, .i64, by kernel_rfl, by kernel_rfl, by kernel_rfl, by kernel_rfl, by decide, by decide, rfl, rfl, by kernel_rfl, by kernel_rfl⟩⟩
instance : Inf Try.prog 61 .nilFunc 1 8 := ⟨by kernel_rfl⟩
instance : Und Try.prog 62 (.pointer 64) := ⟨Try.underlying62⟩
instance : Inf Try.prog 62 (.pointer none) 1 8 := ⟨by kernel_rfl⟩
instance : Meth Try.prog 62 "wringer/wringerref7.cost" 29 none := ⟨fun a v u h => by subst h; kernel_rfl⟩
instance : Meth Try.prog 62 "wringer/wringerref7.key" 39 none := ⟨fun a v u h => by subst h; kernel_rfl⟩
instance : Und Try.prog 63 (.struct #[{ name := "freq", type := 24, offset := 0, embedded := false, tag := "", pkgPath := "wringer/wringerref7", byteOffset := 0 }, { name := "limit", type := 3, offset := 1, embedded := false, tag := "", pkgPath := "wringer/wringerref7", byteOffset := 24 }, { name := "known", type := 24, offset := 2, embedded := false, tag := "", pkgPath := "wringer/wringerref7", byteOffset := 32 }, { name := "sums", type := 24, offset := 3, embedded := false, tag := "", pkgPath := "wringer/wringerref7", byteOffset := 56 }]) := ⟨Try.underlying63⟩
instance : Inf Try.prog 63 (.agg #[(.slice none 0 0), (.int .i64 0), (.slice none 0 0), (.slice none 0 0)]) 4 80 := ⟨by kernel_rfl⟩
instance : Fld Try.prog 63 0 0 := ⟨fun _ _ => by kernel_rfl⟩
instance : Fld Try.prog 63 1 1 := ⟨fun _ _ => by kernel_rfl⟩
instance : Fld Try.prog 63 2 2 := ⟨fun _ _ => by kernel_rfl⟩
instance : Fld Try.prog 63 3 3 := ⟨fun _ _ => by kernel_rfl⟩
instance : Flds Try.prog 63 [(0, 1), (1, 1), (2, 1), (3, 1)] := ⟨⟨_, Try.underlying63, fun _ => by kernel_rfl⟩⟩
instance : Und Try.prog 64 (.struct #[{ name := "freq", type := 24, offset := 0, embedded := false, tag := "", pkgPath := "wringer/wringerref7", byteOffset := 0 }, { name := "limit", type := 3, offset := 1, embedded := false, tag := "", pkgPath := "wringer/wringerref7", byteOffset := 24 }, { name := "known", type := 24, offset := 2, embedded := false, tag := "", pkgPath := "wringer/wringerref7", byteOffset := 32 }, { name := "sums", type := 24, offset := 3, embedded := false, tag := "", pkgPath := "wringer/wringerref7", byteOffset := 56 }]) := ⟨Try.underlying64⟩
instance : Inf Try.prog 64 (.agg #[(.slice none 0 0), (.int .i64 0), (.slice none 0 0), (.slice none 0 0)]) 4 80 := ⟨by kernel_rfl⟩
instance : Fld Try.prog 64 0 0 := ⟨fun _ _ => by kernel_rfl⟩
instance : Fld Try.prog 64 1 1 := ⟨fun _ _ => by kernel_rfl⟩
instance : Fld Try.prog 64 2 2 := ⟨fun _ _ => by kernel_rfl⟩
instance : Fld Try.prog 64 3 3 := ⟨fun _ _ => by kernel_rfl⟩
instance : Flds Try.prog 64 [(0, 1), (1, 1), (2, 1), (3, 1)] := ⟨⟨_, Try.underlying64, fun _ => by kernel_rfl⟩⟩
instance : Inf Try.prog 65 .nilFunc 1 8 := ⟨by kernel_rfl⟩
instance : Und Try.prog 66 (.pointer 68) := ⟨Try.underlying66⟩
instance : Inf Try.prog 66 (.pointer none) 1 8 := ⟨by kernel_rfl⟩
theorem meth_66_31 (a : Addr) (v : World) : (method (Try.prog.types.size + Made.depth) 66 (.pointer (some a)) "Len").run Try.prog v = (match v.cell? a with | some u => .ok (31, u) v | none => (match v.farLoad Try.prog a false with | .ok (u, _) => .ok (31, u) v | .error h => .halt h v)) := by kernel_rfl
instance : Meth Try.prog 66 "Len" 31 (some 68) := ⟨fun a v u h => by rw [meth_66_31, h]⟩
theorem meth_66_68 (a : Addr) (v : World) : (method (Try.prog.types.size + Made.depth) 66 (.pointer (some a)) "Less").run Try.prog v = (match v.cell? a with | some u => .ok (68, u) v | none => (match v.farLoad Try.prog a false with | .ok (u, _) => .ok (68, u) v | .error h => .halt h v)) := by kernel_rfl
instance : Meth Try.prog 66 "Less" 68 (some 68) := ⟨fun a v u h => by rw [meth_66_68, h]⟩
instance : Meth Try.prog 66 "Pop" 69 none := ⟨fun a v u h => by subst h; kernel_rfl⟩
instance : Meth Try.prog 66 "Push" 70 none := ⟨fun a v u h => by subst h; kernel_rfl⟩
theorem meth_66_71 (a : Addr) (v : World) : (method (Try.prog.types.size + Made.depth) 66 (.pointer (some a)) "Swap").run Try.prog v = (match v.cell? a with | some u => .ok (71, u) v | none => (match v.farLoad Try.prog a false with | .ok (u, _) => .ok (71, u) v | .error h => .halt h v)) := by kernel_rfl
instance : Meth Try.prog 66 "Swap" 71 (some 68) := ⟨fun a v u h => by rw [meth_66_71, h]⟩
instance : Und Try.prog 67 (.slice 71) := ⟨Try.underlying67⟩
instance : Inf Try.prog 67 (.slice none 0 0) 1 24 := ⟨by kernel_rfl⟩
instance : Und Try.prog 68 (.slice 71) := ⟨Try.underlying68⟩
instance : Inf Try.prog 68 (.slice none 0 0) 1 24 := ⟨by kernel_rfl⟩
instance : Inf Try.prog 69 .nilFunc 1 8 := ⟨by kernel_rfl⟩
instance : Und Try.prog 70 (.struct #[{ name := "at", type := 3, offset := 0, embedded := false, tag := "", pkgPath := "wringer/canon", byteOffset := 0 }, { name := "size", type := 3, offset := 1, embedded := false, tag := "", pkgPath := "wringer/canon", byteOffset := 8 }]) := ⟨Try.underlying70⟩
instance : Inf Try.prog 70 (.agg #[(.int .i64 0), (.int .i64 0)]) 2 16 := ⟨by kernel_rfl⟩
instance : Fld Try.prog 70 0 0 := ⟨fun _ _ => by kernel_rfl⟩
instance : Fld Try.prog 70 1 1 := ⟨fun _ _ => by kernel_rfl⟩
instance : Flds Try.prog 70 [(0, 1), (1, 1)] := ⟨⟨_, Try.underlying70, fun _ => by kernel_rfl⟩⟩
instance : Eq2 Try.prog 70 := ⟨⟨{ name := "at", type := 3, offset := 0, embedded := false, tag := "", pkgPath := "wringer/canon", byteOffset := 0 }, { name := "size", type := 3, offset := 1, embedded := false, tag := "", pkgPath := "wringer/canon", byteOffset := 8 }, .i64, .i64, by kernel_rfl, by kernel_rfl, by kernel_rfl, by kernel_rfl, by decide, by decide, rfl, rfl, by kernel_rfl, by kernel_rfl⟩⟩
instance : Und Try.prog 71 (.struct #[{ name := "at", type := 3, offset := 0, embedded := false, tag := "", pkgPath := "wringer/canon", byteOffset := 0 }, { name := "size", type := 3, offset := 1, embedded := false, tag := "", pkgPath := "wringer/canon", byteOffset := 8 }]) := ⟨Try.underlying71⟩
instance : Inf Try.prog 71 (.agg #[(.int .i64 0), (.int .i64 0)]) 2 16 := ⟨by kernel_rfl⟩
instance : Fld Try.prog 71 0 0 := ⟨fun _ _ => by kernel_rfl⟩
instance : Fld Try.prog 71 1 1 := ⟨fun _ _ => by kernel_rfl⟩
instance : Flds Try.prog 71 [(0, 1), (1, 1)] := ⟨⟨_, Try.underlying71, fun _ => by kernel_rfl⟩⟩
instance : Eq2 Try.prog 71 := ⟨⟨{ name := "at", type := 3, offset := 0, embedded := false, tag := "", pkgPath := "wringer/canon", byteOffset := 0 }, { name := "size", type := 3, offset := 1, embedded := false, tag := "", pkgPath := "wringer/canon", byteOffset := 8 }, .i64, .i64, by kernel_rfl, by kernel_rfl, by kernel_rfl, by kernel_rfl, by decide, by decide, rfl, rfl, by kernel_rfl, by kernel_rfl⟩⟩
instance : Inf Try.prog 72 .nilFunc 1 8 := ⟨by kernel_rfl⟩
instance : Inf Try.prog 74 .nilFunc 1 8 := ⟨by kernel_rfl⟩
instance : Inf Try.prog 75 .nilFunc 1 8 := ⟨by kernel_rfl⟩
instance : Inf Try.prog 77 .nilFunc 1 8 := ⟨by kernel_rfl⟩
instance : Inf Try.prog 78 .nilFunc 1 8 := ⟨by kernel_rfl⟩
instance : Und Try.prog 79 (.pointer 82) := ⟨Try.underlying79⟩
instance : Inf Try.prog 79 (.pointer none) 1 8 := ⟨by kernel_rfl⟩
instance : Meth Try.prog 79 "wringer/merge.at" 50 none := ⟨fun a v u h => by subst h; kernel_rfl⟩
instance : Meth Try.prog 79 "wringer/merge.from" 38 none := ⟨fun a v u h => by subst h; kernel_rfl⟩
instance : Und Try.prog 80 (.slice 89) := ⟨Try.underlying80⟩
instance : Inf Try.prog 80 (.slice none 0 0) 1 24 := ⟨by kernel_rfl⟩
instance : Und Try.prog 81 (.struct #[{ name := "sums", type := 24, offset := 0, embedded := false, tag := "", pkgPath := "wringer/merge", byteOffset := 0 }, { name := "limit", type := 3, offset := 1, embedded := false, tag := "", pkgPath := "wringer/merge", byteOffset := 24 }, { name := "had", type := 80, offset := 2, embedded := false, tag := "", pkgPath := "wringer/merge", byteOffset := 32 }]) := ⟨Try.underlying81⟩
instance : Inf Try.prog 81 (.agg #[(.slice none 0 0), (.int .i64 0), (.slice none 0 0)]) 3 56 := ⟨by kernel_rfl⟩
instance : Fld Try.prog 81 0 0 := ⟨fun _ _ => by kernel_rfl⟩
instance : Fld Try.prog 81 1 1 := ⟨fun _ _ => by kernel_rfl⟩
instance : Fld Try.prog 81 2 2 := ⟨fun _ _ => by kernel_rfl⟩
instance : Flds Try.prog 81 [(0, 1), (1, 1), (2, 1)] := ⟨⟨_, Try.underlying81, fun _ => by kernel_rfl⟩⟩
instance : Und Try.prog 82 (.struct #[{ name := "sums", type := 24, offset := 0, embedded := false, tag := "", pkgPath := "wringer/merge", byteOffset := 0 }, { name := "limit", type := 3, offset := 1, embedded := false, tag := "", pkgPath := "wringer/merge", byteOffset := 24 }, { name := "had", type := 80, offset := 2, embedded := false, tag := "", pkgPath := "wringer/merge", byteOffset := 32 }]) := ⟨Try.underlying82⟩
instance : Inf Try.prog 82 (.agg #[(.slice none 0 0), (.int .i64 0), (.slice none 0 0)]) 3 56 := ⟨by kernel_rfl⟩
instance : Fld Try.prog 82 0 0 := ⟨fun _ _ => by kernel_rfl⟩
instance : Fld Try.prog 82 1 1 := ⟨fun _ _ => by kernel_rfl⟩
instance : Fld Try.prog 82 2 2 := ⟨fun _ _ => by kernel_rfl⟩
instance : Flds Try.prog 82 [(0, 1), (1, 1), (2, 1)] := ⟨⟨_, Try.underlying82, fun _ => by kernel_rfl⟩⟩
instance : Inf Try.prog 83 .nilFunc 1 8 := ⟨by kernel_rfl⟩
instance : Inf Try.prog 84 .nilFunc 1 8 := ⟨by kernel_rfl⟩
instance : Inf Try.prog 85 .nilFunc 1 8 := ⟨by kernel_rfl⟩
instance : Und Try.prog 86 (.struct #[{ name := "deep", type := 3, offset := 0, embedded := false, tag := "", pkgPath := "wringer/merge", byteOffset := 0 }, { name := "done", type := 3, offset := 1, embedded := false, tag := "", pkgPath := "wringer/merge", byteOffset := 8 }, { name := "open", type := 3, offset := 2, embedded := false, tag := "", pkgPath := "wringer/merge", byteOffset := 16 }]) := ⟨Try.underlying86⟩
instance : Inf Try.prog 86 (.agg #[(.int .i64 0), (.int .i64 0), (.int .i64 0)]) 3 24 := ⟨by kernel_rfl⟩
instance : Fld Try.prog 86 0 0 := ⟨fun _ _ => by kernel_rfl⟩
instance : Fld Try.prog 86 1 1 := ⟨fun _ _ => by kernel_rfl⟩
instance : Fld Try.prog 86 2 2 := ⟨fun _ _ => by kernel_rfl⟩
instance : Flds Try.prog 86 [(0, 1), (1, 1), (2, 1)] := ⟨⟨_, Try.underlying86, fun _ => by kernel_rfl⟩⟩
instance : Und Try.prog 87 (.struct #[{ name := "deep", type := 3, offset := 0, embedded := false, tag := "", pkgPath := "wringer/merge", byteOffset := 0 }, { name := "done", type := 3, offset := 1, embedded := false, tag := "", pkgPath := "wringer/merge", byteOffset := 8 }, { name := "open", type := 3, offset := 2, embedded := false, tag := "", pkgPath := "wringer/merge", byteOffset := 16 }]) := ⟨Try.underlying87⟩
instance : Inf Try.prog 87 (.agg #[(.int .i64 0), (.int .i64 0), (.int .i64 0)]) 3 24 := ⟨by kernel_rfl⟩
instance : Fld Try.prog 87 0 0 := ⟨fun _ _ => by kernel_rfl⟩
instance : Fld Try.prog 87 1 1 := ⟨fun _ _ => by kernel_rfl⟩
instance : Fld Try.prog 87 2 2 := ⟨fun _ _ => by kernel_rfl⟩
instance : Flds Try.prog 87 [(0, 1), (1, 1), (2, 1)] := ⟨⟨_, Try.underlying87, fun _ => by kernel_rfl⟩⟩
instance : Und Try.prog 88 (.struct #[{ name := "cost", type := 3, offset := 0, embedded := false, tag := "", pkgPath := "wringer/merge", byteOffset := 0 }, { name := "leaves", type := 3, offset := 1, embedded := false, tag := "", pkgPath := "wringer/merge", byteOffset := 8 }, { name := "is", type := 4, offset := 2, embedded := false, tag := "", pkgPath := "wringer/merge", byteOffset := 16 }, { name := "known", type := 4, offset := 3, embedded := false, tag := "", pkgPath := "wringer/merge", byteOffset := 17 }]) := ⟨Try.underlying88⟩
instance : Inf Try.prog 88 (.agg #[(.int .i64 0), (.int .i64 0), (.bool false), (.bool false)]) 4 24 := ⟨by kernel_rfl⟩
instance : Fld Try.prog 88 0 0 := ⟨fun _ _ => by kernel_rfl⟩
instance : Fld Try.prog 88 1 1 := ⟨fun _ _ => by kernel_rfl⟩
instance : Fld Try.prog 88 2 2 := ⟨fun _ _ => by kernel_rfl⟩
instance : Fld Try.prog 88 3 3 := ⟨fun _ _ => by kernel_rfl⟩
instance : Flds Try.prog 88 [(0, 1), (1, 1), (2, 1), (3, 1)] := ⟨⟨_, Try.underlying88, fun _ => by kernel_rfl⟩⟩
instance : Und Try.prog 89 (.struct #[{ name := "cost", type := 3, offset := 0, embedded := false, tag := "", pkgPath := "wringer/merge", byteOffset := 0 }, { name := "leaves", type := 3, offset := 1, embedded := false, tag := "", pkgPath := "wringer/merge", byteOffset := 8 }, { name := "is", type := 4, offset := 2, embedded := false, tag := "", pkgPath := "wringer/merge", byteOffset := 16 }, { name := "known", type := 4, offset := 3, embedded := false, tag := "", pkgPath := "wringer/merge", byteOffset := 17 }]) := ⟨Try.underlying89⟩
instance : Inf Try.prog 89 (.agg #[(.int .i64 0), (.int .i64 0), (.bool false), (.bool false)]) 4 24 := ⟨by kernel_rfl⟩
instance : Fld Try.prog 89 0 0 := ⟨fun _ _ => by kernel_rfl⟩
instance : Fld Try.prog 89 1 1 := ⟨fun _ _ => by kernel_rfl⟩
instance : Fld Try.prog 89 2 2 := ⟨fun _ _ => by kernel_rfl⟩
instance : Fld Try.prog 89 3 3 := ⟨fun _ _ => by kernel_rfl⟩
instance : Flds Try.prog 89 [(0, 1), (1, 1), (2, 1), (3, 1)] := ⟨⟨_, Try.underlying89, fun _ => by kernel_rfl⟩⟩
instance : Inf Try.prog 90 .nilFunc 1 8 := ⟨by kernel_rfl⟩
instance : Inf Try.prog 91 .nilIface 1 16 := ⟨by kernel_rfl⟩
instance : Inf Try.prog 92 .nilIface 1 16 := ⟨by kernel_rfl⟩
instance : Inf Try.prog 93 .nilFunc 1 8 := ⟨by kernel_rfl⟩
instance : Inf Try.prog 94 .nilFunc 1 8 := ⟨by kernel_rfl⟩
instance : Inf Try.prog 95 .nilFunc 1 8 := ⟨by kernel_rfl⟩
instance : Inf Try.prog 96 .nilFunc 1 8 := ⟨by kernel_rfl⟩
instance : Inf Try.prog 97 .nilFunc 1 8 := ⟨by kernel_rfl⟩
instance : Und Try.prog 98 (.pointer 100) := ⟨Try.underlying98⟩
instance : Inf Try.prog 98 (.pointer none) 1 8 := ⟨by kernel_rfl⟩
theorem meth_98_42 (a : Addr) (v : World) : (method (Try.prog.types.size + Made.depth) 98 (.pointer (some a)) "Len").run Try.prog v = (match v.cell? a with | some u => .ok (42, u) v | none => (match v.farLoad Try.prog a false with | .ok (u, _) => .ok (42, u) v | .error h => .halt h v)) := by kernel_rfl
instance : Meth Try.prog 98 "Len" 42 (some 100) := ⟨fun a v u h => by rw [meth_98_42, h]⟩
theorem meth_98_72 (a : Addr) (v : World) : (method (Try.prog.types.size + Made.depth) 98 (.pointer (some a)) "Less").run Try.prog v = (match v.cell? a with | some u => .ok (72, u) v | none => (match v.farLoad Try.prog a false with | .ok (u, _) => .ok (72, u) v | .error h => .halt h v)) := by kernel_rfl
instance : Meth Try.prog 98 "Less" 72 (some 100) := ⟨fun a v u h => by rw [meth_98_72, h]⟩
instance : Meth Try.prog 98 "Pop" 73 none := ⟨fun a v u h => by subst h; kernel_rfl⟩
instance : Meth Try.prog 98 "Push" 74 none := ⟨fun a v u h => by subst h; kernel_rfl⟩
theorem meth_98_75 (a : Addr) (v : World) : (method (Try.prog.types.size + Made.depth) 98 (.pointer (some a)) "Swap").run Try.prog v = (match v.cell? a with | some u => .ok (75, u) v | none => (match v.farLoad Try.prog a false with | .ok (u, _) => .ok (75, u) v | .error h => .halt h v)) := by kernel_rfl
instance : Meth Try.prog 98 "Swap" 75 (some 100) := ⟨fun a v u h => by rw [meth_98_75, h]⟩
instance : Und Try.prog 99 (.slice 102) := ⟨Try.underlying99⟩
instance : Inf Try.prog 99 (.slice none 0 0) 1 24 := ⟨by kernel_rfl⟩
instance : Und Try.prog 100 (.slice 102) := ⟨Try.underlying100⟩
instance : Inf Try.prog 100 (.slice none 0 0) 1 24 := ⟨by kernel_rfl⟩
instance : Und Try.prog 101 (.struct #[{ name := "at", type := 3, offset := 0, embedded := false, tag := "", pkgPath := "wringer/hist", byteOffset := 0 }, { name := "n", type := 3, offset := 1, embedded := false, tag := "", pkgPath := "wringer/hist", byteOffset := 8 }]) := ⟨Try.underlying101⟩
instance : Inf Try.prog 101 (.agg #[(.int .i64 0), (.int .i64 0)]) 2 16 := ⟨by kernel_rfl⟩
instance : Fld Try.prog 101 0 0 := ⟨fun _ _ => by kernel_rfl⟩
instance : Fld Try.prog 101 1 1 := ⟨fun _ _ => by kernel_rfl⟩
instance : Flds Try.prog 101 [(0, 1), (1, 1)] := ⟨⟨_, Try.underlying101, fun _ => by kernel_rfl⟩⟩
instance : Eq2 Try.prog 101 := ⟨⟨{ name := "at", type := 3, offset := 0, embedded := false, tag := "", pkgPath := "wringer/hist", byteOffset := 0 }, { name := "n", type := 3, offset := 1, embedded := false, tag := "", pkgPath := "wringer/hist", byteOffset := 8 }, .i64, .i64, by kernel_rfl, by kernel_rfl, by kernel_rfl, by kernel_rfl, by decide, by decide, rfl, rfl, by kernel_rfl, by kernel_rfl⟩⟩
instance : Und Try.prog 102 (.struct #[{ name := "at", type := 3, offset := 0, embedded := false, tag := "", pkgPath := "wringer/hist", byteOffset := 0 }, { name := "n", type := 3, offset := 1, embedded := false, tag := "", pkgPath := "wringer/hist", byteOffset := 8 }]) := ⟨Try.underlying102⟩
instance : Inf Try.prog 102 (.agg #[(.int .i64 0), (.int .i64 0)]) 2 16 := ⟨by kernel_rfl⟩
instance : Fld Try.prog 102 0 0 := ⟨fun _ _ => by kernel_rfl⟩
instance : Fld Try.prog 102 1 1 := ⟨fun _ _ => by kernel_rfl⟩
instance : Flds Try.prog 102 [(0, 1), (1, 1)] := ⟨⟨_, Try.underlying102, fun _ => by kernel_rfl⟩⟩
instance : Eq2 Try.prog 102 := ⟨⟨{ name := "at", type := 3, offset := 0, embedded := false, tag := "", pkgPath := "wringer/hist", byteOffset := 0 }, { name := "n", type := 3, offset := 1, embedded := false, tag := "", pkgPath := "wringer/hist", byteOffset := 8 }, .i64, .i64, by kernel_rfl, by kernel_rfl, by kernel_rfl, by kernel_rfl, by decide, by decide, rfl, rfl, by kernel_rfl, by kernel_rfl⟩⟩
instance : Inf Try.prog 104 .nilFunc 1 8 := ⟨by kernel_rfl⟩
instance : Inf Try.prog 105 .nilFunc 1 8 := ⟨by kernel_rfl⟩
instance : Inf Try.prog 106 .nilFunc 1 8 := ⟨by kernel_rfl⟩
instance : Inf Try.prog 107 .nilFunc 1 8 := ⟨by kernel_rfl⟩
instance : Inf Try.prog 108 .nilFunc 1 8 := ⟨by kernel_rfl⟩
instance : Inf Try.prog 109 .nilFunc 1 8 := ⟨by kernel_rfl⟩
instance : Inf Try.prog 110 .nilFunc 1 8 := ⟨by kernel_rfl⟩
instance : Inf Try.prog 111 .nilFunc 1 8 := ⟨by kernel_rfl⟩
instance : Und Try.prog 112 (.int .u64) := ⟨Try.underlying112⟩
instance : Inf Try.prog 112 (.int .u64 0) 1 8 := ⟨by kernel_rfl⟩
instance : Inf Try.prog 113 .nilFunc 1 8 := ⟨by kernel_rfl⟩
instance : Inf Try.prog 114 .nilFunc 1 8 := ⟨by kernel_rfl⟩
instance : Und Try.prog 120 (.int .u32) := ⟨Try.underlying120⟩
instance : Inf Try.prog 120 (.int .u32 0) 1 4 := ⟨by kernel_rfl⟩
instance : Und Try.prog 124 (.pointer 5) := ⟨Try.underlying124⟩
instance : Inf Try.prog 124 (.pointer none) 1 8 := ⟨by kernel_rfl⟩
instance : Fun Try.prog 3 := ⟨fun _ _ => by kernel_rfl⟩
instance : Fun Try.prog 4 := ⟨fun _ _ => by kernel_rfl⟩
instance : Fun Try.prog 5 := ⟨fun _ _ => by kernel_rfl⟩
instance : Fun Try.prog 6 := ⟨fun _ _ => by kernel_rfl⟩
instance : Fun Try.prog 7 := ⟨fun _ _ => by kernel_rfl⟩
instance : Fun Try.prog 8 := ⟨fun _ _ => by kernel_rfl⟩
instance : Fun Try.prog 9 := ⟨fun _ _ => by kernel_rfl⟩
instance : Fun Try.prog 10 := ⟨fun _ _ => by kernel_rfl⟩
instance : Fun Try.prog 11 := ⟨fun _ _ => by kernel_rfl⟩
instance : Fun Try.prog 12 := ⟨fun _ _ => by kernel_rfl⟩
instance : Fun Try.prog 13 := ⟨fun _ _ => by kernel_rfl⟩
instance : Fun Try.prog 14 := ⟨fun _ _ => by kernel_rfl⟩
instance : Fun Try.prog 15 := ⟨fun _ _ => by kernel_rfl⟩
instance : Fun Try.prog 16 := ⟨fun _ _ => by kernel_rfl⟩
instance : Fun Try.prog 17 := ⟨fun _ _ => by kernel_rfl⟩
instance : Fun Try.prog 18 := ⟨fun _ _ => by kernel_rfl⟩
instance : Fun Try.prog 19 := ⟨fun _ _ => by kernel_rfl⟩
instance : Fun Try.prog 20 := ⟨fun _ _ => by kernel_rfl⟩
instance : Fun Try.prog 21 := ⟨fun _ _ => by kernel_rfl⟩
instance : Fun Try.prog 22 := ⟨fun _ _ => by kernel_rfl⟩
instance : Fun Try.prog 23 := ⟨fun _ _ => by kernel_rfl⟩
instance : Fun Try.prog 24 := ⟨fun _ _ => by kernel_rfl⟩
instance : Fun Try.prog 25 := ⟨fun _ _ => by kernel_rfl⟩
instance : Fun Try.prog 26 := ⟨fun _ _ => by kernel_rfl⟩
instance : Fun Try.prog 27 := ⟨fun _ _ => by kernel_rfl⟩
instance : Fun Try.prog 28 := ⟨fun _ _ => by kernel_rfl⟩
instance : Fun Try.prog 29 := ⟨fun _ _ => by kernel_rfl⟩
instance : Fun Try.prog 30 := ⟨fun _ _ => by kernel_rfl⟩
instance : Fun Try.prog 31 := ⟨fun _ _ => by kernel_rfl⟩
instance : Fun Try.prog 32 := ⟨fun _ _ => by kernel_rfl⟩
instance : Fun Try.prog 33 := ⟨fun _ _ => by kernel_rfl⟩
instance : Fun Try.prog 34 := ⟨fun _ _ => by kernel_rfl⟩
instance : Fun Try.prog 35 := ⟨fun _ _ => by kernel_rfl⟩
instance : Fun Try.prog 36 := ⟨fun _ _ => by kernel_rfl⟩
instance : Fun Try.prog 37 := ⟨fun _ _ => by kernel_rfl⟩
instance : Fun Try.prog 38 := ⟨fun _ _ => by kernel_rfl⟩
instance : Fun Try.prog 39 := ⟨fun _ _ => by kernel_rfl⟩
instance : Fun Try.prog 40 := ⟨fun _ _ => by kernel_rfl⟩
instance : Fun Try.prog 41 := ⟨fun _ _ => by kernel_rfl⟩
instance : Fun Try.prog 42 := ⟨fun _ _ => by kernel_rfl⟩
instance : Fun Try.prog 43 := ⟨fun _ _ => by kernel_rfl⟩
instance : Fun Try.prog 44 := ⟨fun _ _ => by kernel_rfl⟩
instance : Fun Try.prog 45 := ⟨fun _ _ => by kernel_rfl⟩
instance : Fun Try.prog 46 := ⟨fun _ _ => by kernel_rfl⟩
instance : Fun Try.prog 47 := ⟨fun _ _ => by kernel_rfl⟩
instance : Fun Try.prog 48 := ⟨fun _ _ => by kernel_rfl⟩
instance : Fun Try.prog 49 := ⟨fun _ _ => by kernel_rfl⟩
instance : Fun Try.prog 50 := ⟨fun _ _ => by kernel_rfl⟩
instance : Fun Try.prog 51 := ⟨fun _ _ => by kernel_rfl⟩
instance : Fun Try.prog 68 := ⟨fun _ _ => by kernel_rfl⟩
instance : Fun Try.prog 69 := ⟨fun _ _ => by kernel_rfl⟩
instance : Fun Try.prog 70 := ⟨fun _ _ => by kernel_rfl⟩
instance : Fun Try.prog 71 := ⟨fun _ _ => by kernel_rfl⟩
instance : Fun Try.prog 72 := ⟨fun _ _ => by kernel_rfl⟩
instance : Fun Try.prog 73 := ⟨fun _ _ => by kernel_rfl⟩
instance : Fun Try.prog 74 := ⟨fun _ _ => by kernel_rfl⟩
instance : Fun Try.prog 75 := ⟨fun _ _ => by kernel_rfl⟩
theorem mixed : Try.prog.follows .mixedOrders = true := by kernel_rfl
end Go.Proofs.Ytdakocdfpdglfaa.Sx
