/- Numbers that do not run over. -/
import Derived.Test.YtbjcdgcdnbnknaaMore
import Derived.Test.YtbjcdgcdnbnknaaHistC
namespace Go.Proofs.Ytbjcdgcdnbnknaa.Parts
open Go.RowKit
theorem succ_eq {i : Nat} (h : i < 9000000000000) : wrap64 ((i : Int) + 1) = ((i + 1 : Nat) : Int) := by
  rw [Go.IntWalk.wrap64_in _ (by omega)]; omega
end Go.Proofs.Ytbjcdgcdnbnknaa.Parts
namespace Go.Proofs.Ytbjcdgcdnbnknaa.Zig
open Go.RowKit Go.Proofs.Ytbjcdgcdnbnknaa.Sx
theorem wu8 {m : Nat} (h : m < 256) : IntKind.u8.wrap (m : Int) = (m : Int) := by rw [IntKind.wrap_u8]; omega
theorem wi64 {m : Nat} (h : m < 9223372036854775808) : IntKind.i64.wrap (m : Int) = (m : Int) := by rw [i64_wrap, Go.IntWalk.wrap64_in _ (by omega)]
end Go.Proofs.Ytbjcdgcdnbnknaa.Zig
namespace Go.Proofs.Ytbjcdgcdnbnknaa.Merge
open Go.RowKit Go.Proofs.Ytbjcdgcdnbnknaa.Sx
theorem w64n {x : Int} (m : Nat) (h : x = (m : Int)) (hm : m < 9000000000000) : wrap64 x = (m : Int) := by rw [h, Go.IntWalk.wrap64_in _ (by omega)]
end Go.Proofs.Ytbjcdgcdnbnknaa.Merge
