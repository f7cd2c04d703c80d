/- The law NormRuns, in plain Lean. -/
import Derived.Test.YtbjcdgcdnbnknaaNGetB
namespace Go.Proofs.Ytbjcdgcdnbnknaa.Norm
open Go.RowKit Go.Proofs.Ytbjcdgcdnbnknaa.Sx Go.Proofs.Ytbjcdgcdnbnknaa.Parts Go.Proofs.Ytbjcdgcdnbnknaa.Merge Go.Proofs.Ytbjcdgcdnbnknaa.Heap
def putVF : Nat → Nat → List UInt8
  | 0, _ => []
  | f + 1, u => if u < 128 then [UInt8.ofNat u] else UInt8.ofNat (u % 128 + 128) :: putVF f (u / 128)
theorem putV_eq : ∀ (f u : Nat), u < 128 ^ (f + 1) → putV u = putVF (f + 1) u
  | 0, u, h => by
    unfold putV putVF
    have : u < 128 := by simpa using h
    rw [dif_pos this, if_pos this]
  | f + 1, u, h => by
    unfold putV putVF
    by_cases hu : u < 128
    · rw [dif_pos hu, if_pos hu]
    · rw [dif_neg hu, if_neg hu, putV_eq f (u / 128) (by rw [Nat.div_lt_iff_lt_mul (by omega), ← Nat.pow_succ]; exact h)]
def putLG : Nat → List Int → List UInt8
  | 0, _ => []
  | _ + 1, [] => []
  | k + 1, z :: r => putVF 3 z.toNat ++ (if z ≠ 0 then putLG k r else putVF 3 (lead0 r) ++ putLG k (r.drop (lead0 r)))
theorem putLG_eq : ∀ (k : Nat) (zs : List Int), (∀ z ∈ zs, z < 2000000) → zs.length < 2000000 → putLF k zs = putLG k zs
  | 0, _, _, _ => rfl
  | _ + 1, [], _, _ => rfl
  | k + 1, z :: r, h, hl => by
    simp only [List.length_cons] at hl
    have h1 := h z (by simp)
    have h2 := lead0_le r
    unfold putLF putLG
    rw [putV_eq 2 z.toNat (by omega), putV_eq 2 (lead0 r) (by omega), putLG_eq k r (fun y hy => h y (by simp [hy])) (by omega), putLG_eq k (r.drop (lead0 r)) (fun y hy => h y (by simp [List.mem_of_mem_drop hy])) (by rw [List.length_drop]; omega)]
def runL (k m : Nat) : List Int := (List.replicate 65 0).set k ((2 ^ m : Nat) : Int)
def wantL (k m : Nat) : List UInt8 := (if 0 < k then [0, UInt8.ofNat (k - 1)] else []) ++ [128, UInt8.ofNat (2 ^ (m - 7))] ++ (if k < 64 then [0, UInt8.ofNat (63 - k)] else [])
def oddL (m : Nat) : List UInt8 := [128, UInt8.ofNat (2 ^ (m - 7)), 0, 10, 0, 52]
def farL (m : Nat) : List UInt8 := [128, UInt8.ofNat (2 ^ (m - 7)), 0, 64]
theorem runs_get : ∀ k < 65, ∀ m0 < 6, getLF 66 (wantL k (7 + m0)) 0 [] = (runL k (7 + m0), (wantL k (7 + m0)).length, 0) ∧ mayN (runL k (7 + m0)) ((7 + m0 : Nat) : Int) = true ∧ putLG 65 (runL k (7 + m0)) = wantL k (7 + m0) := by decide +kernel
theorem runs_odd : ∀ m0 < 6, (getLF 66 (oddL (7 + m0)) 0 []).2.2 = 0 ∧ putLG 65 (getLF 66 (oddL (7 + m0)) 0 []).1 ≠ ((oddL (7 + m0)).take (getLF 66 (oddL (7 + m0)) 0 []).2.1).drop 0 ∧ (getLF 66 (oddL (7 + m0)) 0 []).1.length = 65 ∧ ((getLF 66 (oddL (7 + m0)) 0 []).1.all fun z => decide (z < 2000000)) = true := by decide +kernel
theorem runs_far : ∀ m0 < 6, getLF 66 (farL (7 + m0)) 0 [] = ([], 0, 3) := by decide +kernel
end Go.Proofs.Ytbjcdgcdnbnknaa.Norm
