/- Numbers by their size: the plain functions. -/
import Derived.IntWalk
import Derived.RowKit
namespace Go.Proofs.Ytdakocdfpdglfaa.Zig
open Go.RowKit
def lenN (u : Nat) : Nat := if u = 0 then 0 else lenN (u / 2) + 1
termination_by u
decreasing_by omega
theorem lenN_zero : lenN 0 = 0 := by unfold lenN; rfl
theorem lenN_pos {u : Nat} (h : 0 < u) : lenN u = lenN (u / 2) + 1 := by conv => lhs; unfold lenN; rw [if_neg (by omega)]
theorem lenN_shift (k : Nat) : ∀ u, 2 ^ k ≤ u → lenN u = lenN (u / 2 ^ k) + k := by
  induction k with
  | zero => intro u _; simp
  | succ k ih =>
    intro u h
    have h2 : 2 ^ (k + 1) = 2 ^ k * 2 := Nat.pow_succ 2 k
    have hp : 0 < 2 ^ k := Nat.pow_pos (by omega)
    rw [lenN_pos (by omega), ih (u / 2) (by omega), Nat.div_div_eq_div_mul, Nat.mul_comm 2, ← h2]; omega
theorem lenN_le (k : Nat) : ∀ u, u < 2 ^ k → lenN u ≤ k := by
  induction k with
  | zero => intro u h; have : u = 0 := by simpa using h
            subst this; rw [lenN_zero]; omega
  | succ k ih =>
    intro u h
    have h2 : 2 ^ (k + 1) = 2 ^ k * 2 := Nat.pow_succ 2 k
    rcases Nat.eq_zero_or_pos u with h0 | h0
    · subst h0; rw [lenN_zero]; omega
    · rw [lenN_pos h0]; have := ih (u / 2) (by omega); omega
theorem lenN_ge (u : Nat) (h : 0 < u) : 2 ^ (lenN u - 1) ≤ u := by
  induction u using Nat.strongRecOn with
  | _ u ih =>
    rw [lenN_pos h, Nat.add_sub_cancel]
    rcases Nat.eq_zero_or_pos (u / 2) with h0 | h0
    · rw [h0, lenN_zero]; omega
    · have := ih (u / 2) (by omega) h0
      have e : lenN (u / 2) = (lenN (u / 2) - 1) + 1 := by have := lenN_pos h0; omega
      rw [e, Nat.pow_succ]; omega
theorem lenN_lt (u : Nat) : u < 2 ^ lenN u := by
  induction u using Nat.strongRecOn with
  | _ u ih =>
    rcases Nat.eq_zero_or_pos u with h0 | h0
    · subst h0; rw [lenN_zero]; decide
    · rw [lenN_pos h0, Nat.pow_succ]; have := ih (u / 2) (by omega); omega
/-- A number's size. -/
def mapN (v : Int) : Nat := if 0 ≤ v then 2 * v.toNat else 2 * (-v - 1).toNat + 1
def splitP (v : Int) : Int × Int := if mapN v = 0 then (0, 0) else ((lenN (mapN v) : Int), ((mapN v - 2 ^ (lenN (mapN v) - 1) : Nat) : Int))
theorem mapN_lt {v : Int} (h0 : -9223372036854775808 ≤ v) (h1 : v ≤ 9223372036854775807) : mapN v < 18446744073709551616 := by unfold mapN; split <;> omega
/-- The number of a size. -/
def backN (u : Nat) : Int := if u % 2 = 0 then ((u / 2 : Nat) : Int) else -((u / 2 : Nat) : Int) - 1
def mayP (c r : Int) : Bool := decide (c = 0 ∧ r = 0) || (decide (1 ≤ c ∧ c < 65) && decide (r < ((2 ^ (c.toNat - 1) : Nat) : Int)))
def joinP (c r : Int) : Int := if c = 0 then 0 else backN (2 ^ (c.toNat - 1) + r.toNat)
end Go.Proofs.Ytdakocdfpdglfaa.Zig
