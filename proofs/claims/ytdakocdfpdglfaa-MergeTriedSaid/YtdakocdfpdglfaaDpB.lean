/- The least cost: which choice is kept, and where there is one. -/
import Derived.Test.YtdakocdfpdglfaaDp
namespace Go.Proofs.Ytdakocdfpdglfaa.Merge
open Go.RowKit
theorem bst_sum (S : List Int) (L h dn opn : Nat) (_ : ¬ L - dn = 0) (h1 : 1 ≤ opn) (h2 : opn ≤ L - dn) : ∃ r, bst S L (h + 1) dn opn = enc r ∧ Sum (valM (bst S L h) S dn opn) 0 (opn + 1) r := by
  refine ⟨(List.range (opn + 1)).reverse.foldl (pk (valM (bst S L h) S dn opn)) none, ?_, Sum.all (opn + 1) none (Nat.le_refl _) (fun k h1 h2 => by omega)⟩
  rw [bst_eq, if_neg (by omega), if_neg (by omega), Nat.add_sub_cancel]
  exact fold_enc (bst S L h) S dn opn (List.range (opn + 1)).reverse none
theorem valM_is {S : List Int} {L : Nat} {B : Int} (hS : OkS S L B) {h dn opn k : Nat} (hh : h ≤ 20) (hdn : dn + k ≤ L) (hi : (bst S L h (dn + k) (2 * (opn - k))).2.2.1 = true) :
    valM (bst S L h) S dn opn k = some ((bst S L h (dn + k) (2 * (opn - k))).1 + S.getD dn 0) := by
  have hB0 : 0 ≤ B := by have := hS.pos 0; have := hS.le 0; omega
  have hhB : (h : Int) * B ≤ 20 * B := Int.mul_le_mul_of_nonneg_right (by omega) hB0
  have hsm := hS.small
  have hd := hS.le dn
  have hd0 := hS.pos dn
  have hk0 := hS.pos (dn + k)
  unfold valM
  rw [if_pos hi]
  rcases both hS h (dn + k) (2 * (opn - k)) hh hdn with ⟨_, e2, e3, e4⟩ | ⟨e1, _⟩
  · rw [Go.IntWalk.wrap64_in _ (by omega)]
  · rw [hi] at e1; cases e1
theorem valM_not {S : List Int} {rec : Nat → Nat → Bt} {dn opn k : Nat} (hi : (rec (dn + k) (2 * (opn - k))).2.2.1 = false) : valM rec S dn opn k = none := by
  unfold valM; rw [hi]; rfl
/-- What is kept at a node where something is. -/
theorem bst_kept {S : List Int} {L : Nat} {B : Int} (hS : OkS S L B) {h dn opn : Nat} (hh : h ≤ 20) (h0 : ¬ L - dn = 0) (hi : (bst S L (h + 1) dn opn).2.2.1 = true) :
    1 ≤ opn ∧ opn ≤ L - dn ∧ ∃ k, k ≤ opn ∧ (bst S L h (dn + k) (2 * (opn - k))).2.2.1 = true ∧ bst S L (h + 1) dn opn = ((bst S L h (dn + k) (2 * (opn - k))).1 + S.getD dn 0, (k : Int), true, true) ∧
      ∀ k', k' ≤ opn → (bst S L h (dn + k') (2 * (opn - k'))).2.2.1 = true → (bst S L h (dn + k) (2 * (opn - k))).1 ≤ (bst S L h (dn + k') (2 * (opn - k'))).1 ∧ (k < k' → (bst S L h (dn + k) (2 * (opn - k))).1 < (bst S L h (dn + k') (2 * (opn - k'))).1) := by
  by_cases h1 : opn = 0 ∨ L - dn < opn
  · rw [bst_eq, if_neg (by omega), if_pos (by omega)] at hi; cases hi
  · refine ⟨by omega, by omega, ?_⟩
    obtain ⟨r, e, hs⟩ := bst_sum S L h dn opn h0 (by omega) (by omega)
    rw [e] at hi ⊢
    cases r with
    | none => cases hi
    | some p =>
      obtain ⟨c, k⟩ := p
      obtain ⟨_, hk, hv, hmin⟩ := hs
      have hki : (bst S L h (dn + k) (2 * (opn - k))).2.2.1 = true := by
        cases hc : (bst S L h (dn + k) (2 * (opn - k))).2.2.1 with
        | true => rfl
        | false => rw [valM_not hc] at hv; cases hv
      have hvk := valM_is hS (opn := opn) hh (by omega : dn + k ≤ L) hki
      rw [hv] at hvk
      obtain rfl := Option.some.inj hvk
      refine ⟨k, by omega, hki, rfl, fun k' hk' hi' => ?_⟩
      have := hmin k' _ (by omega) (by omega) (valM_is hS (opn := opn) hh (by omega : dn + k' ≤ L) hi')
      omega
/-- Something is where a choice is. -/
theorem bst_some {S : List Int} {L : Nat} {B : Int} (hS : OkS S L B) {h dn opn k : Nat} (hh : h ≤ 20) (h0 : ¬ L - dn = 0) (h1 : 1 ≤ opn) (h2 : opn ≤ L - dn) (hk : k ≤ opn) (hi : (bst S L h (dn + k) (2 * (opn - k))).2.2.1 = true) : (bst S L (h + 1) dn opn).2.2.1 = true := by
  obtain ⟨r, e, hs⟩ := bst_sum S L h dn opn h0 h1 h2
  rw [e]
  cases r with
  | none =>
    have := hs k (by omega) (by omega)
    rw [valM_is hS hh (by omega) hi] at this; cases this
  | some p => rfl
theorem bst_end (S : List Int) (L h : Nat) : bst S L h L 0 = (0, 0, true, false) := by rw [bst_eq, if_pos ⟨by omega, rfl⟩]
/-- Where something is. -/
theorem feas {S : List Int} {L : Nat} {B : Int} (hS : OkS S L B) : ∀ (h dn opn : Nat), h ≤ 19 → dn ≤ L → 1 ≤ opn → opn ≤ L - dn → L - dn ≤ opn * 2 ^ h → (bst S L (h + 1) dn opn).2.2.1 = true
  | 0, dn, opn, _, hdn, h1, h2, h3 => by
    have : opn = L - dn := by rw [Nat.pow_zero, Nat.mul_one] at h3; omega
    refine bst_some hS (k := opn) (by omega) (by omega) h1 h2 (Nat.le_refl _) ?_
    rw [show dn + opn = L from by omega, Nat.sub_self, Nat.mul_zero, bst_end]
  | h + 1, dn, opn, hh, hdn, h1, h2, h3 => by
    by_cases e : L - dn = opn
    · refine bst_some hS (k := opn) (by omega) (by omega) h1 h2 (Nat.le_refl _) ?_
      rw [show dn + opn = L from by omega, Nat.sub_self, Nat.mul_zero, bst_end]
    · have hp : 1 ≤ 2 ^ h := Nat.one_le_two_pow
      have hp2 : 2 ^ (h + 1) = 2 * 2 ^ h := by rw [Nat.pow_succ]; omega
      by_cases hj : L - dn - opn ≤ opn
      · -- all but a few go on
        refine bst_some hS (k := opn - (L - dn - opn)) (by omega) (by omega) h1 h2 (by omega) ?_
        refine feas hS h _ _ (by omega) (by omega) (by omega) (by omega) ?_
        have : 2 * (opn - (opn - (L - dn - opn))) * 1 ≤ 2 * (opn - (opn - (L - dn - opn))) * 2 ^ h := Nat.mul_le_mul_left _ hp
        omega
      · refine bst_some hS (k := 0) (by omega) (by omega) h1 h2 (by omega) ?_
        refine feas hS h _ _ (by omega) (by omega) (by omega) (by omega) ?_
        rw [hp2, ← Nat.mul_assoc] at h3
        rw [Nat.sub_zero, Nat.mul_comm 2 opn]; omega
/-- The lengths of the classes from a place of the order on. -/
def lensF (S : List Int) (L lim : Nat) : Nat → Nat → Nat → List Nat
  | 0, _, _ => []
  | h + 1, dn, opn => if L - dn = 0 then [] else List.replicate (bst S L (h + 1) dn opn).2.1.toNat (lim + 1 - (h + 1)) ++ lensF S L lim h (dn + (bst S L (h + 1) dn opn).2.1.toNat) (2 * (opn - (bst S L (h + 1) dn opn).2.1.toNat))
theorem lensF_len {S : List Int} {L lim : Nat} {B : Int} (hS : OkS S L B) : ∀ (h dn opn : Nat), h ≤ 20 → dn ≤ L → (bst S L h dn opn).2.2.1 = true → (lensF S L lim h dn opn).length = L - dn
  | 0, dn, opn, _, hdn, hi => by
    rw [bst_eq] at hi
    split at hi
    · rename_i hc; simp [lensF]; omega
    · rw [if_pos (by omega)] at hi; cases hi
  | h + 1, dn, opn, hh, hdn, hi => by
    by_cases h0 : L - dn = 0
    · simp [lensF, h0]
    · obtain ⟨_, _, k, hk, hki, e, _⟩ := bst_kept hS (by omega) h0 hi
      have ek : (bst S L (h + 1) dn opn).2.1.toNat = k := by rw [e]; simp
      simp only [lensF, if_neg h0, ek]
      rw [List.length_append, List.length_replicate, lensF_len hS h _ _ (by omega) (by omega) hki]
      omega
end Go.Proofs.Ytdakocdfpdglfaa.Merge
