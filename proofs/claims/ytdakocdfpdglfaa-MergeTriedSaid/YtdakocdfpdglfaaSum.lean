/- The sums of what is left; lengths of an order. -/
import Derived.Test.YtdakocdfpdglfaaDpB
import Derived.Test.YtdakocdfpdglfaaMay
namespace Go.Proofs.Ytdakocdfpdglfaa.Merge
open Go.RowKit
/-- The sums of what is left. -/
def sumsF : List Int → List Int
  | [] => [0]
  | f :: r => (f + (sumsF r).getD 0 0) :: sumsF r
def place (o ls : List Nat) (out : List Int) : List Int := (o.zip ls).foldl (fun out p => out.set p.1 (p.2 : Int)) out
def freqO (fs : List Int) (o : List Nat) : List Int := o.map fun (x : Nat) => fs.getD x 0
def lensO (fs : List Int) (lim : Nat) (o : List Nat) : List Int :=
  match o with
  | [] => List.replicate 65 0
  | [x] => (List.replicate 65 0).set x 1
  | o => place o (lensF (sumsF (freqO fs o)) o.length lim lim 0 2) (List.replicate 65 0)
def lensOf (fs : List Int) (lim : Nat) : List Int := lensO fs lim (ordF fs fs.length [])
theorem sumsF_len (fs : List Int) : (sumsF fs).length = fs.length + 1 := by
  induction fs with
  | nil => rfl
  | cons f r ih => simp only [sumsF, List.length_cons, ih]
theorem sumsF_get (fs : List Int) : ∀ i, i < fs.length → (sumsF fs).getD i 0 = fs.getD i 0 + (sumsF fs).getD (i + 1) 0 := by
  induction fs with
  | nil => intro i h; simp at h
  | cons f r ih =>
    intro i h
    cases i with
    | zero => simp [sumsF]
    | succ i => have := ih i (by simpa using h); simpa [sumsF] using this
theorem sumsF_end (fs : List Int) : (sumsF fs).getD fs.length 0 = 0 := by
  induction fs with
  | nil => rfl
  | cons f r ih => simpa [sumsF] using ih
theorem sumsF_pos {fs : List Int} {b : Int} (hb : 0 ≤ b) (h : ∀ z ∈ fs, 0 ≤ z ∧ z ≤ b) : ∀ i, 0 ≤ (sumsF fs).getD i 0 ∧ (sumsF fs).getD i 0 ≤ fs.length * b := by
  induction fs with
  | nil => intro i; cases i with
    | zero => simp [sumsF]
    | succ i => simp [sumsF]
  | cons f r ih =>
    have ih' := ih fun z hz => h z (by simp [hz])
    have hf := h f (by simp)
    have e : ((f :: r).length : Int) * b = r.length * b + b := by rw [List.length_cons, Int.natCast_succ, Int.add_mul, Int.one_mul]
    intro i
    cases i with
    | zero => have := ih' 0; simp only [sumsF, List.getD_cons_zero] at *; omega
    | succ i => have := ih' i; simp only [sumsF, List.getD_cons_succ] at *; omega
theorem okS {fs : List Int} (hl : fs.length ≤ 65) (h : ∀ z ∈ fs, 0 ≤ z ∧ z ≤ 16777216) : OkS (sumsF fs) fs.length 4294967296 := by
  have hp := sumsF_pos (by omega) h
  exact ⟨sumsF_end fs, fun i => (hp i).1, fun i => by have := (hp i).2; omega, Int.le_refl _⟩
theorem mayM_no {zs : List Int} {lim : Int} (h : ¬ ((zs.length : Int) = 65 ∧ zs.any badN = false ∧ 7 ≤ lim ∧ lim ≤ 15)) : mayM zs lim = false := by
  cases e : mayM zs lim with
  | false => rfl
  | true =>
    unfold mayM at e
    simp only [Bool.and_eq_true, decide_eq_true_eq, Bool.not_eq_true'] at e
    exact absurd ⟨e.1.1.1, e.1.1.2, e.1.2, e.2⟩ h
theorem mayM_yes {zs : List Int} {lim : Int} (h : (zs.length : Int) = 65 ∧ zs.any badN = false ∧ 7 ≤ lim ∧ lim ≤ 15) : mayM zs lim = true := by
  unfold mayM
  simp only [Bool.and_eq_true, decide_eq_true_eq, Bool.not_eq_true']
  exact ⟨⟨⟨h.1, h.2.1⟩, h.2.2.1⟩, h.2.2.2⟩
end Go.Proofs.Ytdakocdfpdglfaa.Merge
