/- Lengths, in plain Lean: their bounds, their order, what they weigh, what they cost. -/
import Derived.Test.YtdakocdfpdglfaaSum
namespace Go.Proofs.Ytdakocdfpdglfaa.Merge
open Go.RowKit
theorem sumsF_sum : ∀ (fs : List Int) (i : Nat), (sumsF fs).getD i 0 = (fs.drop i).sum
  | [], 0 => rfl
  | [], i + 1 => by simp [sumsF]
  | f :: r, 0 => by have := sumsF_sum r 0; simp only [List.drop_zero] at this; simp only [sumsF, List.getD_cons_zero, this, List.drop_zero, List.sum_cons]
  | f :: r, i + 1 => by have := sumsF_sum r i; simpa [sumsF] using this
/-- What is chosen at a node. -/
theorem lensF_step {S : List Int} {L lim : Nat} {B : Int} (hS : OkS S L B) {h dn opn : Nat} (hh : h ≤ 19) (h0 : ¬ L - dn = 0) (hi : (bst S L (h + 1) dn opn).2.2.1 = true) :
    1 ≤ opn ∧ opn ≤ L - dn ∧ ∃ k, k ≤ opn ∧ (bst S L h (dn + k) (2 * (opn - k))).2.2.1 = true ∧ (bst S L (h + 1) dn opn).1 = (bst S L h (dn + k) (2 * (opn - k))).1 + S.getD dn 0 ∧
      lensF S L lim (h + 1) dn opn = List.replicate k (lim + 1 - (h + 1)) ++ lensF S L lim h (dn + k) (2 * (opn - k)) ∧ (bst S L (h + 1) dn opn).2.1 = (k : Int) ∧
      ∀ k', k' ≤ opn → (bst S L h (dn + k') (2 * (opn - k'))).2.2.1 = true → (bst S L h (dn + k) (2 * (opn - k))).1 ≤ (bst S L h (dn + k') (2 * (opn - k'))).1 := by
  obtain ⟨h1, h2, k, hk, hki, e, hm⟩ := bst_kept hS (by omega) h0 hi
  have ek : (bst S L (h + 1) dn opn).2.1.toNat = k := by rw [e]; simp
  refine ⟨h1, h2, k, hk, hki, by rw [e], ?_, by rw [e], fun k' hk' hi' => (hm k' hk' hi').1⟩
  simp only [lensF, if_neg h0, ek]
theorem feas_end {S : List Int} {L h dn opn : Nat} (h0 : L - dn = 0) (hi : (bst S L h dn opn).2.2.1 = true) : opn = 0 := by
  rw [bst_eq] at hi
  split at hi
  · rename_i hc; exact hc.2
  · rw [if_pos (by omega)] at hi; cases hi
theorem feas_zero {S : List Int} {L dn opn : Nat} (hi : (bst S L 0 dn opn).2.2.1 = true) : L - dn = 0 ∧ opn = 0 := by
  rw [bst_eq] at hi
  split at hi
  · rename_i hc; exact hc
  · rw [if_pos (by omega)] at hi; cases hi
theorem lensF_nil {S : List Int} {L lim h dn opn : Nat} (h0 : L - dn = 0) : lensF S L lim h dn opn = [] := by
  cases h with
  | zero => rfl
  | succ h => simp only [lensF, if_pos h0]
theorem lensF_bd {S : List Int} {L lim : Nat} {B : Int} (hS : OkS S L B) : ∀ (h dn opn : Nat), h ≤ 20 → h ≤ lim → (bst S L h dn opn).2.2.1 = true → ∀ x ∈ lensF S L lim h dn opn, lim - h < x ∧ x ≤ lim
  | 0, _, _, _, _, _ => fun x hx => by simp [lensF] at hx
  | h + 1, dn, opn, hh, hl, hi => fun x hx => by
    by_cases h0 : L - dn = 0
    · rw [lensF_nil h0] at hx; cases hx
    · obtain ⟨_, _, k, _, hki, _, e, _⟩ := lensF_step (lim := lim) hS (by omega) h0 hi
      rw [e, List.mem_append] at hx
      rcases hx with hx | hx
      · have := List.eq_of_mem_replicate hx; omega
      · have := lensF_bd hS h _ _ (by omega) (by omega) hki x hx; omega
theorem lensF_up {S : List Int} {L lim : Nat} {B : Int} (hS : OkS S L B) : ∀ (h dn opn : Nat), h ≤ 20 → h ≤ lim → (bst S L h dn opn).2.2.1 = true → (lensF S L lim h dn opn).Pairwise (· ≤ ·)
  | 0, _, _, _, _, _ => by simp [lensF]
  | h + 1, dn, opn, hh, hl, hi => by
    by_cases h0 : L - dn = 0
    · rw [lensF_nil h0]; exact List.Pairwise.nil
    · obtain ⟨_, _, k, _, hki, _, e, _⟩ := lensF_step (lim := lim) hS (by omega) h0 hi
      rw [e, List.pairwise_append]
      refine ⟨List.pairwise_replicate.2 (.inr (Nat.le_refl _)), lensF_up hS h _ _ (by omega) (by omega) hki, fun a ha b hb => ?_⟩
      have := List.eq_of_mem_replicate ha
      have := lensF_bd hS h _ _ (by omega) (by omega) hki b hb
      omega
/-- What lengths weigh. -/
def weigh (ls : List Nat) : Nat := (ls.map fun x => 2 ^ (15 - x)).sum
theorem weigh_append (a b : List Nat) : weigh (a ++ b) = weigh a + weigh b := by simp [weigh]
theorem weigh_rep (k x : Nat) : weigh (List.replicate k x) = k * 2 ^ (15 - x) := by simp [weigh]
theorem lensF_weigh {S : List Int} {L lim : Nat} {B : Int} (hS : OkS S L B) (hlim : lim ≤ 15) : ∀ (h dn opn : Nat), h ≤ lim → (bst S L h dn opn).2.2.1 = true → weigh (lensF S L lim h dn opn) = opn * 2 ^ (15 - (lim + 1 - h))
  | 0, dn, opn, _, hi => by rw [(feas_zero hi).2]; simp [lensF, weigh]
  | h + 1, dn, opn, hl, hi => by
    by_cases h0 : L - dn = 0
    · rw [lensF_nil h0, feas_end h0 hi]; simp [weigh]
    · obtain ⟨_, _, k, hk, hki, _, e, _⟩ := lensF_step (lim := lim) hS (by omega) h0 hi
      rw [e, weigh_append, weigh_rep, lensF_weigh hS hlim h _ _ (by omega) hki]
      cases h with
      | zero =>
        have := (feas_zero hki).2
        rw [this, Nat.zero_mul, Nat.add_zero]
        rw [show k = opn from by omega]
      | succ h =>
        rw [show 15 - (lim + 1 - (h + 1 + 1)) = 15 - (lim + 1 - (h + 1)) + 1 from by omega, Nat.pow_succ]
        generalize 2 ^ (15 - (lim + 1 - (h + 1))) = p
        obtain ⟨j, rfl⟩ : ∃ j, opn = k + j := ⟨opn - k, by omega⟩
        rw [Nat.add_sub_cancel_left, Nat.add_mul, ← Nat.mul_assoc, ← Nat.mul_assoc]
        rw [Nat.mul_right_comm j p 2, Nat.mul_comm 2 j]
/-- What lengths cost, from one on. -/
def dotd (c : Int) : List Int → List Nat → Int
  | f :: fs, x :: ls => f * ((x : Int) - c) + dotd c fs ls
  | _, _ => 0
theorem dotd_succ (c : Int) : ∀ (fs : List Int) (ls : List Nat), fs.length = ls.length → dotd c fs ls = fs.sum + dotd (c + 1) fs ls
  | [], [], _ => by simp [dotd]
  | f :: fs, x :: ls, h => by
    have := dotd_succ c fs ls (by simpa using h)
    simp only [dotd, List.sum_cons, this]
    rw [show ((x : Int) - c) = (x - (c + 1)) + 1 from by omega, Int.mul_add]; omega
theorem dotd_rep (c : Int) (d : Nat) (hd : (d : Int) = c + 1) : ∀ (k : Nat) (fs : List Int) (ls : List Nat), fs.length = k + ls.length → dotd c fs (List.replicate k d ++ ls) = fs.sum + dotd (c + 1) (fs.drop k) ls
  | 0, fs, ls, h => by simpa using dotd_succ c fs ls (by omega)
  | k + 1, [], ls, h => by simp at h; omega
  | k + 1, f :: fs, ls, h => by
    have := dotd_rep c d hd k fs ls (by simp at h; omega)
    simp only [List.replicate_succ, List.cons_append, dotd, this, List.sum_cons, List.drop_succ_cons]
    rw [show ((d : Int) - c) = 1 from by omega, Int.mul_one]; omega
theorem bst_cost {fs : List Int} {L lim : Nat} {B : Int} (hL : fs.length = L) (hS : OkS (sumsF fs) L B) : ∀ (h dn opn : Nat), h ≤ 20 → h ≤ lim → dn ≤ L → (bst (sumsF fs) L h dn opn).2.2.1 = true →
    (bst (sumsF fs) L h dn opn).1 = dotd ((lim : Int) - h) (fs.drop dn) (lensF (sumsF fs) L lim h dn opn)
  | 0, dn, opn, _, _, hdn, hi => by
    obtain ⟨h0, rfl⟩ := feas_zero hi
    obtain rfl : dn = L := by omega
    rw [bst_end]
    simp [lensF, dotd]
  | h + 1, dn, opn, hh, hl, hdn, hi => by
    by_cases h0 : L - dn = 0
    · obtain rfl : dn = L := by omega
      have := feas_end h0 hi
      subst this
      rw [bst_end, lensF_nil h0]; simp [dotd]
    · obtain ⟨h1, h2, k, hk, hki, ec, e, _⟩ := lensF_step (lim := lim) hS (by omega) h0 hi
      rw [ec, e, dotd_rep ((lim : Int) - ((h + 1 : Nat) : Int)) (lim + 1 - (h + 1)) (by omega) k _ _ (by rw [lensF_len hS h (dn + k) (2 * (opn - k)) (by omega) (by omega) hki, List.length_drop]; omega), List.drop_drop, bst_cost (lim := lim) hL hS h (dn + k) (2 * (opn - k)) (by omega) (by omega) (by omega) hki, sumsF_sum]
      rw [show (lim : Int) - ((h + 1 : Nat) : Int) + 1 = (lim : Int) - h from by omega]
      omega
/-- A greater limit costs no more. -/
theorem bst_mono {S : List Int} {L : Nat} {B : Int} (hS : OkS S L B) : ∀ (h dn opn : Nat), h ≤ 18 → dn ≤ L → (bst S L h dn opn).2.2.1 = true → (bst S L (h + 1) dn opn).2.2.1 = true ∧ (bst S L (h + 1) dn opn).1 ≤ (bst S L h dn opn).1
  | 0, dn, opn, _, hdn, hi => by
    obtain ⟨h0, rfl⟩ := feas_zero hi
    obtain rfl : dn = L := by omega
    rw [bst_end, bst_end]; exact ⟨rfl, Int.le_refl _⟩
  | h + 1, dn, opn, hh, hdn, hi => by
    by_cases h0 : L - dn = 0
    · obtain rfl : dn = L := by omega
      have := feas_end h0 hi
      subst this
      rw [bst_end, bst_end]; exact ⟨rfl, Int.le_refl _⟩
    · obtain ⟨h1, h2, k, hk, hki, ec, _⟩ := lensF_step (lim := 0) hS (by omega) h0 hi
      obtain ⟨i1, i2⟩ := bst_mono hS h _ _ (by omega) (by omega) hki
      have hi2 := bst_some hS (k := k) (by omega) h0 h1 h2 hk i1
      obtain ⟨_, _, k2, hk2, hki2, ec2, _, _, hm⟩ := lensF_step (lim := 0) hS (by omega) h0 hi2
      have := hm k hk i1
      exact ⟨hi2, by rw [ec2, ec]; omega⟩
/-- The least ones go ahead. -/
theorem move_le (c : Int) (d x : Nat) (hx : d ≤ x) (r : List Nat) : ∀ (k : Nat) (f : Int) (fs : List Int), fs.length = k + r.length → (∀ z ∈ fs, z ≤ f) → fs.Pairwise (fun a b => b ≤ a) →
    dotd c (f :: fs) (List.replicate k d ++ x :: r) ≤ dotd c (f :: fs) (x :: (List.replicate k d ++ r))
  | 0, f, fs, _, _, _ => Int.le_refl _
  | k + 1, f, [], h, _, _ => by simp at h; omega
  | k + 1, f, f2 :: fs, h, hf, hp => by
    rw [List.pairwise_cons] at hp
    have ih := move_le c d x hx r k f2 fs (by simp at h; omega) hp.1 hp.2
    simp only [List.replicate_succ, List.cons_append, dotd] at ih ⊢
    have h1 : 0 ≤ (f - f2) * ((x : Int) - d) := Int.mul_nonneg (by have := hf f2 (by simp); omega) (by omega)
    have e1 : (f - f2) * ((x : Int) - d) = (f * (x - c) + f2 * (d - c)) - (f * (d - c) + f2 * (x - c)) := by
      simp only [Int.sub_mul, Int.mul_sub]; omega
    omega
def front (d : Nat) (ls : List Nat) : List Nat := List.replicate (ls.count d) d ++ ls.filter (fun x => decide (x ≠ d))
theorem front_len (d : Nat) (ls : List Nat) : ls.count d + (ls.filter (fun x => decide (x ≠ d))).length = ls.length := by
  induction ls with
  | nil => rfl
  | cons x t ih =>
    by_cases e : x = d
    · subst e; simp at ih ⊢; omega
    · simp [e] at ih ⊢; omega
theorem front_le (c : Int) (d : Nat) : ∀ (fs : List Int) (ls : List Nat), fs.length = ls.length → (∀ x ∈ ls, d ≤ x) → fs.Pairwise (fun a b => b ≤ a) → dotd c fs (front d ls) ≤ dotd c fs ls
  | [], [], _, _, _ => by simp [dotd]
  | f :: fs, x :: t, h, hx, hp => by
    rw [List.pairwise_cons] at hp
    have ih := front_le c d fs t (by simpa using h) (fun z hz => hx z (by simp [hz])) hp.2
    have hl := front_len d t
    unfold front at ih ⊢
    by_cases e : x = d
    · subst e
      simp only [List.count_cons_self, List.replicate_succ, List.cons_append, dotd]
      rw [List.filter_cons_of_neg (by simp)]
      omega
    · rw [List.count_cons_of_ne (by simpa using e), List.filter_cons_of_pos (by simpa using e)]
      have hm := move_le c d x (hx x (by simp)) (t.filter (fun x => decide (x ≠ d))) (t.count d) f fs (by simp at h; omega) hp.1 hp.2
      simp only [dotd] at hm ⊢
      omega
theorem weigh_cons (x : Nat) (t : List Nat) : weigh (x :: t) = 2 ^ (15 - x) + weigh t := by simp [weigh]
theorem weigh_front (d : Nat) (ls : List Nat) : weigh ls = ls.count d * 2 ^ (15 - d) + weigh (ls.filter (fun x => decide (x ≠ d))) := by
  induction ls with
  | nil => simp [weigh]
  | cons x t ih =>
    by_cases e : x = d
    · subst e
      rw [List.count_cons_self, List.filter_cons_of_neg (by simp), weigh_cons, ih, Nat.succ_mul]; omega
    · rw [List.count_cons_of_ne (by simpa using e), List.filter_cons_of_pos (by simpa using e), weigh_cons, weigh_cons, ih]; omega
theorem weigh_le {d : Nat} : ∀ (ls : List Nat), (∀ x ∈ ls, d ≤ x) → weigh ls ≤ ls.length * 2 ^ (15 - d)
  | [], _ => by simp [weigh]
  | x :: t, h => by
    have := weigh_le t (fun z hz => h z (by simp [hz]))
    have hx : 2 ^ (15 - x) ≤ 2 ^ (15 - d) := Nat.pow_le_pow_right (by omega) (by have := h x (by simp); omega)
    rw [weigh_cons, List.length_cons, Nat.succ_mul]; omega
/-- No lengths cost less. -/
theorem bst_opt {fs : List Int} {L lim : Nat} {B : Int} (hL : fs.length = L) (hS : OkS (sumsF fs) L B) (hp : fs.Pairwise (fun a b => b ≤ a)) (hlim : lim ≤ 15) : ∀ (h dn opn : Nat) (ls : List Nat), h ≤ lim → dn ≤ L → ls.length = L - dn → (∀ x ∈ ls, lim - h < x ∧ x ≤ lim) →
    weigh ls = opn * 2 ^ (15 - (lim + 1 - h)) → (bst (sumsF fs) L h dn opn).2.2.1 = true ∧ (bst (sumsF fs) L h dn opn).1 ≤ dotd ((lim : Int) - h) (fs.drop dn) ls
  | 0, dn, opn, ls, _, hdn, hl, hb, hw => by
    have e : ls = [] := by
      cases ls with
      | nil => rfl
      | cons x t => have := hb x (by simp); omega
    subst e
    have h0 : opn = 0 := by
      have : 0 < 2 ^ (15 - (lim + 1 - 0)) := Nat.two_pow_pos _
      rw [show weigh [] = 0 from rfl] at hw
      rcases Nat.mul_eq_zero.1 hw.symm with h | h <;> omega
    subst h0
    obtain rfl : dn = L := by simp at hl; omega
    rw [bst_end]; simp [dotd]
  | h + 1, dn, opn, ls, hh, hdn, hl, hb, hw => by
    have hd : lim + 1 - (h + 1) = lim - h := by omega
    rw [hd] at hw
    by_cases h0 : L - dn = 0
    · obtain rfl : dn = L := by omega
      have e : ls = [] := List.eq_nil_of_length_eq_zero (by omega)
      subst e
      have h0 : opn = 0 := by
        have : 0 < 2 ^ (15 - (lim - h)) := Nat.two_pow_pos _
        rw [show weigh [] = 0 from rfl] at hw
        rcases Nat.mul_eq_zero.1 hw.symm with h | h <;> omega
      subst h0
      rw [bst_end]; simp [dotd]
    · have hpos : 0 < 2 ^ (15 - (lim - h)) := Nat.two_pow_pos _
      have hge : ∀ x ∈ ls, lim - h ≤ x := fun x hx => by have := hb x hx; omega
      have hle := weigh_le ls hge
      rw [hw, hl] at hle
      have hopn : opn ≤ L - dn := Nat.le_of_mul_le_mul_right hle hpos
      have h1 : 1 ≤ opn := by
        rcases Nat.eq_zero_or_pos opn with e | e
        · subst e
          cases ls with
          | nil => simp at hl; omega
          | cons x t =>
            rw [weigh_cons] at hw
            have : 0 < 2 ^ (15 - x) := Nat.two_pow_pos _
            omega
        · exact e
      have hfl := front_len (lim - h) ls
      have hfw := weigh_front (lim - h) ls
      have hfr := front_le ((lim : Int) - ((h + 1 : Nat) : Int)) (lim - h) (fs.drop dn) ls (by rw [List.length_drop]; omega) hge (hp.sublist (List.drop_sublist _ _))
      unfold front at hfr
      have hrb : ∀ x ∈ ls.filter (fun x => decide (x ≠ lim - h)), lim - h < x ∧ x ≤ lim := fun x hx => by
        rw [List.mem_filter] at hx
        have h1 := hb x hx.1
        have h2 := of_decide_eq_true hx.2
        omega
      generalize ls.filter (fun x => decide (x ≠ lim - h)) = rs at hfl hfw hfr hrb
      generalize ls.count (lim - h) = k at hfl hfw hfr
      rw [hw] at hfw
      have hk : k ≤ opn := by
        have : k * 2 ^ (15 - (lim - h)) ≤ opn * 2 ^ (15 - (lim - h)) := by omega
        exact Nat.le_of_mul_le_mul_right this hpos
      have hws : weigh rs = 2 * (opn - k) * 2 ^ (15 - (lim + 1 - h)) := by
        obtain ⟨j, rfl⟩ : ∃ j, opn = k + j := ⟨opn - k, by omega⟩
        rw [Nat.add_mul] at hfw
        rw [Nat.add_sub_cancel_left]
        cases h with
        | zero =>
          have e : rs = [] := by
            cases rs with
            | nil => rfl
            | cons x t => have := hrb x (by simp); omega
          subst e
          rw [show weigh [] = 0 from rfl] at hfw ⊢
          have : j * 2 ^ (15 - (lim - 0)) = 0 := by omega
          rcases Nat.mul_eq_zero.1 this with h | h
          · subst h; simp
          · omega
        | succ h =>
          rw [show 15 - (lim - (h + 1)) = 15 - (lim + 1 - (h + 1)) + 1 from by omega, Nat.pow_succ, ← Nat.mul_assoc, Nat.mul_right_comm] at hfw
          rw [← Nat.mul_assoc] at hfw
          rw [Nat.mul_comm 2 j, Nat.mul_right_comm j 2]
          rw [Nat.mul_right_comm] at hfw
          omega
      obtain ⟨i1, i2⟩ := bst_opt hL hS hp hlim h (dn + k) (2 * (opn - k)) rs (by omega) (by omega) (by omega) hrb hws
      have hi := bst_some hS (k := k) (by omega) h0 h1 hopn hk i1
      obtain ⟨_, _, k2, hk2, hki2, ec2, _, _, hm⟩ := lensF_step (lim := 0) hS (by omega) h0 hi
      have hm := hm k hk i1
      refine ⟨hi, ?_⟩
      rw [ec2]
      rw [dotd_rep _ (lim - h) (by omega) k _ _ (by rw [List.length_drop]; omega), List.drop_drop, show (lim : Int) - ((h + 1 : Nat) : Int) + 1 = (lim : Int) - h from by omega] at hfr
      rw [sumsF_sum]
      omega
/-- How the document finds the choice. -/
theorem pickk {S : List Int} {L lim : Nat} {B : Int} (hS : OkS S L B) {h dn opn : Nat} (hh : h ≤ 18) (hdn : dn ≤ L) (h0 : ¬ L - dn = 0) (hi : (bst S L (h + 1) dn opn).2.2.1 = true) :
    ∃ k, k ≤ opn ∧ 1 ≤ opn ∧ opn ≤ L - dn ∧ (bst S L h (dn + k) (2 * (opn - k))).2.2.1 = true ∧ lensF S L lim (h + 1) dn opn = List.replicate k (lim + 1 - (h + 1)) ++ lensF S L lim h (dn + k) (2 * (opn - k)) ∧ (bst S L (h + 1) dn opn).2.1 = (k : Int) ∧
      (∀ t, t ≤ opn → 0 ≤ rc S L h (dn + t) (2 * (opn - t)) → wrap64 (rc S L h (dn + t) (2 * (opn - t)) + S.getD (dn + t) 0) = rc S L (h + 1) dn opn → t ≤ k) ∧
      0 ≤ rc S L h (dn + k) (2 * (opn - k)) ∧ wrap64 (rc S L h (dn + k) (2 * (opn - k)) + S.getD (dn + k) 0) = rc S L (h + 1) dn opn := by
  obtain ⟨h1, h2, k, hk, hki, e, hm⟩ := bst_kept hS (by omega) h0 hi
  have ek : (bst S L (h + 1) dn opn).2.1.toNat = k := by rw [e]; simp
  have hB0 : 0 ≤ B := by have := hS.pos 0; have := hS.le 0; omega
  have hhB : (h : Int) * B ≤ 20 * B := Int.mul_le_mul_of_nonneg_right (by omega) hB0
  have hsm := hS.small
  have key : ∀ t, t ≤ opn → (0 ≤ rc S L h (dn + t) (2 * (opn - t)) → (bst S L h (dn + t) (2 * (opn - t))).2.2.1 = true) ∧ ((bst S L h (dn + t) (2 * (opn - t))).2.2.1 = true → 0 ≤ rc S L h (dn + t) (2 * (opn - t)) ∧ wrap64 (rc S L h (dn + t) (2 * (opn - t)) + S.getD (dn + t) 0) = (bst S L h (dn + t) (2 * (opn - t))).1) := by
    intro t ht
    have hp := hS.pos (dn + t)
    rcases both hS h (dn + t) (2 * (opn - t)) (by omega) (by omega) with ⟨e1, e2, e3, e4⟩ | ⟨e1, e2⟩
    · exact ⟨fun _ => e1, fun _ => ⟨e2, by rw [Go.IntWalk.wrap64_in _ (by omega), e3]⟩⟩
    · exact ⟨fun h => by omega, fun h => by rw [h] at e1; cases e1⟩
  have top : rc S L (h + 1) dn opn = (bst S L h (dn + k) (2 * (opn - k))).1 := by
    rcases both hS (h + 1) dn opn (by omega) hdn with ⟨_, _, e3, _⟩ | ⟨e1, _⟩
    · rw [e] at e3; simp only at e3; omega
    · rw [hi] at e1; cases e1
  refine ⟨k, hk, h1, h2, hki, by simp only [lensF, if_neg h0, ek], by rw [e], fun t ht hr hw => ?_, ((key k hk).2 hki).1, by rw [((key k hk).2 hki).2, top]⟩
  have hti := (key t ht).1 hr
  have := ((key t ht).2 hti).2
  rw [hw, top] at this
  have hs := (hm t ht hti).2
  rcases Nat.lt_or_ge k t with hlt | hge
  · have := hs hlt; omega
  · exact hge
theorem lensO_two (fs : List Int) (lim : Nat) {o : List Nat} (h : 2 ≤ o.length) : lensO fs lim o = place o (lensF (sumsF (freqO fs o)) o.length lim lim 0 2) (List.replicate 65 0) := by
  match o, h with
  | _ :: _ :: _, _ => rfl
theorem place_cons (x y : Nat) (o ls : List Nat) (z : List Int) : place (x :: o) (y :: ls) z = place o ls (z.set x (y : Int)) := rfl
theorem place_nil (ls : List Nat) (z : List Int) : place [] ls z = z := rfl
end Go.Proofs.Ytdakocdfpdglfaa.Merge
