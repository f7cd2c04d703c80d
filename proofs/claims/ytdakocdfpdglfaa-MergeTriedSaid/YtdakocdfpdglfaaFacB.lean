/- Lengths of classes that come alike often; of steep frequencies; a greater limit; no lengths cost less. -/
import Derived.Test.YtdakocdfpdglfaaFac
namespace Go.Proofs.Ytdakocdfpdglfaa.Merge
open Go.RowKit Go.Proofs.Ytdakocdfpdglfaa.Heap
theorem posFrom_length : ∀ (fs : List Int) (k : Nat), (posFrom fs k).length = many fs
  | [], _ => rfl
  | x :: r, k => by
    rw [many_cons, ← posFrom_length r (k + 1)]
    simp only [posFrom]
    split <;> simp
theorem Facts.count {fs : List Int} {lm : Nat} {o ls : List Nat} (h : Facts fs lm o ls) : o.length = Merge.many fs := by
  have := (ord_perm fs).length_eq
  rw [posFrom_length, prO, List.length_map, ← h.ord] at this
  exact this
theorem Facts.low {fs : List Int} {lm : Nat} {o ls : List Nat} (h : Facts fs lm o ls) (h15 : lm ≤ 15) (h2 : 2 ≤ o.length) {ks : List Nat} (hl : ks.length = o.length) (hb : ∀ x ∈ ks, 1 ≤ x ∧ x ≤ lm) (hw : weigh ks = 32768) : dotd 0 (freqO fs o) ls ≤ dotd 0 (freqO fs o) ks := by
  obtain ⟨_, _, h5, _⟩ := h.two h2
  have hF : (freqO fs o).length = o.length := by simp [freqO]
  have := bst_opt hF h.okS h.down h15 lm 0 2 ks (Nat.le_refl _) (by omega) (by omega) (fun x hx => by have := hb x hx; omega) (by
    rw [show lm + 1 - lm = 1 from by omega, hw])
  rw [Int.sub_self, List.drop_zero, h5] at this
  exact this.2
/-! ### Alike often -/
theorem dotd_const (c : Int) : ∀ (n : Nat) (ls : List Nat), ls.length = n → dotd 0 (List.replicate n c) ls = c * (ls.sum : Int)
  | 0, [], _ => by simp [dotd]
  | n + 1, y :: ls, h => by
    have := dotd_const c n ls (by simpa using h)
    rw [List.replicate_succ, dotd, this, Int.sub_zero, List.sum_cons, Int.natCast_add, Int.mul_add]
theorem flat_one : ∀ k : Fin 7, ∀ y : Fin 8, 1 ≤ k.val → 1 ≤ y.val → 2 ^ (15 - k.val) * (4 + 3 * k.val) + (if y.val = k.val then 0 else 1) ≤ 4 * 2 ^ (15 - y.val) + 3 * 2 ^ (15 - k.val) * y.val := by decide
theorem flat_sum {k : Nat} (h1 : 1 ≤ k) (h6 : k ≤ 6) : ∀ (ls : List Nat), (∀ y ∈ ls, 1 ≤ y ∧ y ≤ 7) → ls.length * (2 ^ (15 - k) * (4 + 3 * k)) + ls.countP (fun y => decide (y ≠ k)) ≤ 4 * weigh ls + 3 * 2 ^ (15 - k) * ls.sum
  | [], _ => by simp
  | y :: ls, h => by
    have ih := flat_sum h1 h6 ls fun z hz => h z (by simp [hz])
    have hy := h y (by simp)
    have ho := flat_one ⟨k, by omega⟩ ⟨y, by omega⟩ h1 hy.1
    simp only at ho
    rw [List.length_cons, List.countP_cons, weigh_cons, List.sum_cons, Nat.add_mul, Nat.mul_add (4), Nat.mul_add (3 * 2 ^ (15 - k)), Nat.one_mul]
    by_cases e : y = k
    · rw [if_pos e] at ho; rw [if_neg (by simpa using e)]; omega
    · rw [if_neg e] at ho; rw [if_pos (by simpa using e)]; omega
theorem Facts.flat {fs : List Int} {o ls : List Nat} (h : Facts fs 7 o ls) {k : Nat} (h1 : 1 ≤ k) (h6 : k ≤ 6) {c : Int} (hc : 1 ≤ c) (hn : o.length = 2 ^ k) (hf : freqO fs o = List.replicate (2 ^ k) c) : ∀ y ∈ ls, y = k := by
  have h2 : 2 ≤ o.length := by
    have : 2 ^ 1 ≤ 2 ^ k := Nat.pow_le_pow_right (by omega) h1
    omega
  have hp : 2 ^ k * 2 ^ (15 - k) = 32768 := by rw [← Nat.pow_add, show k + (15 - k) = 15 from by omega]
  have hlow := h.low (by omega) h2 (ks := List.replicate (2 ^ k) k) (by rw [List.length_replicate]; exact hn.symm) (fun x hx => by have := List.eq_of_mem_replicate hx; omega) (by rw [weigh_rep, hp])
  have hll : ls.length = 2 ^ k := by rw [h.len]; exact hn
  rw [hf, dotd_const c _ ls hll, dotd_const c _ _ (List.length_replicate ..)] at hlow
  have hsum : ls.sum ≤ 2 ^ k * k := by
    have := Int.le_of_mul_le_mul_left hlow (by omega)
    rw [List.sum_replicate_nat] at this
    omega
  have hs := flat_sum h1 h6 ls fun y hy => h.bd y hy
  rw [(h.two h2).1, hll, ← Nat.mul_assoc, hp] at hs
  have h3 : 3 * 2 ^ (15 - k) * ls.sum ≤ 3 * 2 ^ (15 - k) * (2 ^ k * k) := Nat.mul_le_mul_left _ hsum
  have h4 : 3 * 2 ^ (15 - k) * (2 ^ k * k) = 98304 * k := by
    rw [show 3 * 2 ^ (15 - k) * (2 ^ k * k) = 3 * (2 ^ k * 2 ^ (15 - k)) * k from by
      rw [Nat.mul_assoc 3, Nat.mul_assoc 3, Nat.mul_comm (2 ^ k) (2 ^ (15 - k)), Nat.mul_assoc (2 ^ (15 - k))], hp]
  have hz : ls.countP (fun y => decide (y ≠ k)) = 0 := by omega
  intro y hy
  have := List.countP_eq_zero.1 hz y hy
  simpa using this
/-! ### A greater limit -/
theorem Facts.greater {fs : List Int} {lm : Nat} {o ls o' ls' : List Nat} (h : Facts fs lm o ls) (h' : Facts fs (lm + 1) o' ls') (h14 : lm ≤ 14) (h1 : 1 ≤ lm) : dotd 0 (freqO fs o') ls' ≤ dotd 0 (freqO fs o) ls := by
  obtain rfl : o' = o := by rw [h.ord, h'.ord]
  rcases Nat.lt_or_ge o'.length 2 with h2 | h2
  · rcases (by omega : o'.length = 0 ∨ o'.length = 1) with h0 | h0
    · obtain rfl := List.eq_nil_of_length_eq_zero h0; simp [freqO, dotd]
    · rw [h.one h0, h'.one h0]; exact Int.le_refl _
  · obtain ⟨h3, h4, h5, _⟩ := h.two h2
    exact h'.low (by omega) h2 h.len (fun x hx => by have := h.bd x hx; omega) h3
/-! ### Steep -/
def steepL (m : Nat) : List Int := (List.range m).foldl (fun z i => z.set (4 * i) ((2 ^ i : Nat) : Int)) (List.replicate 65 0)
def steepO (m : Nat) : List Nat := (List.range m).reverse.map (4 * ·)
theorem steep_ord : ∀ m : Fin 17, ordF (steepL m.val) 65 [] = steepO m.val := by decide +kernel
theorem steep_freq : ∀ m : Fin 17, freqO (steepL m.val) (steepO m.val) = (List.range m.val).reverse.map fun i => ((2 ^ i : Nat) : Int) := by decide +kernel
theorem steep_sums : ∀ m : Fin 17, ∀ j : Fin 17, j.val ≤ m.val → (sumsF ((List.range m.val).reverse.map fun i => ((2 ^ i : Nat) : Int))).getD j.val 0 = ((2 ^ (m.val - j.val) : Nat) : Int) - 1 := by decide +kernel
def stps (d : Nat) : Nat → List Nat
  | 0 => []
  | 1 => []
  | 2 => [d, d]
  | r + 3 => d :: stps (d + 1) (r + 2)
theorem feas_open {S : List Int} {L h dn opn : Nat} (h0 : ¬ L - dn = 0) (hi : (bst S L h dn opn).2.2.1 = true) : 1 ≤ opn ∧ opn ≤ L - dn := by
  rw [bst_eq, if_neg (by omega)] at hi
  split at hi
  · cases hi
  · omega
theorem steep_bst {S : List Int} {m : Nat} {B : Int} (hS : OkS S m B) (hs : ∀ j, j ≤ m → S.getD j 0 = ((2 ^ (m - j) : Nat) : Int) - 1) (lim : Nat) : ∀ (r h : Nat), 2 ≤ r → r ≤ m → r - 1 ≤ h → h ≤ 15 → h ≤ lim →
    (bst S m h (m - r) 2).2.2.1 = true ∧ (bst S m h (m - r) 2).1 = ((2 ^ (r + 1) : Nat) : Int) - r - 3 ∧ lensF S m lim h (m - r) 2 = stps (lim + 1 - h) r
  | 0, _, h, _, _, _, _ => by omega
  | 1, _, h, _, _, _, _ => by omega
  | r + 2, 0, _, _, h, _, _ => by omega
  | 2, h + 1, _, h2, h3, h4, h5 => by
    have hL : m - (m - 2) = 2 := by omega
    have e0 : (bst S m h (m - 2 + 2) (2 * (2 - 2))).2.2.1 = true := by rw [show m - 2 + 2 = m from by omega, Nat.sub_self, Nat.mul_zero, bst_end]
    have hi := bst_some hS (h := h) (dn := m - 2) (opn := 2) (k := 2) (by omega) (by omega) (by omega) (by omega) (by omega) e0
    obtain ⟨_, _, k, hk, hki, ec, el, _⟩ := lensF_step (lim := lim) hS (by omega) (by omega) hi
    have hk2 : k = 2 := by
      rcases (by omega : k = 0 ∨ k = 1 ∨ k = 2) with rfl | rfl | rfl
      · have := feas_open (by omega) hki; omega
      · have := feas_open (by omega) hki; omega
      · rfl
    subst hk2
    have e1 : bst S m h (m - 2 + 2) (2 * (2 - 2)) = (0, 0, true, false) := by rw [show m - 2 + 2 = m from by omega, Nat.sub_self, Nat.mul_zero, bst_end]
    refine ⟨hi, ?_, ?_⟩
    · rw [ec, e1, hs _ (by omega), hL]; rfl
    · rw [el, lensF_nil (by omega)]; rfl
  | r + 3, h + 1, h1, h2, h3, h4, h5 => by
    obtain ⟨i1, c1, l1⟩ := steep_bst hS hs lim (r + 2) h (by omega) (by omega) (by omega) (by omega) (by omega)
    have ed : m - (r + 3) + 1 = m - (r + 2) := by omega
    have hi := bst_some hS (h := h) (dn := m - (r + 3)) (opn := 2) (k := 1) (by omega) (by omega) (by omega) (by omega) (by omega) (by rw [ed]; exact i1)
    obtain ⟨_, _, k, hk, hki, ec, el, _, hm⟩ := lensF_step (lim := lim) hS (by omega) (by omega) hi
    have hm1 := hm 1 (by omega) (by rw [ed]; exact i1)
    rw [ed, show 2 * (2 - 1) = 2 from rfl, c1] at hm1
    have p0 : 2 ^ (r + 2 + 1) = 2 ^ (r + 3) := rfl
    have p1 : 2 ^ (r + 3 + 1) = 2 * 2 ^ (r + 3) := by rw [Nat.pow_succ]; omega
    have hk1 : k = 1 := by
      rcases (by omega : k = 0 ∨ k = 1 ∨ k = 2) with rfl | rfl | rfl
      · exfalso
        rw [Nat.add_zero] at hki hm1
        cases h with
        | zero => omega
        | succ h =>
          obtain ⟨_, _, k', _, hki', ec', _⟩ := lensF_step (lim := lim) hS (by omega) (by omega) hki
          have hge : 0 ≤ (bst S m h (m - (r + 3) + k') (2 * (2 * (2 - 0) - k'))).1 := by
            rcases both hS h (m - (r + 3) + k') (2 * (2 * (2 - 0) - k')) (by omega) (by omega) with ⟨_, g2, g3, _⟩ | ⟨g1, _⟩
            · have := hS.pos (m - (r + 3) + k'); omega
            · rw [hki'] at g1; cases g1
          rw [ec', hs _ (by omega), show m - (m - (r + 3)) = r + 3 from by omega] at hm1
          omega
      · rfl
      · exfalso
        have := feas_open (by omega) hki; omega
    subst hk1
    refine ⟨hi, ?_, ?_⟩
    · rw [ec, ed, show 2 * (2 - 1) = 2 from rfl, c1, hs _ (by omega), show m - (m - (r + 3)) = r + 3 from by omega]
      omega
    · rw [el, ed, show 2 * (2 - 1) = 2 from rfl, l1, show lim + 1 - h = lim + 1 - (h + 1) + 1 from by omega]; rfl
theorem stps_len (d : Nat) : ∀ r, 2 ≤ r → (stps d r).length = r
  | 0, h => by omega
  | 1, h => by omega
  | 2, _ => rfl
  | r + 3, _ => by have := stps_len (d + 1) (r + 2) (by omega); simp only [stps, List.length_cons, this]
theorem stps_get : ∀ (r d j : Nat) (h : j < (stps d r).length), 2 ≤ r → (stps d r)[j] = d + min j (r - 2)
  | 0, _, _, _, h => by omega
  | 1, _, _, _, h => by omega
  | 2, d, j, hj, _ => by
    have : j < 2 := hj
    rcases (by omega : j = 0 ∨ j = 1) with rfl | rfl <;> simp [stps]
  | r + 3, d, 0, _, _ => by simp [stps]
  | r + 3, d, j + 1, hj, _ => by
    have := stps_get (r + 2) (d + 1) j (by simpa [stps] using hj) (by omega)
    simp only [stps, List.getElem_cons_succ, this]; omega
theorem steepL_len (m : Nat) : (steepL m).length = 65 := by
  unfold steepL
  have key : ∀ (l : List Nat) (z : List Int), (l.foldl (fun z i => z.set (4 * i) ((2 ^ i : Nat) : Int)) z).length = z.length := by
    intro l
    induction l with
    | nil => intro z; rfl
    | cons i r ih => intro z; rw [List.foldl_cons, ih, List.length_set]
  rw [key]; simp
theorem Facts.steep {m lm : Nat} {o ls : List Nat} (h : Facts (steepL m) lm o ls) (h2 : 2 ≤ m) (hm : m ≤ lm + 1) (h16 : m ≤ 16) (h15 : lm ≤ 15) : ∀ i, i < m → (lensOf (steepL m) lm).getD (4 * i) 0 = ((min (m - i) (m - 1) : Nat) : Int) := by
  have ho : o = steepO m := by rw [h.ord, steepL_len]; exact steep_ord ⟨m, by omega⟩
  subst ho
  have hl : (steepO m).length = m := by simp [steepO]
  obtain ⟨_, _, _, hls⟩ := h.two (by omega)
  have hS := h.okS
  have hfq : freqO (steepL m) (steepO m) = (List.range m).reverse.map fun i => ((2 ^ i : Nat) : Int) := steep_freq ⟨m, by omega⟩
  rw [hfq, hl] at hls hS
  have hst := steep_bst hS (fun j hj => steep_sums ⟨m, by omega⟩ ⟨j, by omega⟩ hj) lm m lm h2 (Nat.le_refl _) (by omega) h15 (Nat.le_refl _)
  rw [Nat.sub_self] at hst
  rw [hst.2.2, show lm + 1 - lm = 1 from by omega] at hls
  subst hls
  intro i hi
  have hj : m - 1 - i < (steepO m).length := by omega
  have ho : (steepO m)[m - 1 - i] = 4 * i := by simp [steepO]; omega
  have := h.at_ hj
  rw [ho] at this
  rw [this, stps_get m 1 _ (by rw [stps_len 1 m h2]; omega) h2]
  omega
end Go.Proofs.Ytdakocdfpdglfaa.Merge
