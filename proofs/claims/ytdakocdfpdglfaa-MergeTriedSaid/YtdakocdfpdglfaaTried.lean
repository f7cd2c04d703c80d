/- All lengths of a few classes: none cost less, in plain Lean. -/
import Derived.Test.YtdakocdfpdglfaaFacB
namespace Go.Proofs.Ytdakocdfpdglfaa.Merge
open Go.RowKit Go.Proofs.Ytdakocdfpdglfaa.Heap
theorem lensF_deep {S : List Int} {L lim : Nat} {B : Int} (hS : OkS S L B) : ∀ (h dn opn : Nat), h ≤ 20 → h ≤ lim → (bst S L h dn opn).2.2.1 = true → ∀ y ∈ lensF S L lim h dn opn, y ≤ (lim + 1 - h) + (L - dn - opn)
  | 0, _, _, _, _, _ => fun x hx => by simp [lensF] at hx
  | h + 1, dn, opn, hh, hl, hi => fun y hy => by
    by_cases h0 : L - dn = 0
    · rw [lensF_nil h0] at hy; cases hy
    · obtain ⟨_, _, k, _, hki, _, e, _⟩ := lensF_step (lim := lim) hS (by omega) h0 hi
      rw [e, List.mem_append] at hy
      rcases hy with hy | hy
      · have := List.eq_of_mem_replicate hy; omega
      · by_cases h1 : L - (dn + k) = 0
        · rw [lensF_nil h1] at hy; cases hy
        · have := feas_open h1 hki
          have := lensF_deep hS h _ _ (by omega) (by omega) hki y hy
          omega
theorem perm_sum {l l' : List Int} (h : l.Perm l') : l.sum = l'.sum := by
  induction h with
  | nil => rfl
  | cons x _ ih => simp only [List.sum_cons, ih]
  | swap x y l => simp only [List.sum_cons]; omega
  | trans _ _ h1 h2 => rw [h1, h2]
theorem perm_sumN {l l' : List Nat} (h : l.Perm l') : l.sum = l'.sum := by
  induction h with
  | nil => rfl
  | cons x _ ih => simp only [List.sum_cons, ih]
  | swap x y l => simp only [List.sum_cons]; omega
  | trans _ _ h1 h2 => rw [h1, h2]
def triedL (gs : List Nat) (j : Nat) : List Int := (List.range j).foldl (fun z i => z.set (7 * i) ((gs.getD i 0 : Nat) : Int)) (List.replicate 65 0)
theorem triedL_succ (gs : List Nat) (i : Nat) : triedL gs (i + 1) = (triedL gs i).set (7 * i) ((gs.getD i 0 : Nat) : Int) := by
  unfold triedL
  rw [List.range_succ, List.foldl_append]; rfl
theorem triedL_len (gs : List Nat) : ∀ j, (triedL gs j).length = 65
  | 0 => by simp [triedL]
  | j + 1 => by rw [triedL_succ, List.length_set]; exact triedL_len gs j
theorem set_get {z : List Int} {c : Nat} {v : Int} (hc : c < z.length) (j : Nat) : (z.set c v).getD j 0 = if j = c then v else z.getD j 0 := by
  by_cases e : j = c
  · subst e; rw [if_pos rfl, List.getD_eq_getElem?_getD, List.getElem?_set_self hc]; rfl
  · rw [if_neg e, List.getD_eq_getElem?_getD, List.getElem?_set_ne (Ne.symm e), ← List.getD_eq_getElem?_getD]
theorem triedL_get (gs : List Nat) : ∀ j, j ≤ 9 → (∀ i, i < j → (triedL gs j).getD (7 * i) 0 = ((gs.getD i 0 : Nat) : Int)) ∧ (∀ x, (∀ i, i < j → x ≠ 7 * i) → (triedL gs j).getD x 0 = 0)
  | 0, _ => ⟨fun i h => by omega, fun x _ => zeros_getD _ _⟩
  | j + 1, h => by
    have ih := triedL_get gs j (by omega)
    have hl := triedL_len gs j
    rw [triedL_succ]
    refine ⟨fun i hi => ?_, fun x hx => ?_⟩
    · rw [set_get (by omega)]
      split
      · rename_i e; rw [show i = j from by omega]
      · exact ih.1 i (by omega)
    · rw [set_get (by omega), if_neg (hx j (by omega))]
      exact ih.2 x fun i hi => hx i (by omega)
section
variable {gs : List Nat} {lm : Nat} {o ls : List Nat}
theorem tried_perm (hn : gs.length ≤ 5) (hg : ∀ i, i < gs.length → 1 ≤ gs.getD i 0) (h : Facts (triedL gs gs.length) lm o ls) : o.Perm ((List.range gs.length).map (7 * ·)) := by
  have ht := triedL_get gs gs.length (by omega)
  rw [List.perm_ext_iff_of_nodup h.nodup (List.Pairwise.map _ (fun a b (hab : a ≠ b) => by omega) List.nodup_range)]
  intro x
  rw [h.mem, List.mem_map]
  constructor
  · rintro ⟨_, h2⟩
    by_cases hx : ∃ i, i < gs.length ∧ x = 7 * i
    · obtain ⟨i, h3, rfl⟩ := hx
      exact ⟨i, List.mem_range.2 h3, rfl⟩
    · rw [ht.2 x fun i hi e => hx ⟨i, hi, e⟩] at h2
      omega
  · rintro ⟨i, hi, rfl⟩
    have hi := List.mem_range.1 hi
    have := hg i hi
    exact ⟨by omega, by rw [ht.1 i hi]; omega⟩
theorem dot_map (fs : List Int) (κ : Nat → Nat) : ∀ o : List Nat, dotd 0 (freqO fs o) (o.map κ) = (o.map fun x => fs.getD x 0 * (κ x : Int)).sum
  | [] => rfl
  | x :: o => by
    have := dot_map fs κ o
    simp only [freqO, List.map_cons, dotd, Int.sub_zero, List.sum_cons] at this ⊢
    rw [this]
theorem weigh_map (κ : Nat → Nat) (o : List Nat) : weigh (o.map κ) = (o.map fun x => 2 ^ (15 - κ x)).sum := by
  unfold weigh; rw [List.map_map]; rfl
/-- What a choice of lengths weighs, and what it costs: the first j classes. -/
def tw (κ : Nat → Nat) : Nat → Nat
  | 0 => 0
  | j + 1 => tw κ j + 16 / 2 ^ κ j
def tc (gs : List Nat) (κ : Nat → Nat) : Nat → Nat
  | 0 => 0
  | j + 1 => tc gs κ j + κ j * gs.getD j 0
theorem tw_sum (κ : Nat → Nat) (hk : ∀ i, 1 ≤ κ i ∧ κ i ≤ 4) : ∀ j, 2048 * tw κ j = ((List.range j).map fun i => 2 ^ (15 - κ i)).sum
  | 0 => rfl
  | j + 1 => by
    have ih := tw_sum κ hk j
    rw [List.range_succ, List.map_append, List.sum_append, ← ih, tw, Nat.mul_add]
    have : 2048 * (16 / 2 ^ κ j) = 2 ^ (15 - κ j) := by
      have := hk j
      rcases (by omega : κ j = 1 ∨ κ j = 2 ∨ κ j = 3 ∨ κ j = 4) with e | e | e | e <;> rw [e]
    rw [this]; simp
theorem tc_sum (κ : Nat → Nat) : ∀ j, j ≤ gs.length → gs.length ≤ 5 → (tc gs κ j : Int) = ((List.range j).map fun i => (triedL gs gs.length).getD (7 * i) 0 * (κ i : Int)).sum
  | 0, _, _ => rfl
  | j + 1, h, h5 => by
    have ih := tc_sum κ j (by omega) h5
    rw [List.range_succ, List.map_append, List.sum_append, ← ih, tc]
    simp only [List.map_cons, List.map_nil, List.sum_cons, List.sum_nil, Int.add_zero]
    rw [(triedL_get gs gs.length (by omega)).1 j (by omega), Int.natCast_add, Int.natCast_mul, Int.mul_comm]
theorem tried_low (hn : gs.length ≤ 5) (h2 : 2 ≤ gs.length) (hg : ∀ i, i < gs.length → 1 ≤ gs.getD i 0) (h4 : 4 ≤ lm) (h15 : lm ≤ 15) (h : Facts (triedL gs gs.length) lm o ls) {κ : Nat → Nat} (hk : ∀ i, 1 ≤ κ i ∧ κ i ≤ 4) (hw : tw κ gs.length = 16) :
    dotd 0 (freqO (triedL gs gs.length) o) ls ≤ (tc gs κ gs.length : Int) := by
  have hp := tried_perm hn hg h
  have hol : o.length = gs.length := by have := hp.length_eq; simpa using this
  have hlow := h.low h15 (by omega) (ks := o.map fun x => κ (x / 7)) (by simp) (fun x hx => by
    obtain ⟨y, _, rfl⟩ := List.mem_map.1 hx
    have := hk (y / 7); omega) (by
    rw [weigh_map, perm_sumN (hp.map _), List.map_map]
    have := tw_sum κ hk gs.length
    rw [hw] at this
    rw [show 32768 = 2048 * 16 from rfl, this]
    congr 1
    refine List.map_congr_left fun i _ => ?_
    simp)
  rw [dot_map _ fun x => κ (x / 7)] at hlow
  rw [perm_sum (hp.map _), List.map_map] at hlow
  rw [tc_sum κ gs.length (Nat.le_refl _) hn]
  have e : ((List.range gs.length).map ((fun x => (triedL gs gs.length).getD x 0 * ((κ (x / 7) : Nat) : Int)) ∘ fun x => 7 * x)) = (List.range gs.length).map fun i => (triedL gs gs.length).getD (7 * i) 0 * (κ i : Int) := by
    refine List.map_congr_left fun i _ => ?_
    simp
  rw [e] at hlow
  exact hlow
def encD : List Nat → Nat
  | [] => 0
  | x :: r => x + 4 * encD r
theorem encD_lt : ∀ l : List Nat, (∀ x ∈ l, x < 4) → encD l < 4 ^ l.length
  | [], _ => by simp [encD]
  | x :: r, h => by
    have := encD_lt r fun y hy => h y (by simp [hy])
    have := h x (by simp)
    simp only [encD, List.length_cons, Nat.pow_succ]; omega
theorem encD_dig : ∀ (l : List Nat) (i : Nat), (∀ x ∈ l, x < 4) → encD l / 4 ^ i % 4 = l.getD i 0
  | [], i, _ => by simp [encD]
  | x :: r, 0, h => by
    have := h x (by simp)
    simp [encD]; omega
  | x :: r, i + 1, h => by
    have hx := h x (by simp)
    have ih := encD_dig r i fun y hy => h y (by simp [hy])
    rw [Nat.pow_succ, Nat.mul_comm, ← Nat.div_div_eq_div_mul]
    simp only [encD, List.getD_cons_succ]
    rw [show (x + 4 * encD r) / 4 = encD r from by omega, ih]
def kc (c i : Nat) : Nat := c / 4 ^ i % 4 + 1
theorem kc_bd (c i : Nat) : 1 ≤ kc c i ∧ kc c i ≤ 4 := by unfold kc; omega
/-- The lengths themselves are among those that are tried. -/
theorem tried_is (hn : gs.length ≤ 5) (h2 : 2 ≤ gs.length) (hg : ∀ i, i < gs.length → 1 ≤ gs.getD i 0) (h7 : 7 ≤ lm) (h15 : lm ≤ 15) (h : Facts (triedL gs gs.length) lm o ls) :
    ∃ c, c < 4 ^ gs.length ∧ tw (kc c) gs.length = 16 ∧ (tc gs (kc c) gs.length : Int) = dotd 0 (freqO (triedL gs gs.length) o) ls := by
  have hp := tried_perm hn hg h
  have hol : o.length = gs.length := by have := hp.length_eq; simpa using this
  obtain ⟨hw, hfe, _, hls⟩ := h.two (by omega)
  have hdeep : ∀ y ∈ ls, y ≤ 4 := fun y hy => by
    rw [hls] at hy
    have := lensF_deep h.okS lm 0 2 (by omega) (Nat.le_refl _) hfe y hy
    omega
  have hbd := h.bd
  let κ : Nat → Nat := fun x => ((lensOf (triedL gs gs.length) lm).getD x 0).toNat
  have hmap : o.map κ = ls := by
    apply List.ext_getElem (by simp [h.len])
    intro j h1 h3
    have hj : j < o.length := by simpa using h1
    rw [List.getElem_map]
    show ((lensOf (triedL gs gs.length) lm).getD o[j] 0).toNat = ls[j]
    rw [h.at_ hj, Int.toNat_natCast]
  have hk : ∀ i, i < gs.length → 1 ≤ κ (7 * i) ∧ κ (7 * i) ≤ 4 := fun i hi => by
    have hm : 7 * i ∈ o := hp.mem_iff.2 (List.mem_map.2 ⟨i, List.mem_range.2 hi, rfl⟩)
    have : κ (7 * i) ∈ ls := by rw [← hmap]; exact List.mem_map.2 ⟨_, hm, rfl⟩
    exact ⟨(hbd _ this).1, hdeep _ this⟩
  have hds : ∀ x ∈ (List.range gs.length).map (fun i => κ (7 * i) - 1), x < 4 := fun x hx => by
    obtain ⟨i, hi, rfl⟩ := List.mem_map.1 hx
    have := hk i (List.mem_range.1 hi); omega
  have hkc : ∀ i, i < gs.length → kc (encD ((List.range gs.length).map fun i => κ (7 * i) - 1)) i = κ (7 * i) := fun i hi => by
    unfold kc
    rw [encD_dig _ i hds, List.getD_eq_getElem?_getD, List.getElem?_eq_getElem (by simpa using hi), Option.getD_some]
    simp only [List.getElem_map, List.getElem_range]
    have := hk i hi; omega
  have hlt := encD_lt _ hds
  simp only [List.length_map, List.length_range] at hlt
  generalize encD ((List.range gs.length).map fun i => κ (7 * i) - 1) = c at hkc hlt
  refine ⟨c, hlt, ?_, ?_⟩
  · have h1 := tw_sum (kc c) (kc_bd c) gs.length
    have h3 : weigh ls = ((List.range gs.length).map fun i => 2 ^ (15 - kc c i)).sum := by
      rw [← hmap, weigh_map, perm_sumN (hp.map _), List.map_map]
      congr 1
      refine List.map_congr_left fun i hi => ?_
      simp only [Function.comp_apply]
      rw [hkc i (List.mem_range.1 hi)]
    rw [hw] at h3
    omega
  · rw [tc_sum (kc c) gs.length (Nat.le_refl _) hn, ← hmap, dot_map, perm_sum (hp.map _), List.map_map]
    congr 1
    refine List.map_congr_left fun i hi => ?_
    simp only [Function.comp_apply]
    rw [hkc i (List.mem_range.1 hi)]
/-- The least of all that are tried. -/
def triedF (gs : List Nat) : Nat → Int
  | 0 => 1099511627776
  | c + 1 => if tw (kc c) gs.length = 16 then (if ((tc gs (kc c) gs.length : Nat) : Int) < triedF gs c then ((tc gs (kc c) gs.length : Nat) : Int) else triedF gs c) else triedF gs c
theorem triedF_eq {v : Int} (hv : v ≤ 1099511627776) (hlow : ∀ c, tw (kc c) gs.length = 16 → v ≤ (tc gs (kc c) gs.length : Int)) : ∀ m, v ≤ triedF gs m ∧ ∀ c, c < m → tw (kc c) gs.length = 16 → (tc gs (kc c) gs.length : Int) = v → triedF gs m = v
  | 0 => ⟨hv, fun c h => by omega⟩
  | m + 1 => by
    have ih := triedF_eq hv hlow m
    refine ⟨?_, fun c hc h16 he => ?_⟩
    · simp only [triedF]
      split
      · rename_i h
        have := hlow m h
        split <;> omega
      · exact ih.1
    · simp only [triedF]
      by_cases e : c = m
      · subst e
        rw [if_pos h16, he]
        have := ih.1
        split <;> omega
      · have := ih.2 c (by omega) h16 he
        rw [this]
        split
        · rename_i h
          have := hlow m h
          rw [if_neg (by omega)]
        · rfl
theorem tried_all (hn : gs.length ≤ 5) (h2 : 2 ≤ gs.length) (hg : ∀ i, i < gs.length → 1 ≤ gs.getD i 0) (h7 : 7 ≤ lm) (h15 : lm ≤ 15) (h : Facts (triedL gs gs.length) lm o ls) (hv : dotd 0 (freqO (triedL gs gs.length) o) ls ≤ 1099511627776) :
    triedF gs (4 ^ gs.length) = dotd 0 (freqO (triedL gs gs.length) o) ls := by
  obtain ⟨c, h1, h3, h4⟩ := tried_is hn h2 hg h7 h15 h
  exact (triedF_eq hv (fun c hc => tried_low hn h2 hg (by omega) h15 h (kc_bd c) hc) (4 ^ gs.length)).2 c h1 h3 h4
end
end Go.Proofs.Ytdakocdfpdglfaa.Merge
