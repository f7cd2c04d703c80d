/- What the lengths of frequencies are, in plain Lean. -/
import Derived.Test.YtdakocdfpdglfaaLen
import Derived.Test.YtdakocdfpdglfaaCost
namespace Go.Proofs.Ytdakocdfpdglfaa.Merge
open Go.RowKit Go.Proofs.Ytdakocdfpdglfaa.Heap
/-! ### The order -/
theorem posFrom_mem : ∀ (fs : List Int) (k : Nat) (p : Pr), p ∈ posFrom fs k ↔ ∃ i, i < fs.length ∧ p = (((k + i : Nat) : Int), fs.getD i 0) ∧ 0 < fs.getD i 0
  | [], k, p => by simp [posFrom]
  | x :: r, k, p => by
    have ih := posFrom_mem r (k + 1) p
    have e : p ∈ posFrom (x :: r) k ↔ (p = ((k : Int), x) ∧ 0 < x) ∨ p ∈ posFrom r (k + 1) := by
      simp only [posFrom]
      split
      · rename_i h; simp [h]
      · rename_i h; simp [h]
    rw [e, ih]
    constructor
    · rintro (⟨rfl, h⟩ | ⟨i, h1, rfl, h2⟩)
      · exact ⟨0, by simp, by simp, by simpa using h⟩
      · exact ⟨i + 1, by simpa using h1, by simp; omega, by simpa using h2⟩
    · rintro ⟨i, h1, rfl, h2⟩
      cases i with
      | zero => left; exact ⟨by simp, by simpa using h2⟩
      | succ i => right; exact ⟨i, by simpa using h1, by simp; omega, by simpa using h2⟩
theorem posFrom_nodup : ∀ (fs : List Int) (k : Nat), ((posFrom fs k).map (·.1)).Nodup
  | [], k => by simp [posFrom]
  | x :: r, k => by
    have ih := posFrom_nodup r (k + 1)
    simp only [posFrom]
    split
    · rw [List.map_cons, List.nodup_cons]
      refine ⟨fun h => ?_, ih⟩
      obtain ⟨p, hp, e⟩ := List.mem_map.1 h
      obtain ⟨i, _, rfl, _⟩ := (posFrom_mem r (k + 1) p).1 hp
      simp only at e; omega
    · exact ih
theorem ord_perm (fs : List Int) : (prO fs (ordF fs fs.length [])).Perm (posFrom fs 0) := by
  have := (ordF_ok fs fs.length (Nat.le_refl _)).1
  rwa [List.take_length] at this
theorem ord_nodup (fs : List Int) : (ordF fs fs.length []).Nodup := by
  have h := ((ord_perm fs).map (·.1)).nodup_iff.2 (posFrom_nodup fs 0)
  rw [prO, List.map_map] at h
  exact List.Pairwise.of_map (fun (x : Nat) => ((x : Int))) (fun a b hne e => hne (by rw [e])) h
theorem ord_mem (fs : List Int) (x : Nat) : x ∈ ordF fs fs.length [] ↔ x < fs.length ∧ 0 < fs.getD x 0 := by
  have h : ∀ p, p ∈ prO fs (ordF fs fs.length []) ↔ p ∈ posFrom fs 0 := fun p => (ord_perm fs).mem_iff
  constructor
  · intro hx
    have hp : ((x : Int), fs.getD x 0) ∈ prO fs (ordF fs fs.length []) := by simp only [prO, List.mem_map]; exact ⟨x, hx, rfl⟩
    obtain ⟨i, h1, e, h2⟩ := (posFrom_mem fs 0 _).1 ((h _).1 hp)
    simp only [Prod.mk.injEq] at e
    obtain rfl : x = i := by omega
    exact ⟨h1, h2⟩
  · rintro ⟨h1, h2⟩
    have := (h ((x : Int), fs.getD x 0)).2 ((posFrom_mem fs 0 _).2 ⟨x, h1, by simp, h2⟩)
    simp only [prO, List.mem_map, Prod.mk.injEq] at this
    obtain ⟨y, hy, e, _⟩ := this
    obtain rfl : y = x := by omega
    exact hy
theorem ord_down (fs : List Int) : (freqO fs (ordF fs fs.length [])).Pairwise (fun a b => b ≤ a) := by
  have h := (ordF_ok fs fs.length (Nat.le_refl _)).2
  rw [prO, List.pairwise_map] at h
  rw [freqO, List.pairwise_map]
  refine h.imp fun {a b} hab => ?_
  simp only [ltP, Bool.or_eq_false_iff, decide_eq_false_iff_not] at hab
  omega
/-! ### Lengths at their places -/
theorem place_len : ∀ (o ls : List Nat) (z : List Int), (place o ls z).length = z.length
  | [], _, _ => rfl
  | _ :: _, [], _ => rfl
  | x :: o, y :: ls, z => by rw [place_cons, place_len o ls]; simp
theorem place_out : ∀ (o ls : List Nat) (z : List Int) (c : Nat), c ∉ o → (place o ls z).getD c 0 = z.getD c 0
  | [], _, _, _, _ => rfl
  | _ :: _, [], _, _, _ => rfl
  | x :: o, y :: ls, z, c, h => by
    rw [List.mem_cons, not_or] at h
    rw [place_cons, place_out o ls _ c h.2, List.getD_eq_getElem?_getD, List.getElem?_set_ne (Ne.symm h.1), ← List.getD_eq_getElem?_getD]
theorem place_get : ∀ (o ls : List Nat) (z : List Int) (j : Nat) (h1 : j < o.length) (h2 : j < ls.length), o.Nodup → o[j] < z.length → (place o ls z).getD o[j] 0 = (ls[j] : Int)
  | [], _, _, _, h, _, _, _ => by simp at h
  | _ :: _, [], _, _, _, h, _, _ => by simp at h
  | x :: o, y :: ls, z, 0, _, _, hn, hz => by
    rw [List.nodup_cons] at hn
    simp only [List.getElem_cons_zero] at hz ⊢
    rw [place_cons, place_out o ls _ x hn.1, List.getD_eq_getElem?_getD, List.getElem?_set_self hz]; rfl
  | x :: o, y :: ls, z, j + 1, h1, h2, hn, hz => by
    rw [List.nodup_cons] at hn
    simp only [List.getElem_cons_succ] at hz ⊢
    rw [place_cons]
    exact place_get o ls _ j (by simpa using h1) (by simpa using h2) hn.2 (by simpa using hz)
/-! ### Sums over places -/
def wsum (W : Nat → Int → Int) : Nat → List Int → Int
  | _, [] => 0
  | k, x :: t => W k x + wsum W (k + 1) t
def psum (W : Nat → Int → Int) : List Nat → List Nat → Int
  | x :: o, y :: ls => W x y + psum W o ls
  | _, _ => 0
theorem wsum_set (W : Nat → Int → Int) (y : Int) : ∀ (z : List Int) (k c : Nat), c < z.length → wsum W k (z.set c y) = wsum W k z - W (k + c) (z.getD c 0) + W (k + c) y
  | [], _, _, h => by simp at h
  | x :: t, k, 0, _ => by simp [wsum]; omega
  | x :: t, k, c + 1, h => by
    have := wsum_set W y t (k + 1) c (by simpa using h)
    simp only [List.set_cons_succ, wsum, List.getD_cons_succ, this]
    rw [show k + 1 + c = k + (c + 1) from by omega]; omega
theorem wsum_place (W : Nat → Int → Int) (h0 : ∀ c, W c 0 = 0) : ∀ (o ls : List Nat) (z : List Int), o.Nodup → (∀ x ∈ o, x < z.length ∧ z.getD x 0 = 0) → wsum W 0 (place o ls z) = wsum W 0 z + psum W o ls
  | [], _, z, _, _ => by simp [place_nil, psum]
  | _ :: _, [], z, _, _ => by simp [place, psum]
  | x :: o, y :: ls, z, hn, hz => by
    rw [List.nodup_cons] at hn
    have hx := hz x (by simp)
    rw [place_cons, wsum_place W h0 o ls _ hn.2 (fun x' hx' => ?_), wsum_set W _ z 0 x hx.1, hx.2, h0, Nat.zero_add]
    · simp only [psum]; omega
    · have hne : x ≠ x' := fun e => hn.1 (e ▸ hx')
      have := hz x' (by simp [hx'])
      rw [List.length_set, List.getD_eq_getElem?_getD, List.getElem?_set_ne hne, ← List.getD_eq_getElem?_getD]
      exact this
theorem wsum_zero (W : Nat → Int → Int) (h0 : ∀ c, W c 0 = 0) : ∀ (m k : Nat), wsum W k (List.replicate m 0) = 0
  | 0, _ => rfl
  | m + 1, k => by rw [List.replicate_succ, wsum, h0, wsum_zero W h0 m]; rfl
theorem zeros_getD (m c : Nat) : (List.replicate m (0 : Int)).getD c 0 = 0 := by
  rw [List.getD_eq_getElem?_getD, List.getElem?_replicate]; split <;> rfl
theorem kraft_w : ∀ (z : List Int) (k : Nat), kraft z = wsum (fun _ v => weight v) k z
  | [], _ => rfl
  | x :: t, k => by rw [kraft_cons, wsum, kraft_w t (k + 1)]
theorem many_w : ∀ (z : List Int) (k : Nat), (many z : Int) = wsum (fun _ v => if 0 < v then 1 else 0) k z
  | [], _ => rfl
  | x :: t, k => by rw [many_cons, wsum, ← many_w t (k + 1)]; split <;> omega
theorem psum_weigh : ∀ (o ls : List Nat), o.length = ls.length → (∀ y ∈ ls, 1 ≤ y) → psum (fun _ v => weight v) o ls = (weigh ls : Int)
  | [], [], _, _ => rfl
  | x :: o, y :: ls, h, hy => by
    have := psum_weigh o ls (by simpa using h) (fun y' h' => hy y' (by simp [h']))
    have hp := hy y (by simp)
    simp only [psum]
    rw [this, weigh_cons]
    unfold weight
    rw [if_pos (by omega), Int.toNat_natCast]
    omega
theorem psum_many : ∀ (o ls : List Nat), o.length = ls.length → (∀ y ∈ ls, 1 ≤ y) → psum (fun _ v => if 0 < v then 1 else 0) o ls = (ls.length : Int)
  | [], [], _, _ => rfl
  | x :: o, y :: ls, h, hy => by
    have := psum_many o ls (by simpa using h) (fun y' h' => hy y' (by simp [h']))
    have hp := hy y (by simp)
    simp only [psum]
    rw [this, if_pos (by omega), List.length_cons]
    omega
theorem psum_dot (fs : List Int) : ∀ (o ls : List Nat), psum (fun c v => fs.getD c 0 * v) o ls = dotd 0 (freqO fs o) ls
  | [], _ => by simp [psum, freqO, dotd]
  | _ :: _, [] => by simp [psum, freqO, dotd]
  | x :: o, y :: ls => by
    have := psum_dot fs o ls
    simp only [psum, this, freqO, List.map_cons, dotd, Int.sub_zero]
/-- Costs do not run over. -/
theorem costW_eq (fs : List Int) : ∀ (gs ls : List Int) (k : Nat) (acc : Int), gs.length = ls.length → (∀ i, i < gs.length → gs.getD i 0 = fs.getD (k + i) 0) → (∀ z ∈ gs, 0 ≤ z ∧ z ≤ 16777216) → (∀ z ∈ ls, 0 ≤ z ∧ z ≤ 16) → 0 ≤ acc → acc + gs.length * 268435456 ≤ 9000000000000 →
    (gs.zip ls).foldl costStep acc = acc + wsum (fun c v => fs.getD c 0 * v) k ls
  | [], [], _, _, _, _, _, _, _, _ => by simp [wsum]
  | g :: gs, l :: ls, k, acc, hl, hg, h1, h2, h3, h4 => by
    have hg0 := hg 0 (by simp)
    simp only [List.getD_cons_zero, Nat.add_zero] at hg0
    have hgb := h1 g (by simp)
    have hlb := h2 l (by simp)
    have hp0 : 0 ≤ g * l := Int.mul_nonneg hgb.1 hlb.1
    have hp1 : g * l ≤ 16777216 * 16 := Int.mul_le_mul hgb.2 hlb.2 hlb.1 (by omega)
    simp only [List.length_cons] at h4
    have e : ((gs.length + 1 : Nat) : Int) * 268435456 = gs.length * 268435456 + 268435456 := by omega
    have hnn : (0 : Int) ≤ gs.length * 268435456 := by omega
    rw [List.zip_cons_cons, List.foldl_cons, wsum, ← hg0]
    have es : costStep acc (g, l) = acc + g * l := by
      unfold costStep
      rw [Go.IntWalk.wrap64_in (g * l) (by omega), Go.IntWalk.wrap64_in _ (by omega)]
    rw [es, costW_eq fs gs ls (k + 1) (acc + g * l) (by simpa using hl) (fun i hi => ?_) (fun z hz => h1 z (by simp [hz])) (fun z hz => h2 z (by simp [hz])) (by omega) (by omega)]
    · omega
    · have := hg (i + 1) (by simpa using hi)
      rw [List.getD_cons_succ] at this
      rw [this, show k + (i + 1) = k + 1 + i from by omega]
theorem costW_sum {fs ls : List Int} (h : fs.length = ls.length) (hl : fs.length ≤ 100) (h1 : ∀ z ∈ fs, 0 ≤ z ∧ z ≤ 16777216) (h2 : ∀ z ∈ ls, 0 ≤ z ∧ z ≤ 16) : costW fs ls = wsum (fun c v => fs.getD c 0 * v) 0 ls := by
  have := costW_eq fs fs ls 0 0 h (fun i _ => by rw [Nat.zero_add]) h1 h2 (Int.le_refl _) (by omega)
  unfold costW
  rw [this]; omega
/-! ### All of it -/
structure Facts (fs : List Int) (lm : Nat) (o ls : List Nat) : Prop where
  eq : lensOf fs lm = place o ls (List.replicate 65 0)
  ord : o = ordF fs fs.length []
  nodup : o.Nodup
  mem : ∀ x, x ∈ o ↔ x < 65 ∧ 0 < fs.getD x 0
  down : (freqO fs o).Pairwise (fun a b => b ≤ a)
  len : ls.length = o.length
  bd : ∀ y ∈ ls, 1 ≤ y ∧ y ≤ lm
  up : ls.Pairwise (· ≤ ·)
  one : o.length = 1 → ls = [1]
  okS : OkS (sumsF (freqO fs o)) o.length 4294967296
  two : 2 ≤ o.length → weigh ls = 32768 ∧ (bst (sumsF (freqO fs o)) o.length lm 0 2).2.2.1 = true ∧ (bst (sumsF (freqO fs o)) o.length lm 0 2).1 = dotd 0 (freqO fs o) ls ∧ ls = lensF (sumsF (freqO fs o)) o.length lm lm 0 2
theorem facts {fs : List Int} {lm : Nat} (hfl : fs.length = 65) (hg : ∀ z ∈ fs, 0 ≤ z ∧ z ≤ 16777216) (h7 : 7 ≤ lm) (h15 : lm ≤ 15) : ∃ o ls, Facts fs lm o ls := by
  have hlo := ordF_lt fs fs.length
  have hnd := ord_nodup fs
  have hmem := ord_mem fs
  have hdown := ord_down fs
  have he : lensOf fs lm = lensO fs lm (ordF fs fs.length []) := rfl
  refine ⟨ordF fs fs.length [], ?_⟩
  have hord : ordF fs fs.length [] = ordF fs fs.length [] := rfl
  generalize ho : ordF fs fs.length [] = o at hlo hnd hmem hdown he hord
  have hFl : (freqO fs o).length = o.length := by simp [freqO]
  have hFg : ∀ z ∈ freqO fs o, 0 ≤ z ∧ z ≤ 16777216 := by
    intro z hz
    simp only [freqO, List.mem_map] at hz
    obtain ⟨x, hx, rfl⟩ := hz
    have hxl := hlo.1 x hx
    rw [List.getD_eq_getElem?_getD, List.getElem?_eq_getElem hxl, Option.getD_some]
    exact hg _ (List.getElem_mem hxl)
  have hS := Merge.okS (fs := freqO fs o) (by have := hlo.2; omega) hFg
  rw [hFl] at hS
  rw [hfl] at hmem
  by_cases h2 : 2 ≤ o.length
  · have hfe : (bst (sumsF (freqO fs o)) o.length lm 0 2).2.2.1 = true := by
      have := feas hS (lm - 1) 0 2 (by omega) (by omega) (by omega) (by omega) (by
        have : 2 ^ 6 ≤ 2 ^ (lm - 1) := Nat.pow_le_pow_right (by omega) (by omega)
        have := hlo.2
        omega)
      rwa [show lm - 1 + 1 = lm from by omega] at this
    have hc := bst_cost (lim := lm) hFl hS lm 0 2 (by omega) (by omega) (by omega) hfe
    rw [Int.sub_self, List.drop_zero] at hc
    have hw := lensF_weigh (lim := lm) hS h15 lm 0 2 (Nat.le_refl _) hfe
    rw [show 2 * 2 ^ (15 - (lm + 1 - lm)) = 32768 from by rw [show lm + 1 - lm = 1 from by omega]] at hw
    exact ⟨lensF (sumsF (freqO fs o)) o.length lm lm 0 2, by rw [he, lensO_two fs lm h2], ho.symm, hnd, hmem, hdown, by rw [lensF_len hS lm 0 2 (by omega) (by omega) hfe]; omega,
      fun y hy => by have := lensF_bd hS lm 0 2 (by omega) (Nat.le_refl _) hfe y hy; omega, lensF_up hS lm 0 2 (by omega) (Nat.le_refl _) hfe, fun h => by omega, hS, fun _ => ⟨hw, hfe, hc, rfl⟩⟩
  · match o, h2 with
    | [], _ => exact ⟨[], by rw [he]; rfl, ho.symm, hnd, hmem, hdown, rfl, by simp, List.Pairwise.nil, fun h => by simp at h, hS, fun h => by simp at h⟩
    | [x], _ => exact ⟨[1], by rw [he]; rfl, ho.symm, hnd, hmem, hdown, rfl, fun y hy => by simp at hy; omega, by simp, fun _ => rfl, hS, fun h => by simp at h⟩
    | _ :: _ :: _, h => exact absurd (by simp) h
section
variable {fs : List Int} {lm : Nat} {o ls : List Nat}
theorem Facts.length (h : Facts fs lm o ls) : (lensOf fs lm).length = 65 := by rw [h.eq, place_len]; simp
theorem Facts.at_ (h : Facts fs lm o ls) {j : Nat} (hj : j < o.length) : (lensOf fs lm).getD o[j] 0 = ((ls[j]'(by rw [h.len]; exact hj) : Nat) : Int) := by
  rw [h.eq]
  exact place_get o ls _ j hj (by rw [h.len]; exact hj) h.nodup (by have := ((h.mem o[j]).1 (List.getElem_mem hj)).1; simpa using this)
theorem Facts.out (h : Facts fs lm o ls) {c : Nat} (hc : c ∉ o) : (lensOf fs lm).getD c 0 = 0 := by
  rw [h.eq, place_out o ls _ c hc, zeros_getD]
theorem Facts.val (h : Facts fs lm o ls) (c : Nat) : ((lensOf fs lm).getD c 0 = 0 ∧ c ∉ o) ∨ ∃ j, ∃ hj : j < o.length, c = o[j] ∧ (lensOf fs lm).getD c 0 = ((ls[j]'(by rw [h.len]; exact hj) : Nat) : Int) := by
  by_cases hc : c ∈ o
  · right
    obtain ⟨j, hj, e⟩ := List.getElem_of_mem hc
    exact ⟨j, hj, e.symm, by rw [← e]; exact h.at_ hj⟩
  · exact .inl ⟨h.out hc, hc⟩
theorem Facts.range (h : Facts fs lm o ls) (c : Nat) : 0 ≤ (lensOf fs lm).getD c 0 ∧ (lensOf fs lm).getD c 0 ≤ lm := by
  rcases h.val c with ⟨e, _⟩ | ⟨j, hj, _, e⟩
  · omega
  · have := h.bd _ (List.getElem_mem (by rw [h.len]; exact hj : j < ls.length)); omega
theorem Facts.pos (h : Facts fs lm o ls) {c : Nat} (hc : c < 65) : 0 < (lensOf fs lm).getD c 0 ↔ 0 < fs.getD c 0 := by
  rcases h.val c with ⟨e, hn⟩ | ⟨j, hj, ej, e⟩
  · rw [h.mem] at hn; omega
  · have h1 := h.bd _ (List.getElem_mem (by rw [h.len]; exact hj : j < ls.length))
    have h2 := ((h.mem o[j]).1 (List.getElem_mem hj)).2
    rw [← ej] at h2; omega
theorem Facts.anti (h : Facts fs lm o ls) {a b : Nat} (hb : b < 65) (h1 : fs.getD b 0 < fs.getD a 0) (h2 : 0 < fs.getD b 0) : (lensOf fs lm).getD a 0 ≤ (lensOf fs lm).getD b 0 := by
  rcases h.val a with ⟨e, _⟩ | ⟨i, hi, ei, e⟩
  · have := h.range b; omega
  rcases h.val b with ⟨_, hn⟩ | ⟨j, hj, ej, e'⟩
  · rw [h.mem] at hn; omega
  rw [e, e']
  have hil : i < ls.length := by rw [h.len]; exact hi
  have hjl : j < ls.length := by rw [h.len]; exact hj
  rcases Nat.lt_trichotomy i j with hlt | heq | hgt
  · have := List.pairwise_iff_getElem.1 h.up i j hil hjl hlt; omega
  · subst heq; exact Int.le_refl _
  · have := List.pairwise_iff_getElem.1 h.down j i (by simpa [freqO] using hj) (by simpa [freqO] using hi) hgt
    simp only [freqO, List.getElem_map] at this
    rw [← ei, ← ej] at this; omega
theorem mem_getD {z : List Int} {y : Int} (h : y ∈ z) : ∃ c, c < z.length ∧ y = z.getD c 0 := by
  obtain ⟨c, hc, e⟩ := List.getElem_of_mem h
  exact ⟨c, hc, by rw [List.getD_eq_getElem?_getD, List.getElem?_eq_getElem hc, Option.getD_some]; exact e.symm⟩
theorem Facts.zero (h : Facts fs lm o ls) : ∀ x ∈ o, x < (List.replicate 65 (0 : Int)).length ∧ (List.replicate 65 (0 : Int)).getD x 0 = 0 := fun x hx => by
  refine ⟨?_, zeros_getD _ _⟩
  rw [List.length_replicate]; exact ((h.mem x).1 hx).1
theorem Facts.wsum (h : Facts fs lm o ls) (W : Nat → Int → Int) (h0 : ∀ c, W c 0 = 0) : Merge.wsum W 0 (lensOf fs lm) = psum W o ls := by
  rw [h.eq, wsum_place W h0 o ls _ h.nodup h.zero, wsum_zero W h0]; omega
theorem Facts.kraft (h : Facts fs lm o ls) : Merge.kraft (lensOf fs lm) = (weigh ls : Int) := by
  rw [kraft_w _ 0, h.wsum _ (fun c => by unfold weight; rfl), psum_weigh o ls h.len.symm fun y hy => (h.bd y hy).1]
theorem Facts.many (h : Facts fs lm o ls) : (Merge.many (lensOf fs lm) : Int) = o.length := by
  rw [many_w _ 0, h.wsum _ (fun c => rfl), psum_many o ls h.len.symm fun y hy => (h.bd y hy).1, h.len]
theorem Facts.may (h : Facts fs lm o ls) (h15 : lm ≤ 15) : mayL (lensOf fs lm) = true := by
  rw [mayL_good (by rw [h.length]; rfl) ?_]
  · have hm := h.many
    have hk := h.kraft
    rcases Nat.lt_or_ge o.length 2 with h2 | h2
    · rcases (by omega : o.length = 0 ∨ o.length = 1) with h0 | h1
      · rw [show Merge.many (lensOf fs lm) = 0 from by omega]; rfl
      · rw [h.one h1] at hk
        rw [show Merge.many (lensOf fs lm) = 1 from by omega, hk]; rfl
    · rw [(h.two h2).1] at hk
      rw [hk]; simp
  · rw [List.any_eq_false]
    intro y hy
    obtain ⟨c, _, rfl⟩ := mem_getD hy
    have := h.range c
    unfold badL
    rw [decide_eq_false (by omega), decide_eq_false (by omega)]
    exact Bool.false_ne_true
theorem Facts.cost (h : Facts fs lm o ls) (h15 : lm ≤ 15) (hfl : fs.length = 65) (hg : ∀ z ∈ fs, 0 ≤ z ∧ z ≤ 16777216) : costW fs (lensOf fs lm) = dotd 0 (freqO fs o) ls := by
  rw [costW_sum (by rw [hfl, h.length]) (by omega) hg ?_, h.wsum _ (fun c => Int.mul_zero _), psum_dot]
  intro z hz
  obtain ⟨c, _, rfl⟩ := mem_getD hz
  have := h.range c; omega
end
end Go.Proofs.Ytdakocdfpdglfaa.Merge
