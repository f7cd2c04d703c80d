/- Frequencies of a sum, in plain Lean. -/
import Derived.Test.YtbjcdgcdnbnknaaFac
import Derived.Test.YtbjcdgcdnbnknaaHeapP
namespace Go.Proofs.Ytbjcdgcdnbnknaa.Norm
open Go.RowKit Go.Proofs.Ytbjcdgcdnbnknaa.Heap Go.Proofs.Ytbjcdgcdnbnknaa.Merge
theorem sum_set (v : Int) : ∀ (z : List Int) (c : Nat), c < z.length → (z.set c v).sum = z.sum - z.getD c 0 + v
  | [], _, h => by simp at h
  | x :: t, 0, _ => by simp; omega
  | x :: t, c + 1, h => by
    have := sum_set v t c (by simpa using h)
    simp only [List.set_cons_succ, List.sum_cons, List.getD_cons_succ, this]; omega
theorem sum_nn : ∀ (z : List Int), (∀ y ∈ z, 0 ≤ y) → 0 ≤ z.sum
  | [], _ => by simp
  | x :: t, h => by have := sum_nn t fun y hy => h y (by simp [hy]); have := h x (by simp); simp only [List.sum_cons]; omega
theorem sum_le {b : Int} : ∀ (z : List Int), (∀ y ∈ z, y ≤ b) → z.sum ≤ z.length * b
  | [], _ => by simp
  | x :: t, h => by
    have ih := sum_le (b := b) t fun y hy => h y (by simp [hy])
    have := h x (by simp)
    simp only [List.sum_cons, List.length_cons, Int.natCast_succ, Int.add_mul, Int.one_mul]; omega
theorem mem_le_sum : ∀ (z : List Int), (∀ y ∈ z, 0 ≤ y) → ∀ y ∈ z, y ≤ z.sum
  | [], _, _, h => by cases h
  | x :: t, h, y, hy => by
    have h1 := sum_nn t fun y hy => h y (by simp [hy])
    have h2 := h x (by simp)
    rcases List.mem_cons.1 hy with rfl | hy
    · simp only [List.sum_cons]; omega
    · have := mem_le_sum t (fun y hy => h y (by simp [hy])) y hy
      simp only [List.sum_cons]; omega
theorem pos_of_sum : ∀ (z : List Int), 0 < z.sum → ∃ y ∈ z, 0 < y
  | [], h => by simp at h
  | x :: t, h => by
    by_cases hx : 0 < x
    · exact ⟨x, by simp, hx⟩
    · obtain ⟨y, h1, h2⟩ := pos_of_sum t (by simp only [List.sum_cons] at h; omega)
      exact ⟨y, by simp [h1], h2⟩
/-- The first of the order. -/
def topI (z : List Int) : Nat := (ordF z z.length []).getD 0 0
theorem top_char {z : List Int} {x : Nat} (hx : x < z.length) (h0 : 0 < z.getD x 0) (hm : ∀ y, y < z.length → ltP ((y : Int), z.getD y 0) ((x : Int), z.getD x 0) = false) : topI z = x := by
  have hxo := (ord_mem z x).2 ⟨hx, h0⟩
  have hs := (ordF_ok z z.length (Nat.le_refl _)).2
  unfold topI
  have hml := ord_mem z
  generalize ordF z z.length [] = o at hxo hs hml
  cases o with
  | nil => cases hxo
  | cons a t =>
    rw [List.getD_cons_zero]
    rw [prO, List.map_cons, List.pairwise_cons] at hs
    rcases List.mem_cons.1 hxo with rfl | ht
    · rfl
    · have h1 := hs.1 ((x : Int), z.getD x 0) (List.mem_map.2 ⟨x, ht, rfl⟩)
      have h2 := hm a ((hml a).1 (by simp)).1
      have := ltP_ord.total _ _ h1 h2
      simp only [Prod.mk.injEq] at this
      omega
/-- What the first of the order is. -/
theorem top_spec {z : List Int} (h : ∃ y ∈ z, 0 < y) : topI z < z.length ∧ 0 < z.getD (topI z) 0 ∧ (∀ y, z.getD y 0 ≤ z.getD (topI z) 0) ∧ ordF z z.length [] ≠ [] := by
  obtain ⟨v, hv, hp⟩ := h
  obtain ⟨c, hc, rfl⟩ := mem_getD hv
  have hco := (ord_mem z c).2 ⟨hc, hp⟩
  have hs := (ordF_ok z z.length (Nat.le_refl _)).2
  unfold topI
  have hml := ord_mem z
  generalize ordF z z.length [] = o at hco hs hml
  cases o with
  | nil => cases hco
  | cons a t =>
    rw [List.getD_cons_zero]
    rw [prO, List.map_cons, List.pairwise_cons] at hs
    obtain ⟨h1, h2⟩ := (hml a).1 (by simp)
    refine ⟨h1, h2, fun y => ?_, by simp⟩
    by_cases hy : y ∈ a :: t
    · rcases List.mem_cons.1 hy with rfl | ht
      · exact Int.le_refl _
      · have := hs.1 ((y : Int), z.getD y 0) (List.mem_map.2 ⟨y, ht, rfl⟩)
        simp only [ltP, Bool.or_eq_false_iff, decide_eq_false_iff_not] at this
        omega
    · rw [hml] at hy
      by_cases hyl : y < z.length
      · omega
      · rw [List.getD_eq_getElem?_getD, List.getElem?_eq_none (by omega)]
        show (0 : Int) ≤ z.getD a 0
        omega
/-! ### The heap of all -/
def allFrom : List Int → Nat → List Pr
  | [], _ => []
  | x :: r, k => ((k : Int), x) :: allFrom r (k + 1)
theorem allFrom_append : ∀ (z y : List Int) (k : Nat), allFrom (z ++ y) k = allFrom z k ++ allFrom y (k + z.length)
  | [], _, _ => rfl
  | x :: r, y, k => by
    simp only [List.cons_append, allFrom, List.length_cons]
    rw [allFrom_append r y (k + 1), show k + 1 + r.length = k + (r.length + 1) from by omega]
theorem allFrom_length : ∀ (z : List Int) (k : Nat), (allFrom z k).length = z.length
  | [], _ => rfl
  | x :: r, k => by simp only [allFrom, List.length_cons, allFrom_length r (k + 1)]
theorem allFrom_mem : ∀ (z : List Int) (k : Nat) (p : Pr), p ∈ allFrom z k ↔ ∃ i, i < z.length ∧ p = (((k + i : Nat) : Int), z.getD i 0)
  | [], k, p => by simp [allFrom]
  | x :: r, k, p => by
    have ih := allFrom_mem r (k + 1) p
    simp only [allFrom, List.mem_cons, ih]
    constructor
    · rintro (rfl | ⟨i, h1, rfl⟩)
      · exact ⟨0, by simp, by simp⟩
      · exact ⟨i + 1, by simpa using h1, by simp; omega⟩
    · rintro ⟨i, h1, rfl⟩
      cases i with
      | zero => left; simp
      | succ i => right; exact ⟨i, by simpa using h1, by simp; omega⟩
theorem allFrom_set (v : Int) : ∀ (z : List Int) (k c : Nat), c < z.length → ∃ A B, allFrom z k = A ++ (((k + c : Nat) : Int), z.getD c 0) :: B ∧ allFrom (z.set c v) k = A ++ (((k + c : Nat) : Int), v) :: B
  | [], _, _, h => by simp at h
  | x :: r, k, 0, _ => ⟨[], allFrom r (k + 1), by simp [allFrom], by simp [allFrom]⟩
  | x :: r, k, c + 1, h => by
    obtain ⟨A, B, h1, h2⟩ := allFrom_set v r (k + 1) c (by simpa using h)
    refine ⟨((k : Int), x) :: A, B, ?_, ?_⟩
    · simp only [allFrom, h1, List.getD_cons_succ, List.cons_append]
      rw [show k + 1 + c = k + (c + 1) from by omega]
    · simp only [List.set_cons_succ, allFrom, h2, List.cons_append]
      rw [show k + 1 + c = k + (c + 1) from by omega]
structure HI (ps : List Pr) (z : List Int) : Prop where
  hp : Hp ltP ps ps.length
  perm : ps.Perm (allFrom z 0)
theorem HI.len {ps : List Pr} {z : List Int} (h : HI ps z) : ps.length = z.length := by rw [h.perm.length_eq, allFrom_length]
theorem HI.nil : HI [] [] := ⟨fun j _ hj => by simp at hj, List.Perm.refl _⟩
theorem HI.push {ps : List Pr} {z : List Int} (h : HI ps z) (n : Int) : HI (pushG ltP ps ((z.length : Int), n)) (z ++ [n]) := by
  have hp := push_ok ltP_ord ((z.length : Int), n) h.hp
  refine ⟨hp.1, hp.2.trans ?_⟩
  rw [allFrom_append]
  have := h.perm.append_right [((z.length : Int), n)]
  simpa [allFrom] using this
theorem HI.root {ps : List Pr} {z : List Int} (h : HI ps z) (hz : ∃ y ∈ z, 0 < y) : gt ps 0 = ((topI z : Int), z.getD (topI z) 0) := by
  obtain ⟨h1, h2, _⟩ := top_spec hz
  have hl := h.len
  have h0 : 0 < ps.length := by omega
  have hmem : gt ps 0 ∈ ps := by rw [gt_eq h0]; exact List.getElem_mem h0
  obtain ⟨x, hx, e⟩ := (allFrom_mem z 0 _).1 (h.perm.mem_iff.1 hmem)
  rw [Nat.zero_add] at e
  have hle : ∀ y, y < z.length → ltP ((y : Int), z.getD y 0) ((x : Int), z.getD x 0) = false := fun y hy => by
    have hm : ((y : Int), z.getD y 0) ∈ ps := h.perm.mem_iff.2 ((allFrom_mem z 0 _).2 ⟨y, hy, by simp⟩)
    obtain ⟨k, hk, ek⟩ := List.getElem_of_mem hm
    have := root_least ltP_ord h.hp k hk
    rw [gt_eq hk, ek, e] at this
    exact this
  have hx0 : 0 < z.getD x 0 := by
    have := hle (topI z) h1
    simp only [ltP, Bool.or_eq_false_iff, decide_eq_false_iff_not] at this
    omega
  rw [top_char hx hx0 hle, e]
def dec (z : List Int) : List Int := z.set (topI z) (z.getD (topI z) 0 - 1)
theorem dec_len (z : List Int) : (dec z).length = z.length := by simp [dec]
theorem dec_sum {z : List Int} (hz : ∃ y ∈ z, 0 < y) : (dec z).sum = z.sum - 1 := by
  rw [dec, sum_set _ _ _ (top_spec hz).1]; omega
theorem HI.step {ps : List Pr} {z : List Int} (h : HI ps z) (hz : ∃ y ∈ z, 0 < y) : HI (downG ltP (ps.set 0 ((topI z : Int), z.getD (topI z) 0 - 1)) 0 ps.length).1 (dec z) := by
  have hr := h.root hz
  have ht := (top_spec hz).1
  have hl := h.len
  have h0 : 0 < ps.length := by omega
  have hsl : (ps.set 0 ((topI z : Int), z.getD (topI z) 0 - 1)).length = ps.length := List.length_set
  have hg : ∀ k, 0 < k → gt (ps.set 0 ((topI z : Int), z.getD (topI z) 0 - 1)) k = gt ps k := fun k hk => by
    unfold gt
    rw [List.getD_eq_getElem?_getD, List.getElem?_set_ne (by omega), ← List.getD_eq_getElem?_getD]
  have hd := down_ok ltP_ord ps.length (ps.length - 0) 0 (ps.set 0 ((topI z : Int), z.getD (topI z) 0 - 1)) rfl h0 (by omega) (fun k hk hkl hne => by rw [hg k hk, hg _ (by omega)]; exact h.hp k hk hkl) (fun k _ _ _ h => by omega)
  have hpl := hd.2.1.length_eq
  refine ⟨by rw [hpl, hsl]; exact hd.1, hd.2.1.trans ?_⟩
  obtain ⟨A, B, e1, e2⟩ := allFrom_set (z.getD (topI z) 0 - 1) z 0 (topI z) ht
  rw [Nat.zero_add] at e1 e2
  have hp := h.perm
  cases ps with
  | nil => simp at h0
  | cons p t =>
    have hp0 : p = ((topI z : Int), z.getD (topI z) 0) := hr
    rw [e1, hp0] at hp
    have ht : t.Perm (A ++ B) := by
      have := hp.trans List.perm_middle
      exact (List.perm_cons _).1 this
    rw [List.set_cons_zero, dec, e2]
    exact (ht.cons _).trans List.perm_middle.symm
def takeF : Nat → List Int → List Int
  | 0, z => z
  | j + 1, z => takeF j (dec z)
theorem takeF_len : ∀ (j : Nat) (z : List Int), (takeF j z).length = z.length
  | 0, _ => rfl
  | j + 1, z => by rw [takeF, takeF_len j, dec_len]
def part (size all n : Int) : Int := if 0 < n then (if 1 < n * size / all then n * size / all else 1) else 0
def baseF (fs : List Int) (log : Nat) : List Int := fs.map (part ((2 ^ log : Nat) : Int) fs.sum)
def normF (fs : List Int) (log : Nat) : List Int :=
  if (baseF fs log).sum ≤ ((2 ^ log : Nat) : Int) then (baseF fs log).set (topI fs) ((baseF fs log).getD (topI fs) 0 + (((2 ^ log : Nat) : Int) - (baseF fs log).sum))
  else takeF ((baseF fs log).sum - ((2 ^ log : Nat) : Int)).toNat (baseF fs log)
theorem baseF_len (fs : List Int) (log : Nat) : (baseF fs log).length = fs.length := by simp [baseF]
theorem baseF_get {fs : List Int} {log i : Nat} (hi : i < fs.length) : (baseF fs log).getD i 0 = part ((2 ^ log : Nat) : Int) fs.sum (fs.getD i 0) := by
  rw [List.getD_eq_getElem?_getD, List.getElem?_eq_getElem (by rw [baseF_len]; exact hi), Option.getD_some, List.getD_eq_getElem?_getD, List.getElem?_eq_getElem hi, Option.getD_some]
  simp [baseF]
theorem part_bd {size all n : Int} (hs : 1 ≤ size) (hn : n ≤ all) (ha : 0 < all) : 0 ≤ part size all n ∧ part size all n ≤ size := by
  unfold part
  split
  · rename_i h
    have h1 : n * size / all ≤ size := by
      have h2 : n * size ≤ all * size := Int.mul_le_mul_of_nonneg_right hn (by omega)
      have h3 : n * size / all ≤ all * size / all := Int.ediv_le_ediv ha h2
      rwa [Int.mul_ediv_cancel_left _ (by omega)] at h3
    split <;> omega
  · omega
theorem part_mono {size all a b : Int} (hs : 0 ≤ size) (ha : 0 < all) (h : a ≤ b) : part size all a ≤ part size all b := by
  unfold part
  by_cases h1 : 0 < a
  · rw [if_pos h1, if_pos (show 0 < b by omega)]
    have h2 : a * size ≤ b * size := Int.mul_le_mul_of_nonneg_right h hs
    have h3 : a * size / all ≤ b * size / all := Int.ediv_le_ediv ha h2
    split <;> split <;> omega
  · rw [if_neg h1]
    split
    · split <;> omega
    · omega
/-- What holds on the way. -/
structure NF (fs z : List Int) : Prop where
  len : z.length = fs.length
  nn : ∀ i, 0 ≤ z.getD i 0
  pos : ∀ i, i < fs.length → (0 < z.getD i 0 ↔ 0 < fs.getD i 0)
  near : ∀ i j, i < fs.length → j < fs.length → fs.getD j 0 < fs.getD i 0 → z.getD j 0 ≤ z.getD i 0 + 1
theorem NF.mem {fs z : List Int} (h : NF fs z) : ∀ y ∈ z, 0 ≤ y := fun y hy => by obtain ⟨c, _, rfl⟩ := mem_getD hy; exact h.nn c
theorem NF.dec {fs z : List Int} (h : NF fs z) (hs : (fs.length : Int) < z.sum) : NF fs (Norm.dec z) := by
  have hz := pos_of_sum z (by omega)
  obtain ⟨h1, h2, h3, _⟩ := top_spec hz
  have h4 : 2 ≤ z.getD (topI z) 0 := by
    rcases Int.lt_or_le (z.getD (topI z) 0) 2 with hlt | hge
    · exfalso
      have := sum_le (b := 1) z fun y hy => by obtain ⟨c, _, rfl⟩ := mem_getD hy; have := h3 c; omega
      rw [h.len] at this; omega
    · exact hge
  have hg : ∀ i, (Norm.dec z).getD i 0 = if i = topI z then z.getD (topI z) 0 - 1 else z.getD i 0 := fun i => set_get h1 i
  refine ⟨by rw [dec_len]; exact h.len, fun i => ?_, fun i hi => ?_, fun i j hi hj hij => ?_⟩
  · rw [hg]; have := h.nn i; split <;> omega
  · rw [hg, ← h.pos i hi]
    split
    · rename_i e; rw [e]; omega
    · exact Iff.rfl
  · have hn := h.near i j hi hj hij
    rw [hg, hg]
    have := h3 j
    split
    · rename_i e
      rw [e] at hn this
      split
      · omega
      · omega
    · split
      · rename_i e; rw [e] at hn; omega
      · exact hn
theorem NF.take {fs : List Int} : ∀ (j : Nat) (z : List Int), NF fs z → (fs.length : Int) + j ≤ z.sum → NF fs (takeF j z) ∧ (takeF j z).sum = z.sum - j
  | 0, z, h, _ => ⟨h, by simp [takeF]⟩
  | j + 1, z, h, hs => by
    have hz := pos_of_sum z (by omega)
    have := NF.take j (Norm.dec z) (h.dec (by omega)) (by rw [dec_sum hz]; omega)
    rw [dec_sum hz] at this
    exact ⟨this.1, by rw [takeF, this.2]; omega⟩
section
variable {fs : List Int} {log : Nat}
theorem base_nf (hg : ∀ y ∈ fs, 0 ≤ y) (hs : 0 < fs.sum) : NF fs (baseF fs log) := by
  have hp : (1 : Int) ≤ ((2 ^ log : Nat) : Int) := by have := Nat.two_pow_pos log; omega
  have hle := mem_le_sum fs hg
  have gd : ∀ i, i < fs.length → fs.getD i 0 ∈ fs := fun i hi => by rw [List.getD_eq_getElem?_getD, List.getElem?_eq_getElem hi]; exact List.getElem_mem hi
  refine ⟨baseF_len fs log, fun i => ?_, fun i hi => ?_, fun i j hi hj hij => ?_⟩
  · by_cases hi : i < fs.length
    · rw [baseF_get hi]; exact (part_bd hp (hle _ (gd i hi)) hs).1
    · rw [List.getD_eq_getElem?_getD, List.getElem?_eq_none (by rw [baseF_len]; omega)]; simp
  · rw [baseF_get hi]
    unfold part
    split
    · rename_i h; split <;> omega
    · rename_i h; omega
  · rw [baseF_get hi, baseF_get hj]
    have := part_mono (by omega : (0 : Int) ≤ ((2 ^ log : Nat) : Int)) hs (Int.le_of_lt hij)
    omega
/-- What holds of what is normed. -/
theorem norm_nf (hl : fs.length = 65) (hg : ∀ y ∈ fs, 0 ≤ y) (hs : 0 < fs.sum) (h7 : 7 ≤ log) : NF fs (normF fs log) ∧ (normF fs log).sum = ((2 ^ log : Nat) : Int) := by
  have hb := base_nf (log := log) hg hs
  have h128 : 2 ^ 7 ≤ 2 ^ log := Nat.pow_le_pow_right (by omega) h7
  have hbl := baseF_len fs log
  have hfz := pos_of_sum fs hs
  obtain ⟨t1, t2, t3, _⟩ := top_spec hfz
  unfold normF
  split
  · rename_i hle
    have htl : topI fs < (baseF fs log).length := by omega
    have hgt : ∀ v i, ((baseF fs log).set (topI fs) v).getD i 0 = if i = topI fs then v else (baseF fs log).getD i 0 := fun v i => set_get htl i
    have hn := hb.nn (topI fs)
    refine ⟨⟨by rw [List.length_set]; exact hbl, fun i => ?_, fun i hi => ?_, fun i j hi hj hij => ?_⟩, ?_⟩
    · rw [hgt]; have := hb.nn i; split <;> omega
    · rw [hgt]
      have hp := hb.pos i hi
      split
      · rename_i e; rw [e] at hp ⊢; omega
      · exact hp
    · rw [hgt, hgt]
      have hn := hb.near i j hi hj hij
      split
      · rename_i e
        have := t3 i
        rw [e] at hij; omega
      · split
        · rename_i e; rw [e] at hn; omega
        · exact hn
    · rw [sum_set _ _ _ htl]; omega
  · rename_i hlt
    have := NF.take ((baseF fs log).sum - ((2 ^ log : Nat) : Int)).toNat (baseF fs log) hb (by omega)
    exact ⟨this.1, by rw [this.2]; omega⟩
end
end Go.Proofs.Ytbjcdgcdnbnknaa.Norm
