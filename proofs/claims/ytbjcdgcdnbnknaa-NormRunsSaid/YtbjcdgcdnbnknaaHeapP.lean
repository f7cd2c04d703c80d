/- Heaps of pairs, in plain Lean. -/
import Derived.KernelRfl
namespace Go.Proofs.Ytbjcdgcdnbnknaa.Heap
abbrev Pr := Int × Int
def gt (ps : List Pr) (i : Nat) : Pr := ps.getD i (0, 0)
theorem gt_eq {ps : List Pr} {i : Nat} (h : i < ps.length) : gt ps i = ps[i] := by simp [gt, h]
def swp (ps : List Pr) (i j : Nat) : List Pr := (ps.set i (gt ps j)).set j (gt ps i)
theorem swp_len (ps : List Pr) (i j : Nat) : (swp ps i j).length = ps.length := by simp [swp]
theorem swp_perm {ps : List Pr} {i j : Nat} (hi : i < ps.length) (hj : j < ps.length) : (swp ps i j).Perm ps := by
  unfold swp; rw [gt_eq hi, gt_eq hj]; exact List.set_set_perm hi hj
theorem gt_swp {ps : List Pr} {i j : Nat} (hi : i < ps.length) (hj : j < ps.length) (k : Nat) : gt (swp ps i j) k = if k = j then gt ps i else if k = i then gt ps j else gt ps k := by
  unfold swp gt
  simp only [List.getD_eq_getElem?_getD, List.getElem?_set, List.length_set]
  by_cases h1 : j = k
  · subst h1; simp [hj]
  · rw [if_neg h1, if_neg (Ne.symm h1)]
    by_cases h2 : i = k
    · subst h2; simp [hi]
    · rw [if_neg h2, if_neg (Ne.symm h2)]
/-- A strict order. -/
structure Ord (lt : Pr → Pr → Bool) : Prop where
  asymm : ∀ a b, lt a b = true → lt b a = false
  trans : ∀ a b c, lt b a = false → lt c b = false → lt c a = false
  total : ∀ a b, lt a b = false → lt b a = false → a = b
section
variable (lt : Pr → Pr → Bool)
def upG (ps : List Pr) (j : Nat) : List Pr :=
  if j = 0 then ps else if lt (gt ps j) (gt ps ((j - 1) / 2)) then upG (swp ps ((j - 1) / 2) j) ((j - 1) / 2) else ps
termination_by j
decreasing_by omega
theorem upG_len (ps : List Pr) (j : Nat) : (upG lt ps j).length = ps.length := by
  induction j using Nat.strongRecOn generalizing ps with
  | _ j ih =>
    unfold upG
    split
    · rfl
    · split
      · rw [ih _ (by omega), swp_len]
      · rfl
/-- The greater of an element's children, where it has one. -/
def kid (ps : List Pr) (i n : Nat) : Nat := if 2 * i + 2 < n ∧ lt (gt ps (2 * i + 2)) (gt ps (2 * i + 1)) = true then 2 * i + 2 else 2 * i + 1
theorem kid_gt (ps : List Pr) (i n : Nat) : i < kid lt ps i n := by unfold kid; split <;> omega
theorem kid_lt (ps : List Pr) {i n : Nat} (h : 2 * i + 1 < n) : kid lt ps i n < n := by unfold kid; split <;> omega
def downG (ps : List Pr) (i n : Nat) : List Pr × Nat :=
  if _h : 2 * i + 1 < n then if lt (gt ps (kid lt ps i n)) (gt ps i) then downG (swp ps i (kid lt ps i n)) (kid lt ps i n) n else (ps, i) else (ps, i)
termination_by n - i
decreasing_by have := kid_gt lt ps i n; have := kid_lt lt ps _h; omega
theorem downG_len (ps : List Pr) (i n : Nat) : (downG lt ps i n).1.length = ps.length := by
  generalize hk : n - i = k
  induction k using Nat.strongRecOn generalizing ps i with
  | _ k ih =>
    unfold downG
    split
    · rename_i h
      split
      · have h1 := kid_gt lt ps i n
        have h2 := kid_lt lt ps h
        rw [ih (n - kid lt ps i n) (by omega) _ _ rfl, swp_len]
      · rfl
    · rfl
def pushG (ps : List Pr) (q : Pr) : List Pr := upG lt (ps ++ [q]) ps.length
theorem pushG_len (ps : List Pr) (q : Pr) : (pushG lt ps q).length = ps.length + 1 := by unfold pushG; rw [upG_len]; simp
/-- What is left, and what comes out. -/
def popG (ps : List Pr) : List Pr := (downG lt (swp ps 0 (ps.length - 1)) 0 (ps.length - 1)).1
theorem popG_len (ps : List Pr) : (popG lt ps).length = ps.length := by unfold popG; rw [downG_len, swp_len]
def pushAll (fs : List Int) (k : Nat) (ps : List Pr) : List Pr :=
  match fs with
  | [] => ps
  | n :: r => pushAll r (k + 1) (if 0 < n then pushG lt ps ((k : Int), n) else ps)
def popAll : Nat → List Pr → List Pr
  | 0, _ => []
  | k + 1, ps => gt (popG lt ps) (ps.length - 1) :: popAll k ((popG lt ps).take (ps.length - 1))
variable {lt}
/-- A heap of n. -/
def Hp (lt : Pr → Pr → Bool) (ps : List Pr) (n : Nat) : Prop := ∀ j, 0 < j → j < n → lt (gt ps j) (gt ps ((j - 1) / 2)) = false
theorem up_ok (hO : Ord lt) : ∀ (j : Nat) (ps : List Pr), j < ps.length → (∀ k, 0 < k → k < ps.length → k ≠ j → lt (gt ps k) (gt ps ((k - 1) / 2)) = false) → (∀ k, 0 < k → k < ps.length → (k - 1) / 2 = j → 0 < j → lt (gt ps k) (gt ps ((j - 1) / 2)) = false) →
    Hp lt (upG lt ps j) ps.length ∧ (upG lt ps j).Perm ps := by
  intro j
  induction j using Nat.strongRecOn with
  | _ j ih =>
    intro ps hj h1 h2
    unfold upG
    split
    · rename_i h0
      exact ⟨fun k hk hl => h1 k hk hl (by omega), List.Perm.refl _⟩
    · rename_i h0
      split
      · rename_i hlt
        have hp : (j - 1) / 2 < ps.length := by omega
        have hpj : (j - 1) / 2 < j := by omega
        have hlen := swp_len ps ((j - 1) / 2) j
        have key := ih ((j - 1) / 2) hpj (swp ps ((j - 1) / 2) j) (by rw [hlen]; exact hp) ?_ ?_
        · rw [hlen] at key
          exact ⟨key.1, key.2.trans (swp_perm hp hj)⟩
        · intro k hk hkl hkp
          rw [hlen] at hkl
          rw [gt_swp hp hj, gt_swp hp hj]
          by_cases e1 : k = j
          · subst e1
            rw [if_pos rfl, if_neg (by omega), if_pos rfl]
            exact hO.asymm _ _ hlt
          · rw [if_neg e1, if_neg hkp]
            by_cases e2 : (k - 1) / 2 = j
            · rw [if_pos e2]
              exact h2 k hk hkl e2 (by omega)
            · rw [if_neg e2]
              by_cases e3 : (k - 1) / 2 = (j - 1) / 2
              · rw [if_pos e3]
                have a := h1 k hk hkl e1
                rw [e3] at a
                exact hO.trans _ _ _ (hO.asymm _ _ hlt) a
              · rw [if_neg e3]
                exact h1 k hk hkl e1
        · intro k hk hkl hkp h00
          rw [hlen] at hkl
          rw [gt_swp hp hj, gt_swp hp hj]
          have e0 : ((j - 1) / 2 - 1) / 2 ≠ j := by omega
          have e0' : ((j - 1) / 2 - 1) / 2 ≠ (j - 1) / 2 := by omega
          rw [if_neg e0, if_neg e0']
          have hpp := h1 ((j - 1) / 2) h00 hp (by omega)
          by_cases e1 : k = j
          · subst e1; rw [if_pos rfl]; exact hpp
          · rw [if_neg e1, if_neg (by omega)]
            have a := h1 k hk hkl e1
            rw [hkp] at a
            exact hO.trans _ _ _ hpp a
      · rename_i hlt
        refine ⟨fun k hk hl => ?_, List.Perm.refl _⟩
        by_cases e : k = j
        · subst e; simpa using hlt
        · exact h1 k hk hl e
theorem down_ok (hO : Ord lt) (n : Nat) : ∀ (m i : Nat) (ps : List Pr), n - i = m → i < n → n ≤ ps.length → (∀ k, 0 < k → k < n → (k - 1) / 2 ≠ i → lt (gt ps k) (gt ps ((k - 1) / 2)) = false) → (∀ k, 0 < k → k < n → (k - 1) / 2 = i → 0 < i → lt (gt ps k) (gt ps ((i - 1) / 2)) = false) →
    Hp lt (downG lt ps i n).1 n ∧ (downG lt ps i n).1.Perm ps ∧ ∀ k, n ≤ k → gt (downG lt ps i n).1 k = gt ps k := by
  intro m
  induction m using Nat.strongRecOn with
  | _ m ih =>
    intro i ps hm hi hn h1 h2
    unfold downG
    split
    · rename_i h
      have hkg := kid_gt lt ps i n
      have hkl := kid_lt lt ps h
      have hkp : (kid lt ps i n - 1) / 2 = i := by unfold kid; split <;> omega
      -- the child is the least of both
      have hleast : ∀ k, 0 < k → k < n → (k - 1) / 2 = i → lt (gt ps k) (gt ps (kid lt ps i n)) = false := by
        intro k hk hkn hkk
        have hirr : ∀ a, lt a a = false := fun a => by
          cases e : lt a a with
          | false => rfl
          | true => have := hO.asymm a a e; rw [e] at this; cases this
        unfold kid
        split
        · rename_i hc
          rcases (by omega : k = 2 * i + 1 ∨ k = 2 * i + 2) with e | e <;> subst e
          · exact hO.asymm _ _ hc.2
          · exact hirr _
        · rename_i hc
          rcases (by omega : k = 2 * i + 1 ∨ k = 2 * i + 2) with e | e <;> subst e
          · exact hirr _
          · cases e : lt (gt ps (2 * i + 2)) (gt ps (2 * i + 1)) with
            | false => rfl
            | true => exact absurd ⟨hkn, e⟩ hc
      split
      · rename_i hlt
        have hlen := swp_len ps i (kid lt ps i n)
        have hip : i < ps.length := by omega
        have hkp' : kid lt ps i n < ps.length := by omega
        have key := ih (n - kid lt ps i n) (by omega) (kid lt ps i n) (swp ps i (kid lt ps i n)) rfl hkl (by rw [hlen]; exact hn) ?_ ?_
        · refine ⟨key.1, key.2.1.trans (swp_perm hip hkp'), fun k hk => ?_⟩
          rw [key.2.2 k hk, gt_swp hip hkp', if_neg (by omega), if_neg (by omega)]
        · intro k hk hkn hne
          rw [gt_swp hip hkp', gt_swp hip hkp', if_neg hne]
          by_cases e1 : k = kid lt ps i n
          · subst e1
            rw [if_pos rfl, hkp, if_pos rfl]
            exact hO.asymm _ _ hlt
          · rw [if_neg e1]
            by_cases e2 : k = i
            · subst e2
              rw [if_pos rfl, if_neg (by omega)]
              exact h2 _ (by omega) hkl hkp hk
            · rw [if_neg e2]
              by_cases e3 : (k - 1) / 2 = i
              · rw [if_pos e3]; exact hleast k hk hkn e3
              · rw [if_neg e3]; exact h1 k hk hkn e3
        · intro k hk hkn hkk _
          rw [gt_swp hip hkp', gt_swp hip hkp', hkp, if_neg (by omega), if_neg (by omega), if_neg (by omega), if_pos rfl]
          have := h1 k hk hkn (by omega)
          rw [hkk] at this; exact this
      · rename_i hlt
        refine ⟨fun k hk hkn => ?_, List.Perm.refl _, fun _ _ => rfl⟩
        by_cases e3 : (k - 1) / 2 = i
        · rw [e3]
          exact hO.trans _ _ _ (by simpa using hlt) (hleast k hk hkn e3)
        · exact h1 k hk hkn e3
    · rename_i h
      exact ⟨fun k hk hkn => h1 k hk hkn (by omega), List.Perm.refl _, fun _ _ => rfl⟩
theorem root_least (hO : Ord lt) {ps : List Pr} {n : Nat} (h : Hp lt ps n) : ∀ k, k < n → lt (gt ps k) (gt ps 0) = false := by
  intro k
  induction k using Nat.strongRecOn with
  | _ k ih =>
    intro hk
    rcases Nat.eq_zero_or_pos k with h0 | h0
    · subst h0
      cases e : lt (gt ps 0) (gt ps 0) with
      | false => rfl
      | true => have := hO.asymm _ _ e; rw [e] at this; cases this
    · exact hO.trans _ _ _ (ih _ (by omega) (by omega)) (h k h0 hk)
theorem gt_take {ps : List Pr} {n k : Nat} (h : k < n) : gt (ps.take n) k = gt ps k := by simp [gt, h]
theorem push_ok (hO : Ord lt) {ps : List Pr} (q : Pr) (h : Hp lt ps ps.length) : Hp lt (pushG lt ps q) (pushG lt ps q).length ∧ (pushG lt ps q).Perm (ps ++ [q]) := by
  have hg : ∀ k, k < ps.length → gt (ps ++ [q]) k = gt ps k := fun k hk => by simp [gt, List.getElem?_append_left hk]
  have := up_ok hO ps.length (ps ++ [q]) (by simp) (fun k hk hkl hne => by
    simp only [List.length_append, List.length_cons, List.length_nil] at hkl
    rw [hg k (by omega), hg _ (by omega)]; exact h k hk (by omega)) (fun k hk hkl hkp _ => by
    simp only [List.length_append, List.length_cons, List.length_nil] at hkl; omega)
  rw [pushG_len]
  refine ⟨?_, this.2⟩
  have h1 := this.1
  simpa [pushG] using h1
theorem pop_ok (hO : Ord lt) {ps : List Pr} (h : Hp lt ps ps.length) (h0 : 0 < ps.length) :
    Hp lt ((popG lt ps).take (ps.length - 1)) (ps.length - 1) ∧ (gt (popG lt ps) (ps.length - 1) :: (popG lt ps).take (ps.length - 1)).Perm ps ∧ gt (popG lt ps) (ps.length - 1) = gt ps 0 := by
  have hlen := popG_len lt ps
  have hl : ps.length - 1 < ps.length := by omega
  have hsplit : popG lt ps = (popG lt ps).take (ps.length - 1) ++ [gt (popG lt ps) (ps.length - 1)] := by
    rw [gt_eq (by omega)]
    conv => lhs; rw [← List.take_append_drop (ps.length - 1) (popG lt ps)]
    congr 1
    rw [List.drop_eq_getElem_cons (by omega), List.drop_eq_nil_of_le (by omega)]
  have key : Hp lt (popG lt ps) (ps.length - 1) ∧ (popG lt ps).Perm (swp ps 0 (ps.length - 1)) ∧ gt (popG lt ps) (ps.length - 1) = gt ps 0 := by
    by_cases h1 : ps.length - 1 = 0
    · have e : popG lt ps = swp ps 0 (ps.length - 1) := by
        unfold popG downG
        rw [dif_neg (by omega)]
      rw [e, h1]
      refine ⟨fun k hk hkn => by omega, List.Perm.refl _, ?_⟩
      rw [gt_swp h0 h0]; simp
    · have := down_ok hO (ps.length - 1) _ 0 (swp ps 0 (ps.length - 1)) rfl (by omega) (by rw [swp_len]; omega) (fun k hk hkn hne => by
        rw [gt_swp h0 hl, gt_swp h0 hl, if_neg (by omega), if_neg (by omega), if_neg (by omega), if_neg hne]
        exact h k hk (by omega)) (fun k hk hkn hkk h00 => by omega)
      refine ⟨this.1, this.2.1, ?_⟩
      unfold popG
      rw [this.2.2 _ (Nat.le_refl _), gt_swp h0 hl, if_pos rfl]
  refine ⟨fun k hk hkn => ?_, ?_, key.2.2⟩
  · rw [gt_take hkn, gt_take (by omega)]; exact key.1 k hk hkn
  · have p1 : (gt (popG lt ps) (ps.length - 1) :: (popG lt ps).take (ps.length - 1)).Perm (popG lt ps) := by
      conv => rhs; rw [hsplit]
      exact (List.perm_append_singleton _ _).symm
    exact (p1.trans key.2.1).trans (swp_perm h0 hl)
theorem popAll_ok (hO : Ord lt) : ∀ (n : Nat) (ps : List Pr), ps.length = n → Hp lt ps n → (popAll lt n ps).Perm ps ∧ (popAll lt n ps).Pairwise fun a b => lt b a = false
  | 0, ps, hn, _ => by
    have : ps = [] := List.eq_nil_of_length_eq_zero hn
    subst this; exact ⟨List.Perm.refl _, List.Pairwise.nil⟩
  | n + 1, ps, hn, h => by
    have hp := pop_ok hO (by rw [hn]; exact h) (by omega : 0 < ps.length)
    have hlen := popG_len lt ps
    have e : ps.length - 1 = n := by omega
    have ih := popAll_ok hO n ((popG lt ps).take (ps.length - 1)) (by rw [List.length_take]; omega) (by rw [← e]; exact hp.1)
    simp only [popAll]
    refine ⟨(ih.1.cons _).trans hp.2.1, List.pairwise_cons.2 ⟨fun b hb => ?_, ih.2⟩⟩
    have hb' := hp.2.1.mem_iff.1 (List.mem_cons_of_mem _ (ih.1.mem_iff.1 hb))
    obtain ⟨k, hk, rfl⟩ := List.getElem_of_mem hb'
    rw [hp.2.2, ← gt_eq hk]
    exact root_least hO h k (by omega)
/-- Numbers above nought with their places. -/
def posFrom : List Int → Nat → List Pr
  | [], _ => []
  | n :: r, k => if 0 < n then ((k : Int), n) :: posFrom r (k + 1) else posFrom r (k + 1)
theorem pushAll_ok (hO : Ord lt) : ∀ (fs : List Int) (k : Nat) (ps : List Pr), Hp lt ps ps.length → Hp lt (pushAll lt fs k ps) (pushAll lt fs k ps).length ∧ (pushAll lt fs k ps).Perm (ps ++ posFrom fs k)
  | [], k, ps, h => ⟨h, by simp [pushAll, posFrom]⟩
  | n :: r, k, ps, h => by
    simp only [pushAll, posFrom]
    by_cases hn : 0 < n
    · rw [if_pos hn, if_pos hn]
      have hp := push_ok hO ((k : Int), n) h
      have ih := pushAll_ok hO r (k + 1) _ hp.1
      refine ⟨ih.1, ih.2.trans ?_⟩
      have := hp.2.append_right (posFrom r (k + 1))
      simpa using this
    · rw [if_neg hn, if_neg hn]
      exact pushAll_ok hO r (k + 1) ps h
def orderG (lt : Pr → Pr → Bool) (fs : List Int) : List Pr := popAll lt (pushAll lt fs 0 []).length (pushAll lt fs 0 [])
theorem orderG_ok (hO : Ord lt) (fs : List Int) : (orderG lt fs).Perm (posFrom fs 0) ∧ (orderG lt fs).Pairwise fun a b => lt b a = false := by
  have h := pushAll_ok hO fs 0 [] (fun j _ hj => by simp at hj)
  have k := popAll_ok hO _ _ rfl h.1
  exact ⟨k.1.trans (by simpa using h.2), k.2⟩
/-- One sorted list alone has these. -/
theorem orderG_unique (hO : Ord lt) (fs : List Int) {qs : List Pr} (h1 : qs.Perm (posFrom fs 0)) (h2 : qs.Pairwise fun a b => lt b a = false) : orderG lt fs = qs := by
  have h := orderG_ok hO fs
  exact List.Perm.eq_of_pairwise (le := fun a b => lt b a = false) (fun a b _ _ hab hba => hO.total a b hba hab) h.2 h2 (h.1.trans h1.symm)
end
/-- Which one comes first: the greater number, of two alike the lesser place. -/
def ltP (p q : Pr) : Bool := decide (q.2 < p.2) || (decide (p.2 = q.2) && decide (p.1 < q.1))
theorem ltP_ord : Ord ltP := by
  constructor
  · intro a b h; simp [ltP] at *; omega
  · intro a b c h1 h2; simp [ltP] at *; omega
  · intro a b h1 h2; simp [ltP] at *; exact Prod.ext (by omega) (by omega)
def orderH (fs : List Int) : List Int := (orderG ltP fs).map (·.1)
/-- One put in its place. -/
def insP (lt : Pr → Pr → Bool) (q : Pr) : List Pr → List Pr
  | [] => [q]
  | p :: r => if lt q p then q :: p :: r else p :: insP lt q r
def sortP (lt : Pr → Pr → Bool) : List Pr → List Pr
  | [] => []
  | p :: r => insP lt p (sortP lt r)
theorem insP_perm (lt : Pr → Pr → Bool) (q : Pr) : ∀ ps, (insP lt q ps).Perm (q :: ps)
  | [] => List.Perm.refl _
  | p :: r => by
    simp only [insP]; split
    · exact List.Perm.refl _
    · exact ((insP_perm lt q r).cons p).trans (List.Perm.swap ..)
theorem insP_sorted {lt : Pr → Pr → Bool} (hO : Ord lt) (q : Pr) : ∀ ps, ps.Pairwise (fun a b => lt b a = false) → (insP lt q ps).Pairwise (fun a b => lt b a = false)
  | [], _ => by simp [insP]
  | p :: r, h => by
    have hp := List.pairwise_cons.1 h
    simp only [insP]; split
    · rename_i hlt
      refine List.pairwise_cons.2 ⟨fun b hb => ?_, h⟩
      rcases List.mem_cons.1 hb with rfl | hb
      · exact hO.asymm _ _ hlt
      · exact hO.trans _ _ _ (hO.asymm _ _ hlt) (hp.1 b hb)
    · rename_i hlt
      refine List.pairwise_cons.2 ⟨fun b hb => ?_, insP_sorted hO q r hp.2⟩
      rcases List.mem_cons.1 ((insP_perm lt q r).mem_iff.1 hb) with rfl | hb
      · simpa using hlt
      · exact hp.1 b hb
theorem sortP_perm (lt : Pr → Pr → Bool) : ∀ ps, (sortP lt ps).Perm ps
  | [] => List.Perm.refl _
  | p :: r => (insP_perm lt p _).trans ((sortP_perm lt r).cons p)
theorem sortP_sorted {lt : Pr → Pr → Bool} (hO : Ord lt) : ∀ ps, (sortP lt ps).Pairwise (fun a b => lt b a = false)
  | [] => List.Pairwise.nil
  | p :: r => insP_sorted hO p _ (sortP_sorted hO r)
theorem orderG_eq {lt : Pr → Pr → Bool} (hO : Ord lt) (fs : List Int) : orderG lt fs = sortP lt (posFrom fs 0) := orderG_unique hO fs (sortP_perm lt _) (sortP_sorted hO _)
theorem orderH_eq (fs : List Int) : orderH fs = (sortP ltP (posFrom fs 0)).map (·.1) := by unfold orderH; rw [orderG_eq ltP_ord]
end Go.Proofs.Ytbjcdgcdnbnknaa.Heap
