/- The document's order is the program's. -/
import Derived.Test.YtbjcdgcdnbnknaaOrd
namespace Go.Proofs.Ytbjcdgcdnbnknaa.Merge
open Go.Proofs.Ytbjcdgcdnbnknaa.Heap
theorem posFrom_append : ∀ (xs ys : List Int) (k : Nat), posFrom (xs ++ ys) k = posFrom xs k ++ posFrom ys (k + xs.length)
  | [], ys, k => rfl
  | x :: r, ys, k => by
    simp only [List.cons_append, posFrom, List.length_cons]
    rw [posFrom_append r ys (k + 1), show k + 1 + r.length = k + (r.length + 1) from by omega]
    split <;> rfl
theorem insAt_spec (fs : List Int) (i : Nat) (o : List Nat) : ∀ m, (∀ j, insAt fs i o m ≤ j → j < m → fs.getD (o.getD j 0) 0 < fs.getD i 0) ∧ (insAt fs i o m = 0 ∨ ¬ fs.getD (o.getD (insAt fs i o m - 1) 0) 0 < fs.getD i 0)
  | 0 => ⟨fun j _ h => by omega, .inl rfl⟩
  | m + 1 => by
    simp only [insAt]
    split
    · rename_i h
      have ih := insAt_spec fs i o m
      refine ⟨fun j h1 h2 => ?_, ih.2⟩
      by_cases e : j = m
      · subst e; exact h
      · exact ih.1 j h1 (by omega)
    · rename_i h
      exact ⟨fun j h1 h2 => by omega, .inr (by simpa using h)⟩
def prO (fs : List Int) (o : List Nat) : List Pr := o.map fun (x : Nat) => ((x : Int), fs.getD x 0)
theorem ordF_ok (fs : List Int) : ∀ i, i ≤ fs.length → (prO fs (ordF fs i [])).Perm (posFrom (fs.take i) 0) ∧ (prO fs (ordF fs i [])).Pairwise fun a b => ltP b a = false
  | 0, _ => ⟨by simp [ordF, prO, posFrom], by simp [ordF, prO]⟩
  | i + 1, h => by
    have hlt : i < fs.length := h
    have ih := ordF_ok fs i (by omega)
    have hol := ordF_lt fs i
    have efi : fs.getD i 0 = fs[i] := by rw [List.getD_eq_getElem?_getD, List.getElem?_eq_getElem hlt, Option.getD_some]
    have hpos : posFrom (fs.take (i + 1)) 0 = posFrom (fs.take i) 0 ++ posFrom [fs[i]] i := by
      rw [← List.take_append_getElem hlt, posFrom_append]
      rw [Nat.zero_add, List.length_take, Nat.min_eq_left (by omega)]
    rw [hpos]
    simp only [ordF, posFrom]
    generalize ordF fs i [] = o at ih hol
    rw [efi]
    split
    · rename_i hp
      have hs := insAt_spec fs i o o.length
      have hle := insAt_le fs i o o.length
      rw [efi] at hs
      generalize insAt fs i o o.length = p at hs hle
      have e : prO fs (o.take p ++ [i] ++ o.drop p) = prO fs (o.take p) ++ ([((i : Int), fs[i])] ++ prO fs (o.drop p)) := by
        simp only [prO, List.map_append, List.map_cons, List.map_nil, efi, List.append_assoc]
      have e0 : prO fs o = prO fs (o.take p) ++ prO fs (o.drop p) := by
        rw [prO, prO, prO, ← List.map_append, List.take_append_drop]
      rw [e]
      constructor
      · have h1 : (prO fs (o.take p) ++ ([((i : Int), fs[i])] ++ prO fs (o.drop p))).Perm (prO fs o ++ [((i : Int), fs[i])]) := by
          rw [e0, List.append_assoc]
          exact List.Perm.append_left _ (List.perm_append_comm)
        exact h1.trans (ih.1.append_right _)
      · have hpw := ih.2
        have val : ∀ (j : Nat) (hj : j < o.length), o.getD j 0 = o[j] := fun j hj => by rw [List.getD_eq_getElem?_getD, List.getElem?_eq_getElem hj, Option.getD_some]
        have hidx : ∀ (a b : Nat) (ha : a < o.length) (hb : b < o.length), a < b → fs.getD o[b] 0 ≤ fs.getD o[a] 0 := by
          intro a b ha hb hab
          have := List.pairwise_iff_getElem.1 hpw a b (by simpa [prO] using ha) (by simpa [prO] using hb) hab
          simp only [prO, List.getElem_map, ltP, Bool.or_eq_false_iff, decide_eq_false_iff_not] at this
          omega
        rw [e0] at hpw
        rw [List.pairwise_append] at hpw ⊢
        refine ⟨hpw.1, ?_, ?_⟩
        · rw [List.singleton_append, List.pairwise_cons]
          refine ⟨fun b hb => ?_, hpw.2.1⟩
          simp only [prO, List.mem_map] at hb
          obtain ⟨x, hx, rfl⟩ := hb
          obtain ⟨j, hj, rfl⟩ := List.getElem_of_mem hx
          rw [List.length_drop] at hj
          have := hs.1 (p + j) (by omega) (by omega)
          rw [val _ (by omega)] at this
          simp only [List.getElem_drop, ltP]
          simp only [Bool.or_eq_false_iff, Bool.and_eq_false_iff, decide_eq_false_iff_not]
          omega
        · intro a ha b hb
          rw [List.singleton_append, List.mem_cons] at hb
          rcases hb with rfl | hb
          · simp only [prO, List.mem_map] at ha
            obtain ⟨x, hx, rfl⟩ := ha
            obtain ⟨j, hj, rfl⟩ := List.getElem_of_mem hx
            rw [List.length_take] at hj
            have hjo : j < o.length := by omega
            have hxi := hol.1 o[j] (List.getElem_mem hjo)
            have hv : fs[i] ≤ fs.getD o[j] 0 := by
              rcases hs.2 with h0 | h0
              · omega
              · rw [val _ (by omega)] at h0
                by_cases ej : j = p - 1
                · subst ej; omega
                · have := hidx j (p - 1) hjo (by omega) (by omega); omega
            simp only [List.getElem_take, ltP]
            simp only [Bool.or_eq_false_iff, Bool.and_eq_false_iff, decide_eq_false_iff_not]
            omega
          · exact hpw.2.2 a ha b hb
    · simp only [List.append_nil]
      exact ih
theorem orderH_ord (fs : List Int) : orderH fs = (ordF fs fs.length []).map fun (x : Nat) => (x : Int) := by
  have h := ordF_ok fs fs.length (Nat.le_refl _)
  rw [List.take_length] at h
  unfold orderH
  rw [orderG_unique ltP_ord fs h.1 h.2]
  simp [prO]
end Go.Proofs.Ytbjcdgcdnbnknaa.Merge
