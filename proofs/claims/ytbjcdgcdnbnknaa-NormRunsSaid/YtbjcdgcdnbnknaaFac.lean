/- Orders and lists, in plain Lean. -/
import Derived.Test.YtbjcdgcdnbnknaaOrdP
namespace Go.Proofs.Ytbjcdgcdnbnknaa.Merge
open Go.RowKit Go.Proofs.Ytbjcdgcdnbnknaa.Heap
theorem posFrom_mem : ∀ (fs : List Int) (k : Nat) (p : Pr), p ∈ posFrom fs k ↔ ∃ i, i < fs.length ∧ p = (((k + i : Nat) : Int), fs.getD i 0) ∧ 0 < fs.getD i 0
  | [], k, p => by simp [posFrom]
  | x :: r, k, p => by
    have ih := posFrom_mem r (k + 1) p
    have e : p ∈ posFrom (x :: r) k ↔ (p = ((k : Int), x) ∧ 0 < x) ∨ p ∈ posFrom r (k + 1) := by
      simp only [posFrom]
      split
      · rename_i h; simp [h]
      · rename_i h; simp [h]
    rw [e, ih]
    constructor
    · rintro (⟨rfl, h⟩ | ⟨i, h1, rfl, h2⟩)
      · exact ⟨0, by simp, by simp, by simpa using h⟩
      · exact ⟨i + 1, by simpa using h1, by simp; omega, by simpa using h2⟩
    · rintro ⟨i, h1, rfl, h2⟩
      cases i with
      | zero => left; exact ⟨by simp, by simpa using h2⟩
      | succ i => right; exact ⟨i, by simpa using h1, by simp; omega, by simpa using h2⟩
theorem posFrom_nodup : ∀ (fs : List Int) (k : Nat), ((posFrom fs k).map (·.1)).Nodup
  | [], k => by simp [posFrom]
  | x :: r, k => by
    have ih := posFrom_nodup r (k + 1)
    simp only [posFrom]
    split
    · rw [List.map_cons, List.nodup_cons]
      refine ⟨fun h => ?_, ih⟩
      obtain ⟨p, hp, e⟩ := List.mem_map.1 h
      obtain ⟨i, _, rfl, _⟩ := (posFrom_mem r (k + 1) p).1 hp
      simp only at e; omega
    · exact ih
theorem ord_perm (fs : List Int) : (prO fs (ordF fs fs.length [])).Perm (posFrom fs 0) := by
  have := (ordF_ok fs fs.length (Nat.le_refl _)).1
  rwa [List.take_length] at this
theorem ord_nodup (fs : List Int) : (ordF fs fs.length []).Nodup := by
  have h := ((ord_perm fs).map (·.1)).nodup_iff.2 (posFrom_nodup fs 0)
  rw [prO, List.map_map] at h
  exact List.Pairwise.of_map (fun (x : Nat) => ((x : Int))) (fun a b hne e => hne (by rw [e])) h
theorem ord_mem (fs : List Int) (x : Nat) : x ∈ ordF fs fs.length [] ↔ x < fs.length ∧ 0 < fs.getD x 0 := by
  have h : ∀ p, p ∈ prO fs (ordF fs fs.length []) ↔ p ∈ posFrom fs 0 := fun p => (ord_perm fs).mem_iff
  constructor
  · intro hx
    have hp : ((x : Int), fs.getD x 0) ∈ prO fs (ordF fs fs.length []) := by simp only [prO, List.mem_map]; exact ⟨x, hx, rfl⟩
    obtain ⟨i, h1, e, h2⟩ := (posFrom_mem fs 0 _).1 ((h _).1 hp)
    simp only [Prod.mk.injEq] at e
    obtain rfl : x = i := by omega
    exact ⟨h1, h2⟩
  · rintro ⟨h1, h2⟩
    have := (h ((x : Int), fs.getD x 0)).2 ((posFrom_mem fs 0 _).2 ⟨x, h1, by simp, h2⟩)
    simp only [prO, List.mem_map, Prod.mk.injEq] at this
    obtain ⟨y, hy, e, _⟩ := this
    obtain rfl : y = x := by omega
    exact hy
theorem zeros_getD (m c : Nat) : (List.replicate m (0 : Int)).getD c 0 = 0 := by
  rw [List.getD_eq_getElem?_getD, List.getElem?_replicate]; split <;> rfl
theorem mem_getD {z : List Int} {y : Int} (h : y ∈ z) : ∃ c, c < z.length ∧ y = z.getD c 0 := by
  obtain ⟨c, hc, e⟩ := List.getElem_of_mem h
  exact ⟨c, hc, by rw [List.getD_eq_getElem?_getD, List.getElem?_eq_getElem hc, Option.getD_some]; exact e.symm⟩
theorem set_get {z : List Int} {c : Nat} {v : Int} (hc : c < z.length) (j : Nat) : (z.set c v).getD j 0 = if j = c then v else z.getD j 0 := by
  by_cases e : j = c
  · subst e; rw [if_pos rfl, List.getD_eq_getElem?_getD, List.getElem?_set_self hc]; rfl
  · rw [if_neg e, List.getD_eq_getElem?_getD, List.getElem?_set_ne (Ne.symm e), ← List.getD_eq_getElem?_getD]
end Go.Proofs.Ytbjcdgcdnbnknaa.Merge
