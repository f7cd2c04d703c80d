/- The least cost, in plain Lean: what both tables hold. -/
import Derived.Test.YtdakocdfpdglfaaOrdP
namespace Go.Proofs.Ytdakocdfpdglfaa.Merge
open Go.RowKit
/-- One more choice, kept where it costs less. -/
def pk (val : Nat → Option Int) (out : Option (Int × Nat)) (k : Nat) : Option (Int × Nat) :=
  match val k with
  | none => out
  | some c => match out with
    | none => some (c, k)
    | some (c0, k0) => if c < c0 then some (c, k) else some (c0, k0)
/-- What is told of the choices from lo up to hi: the least, and of several the last. -/
def Sum (val : Nat → Option Int) (lo hi : Nat) : Option (Int × Nat) → Prop
  | none => ∀ k, lo ≤ k → k < hi → val k = none
  | some (c, k) => lo ≤ k ∧ k < hi ∧ val k = some c ∧ ∀ k' c', lo ≤ k' → k' < hi → val k' = some c' → c ≤ c' ∧ (k < k' → c < c')
theorem Sum.step {val : Nat → Option Int} {lo hi : Nat} {out : Option (Int × Nat)} (h : Sum val (lo + 1) hi out) (hlt : lo < hi) : Sum val lo hi (pk val out lo) := by
  unfold pk
  cases hv : val lo with
  | none =>
    cases out with
    | none =>
      intro k h1 h2
      by_cases e : k = lo
      · subst e; exact hv
      · exact h k (by omega) h2
    | some p =>
      obtain ⟨c, k⟩ := p
      obtain ⟨h1, h2, h3, h4⟩ := h
      refine ⟨by omega, h2, h3, fun k' c' h5 h6 h7 => ?_⟩
      by_cases e : k' = lo
      · subst e; rw [hv] at h7; cases h7
      · exact h4 k' c' (by omega) h6 h7
  | some c =>
    cases out with
    | none =>
      refine ⟨Nat.le_refl _, hlt, hv, fun k' c' h5 h6 h7 => ?_⟩
      by_cases e : k' = lo
      · subst e; rw [hv] at h7; cases h7; exact ⟨Int.le_refl _, fun h => by omega⟩
      · have := h k' (by omega) h6; rw [this] at h7; cases h7
    | some p =>
      obtain ⟨c0, k0⟩ := p
      obtain ⟨h1, h2, h3, h4⟩ := h
      simp only
      split
      · rename_i hc
        refine ⟨Nat.le_refl _, hlt, hv, fun k' c' h5 h6 h7 => ?_⟩
        by_cases e : k' = lo
        · subst e; rw [hv] at h7; cases h7; exact ⟨Int.le_refl _, fun h => by omega⟩
        · have := h4 k' c' (by omega) h6 h7; omega
      · rename_i hc
        refine ⟨by omega, h2, h3, fun k' c' h5 h6 h7 => ?_⟩
        by_cases e : k' = lo
        · subst e; rw [hv] at h7; cases h7; exact ⟨by omega, fun h => by omega⟩
        · exact h4 k' c' (by omega) h6 h7
theorem Sum.all {val : Nat → Option Int} {hi : Nat} : ∀ (n : Nat) (out : Option (Int × Nat)), n ≤ hi → Sum val n hi out → Sum val 0 hi ((List.range n).reverse.foldl (pk val) out)
  | 0, _, _, h => h
  | n + 1, out, hn, h => by
    rw [List.range_succ, List.reverse_append]
    simp only [List.reverse_cons, List.reverse_nil, List.nil_append, List.singleton_append, List.foldl_cons]
    exact Sum.all n _ (by omega) (h.step (by omega))
/-- The least of the choices below hi. -/
def Min (val : Nat → Option Int) (hi : Nat) : Option Int → Prop
  | none => ∀ k, k < hi → val k = none
  | some c => (∃ k, k < hi ∧ val k = some c) ∧ ∀ k' c', k' < hi → val k' = some c' → c ≤ c'
def mn (val : Nat → Option Int) (out : Option Int) (k : Nat) : Option Int :=
  match val k with
  | none => out
  | some c => match out with
    | none => some c
    | some c0 => if c < c0 then some c else some c0
theorem Min.step {val : Nat → Option Int} {hi : Nat} {out : Option Int} (h : Min val hi out) : Min val (hi + 1) (mn val out hi) := by
  unfold mn
  cases hv : val hi with
  | none =>
    cases out with
    | none =>
      intro k h1
      by_cases e : k = hi
      · subst e; exact hv
      · exact h k (by omega)
    | some c =>
      obtain ⟨⟨k, h1, h2⟩, h4⟩ := h
      refine ⟨⟨k, by omega, h2⟩, fun k' c' h6 h7 => ?_⟩
      by_cases e : k' = hi
      · subst e; rw [hv] at h7; cases h7
      · exact h4 k' c' (by omega) h7
  | some c =>
    cases out with
    | none =>
      refine ⟨⟨hi, by omega, hv⟩, fun k' c' h6 h7 => ?_⟩
      by_cases e : k' = hi
      · subst e; rw [hv] at h7; cases h7; exact Int.le_refl _
      · have := h k' (by omega); rw [this] at h7; cases h7
    | some c0 =>
      obtain ⟨⟨k, h1, h2⟩, h4⟩ := h
      simp only
      split
      · rename_i hc
        refine ⟨⟨hi, by omega, hv⟩, fun k' c' h6 h7 => ?_⟩
        by_cases e : k' = hi
        · subst e; rw [hv] at h7; cases h7; exact Int.le_refl _
        · have := h4 k' c' (by omega) h7; omega
      · rename_i hc
        refine ⟨⟨k, by omega, h2⟩, fun k' c' h6 h7 => ?_⟩
        by_cases e : k' = hi
        · subst e; rw [hv] at h7; cases h7; omega
        · exact h4 k' c' (by omega) h7
theorem Min.all {val : Nat → Option Int} : ∀ (n s : Nat) (out : Option Int), Min val s out → Min val (s + n) ((List.range' s n).foldl (mn val) out)
  | 0, _, _, h => h
  | n + 1, s, out, h => by
    rw [List.range'_succ, List.foldl_cons, show s + (n + 1) = s + 1 + n from by omega]
    exact Min.all n (s + 1) _ h.step
/-- The sums are as sums are. -/
structure OkS (S : List Int) (L : Nat) (B : Int) : Prop where
  zero : S.getD L 0 = 0
  pos : ∀ i, 0 ≤ S.getD i 0
  le : ∀ i, S.getD i 0 ≤ B
  small : B ≤ 4294967296
def enc : Option (Int × Nat) → Bt
  | none => (0, 0, false, true)
  | some (c, k) => (c, (k : Int), true, true)
def valM (rec : Nat → Nat → Bt) (S : List Int) (dn opn k : Nat) : Option Int := if (rec (dn + k) (2 * (opn - k))).2.2.1 then some (wrap64 ((rec (dn + k) (2 * (opn - k))).1 + S.getD dn 0)) else none
theorem bstStep_enc (rec : Nat → Nat → Bt) (S : List Int) (dn opn k : Nat) (out : Option (Int × Nat)) : bstStep rec S dn opn k (enc out) = enc (pk (valM rec S dn opn) out k) := by
  unfold bstStep pk valM
  cases h : (rec (dn + k) (2 * (opn - k))).2.2.1 with
  | false => simp
  | true =>
    cases out with
    | none => simp [enc]
    | some p =>
      obtain ⟨c, k0⟩ := p
      generalize wrap64 ((rec (dn + k) (2 * (opn - k))).1 + S.getD dn 0) = w
      show (if (true && (!true || decide (w < c))) = true then (w, (k : Int), true, true) else (c, (k0 : Int), true, true)) = enc (if w < c then some (w, k) else some (c, k0))
      by_cases hc : w < c
      · rw [if_pos hc, if_pos (by simpa using hc)]; rfl
      · rw [if_neg hc, if_neg (by simpa using hc)]; rfl
theorem fold_enc (rec : Nat → Nat → Bt) (S : List Int) (dn opn : Nat) : ∀ (l : List Nat) (out : Option (Int × Nat)), l.foldl (fun out k => bstStep rec S dn opn k out) (enc out) = enc (l.foldl (pk (valM rec S dn opn)) out)
  | [], _ => rfl
  | k :: r, out => by simp only [List.foldl_cons]; rw [bstStep_enc]; exact fold_enc rec S dn opn r _
def encR : Option Int → Int
  | none => -1
  | some c => c
def valR (rec : Nat → Nat → Int) (S : List Int) (fr opn k : Nat) : Option Int := if rec (fr + k) (2 * (opn - k)) < 0 then none else some (wrap64 (rec (fr + k) (2 * (opn - k)) + S.getD (fr + k) 0))
theorem rcStep_enc (rec : Nat → Nat → Int) (S : List Int) (fr opn k : Nat) (out : Option Int) (h : ∀ c, out = some c → 0 ≤ c) : rcStep rec S fr opn k (encR out) = encR (mn (valR rec S fr opn) out k) := by
  unfold rcStep mn valR
  by_cases hn : rec (fr + k) (2 * (opn - k)) < 0
  · simp only [if_pos hn]
  · simp only [if_neg hn]
    cases out with
    | none => simp [encR]
    | some c =>
      have := h c rfl
      generalize wrap64 (rec (fr + k) (2 * (opn - k)) + S.getD (fr + k) 0) = w
      show (if c < 0 ∨ w < c then w else c) = encR (if w < c then some w else some c)
      by_cases hc : w < c
      · rw [if_pos (Or.inr hc), if_pos hc]; rfl
      · rw [if_neg (by omega), if_neg hc]; rfl
theorem fold_encR (rec : Nat → Nat → Int) (S : List Int) (fr opn : Nat) : ∀ (l : List Nat) (out : Option Int), (∀ c, out = some c → 0 ≤ c) → (∀ k ∈ l, ∀ c, valR rec S fr opn k = some c → 0 ≤ c) → l.foldl (fun out k => rcStep rec S fr opn k out) (encR out) = encR (l.foldl (mn (valR rec S fr opn)) out)
  | [], _, _, _ => rfl
  | k :: r, out, h, hv => by
    simp only [List.foldl_cons]; rw [rcStep_enc _ _ _ _ _ _ h]
    refine fold_encR rec S fr opn r _ (fun c hc => ?_) (fun k hk => hv k (by simp [hk]))
    unfold mn at hc
    cases e : valR rec S fr opn k with
    | none => rw [e] at hc; exact h c hc
    | some c1 =>
      rw [e] at hc
      have h1 := hv k (by simp) c1 e
      cases out with
      | none => simp only [Option.some.injEq] at hc; omega
      | some c0 =>
        have h0 := h c0 rfl
        simp only at hc
        split at hc <;> (simp only [Option.some.injEq] at hc; omega)
/-- Both tables hold one cost. -/
theorem both {S : List Int} {L : Nat} {B : Int} (hS : OkS S L B) : ∀ (h dn opn : Nat), h ≤ 20 → dn ≤ L →
    ((bst S L h dn opn).2.2.1 = true ∧ 0 ≤ rc S L h dn opn ∧ (bst S L h dn opn).1 = rc S L h dn opn + S.getD dn 0 ∧ (bst S L h dn opn).1 ≤ h * B) ∨ ((bst S L h dn opn).2.2.1 = false ∧ rc S L h dn opn = -1) := by
  intro h
  induction h with
  | zero =>
    intro dn opn _ hdn
    rw [bst_eq, rc_eq]
    by_cases h0 : L - dn = 0
    · obtain rfl : dn = L := by omega
      by_cases ho : opn = 0
      · left; rw [if_pos ⟨h0, ho⟩, if_pos h0, if_pos ho, hS.zero]; simp
      · right; rw [if_neg (by omega), if_pos (by omega), if_pos h0, if_neg ho]; simp [noB]
    · right; rw [if_neg (by omega), if_pos (by omega), if_neg h0, if_pos (by omega)]; simp [noB]
  | succ h ih =>
    intro dn opn hh hdn
    have hB0 : 0 ≤ B := by have := hS.pos 0; have := hS.le 0; omega
    have hhB : (h : Int) * B ≤ 20 * B := Int.mul_le_mul_of_nonneg_right (by omega) hB0
    have hsm := hS.small
    have hsucc : ((h + 1 : Nat) : Int) * B = h * B + B := by rw [Int.natCast_succ, Int.add_mul, Int.one_mul]
    rw [bst_eq, rc_eq, Nat.add_sub_cancel]
    by_cases h0 : L - dn = 0
    · obtain rfl : dn = L := by omega
      by_cases ho : opn = 0
      · left
        have hnn : 0 ≤ (h : Int) * B := Int.mul_nonneg (by omega) hB0
        rw [if_pos ⟨h0, ho⟩, if_pos h0, if_pos ho, hS.zero, hsucc]; simp; omega
      · right; rw [if_neg (by omega), if_pos (by omega), if_pos h0, if_neg ho]; simp [noB]
    · by_cases h1 : opn = 0 ∨ L - dn < opn
      · right; rw [if_neg (by omega), if_pos (by omega), if_neg h0, if_pos (by omega)]; simp [noB]
      · rw [if_neg (by omega), if_neg (by omega), if_neg h0, if_neg (by omega)]
        have hdB := hS.le dn
        have hd0 := hS.pos dn
        -- the choices of both
        have rel : ∀ k, k < opn + 1 → (valM (bst S L h) S dn opn k = none ∧ valR (rc S L h) S dn opn k = none) ∨ ∃ c, 0 ≤ c ∧ valM (bst S L h) S dn opn k = some (c + S.getD dn 0) ∧ valR (rc S L h) S dn opn k = some c ∧ c + S.getD dn 0 ≤ h * B + B := by
          intro k hk
          have hdk := hS.le (dn + k)
          rcases ih (dn + k) (2 * (opn - k)) (by omega) (by omega) with ⟨e1, e2, e3, e4⟩ | ⟨e1, e2⟩
          · right
            have hp := hS.pos (dn + k)
            refine ⟨rc S L h (dn + k) (2 * (opn - k)) + S.getD (dn + k) 0, by omega, ?_, ?_, by omega⟩
            · unfold valM; rw [if_pos e1, Go.IntWalk.wrap64_in _ (by omega), e3]
            · unfold valR; rw [if_neg (by omega), Go.IntWalk.wrap64_in _ (by omega)]
          · left
            exact ⟨by unfold valM; rw [e1]; rfl, by unfold valR; rw [if_pos (by omega)]⟩
        have f1 := fold_enc (bst S L h) S dn opn (List.range (opn + 1)).reverse none
        have f2 := fold_encR (rc S L h) S dn opn (List.range' 0 (opn + 1)) none (fun _ h => by cases h) (fun k hk c hc => by
          have hk' : k < opn + 1 := by have := List.mem_range'.1 hk; omega
          rcases rel k hk' with ⟨_, e⟩ | ⟨c1, e1, _, e2, _⟩
          · rw [e] at hc; cases hc
          · rw [e2] at hc; cases hc; exact e1)
        simp only [enc, encR] at f1 f2
        rw [f1, f2]
        have s1 := Sum.all (val := valM (bst S L h) S dn opn) (hi := opn + 1) (opn + 1) none (Nat.le_refl _) (fun k h1 h2 => by omega)
        have s2 := Min.all (val := valR (rc S L h) S dn opn) (opn + 1) 0 none (fun k h1 => by omega)
        rw [Nat.zero_add] at s2
        generalize (List.range (opn + 1)).reverse.foldl (pk (valM (bst S L h) S dn opn)) none = r1 at s1
        generalize (List.range' 0 (opn + 1)).foldl (mn (valR (rc S L h) S dn opn)) none = r2 at s2
        cases r1 with
        | none =>
          cases r2 with
          | none => right; simp
          | some c =>
            obtain ⟨⟨k, hk, e⟩, _⟩ := s2
            rcases rel k hk with ⟨_, e2⟩ | ⟨c1, _, e2, _⟩
            · rw [e2] at e; cases e
            · rw [s1 k (by omega) hk] at e2; cases e2
        | some p =>
          obtain ⟨c, k⟩ := p
          obtain ⟨_, hk, e, hmin⟩ := s1
          rcases rel k hk with ⟨e2, _⟩ | ⟨c1, hc1, e2, e3, hle⟩
          · rw [e2] at e; cases e
          · rw [e2] at e
            obtain rfl := Option.some.inj e
            cases r2 with
            | none => rw [s2 k hk] at e3; cases e3
            | some c2 =>
              left
              have hmin2 := s2.2 k c1 hk e3
              obtain ⟨⟨k2, hk2, e4⟩, _⟩ := s2
              have : c1 = c2 := by
                rcases rel k2 hk2 with ⟨_, e5⟩ | ⟨c3, hc3, e5, e6, _⟩
                · rw [e5] at e4; cases e4
                · rw [e6] at e4
                  obtain rfl := Option.some.inj e4
                  have := (hmin k2 _ (by omega) hk2 e5).1
                  omega
              subst this
              simp only
              rw [hsucc]
              exact ⟨trivial, hc1, trivial, hle⟩
end Go.Proofs.Ytdakocdfpdglfaa.Merge
