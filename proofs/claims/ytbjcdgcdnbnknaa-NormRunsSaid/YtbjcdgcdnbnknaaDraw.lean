/- Regions that draw their order and act: the text's order is enough, where those that act wait for one another. -/
import Derived.Test.YtbjcdgcdnbnknaaOps
import Derived.Orders
namespace Go.Proofs.Ytbjcdgcdnbnknaa.Sx
open Go.RowKit

inductive Kd3 where
  | pure | read | loud
  deriving DecidableEq
def kindOf : Op → Kd3
  | .load .. => .read
  | .call { callee := .builtin .len, .. } | .call { callee := .builtin .min, .. } | .call { callee := .builtin .max, .. } => .pure
  | .call _ => .loud
  | .store .. | .alloc _ | .box .. | .buildSlice .. | .makeSlice .. | .makeMap .. | .mapUpdate .. => .loud
  | _ => .pure
section
variable {P : Program} {Q : Exit → Act → World → Prop} {n : Sz} {l : L} {w : World} {ops : Array Oper} {S : World → Prop}
/-- One value, in every world of S. -/
def steady (P : Program) (S : World → Prop) (o : Oper) (a : Act) (x : Value) : Prop := ∀ w, S w → (execOp a.eval o).run P w = .ok (.value x) w
def always (P : Program) (o : Oper) (a : Act) (x : Value) : Prop := ∀ w, (execOp a.eval o).run P w = .ok (.value x) w
def loudUp (P : Program) (a : Act) (dst : Option Tmp) (K : Act → World → Prop) : Result Next → Prop
  | .ok (.value v) w' => K (a.put dst v) w'
  | .ok .skip w' => K (a.put dst undef) w'
  | .ok (.enter f xs) w' => Calls P f xs w' fun e w'' => ∃ v, e = .returned v ∧ K (a.put dst v) w''
  | _ => False
def wpD (P : Program) (ops : Array Oper) (S : World → Prop) (need : Nat → Bool) (Q : Exit → Act → World → Prop) : List (Nat × Oper) → Act → World → Prop
  | [], a, w => Q .normal a w
  | (i, o) :: rest, a, w =>
    if Region.wanted o (yielded ops a.tmps) then
      match kindOf o.op with
      | .pure => ∃ x, always P o a x ∧ wpD P ops S need Q rest (a.put o.dst x) w
      | .read => ∃ x, steady P S o a x ∧ wpD P ops S need Q rest (a.put o.dst x) w
      | .loud => loudUp P a o.dst (fun a' w' => (need i = true → S w') ∧ wpD P ops S need Q rest a' w') ((execOp a.eval o).run P w)
    else wpD P ops S need Q rest (a.put o.dst undef) w

theorem exec_apart {o r : Oper} (hs : ∀ cs b, o.op ≠ .select cs b) (hap : r.apart ops o = true) (a : Act) (v : Value) : execOp (a.put r.dst v).eval o = execOp a.eval o :=
  execOp_put (ops := ops) o hs a r.dst v (Oper.apart_spec hap).1
theorem want_apart {o r : Oper} (hap : r.apart ops o = true) (a : Act) (v : Value) : Region.wanted o (yielded ops (a.put r.dst v).tmps) = Region.wanted o (yielded ops a.tmps) :=
  wanted_put o a r.dst v (Oper.apart_spec hap).1
theorem exec_apart' {o r : Oper} (hs : ∀ cs b, r.op ≠ .select cs b) (hap : r.apart ops o = true) (a : Act) (v : Value) : execOp (a.put o.dst v).eval r = execOp a.eval r :=
  execOp_put (ops := ops) r hs a o.dst v (Oper.apart_spec hap).2.2
theorem want_apart' {o r : Oper} (hap : r.apart ops o = true) (a : Act) (v : Value) : Region.wanted r (yielded ops (a.put o.dst v).tmps) = Region.wanted r (yielded ops a.tmps) :=
  wanted_put r a o.dst v (Oper.apart_spec hap).2.2
theorem put_apart {o r : Oper} (hap : r.apart ops o = true) (a : Act) (v u : Value) : (a.put r.dst v).put o.dst u = (a.put o.dst u).put r.dst v :=
  Act.put_comm a v u fun d hd => (Oper.apart_spec hap).2.1 d hd
theorem steady_congr {o : Oper} {a a' : Act} (h : execOp a'.eval o = execOp a.eval o) {x : Value} (hs : steady P S o a x) : steady P S o a' x := by
  intro w hw; rw [h]; exact hs w hw
theorem always_congr {o : Oper} {a a' : Act} (h : execOp a'.eval o = execOp a.eval o) {x : Value} (hs : always P o a x) : always P o a' x := by
  intro w; rw [h]; exact hs w

/-- What a quiet operation does, now. -/
def nowYields (P : Program) (ops : Array Oper) (S : World → Prop) (o : Oper) (a : Act) (x : Value) : Prop :=
  (Region.wanted o (yielded ops a.tmps) = true ∧ ((kindOf o.op = .pure ∧ always P o a x) ∨ (kindOf o.op = .read ∧ steady P S o a x))) ∨ (Region.wanted o (yielded ops a.tmps) = false ∧ x = undef)
theorem nowYields_congr {o : Oper} {a a' : Act} (h : execOp a'.eval o = execOp a.eval o) (hw : Region.wanted o (yielded ops a'.tmps) = Region.wanted o (yielded ops a.tmps)) {x : Value} (hs : nowYields P ops S o a x) : nowYields P ops S o a' x := by
  rcases hs with ⟨h1, h2⟩ | ⟨h1, h2⟩
  · refine .inl ⟨hw.trans h1, ?_⟩
    rcases h2 with ⟨k, h2⟩ | ⟨k, h2⟩
    · exact .inl ⟨k, always_congr h h2⟩
    · exact .inr ⟨k, steady_congr h h2⟩
  · exact .inr ⟨hw.trans h1, h2⟩
theorem wpD_now {need : Nat → Bool} {i : Nat} {o : Oper} {rest : List (Nat × Oper)} {a : Act} {w : World} {x : Value} (hn : nowYields P ops S o a x) (h : wpD P ops S need Q rest (a.put o.dst x) w) : wpD P ops S need Q ((i, o) :: rest) a w := by
  unfold wpD
  rcases hn with ⟨h1, h2⟩ | ⟨h1, rfl⟩
  · rw [h1, if_pos rfl]
    rcases h2 with ⟨k, h2⟩ | ⟨k, h2⟩ <;> rw [k] <;> exact ⟨x, h2, h⟩
  · rw [h1, if_neg (by simp)]; exact h
theorem wpD_quiet {need : Nat → Bool} {i : Nat} {o : Oper} {rest : List (Nat × Oper)} {a : Act} {w : World} (h : wpD P ops S need Q ((i, o) :: rest) a w) (hk : kindOf o.op ≠ .loud ∨ Region.wanted o (yielded ops a.tmps) = false) : ∃ x, nowYields P ops S o a x ∧ wpD P ops S need Q rest (a.put o.dst x) w := by
  unfold wpD at h
  cases hw : Region.wanted o (yielded ops a.tmps) with
  | false => rw [hw, if_neg (by simp)] at h; exact ⟨undef, .inr ⟨hw, rfl⟩, h⟩
  | true =>
    rw [hw, if_pos rfl] at h
    cases k : kindOf o.op with
    | pure => rw [k] at h; obtain ⟨x, h1, h2⟩ := h; exact ⟨x, .inl ⟨hw, .inl ⟨k, h1⟩⟩, h2⟩
    | read => rw [k] at h; obtain ⟨x, h1, h2⟩ := h; exact ⟨x, .inl ⟨hw, .inr ⟨k, h1⟩⟩, h2⟩
    | loud => rcases hk with hk | hk
              · exact absurd k hk
              · rw [hw] at hk; cases hk
theorem nowYields_unique {o : Oper} {a : Act} {x y : Value} (hS : ∃ w, S w) (h : nowYields P ops S o a x) (k : nowYields P ops S o a y) : x = y := by
  rcases h with ⟨h1, h2⟩ | ⟨h1, rfl⟩
  · rcases k with ⟨k1, k2⟩ | ⟨k1, _⟩
    · rcases h2 with ⟨e1, h2⟩ | ⟨e1, h2⟩
      · rcases k2 with ⟨e2, k2⟩ | ⟨e2, _⟩
        · have := (h2 default).symm.trans (k2 default)
          injection this with a1; injection a1
        · rw [e1] at e2; cases e2
      · rcases k2 with ⟨e2, _⟩ | ⟨e2, k2⟩
        · rw [e1] at e2; cases e2
        · obtain ⟨w, hw⟩ := hS
          have := (h2 w hw).symm.trans (k2 w hw)
          injection this with a1; injection a1
    · rw [h1] at k1; cases k1
  · rcases k with ⟨k1, _⟩ | ⟨_, k2⟩
    · rw [h1] at k1; cases k1
    · exact k2.symm
/-- A quiet operation may be taken first. -/
theorem wpD_first {need : Nat → Bool} (hSi : ∃ w, S w) {i : Nat} {o : Oper} (hso : ∀ cs b, o.op ≠ .select cs b) (hq : kindOf o.op ≠ .loud) : ∀ (R1 : List (Nat × Oper)) (R2 : List (Nat × Oper)) (a : Act) (w : World),
    (∀ p ∈ R1, p.2.apart ops o = true ∧ ∀ cs b, p.2.op ≠ .select cs b) → wpD P ops S need Q (R1 ++ (i, o) :: R2) a w → ∃ x, nowYields P ops S o a x ∧ wpD P ops S need Q (R1 ++ R2) (a.put o.dst x) w
  | [], R2, a, w, _, h => wpD_quiet h (.inl hq)
  | (j, r) :: R1, R2, a, w, hA, h => by
    obtain ⟨hap, hsr⟩ := hA (j, r) (by simp)
    have hA' : ∀ p ∈ R1, p.2.apart ops o = true ∧ ∀ cs b, p.2.op ≠ .select cs b := fun p hp => hA p (by simp [hp])
    by_cases hk : kindOf r.op ≠ .loud ∨ Region.wanted r (yielded ops a.tmps) = false
    · obtain ⟨y, h1, h2⟩ := wpD_quiet h hk
      obtain ⟨x, h3, h4⟩ := wpD_first hSi hso hq R1 R2 _ _ hA' h2
      refine ⟨x, nowYields_congr (exec_apart hso hap a y).symm (want_apart hap a y).symm h3, ?_⟩
      refine wpD_now (x := y) (nowYields_congr (exec_apart' hsr hap a x) (want_apart' hap a x) h1) ?_
      rw [← put_apart hap]; exact h4
    · simp only [not_or, Classical.not_not, Bool.not_eq_false] at hk
      simp only [List.cons_append] at h
      unfold wpD at h
      rw [hk.2, if_pos rfl, hk.1] at h
      simp only at h
      have key : ∀ v w', (need j = true → S w') ∧ wpD P ops S need Q (R1 ++ (i, o) :: R2) (a.put r.dst v) w' → ∃ x, nowYields P ops S o a x ∧ ((need j = true → S w') ∧ wpD P ops S need Q (R1 ++ R2) ((a.put o.dst x).put r.dst v) w') := by
        intro v w' ⟨hS, hh⟩
        obtain ⟨x, h3, h4⟩ := wpD_first hSi hso hq R1 R2 _ _ hA' hh
        exact ⟨x, nowYields_congr (exec_apart hso hap a v).symm (want_apart hap a v).symm h3, hS, by rw [← put_apart hap]; exact h4⟩
      have fin : ∀ x, ((execOp (a.put o.dst x).eval r).run P w = (execOp a.eval r).run P w) ∧ Region.wanted r (yielded ops (a.put o.dst x).tmps) = true := fun x => ⟨by rw [exec_apart' hsr hap], (want_apart' hap a x).trans hk.2⟩
      cases hr : (execOp a.eval r).run P w with
      | halt e w' => rw [hr] at h; exact h.elim
      | ok nx w' =>
        rw [hr] at h
        cases nx with
        | value v =>
          obtain ⟨x, h3, h4⟩ := key v w' h
          refine ⟨x, h3, ?_⟩
          simp only [List.cons_append]
          unfold wpD
          rw [(fin x).2, if_pos rfl, hk.1]
          simp only
          rw [(fin x).1, hr]; exact h4
        | skip =>
          obtain ⟨x, h3, h4⟩ := key undef w' h
          refine ⟨x, h3, ?_⟩
          simp only [List.cons_append]
          unfold wpD
          rw [(fin x).2, if_pos rfl, hk.1]
          simp only
          rw [(fin x).1, hr]; exact h4
        | enter f xs =>
          obtain ⟨e, w2, fr, ⟨v, rfl, hK⟩, _⟩ := h []
          obtain ⟨x, h3, _⟩ := key v w2 hK
          refine ⟨x, h3, ?_⟩
          simp only [List.cons_append]
          unfold wpD
          rw [(fin x).2, if_pos rfl, hk.1]
          simp only
          rw [(fin x).1, hr]
          refine Calls.mono h ?_
          rintro e w2 ⟨v, rfl, hK⟩
          obtain ⟨x', h3', h4⟩ := key v w2 hK
          obtain rfl := nowYields_unique hSi h3 h3'
          exact ⟨v, rfl, h4⟩
        | _ => exact h.elim
/-- One that acts may go ahead of quiet ones. -/
theorem wpD_loud {need : Nat → Bool} {i : Nat} {o : Oper} (hso : ∀ cs b, o.op ≠ .select cs b) (hk : kindOf o.op = .loud) : ∀ (R1 : List (Nat × Oper)) (R2 : List (Nat × Oper)) (a : Act) (w : World),
    (∀ p ∈ R1, p.2.apart ops o = true ∧ (∀ cs b, p.2.op ≠ .select cs b) ∧ kindOf p.2.op ≠ .loud) → Region.wanted o (yielded ops a.tmps) = true → wpD P ops S need Q (R1 ++ (i, o) :: R2) a w →
    loudUp P a o.dst (fun a' w' => (need i = true → S w') ∧ wpD P ops S need Q (R1 ++ R2) a' w') ((execOp a.eval o).run P w)
  | [], R2, a, w, _, hw, h => by
    simp only [List.nil_append] at h
    unfold wpD at h
    rw [hw, if_pos rfl, hk] at h
    exact h
  | (j, r) :: R1, R2, a, w, hA, hw, h => by
    obtain ⟨hap, hsr, hkr⟩ := hA (j, r) (by simp)
    obtain ⟨y, h1, h2⟩ := wpD_quiet h (.inl hkr)
    have ih := wpD_loud hso hk R1 R2 _ w (fun p hp => hA p (by simp [hp])) ((want_apart hap a y).trans hw) h2
    rw [exec_apart hso hap] at ih
    have key : ∀ v w', (need i = true → S w') ∧ wpD P ops S need Q (R1 ++ R2) ((a.put r.dst y).put o.dst v) w' → (need i = true → S w') ∧ wpD P ops S need Q ((j, r) :: R1 ++ R2) (a.put o.dst v) w' := by
      intro v w' ⟨hS, hh⟩
      refine ⟨hS, ?_⟩
      simp only [List.cons_append]
      refine wpD_now (x := y) (nowYields_congr (exec_apart' hsr hap a v) (want_apart' hap a v) h1) ?_
      rw [← put_apart hap]; exact hh
    cases hr : (execOp a.eval o).run P w with
    | halt e w' => rw [hr] at ih; exact ih
    | ok nx w' =>
      rw [hr] at ih
      cases nx with
      | value v => exact key v w' ih
      | skip => exact key undef w' ih
      | enter f xs =>
        refine Calls.mono ih ?_
        rintro e w2 ⟨v, rfl, hK⟩
        exact ⟨v, rfl, key v w2 hK⟩
      | _ => exact ih
/-- One that acts, and is not wanted. -/
theorem wpD_loud_off {need : Nat → Bool} {i : Nat} {o : Oper} : ∀ (R1 : List (Nat × Oper)) (R2 : List (Nat × Oper)) (a : Act) (w : World),
    (∀ p ∈ R1, p.2.apart ops o = true ∧ (∀ cs b, p.2.op ≠ .select cs b) ∧ kindOf p.2.op ≠ .loud) → Region.wanted o (yielded ops a.tmps) = false → wpD P ops S need Q (R1 ++ (i, o) :: R2) a w →
    wpD P ops S need Q (R1 ++ R2) (a.put o.dst undef) w
  | [], R2, a, w, _, hw, h => by
    simp only [List.nil_append] at h
    unfold wpD at h
    rw [hw, if_neg (by simp)] at h
    exact h
  | (j, r) :: R1, R2, a, w, hA, hw, h => by
    obtain ⟨hap, hsr, hkr⟩ := hA (j, r) (by simp)
    obtain ⟨y, h1, h2⟩ := wpD_quiet h (.inl hkr)
    have ih := wpD_loud_off R1 R2 _ w (fun p hp => hA p (by simp [hp])) ((want_apart hap a y).trans hw) h2
    simp only [List.cons_append]
    refine wpD_now (x := y) (nowYields_congr (exec_apart' hsr hap a undef) (want_apart' hap a undef) h1) ?_
    rw [← put_apart hap]; exact ih

/-! ### The check -/
/-- All that an operation waits for, as a list each. -/
def ancs (ops : List Oper) : List (List Nat) :=
  ops.foldl (fun acc o => acc ++ [(o.after.toList.filter (Region.binds .any)).foldl (fun s e => (e.on :: s) ++ (acc.getD e.on []).filter fun r => !s.contains r) [] |>.eraseDups]) []
def ancOk (ops : List Oper) (T : List (List Nat)) : Bool :=
  (List.range ops.length).all fun i => match ops[i]? with
    | none => true
    | some o => (o.after.toList.all fun e => !Region.binds .any e || decide (e.on < i)) && (T.getD i []).all fun r => o.after.toList.any fun e => Region.binds .any e && (e.on == r || (T.getD e.on []).contains r)
def pairsOk (ops : List Oper) (T : List (List Nat)) (need : Nat → Bool) : Bool :=
  (List.range ops.length).all fun i => match ops[i]? with
    | none => true
    | some o => (!(o.op matches .select ..)) && (List.range i).all (fun r => (T.getD i []).contains r || (match ops[r]? with | none => false | some p => p.apart ops.toArray o && !(kindOf p.op == .loud && kindOf o.op == .loud))) &&
        (need i || !(kindOf o.op == .loud) || (List.range ops.length).all fun j => match ops[j]? with | none => true | some p => !(kindOf p.op == .read) || (T.getD i []).contains j)
def drawOk (ops : List Oper) (need : Nat → Bool) : Bool := let T := ancs ops; ancOk ops T && pairsOk ops T need
theorem anc_listed {os : List Oper} {T : List (List Nat)} (hT : ancOk os T = true) {listed : Array Bool} (hc : ∀ j o, os[j]? = some o → listed.getD j false = true → ∀ e ∈ o.after, Region.binds .any e = true → listed.getD e.on false = true) :
    ∀ (i : Nat) (o : Oper), os[i]? = some o → (∀ e ∈ o.after, Region.binds .any e = true → listed.getD e.on false = true) → ∀ r ∈ T.getD i [], listed.getD r false = true := by
  intro i
  induction i using Nat.strongRecOn with
  | _ i ih =>
    intro o ho he r hr
    have hi : i < os.length := (List.getElem?_eq_some_iff.1 ho).1
    have h1 := List.all_eq_true.1 hT i (by simpa using hi)
    rw [ho] at h1
    simp only [Bool.and_eq_true] at h1
    have h2 := List.all_eq_true.1 h1.2 r hr
    obtain ⟨e, hem, h3⟩ := List.any_eq_true.1 h2
    simp only [Bool.and_eq_true, Bool.or_eq_true] at h3
    have hem' : e ∈ o.after := by simpa using hem
    have hlt : e.on < i := by
      have := List.all_eq_true.1 h1.1 e hem
      simpa [h3.1] using this
    rcases h3.2 with h4 | h4
    · have : e.on = r := by simpa using h4
      exact this ▸ he e hem' h3.1
    · have hl := he e hem' h3.1
      have hes : e.on < os.length := by omega
      exact ih e.on hlt os[e.on] (by simp [hes]) (hc e.on _ (by simp [hes]) hl) r (by simpa using h4)
/-- Those that are left, in the text's order. -/
def leftF : List Oper → Nat → Array Bool → List (Nat × Oper)
  | [], _, _ => []
  | o :: r, k, lst => if lst.getD k true then leftF r (k + 1) lst else (k, o) :: leftF r (k + 1) lst
theorem getD_set_ne {lst : Array Bool} {i k : Nat} {d : Bool} (h : k ≠ i) : (lst.setIfInBounds i true).getD k d = lst.getD k d := by
  simp [Array.getD_eq_getD_getElem?, Array.getElem?_setIfInBounds_ne (Ne.symm h)]
theorem getD_set_eq {lst : Array Bool} {i : Nat} : (lst.setIfInBounds i true).getD i true = true := by
  simp only [Array.getD_eq_getD_getElem?, Array.getElem?_setIfInBounds_self]
  split <;> rfl
theorem leftF_set_lt : ∀ (os : List Oper) (k i : Nat) (lst : Array Bool), i < k → leftF os k (lst.setIfInBounds i true) = leftF os k lst
  | [], _, _, _, _ => rfl
  | o :: r, k, i, lst, h => by
    simp only [leftF, getD_set_ne (show k ≠ i by omega), leftF_set_lt r (k + 1) i lst (by omega)]
theorem leftF_split : ∀ (os : List Oper) (k i : Nat) (lst : Array Bool) (o : Oper), k ≤ i → os[i - k]? = some o → lst.getD i true = false →
    ∃ R1 R2, leftF os k lst = R1 ++ (i, o) :: R2 ∧ leftF os k (lst.setIfInBounds i true) = R1 ++ R2 ∧ ∀ p ∈ R1, p.1 < i ∧ lst.getD p.1 true = false ∧ k ≤ p.1 ∧ os[p.1 - k]? = some p.2
  | [], k, i, _, o, _, h, _ => by simp at h
  | q :: r, k, i, lst, o, hk, h, hl => by
    by_cases e : k = i
    · subst e
      simp only [Nat.sub_self, List.getElem?_cons_zero, Option.some.injEq] at h
      subst h
      refine ⟨[], leftF r (k + 1) lst, ?_, ?_, by simp⟩
      · simp only [leftF, hl, Bool.false_eq_true, if_false, List.nil_append]
      · simp only [leftF, getD_set_eq, if_true, List.nil_append, leftF_set_lt r (k + 1) k lst (by omega)]
    · have hk' : k + 1 ≤ i := by omega
      obtain ⟨R1, R2, h1, h2, h3⟩ := leftF_split r (k + 1) i lst o hk' (by rw [show i - k = (i - (k + 1)) + 1 from by omega] at h; simpa using h) hl
      have h3' : ∀ p ∈ R1, p.1 < i ∧ lst.getD p.1 true = false ∧ k ≤ p.1 ∧ (q :: r)[p.1 - k]? = some p.2 := by
        intro p hp
        obtain ⟨a1, a2, a3, a4⟩ := h3 p hp
        refine ⟨a1, a2, by omega, ?_⟩
        rw [show p.1 - k = (p.1 - (k + 1)) + 1 from by omega]; simpa using a4
      by_cases hq : lst.getD k true = true
      · refine ⟨R1, R2, ?_, ?_, h3'⟩
        · simp only [leftF, hq, if_true, h1]
        · simp only [leftF, getD_set_ne e, hq, if_true, h2]
      · have hq' : lst.getD k true = false := by simpa using hq
        refine ⟨(k, q) :: R1, R2, ?_, ?_, ?_⟩
        · simp only [leftF, hq', Bool.false_eq_true, if_false, h1, List.cons_append]
        · simp only [leftF, getD_set_ne e, hq', Bool.false_eq_true, if_false, h2, List.cons_append]
        · intro p hp
          rcases List.mem_cons.1 hp with rfl | hp
          · exact ⟨by show k < i; omega, hq', Nat.le_refl _, by simp⟩
          · exact h3' p hp
theorem leftF_nil : ∀ (os : List Oper) (k : Nat) (lst : Array Bool), leftF os k lst ≠ [] → ∃ i o, k ≤ i ∧ os[i - k]? = some o ∧ lst.getD i true = false ∧ ∀ j, k ≤ j → j < i → lst.getD j true = true
  | [], _, _, h => absurd rfl h
  | o :: r, k, lst, h => by
    by_cases hq : lst.getD k true = true
    · simp only [leftF, hq, if_true] at h
      obtain ⟨i, o', h1, h2, h3, h4⟩ := leftF_nil r (k + 1) lst h
      refine ⟨i, o', by omega, ?_, h3, fun j hj1 hj2 => ?_⟩
      · rw [show i - k = (i - (k + 1)) + 1 from by omega]; simpa using h2
      · by_cases e : j = k
        · subst e; exact hq
        · exact h4 j (by omega) hj2
    · exact ⟨k, o, Nat.le_refl _, by simp, by simpa using hq, fun j h1 h2 => absurd h1 (by omega)⟩
theorem leftF_none : ∀ (os : List Oper) (k n : Nat), leftF os k (Array.replicate n false) = leftF os k (Array.replicate n false) := fun _ _ _ => rfl
theorem leftF_all : ∀ (os : List Oper) (k n : Nat), k + os.length ≤ n → leftF os k (Array.replicate n false) = (List.range' k os.length).zip os
  | [], _, _, _ => rfl
  | o :: r, k, n, h => by
    have hk : (Array.replicate n false).getD k true = false := by
      simp only [Array.getD_eq_getD_getElem?, Array.getElem?_replicate]
      rw [if_pos (by simp only [List.length_cons] at h; omega)]; rfl
    simp only [leftF, hk, Bool.false_eq_true, if_false, List.length_cons, List.range'_succ, List.zip_cons_cons]
    rw [leftF_all r (k + 1) n (by simp only [List.length_cons] at h; omega)]
theorem mem_readyD {os : List Oper} {listed : Array Bool} {i : Nat} (h : i ∈ Region.ready .any os.toArray listed) : ∃ o, os[i]? = some o ∧ listed.getD i true = false ∧ ∀ e ∈ o.after, Region.binds .any e = true → listed.getD e.on false = true := by
  simp only [Region.ready, List.mem_filter, List.mem_range, List.size_toArray, Bool.and_eq_true, Bool.not_eq_true'] at h
  obtain ⟨h1, h2, h3⟩ := h
  have hi : os[i]? = some os[i] := by simp [h1]
  refine ⟨os[i], hi, h2, fun e he hb => ?_⟩
  simp only [List.getElem?_toArray, hi, Option.map_some, Option.getD_some] at h3
  have := Array.all_eq_true'.1 h3 e he
  simpa [hb] using this
theorem ready_of {os : List Oper} {listed : Array Bool} {i : Nat} {o : Oper} (ho : os[i]? = some o) (h2 : listed.getD i true = false) (h3 : ∀ e ∈ o.after, Region.binds .any e = true → listed.getD e.on false = true) : i ∈ Region.ready .any os.toArray listed := by
  simp only [Region.ready, List.mem_filter, List.mem_range, List.size_toArray, Bool.and_eq_true, Bool.not_eq_true']
  refine ⟨(List.getElem?_eq_some_iff.1 ho).1, h2, ?_⟩
  simp only [List.getElem?_toArray, ho, Option.map_some, Option.getD_some]
  refine Array.all_eq_true'.2 fun e he => ?_
  cases hb : Region.binds .any e with
  | false => rfl
  | true => simp [h3 e he hb]
theorem wpOp_now {i : Nat} {o : Oper} {a : Act} {w : World} {x : Value} {K : Act → World → Prop} (hi : ops[i]? = some o) (hn : nowYields P ops S o a x) (hS : kindOf o.op = .read → S w) (hk : K (a.put o.dst x) w) : wpOp P ops Q i K a w := by
  unfold wpOp
  simp only [hi]
  rcases hn with ⟨hw, h2⟩ | ⟨hw, rfl⟩
  · rw [hw, if_pos rfl]
    refine .inl ?_
    show o.upon P a K Q _
    rcases h2 with ⟨k, h2⟩ | ⟨k, h2⟩
    · rw [h2 w, Oper.upon_value]; exact hk
    · rw [h2 w (hS k), Oper.upon_value]; exact hk
  · rw [hw, if_neg (by simp)]; exact hk
theorem wpOp_loud {i : Nat} {o : Oper} {a : Act} {w : World} {K : Act → World → Prop} (hi : ops[i]? = some o) (hw : Region.wanted o (yielded ops a.tmps) = true) (h : loudUp P a o.dst K ((execOp a.eval o).run P w)) : wpOp P ops Q i K a w := by
  unfold wpOp
  simp only [hi]
  rw [hw, if_pos rfl]
  refine .inl ?_
  show o.upon P a K Q _
  cases hr : (execOp a.eval o).run P w with
  | halt e w' => rw [hr] at h; exact h.elim
  | ok nx w' =>
    rw [hr] at h
    cases nx with
    | value v => exact h
    | skip => exact h
    | enter f xs =>
      rw [Oper.upon_enter]
      refine Calls.mono h ?_
      rintro e w2 ⟨v, rfl, hK⟩
      exact hK
    | _ => exact h.elim
structure Inv0 (os : List Oper) (S : World → Prop) (listed : Array Bool) (w : World) : Prop where
  size : listed.size = os.length
  closed : ∀ j o, os[j]? = some o → listed.getD j false = true → ∀ e ∈ o.after, Region.binds .any e = true → listed.getD e.on false = true
  reads : ∀ j o, os[j]? = some o → kindOf o.op = .read → listed.getD j true = false → S w
theorem getD_size {listed : Array Bool} {i : Nat} (h : i < listed.size) : listed.getD i true = listed.getD i false := by simp [Array.getD_eq_getD_getElem?, h]
theorem Inv0.put {os : List Oper} {listed : Array Bool} {w w' : World} (h : Inv0 os S listed w) {i : Nat} {o : Oper} (ho : os[i]? = some o) (he : ∀ e ∈ o.after, Region.binds .any e = true → listed.getD e.on false = true) (hr : ∀ j o, os[j]? = some o → kindOf o.op = .read → (listed.setIfInBounds i true).getD j true = false → S w') : Inv0 os S (listed.setIfInBounds i true) w' := by
  have up : ∀ k, listed.getD k false = true → (listed.setIfInBounds i true).getD k false = true := by
    intro k hk
    by_cases e : k = i
    · subst e
      simp only [Array.getD_eq_getD_getElem?, Array.getElem?_setIfInBounds_self] at *
      by_cases hl : k < listed.size
      · rw [if_pos hl]; rfl
      · rw [Array.getElem?_eq_none (by omega)] at hk; simp at hk
    · rw [getD_set_ne e]; exact hk
  refine ⟨by simpa using h.size, fun j p hp hl e hem hb => ?_, hr⟩
  by_cases ej : j = i
  · subst ej
    rw [ho] at hp
    obtain rfl := Option.some.inj hp
    exact up _ (he e hem hb)
  · rw [getD_set_ne ej] at hl
    exact up _ (h.closed j p hp hl e hem hb)
theorem wpAny_of_wpD {os : List Oper} {need : Nat → Bool} (hSi : ∃ w, S w) (hok : drawOk os need = true) : ∀ (fuel : Nat) (listed : Array Bool) (a : Act) (w : World), (leftF os 0 listed).length ≤ fuel → Inv0 os S listed w → wpD P os.toArray S need Q (leftF os 0 listed) a w → wpAny P .any os.toArray Q fuel listed a w := by
  simp only [drawOk, Bool.and_eq_true] at hok
  obtain ⟨hT, hP⟩ := hok
  have nil_left : ∀ listed w, Inv0 os S listed w → Region.ready .any os.toArray listed = [] → leftF os 0 listed = [] := by
    intro listed w hI hr
    refine Classical.byContradiction fun hne => ?_
    obtain ⟨i, o, _, ho, hl, hall⟩ := leftF_nil os 0 listed hne
    simp only [Nat.sub_zero] at ho
    have hi := (List.getElem?_eq_some_iff.1 ho).1
    have hmem : i ∈ Region.ready .any os.toArray listed := ready_of ho hl fun e he hb => by
      have h1 := List.all_eq_true.1 hT i (by simpa using hi)
      rw [ho] at h1
      simp only [Bool.and_eq_true] at h1
      have h2 := List.all_eq_true.1 h1.1 e (by simpa using he)
      have hlt : e.on < i := by simpa [hb] using h2
      have h3 := hall e.on (Nat.zero_le _) hlt
      rwa [getD_size (by rw [hI.size]; omega)] at h3
    rw [hr] at hmem; cases hmem
  intro fuel
  induction fuel with
  | zero =>
    intro listed a w hf hI h
    have h0 : leftF os 0 listed = [] := List.eq_nil_of_length_eq_zero (by omega)
    refine ⟨?_, by rw [h0] at h; exact h⟩
    refine Classical.byContradiction fun hne => ?_
    obtain ⟨i, hi⟩ := List.exists_mem_of_ne_nil _ hne
    obtain ⟨o, ho, hl, _⟩ := mem_readyD hi
    obtain ⟨R1, R2, h1, _⟩ := leftF_split os 0 i listed o (Nat.zero_le _) (by simpa using ho) hl
    rw [h0] at h1; simp at h1
  | succ fuel ih =>
    intro listed a w hf hI h
    refine ⟨fun hr => by rw [nil_left listed w hI hr] at h; exact h, fun i hi => ?_⟩
    obtain ⟨o, ho, hl, he⟩ := mem_readyD hi
    have hio : os.toArray[i]? = some o := by simpa using ho
    have hilt := (List.getElem?_eq_some_iff.1 ho).1
    obtain ⟨R1, R2, h1, h2, h3⟩ := leftF_split os 0 i listed o (Nat.zero_le _) (by simpa using ho) hl
    have hpi := List.all_eq_true.1 hP i (by simpa using hilt)
    rw [ho] at hpi
    simp only [Bool.and_eq_true] at hpi
    obtain ⟨⟨hsel, hpair⟩, hneed⟩ := hpi
    have hso : ∀ cs b, o.op ≠ .select cs b := by intro cs b e; rw [e] at hsel; simp at hsel
    have hanc := anc_listed hT hI.closed i o ho he
    have hR1 : ∀ p ∈ R1, p.2.apart os.toArray o = true ∧ (∀ cs b, p.2.op ≠ .select cs b) ∧ ¬ (kindOf p.2.op = .loud ∧ kindOf o.op = .loud) := by
      intro p hp
      obtain ⟨q1, q2, _, q3⟩ := h3 p hp
      simp only [Nat.sub_zero] at q3
      have hr := List.all_eq_true.1 hpair p.1 (by simpa using q1)
      have hpl := (List.getElem?_eq_some_iff.1 q3).1
      have hnot : ((ancs os).getD i []).contains p.1 = false := by
        cases hc : ((ancs os).getD i []).contains p.1 with
        | false => rfl
        | true =>
          have := hanc p.1 (by simpa using hc)
          rw [← getD_size (by rw [hI.size]; omega), q2] at this; cases this
      rw [hnot, q3] at hr
      simp only [Bool.false_or, Bool.and_eq_true, Bool.not_eq_true'] at hr
      refine ⟨hr.1, fun cs b e => ?_, fun hh => ?_⟩
      · have h4 := List.all_eq_true.1 hP p.1 (by simpa using hpl)
        rw [q3] at h4
        simp only [Bool.and_eq_true] at h4
        rw [e] at h4; simp at h4
      · rw [hh.1, hh.2] at hr; simp at hr
    have hlen : (leftF os 0 (listed.setIfInBounds i true)).length ≤ fuel := by
      rw [h1] at hf; rw [h2]; simp only [List.length_append, List.length_cons] at *; omega
    rw [h1] at h
    by_cases hk : kindOf o.op = .loud
    · have hR : ∀ p ∈ R1, p.2.apart os.toArray o = true ∧ (∀ cs b, p.2.op ≠ .select cs b) ∧ kindOf p.2.op ≠ .loud := fun p hp => ⟨(hR1 p hp).1, (hR1 p hp).2.1, fun e => (hR1 p hp).2.2 ⟨e, hk⟩⟩
      cases hw : Region.wanted o (yielded os.toArray a.tmps) with
      | true =>
        have h5 := wpD_loud hso hk R1 R2 a w hR hw h
        refine wpOp_loud hio hw ?_
        have step : ∀ a' w', (need i = true → S w') ∧ wpD P os.toArray S need Q (R1 ++ R2) a' w' → wpAny P .any os.toArray Q fuel (listed.setIfInBounds i true) a' w' := by
          rintro a' w' ⟨hS, hh⟩
          refine ih _ _ _ hlen (hI.put ho he fun j p hp hrd hlj => ?_) (by rw [h2]; exact hh)
          cases hn : need i with
          | true => exact hS hn
          | false =>
            rw [hn, hk] at hneed
            simp only [Bool.false_or, beq_self_eq_true, Bool.not_true] at hneed
            have hj := (List.getElem?_eq_some_iff.1 hp).1
            have h6 := List.all_eq_true.1 hneed j (by simpa using hj)
            rw [hp] at h6
            simp only [hrd] at h6
            simp only [beq_self_eq_true, Bool.not_true, Bool.false_or] at h6
            have h7 := hanc j (by simpa using h6)
            have hne : j ≠ i := by rintro rfl; rw [ho] at hp; obtain rfl := Option.some.inj hp; rw [hk] at hrd; cases hrd
            rw [getD_set_ne hne, getD_size (by rw [hI.size]; exact hj), h7] at hlj; cases hlj
        cases hr : (execOp a.eval o).run P w with
        | halt e w' => rw [hr] at h5; exact h5
        | ok nx w' =>
          rw [hr] at h5
          cases nx with
          | value v => exact step _ _ h5
          | skip => exact step _ _ h5
          | enter f xs =>
            refine Calls.mono h5 ?_
            rintro e w2 ⟨v, rfl, hK⟩
            exact ⟨v, rfl, step _ _ hK⟩
          | _ => exact h5
      | false =>
        have h5 := wpD_loud_off R1 R2 a w hR hw h
        unfold wpOp
        simp only [hio]
        rw [hw, if_neg (by simp)]
        exact ih _ _ _ hlen (hI.put ho he fun j p hp hrd hlj => hI.reads j p hp hrd (by
          by_cases e : j = i
          · subst e; rw [getD_set_eq] at hlj; cases hlj
          · rwa [getD_set_ne e] at hlj)) (by rw [h2]; exact h5)
    · obtain ⟨x, hx, h5⟩ := wpD_first hSi hso hk R1 R2 a w (fun p hp => ⟨(hR1 p hp).1, (hR1 p hp).2.1⟩) h
      refine wpOp_now hio hx (fun hrd => hI.reads i o ho hrd hl) ?_
      exact ih _ _ _ hlen (hI.put ho he fun j p hp hrd hlj => hI.reads j p hp hrd (by
          by_cases e : j = i
          · subst e; rw [getD_set_eq] at hlj; cases hlj
          · rwa [getD_set_ne e] at hlj)) (by rw [h2]; exact h5)

/-! ### Several orders of those that act -/
def plainOp (o : Oper) : Bool := match o.op with | .call { callee := .builtin .append, .. } | .call { callee := .builtin .len, .. } => true | .call _ => false | _ => true
def loudSeq (ops : List Oper) (ρ : List Nat) : List Nat := ρ.filter fun i => match ops[i]? with | some o => kindOf o.op == .loud | none => false
def orderOk (ops : List Oper) (T : List (List Nat)) (ρ : List Nat) : Bool :=
  (List.range ops.length).all (fun i => ρ.contains i) && decide ρ.Nodup && ρ.all (fun i => decide (i < ops.length)) &&
  (List.range ρ.length).all (fun q => (List.range q).all fun p => match ρ[q]?, ρ[p]? with
    | some i, some r => (T.getD i []).contains r || (match ops[i]?, ops[r]? with | some o, some x => x.apart ops.toArray o | _, _ => false)
    | _, _ => false)
def drawsOk (ops : List Oper) (need : Nat → Bool) (reps : List (List Nat)) : Bool :=
  let T := ancs ops
  ancOk ops T && reps.all (orderOk ops T) && (ops.all fun o => !(o.op matches .select ..)) &&
  ((List.range ops.length).all fun i => match ops[i]? with
    | none => true
    | some o => need i || !(kindOf o.op == .loud) || (List.range ops.length).all fun j => match ops[j]? with | none => true | some p => !(kindOf p.op == .read) || (T.getD i []).contains j) &&
  (reps.all fun ρ => (List.range ((loudSeq ops ρ).length + 1)).all fun k => (List.range ops.length).all fun i => match ops[i]? with
    | none => true
    | some o => !(kindOf o.op == .loud) || ((loudSeq ops ρ).take k).contains i || !((loudSeq ops ρ).all fun r => !(T.getD i []).contains r || ((loudSeq ops ρ).take k).contains r) ||
        reps.any fun σ => (loudSeq ops σ).take (k + 1) == (loudSeq ops ρ).take k ++ [i])
/-- A call stands behind one history in one order alone. -/
def callOnce (ops : List Oper) (reps : List (List Nat)) : Bool :=
  (List.range ops.length).all fun i => match ops[i]? with
    | some o => plainOp o || reps.all fun ρ => reps.all fun σ => (List.range (loudSeq ops ρ).length).all fun p => !((loudSeq ops ρ)[p]? == some i && (loudSeq ops σ).take (p + 1) == (loudSeq ops ρ).take (p + 1)) || ρ == σ
    | none => true
def inOrder (os : List Oper) (listed : Array Bool) (ρ : List Nat) : List (Nat × Oper) := ρ.filterMap fun i => if listed.getD i true then none else (os[i]?).map fun o => (i, o)
theorem inOrder_split (os : List Oper) (listed : Array Bool) (i : Nat) (o : Oper) (ho : os[i]? = some o) (hl : listed.getD i true = false) : ∀ (ρ : List Nat), ρ.Nodup → i ∈ ρ →
    ∃ R1 R2 P1, inOrder os listed ρ = R1 ++ (i, o) :: R2 ∧ inOrder os (listed.setIfInBounds i true) ρ = R1 ++ R2 ∧ R1 = inOrder os listed P1 ∧ ∃ P2, ρ = P1 ++ i :: P2
  | [], _, h => by cases h
  | j :: ρ, hn, h => by
    have hn' := List.nodup_cons.1 hn
    have same : ∀ (L : List Nat), i ∉ L → inOrder os (listed.setIfInBounds i true) L = inOrder os listed L := by
      intro L hL
      induction L with
      | nil => rfl
      | cons q L ihL =>
        simp only [List.mem_cons, not_or] at hL
        simp only [inOrder, List.filterMap_cons, getD_set_ne (Ne.symm hL.1)]
        have := ihL hL.2
        simp only [inOrder] at this
        rw [this]
    by_cases e : i = j
    · subst e
      refine ⟨[], inOrder os listed ρ, [], ?_, ?_, rfl, ρ, rfl⟩
      · simp only [inOrder, List.filterMap_cons, hl, ho, Bool.false_eq_true, if_false, Option.map_some, List.nil_append]
      · have h0 := same ρ hn'.1
        simp only [inOrder, List.filterMap_cons, getD_set_eq, if_true, List.nil_append] at h0 ⊢
        exact h0
    · have hm : i ∈ ρ := by rcases List.mem_cons.1 h with h | h; exact absurd h e; exact h
      obtain ⟨R1, R2, P1, h1, h2, h3, P2, h4⟩ := inOrder_split os listed i o ho hl ρ hn'.2 hm
      simp only [inOrder] at h1 h2 h3
      cases hj : listed.getD j true with
      | true =>
        refine ⟨R1, R2, j :: P1, ?_, ?_, ?_, P2, by rw [h4]; rfl⟩
        · simp only [inOrder, List.filterMap_cons, hj, if_true]; exact h1
        · simp only [inOrder, List.filterMap_cons, getD_set_ne (Ne.symm e), hj, if_true]; exact h2
        · simp only [inOrder, List.filterMap_cons, hj, if_true]; exact h3
      | false =>
        cases hoj : os[j]? with
        | none =>
          refine ⟨R1, R2, j :: P1, ?_, ?_, ?_, P2, by rw [h4]; rfl⟩
          · simp only [inOrder, List.filterMap_cons, hj, hoj, Bool.false_eq_true, if_false, Option.map_none]; exact h1
          · simp only [inOrder, List.filterMap_cons, getD_set_ne (Ne.symm e), hj, hoj, Bool.false_eq_true, if_false, Option.map_none]; exact h2
          · simp only [inOrder, List.filterMap_cons, hj, hoj, Bool.false_eq_true, if_false, Option.map_none]; exact h3
        | some p =>
          refine ⟨(j, p) :: R1, R2, j :: P1, ?_, ?_, ?_, P2, by rw [h4]; rfl⟩
          · simp only [inOrder, List.filterMap_cons, hj, hoj, Bool.false_eq_true, if_false, Option.map_some, List.cons_append, h1]
          · simp only [inOrder, List.filterMap_cons, getD_set_ne (Ne.symm e), hj, hoj, Bool.false_eq_true, if_false, Option.map_some, List.cons_append, h2]
          · simp only [inOrder, List.filterMap_cons, hj, hoj, Bool.false_eq_true, if_false, Option.map_some, h3]
theorem mem_inOrder {os : List Oper} {listed : Array Bool} {ρ : List Nat} {p : Nat × Oper} (h : p ∈ inOrder os listed ρ) : p.1 ∈ ρ ∧ listed.getD p.1 true = false ∧ os[p.1]? = some p.2 := by
  simp only [inOrder, List.mem_filterMap] at h
  obtain ⟨i, hi, h⟩ := h
  cases hl : listed.getD i true with
  | true => rw [hl] at h; simp at h
  | false =>
    rw [hl] at h
    simp only [Bool.false_eq_true, if_false, Option.map_eq_some_iff] at h
    obtain ⟨o, ho, rfl⟩ := h
    exact ⟨hi, hl, ho⟩
theorem noCall_spec {o : Oper} (hn : plainOp o = true) (hk : kindOf o.op = .loud) (a : Act) (w w' : World) (f : FuncId) (xs : Array Value) : (execOp a.eval o).run P w ≠ .ok (.enter f xs) w' := by
  have hv : ∀ (s : Sem Value), (do pure (Next.value (← s)) : Sem Next).run P w ≠ .ok (.enter f xs) w' := by
    intro s e
    simp only [Sem.run_bind] at e
    cases hs : s.run P w with
    | ok v w2 => rw [hs] at e; simp at e
    | halt x w2 => rw [hs] at e; simp at e
  have hu : ∀ (s : Sem Unit), (do s; pure Next.skip : Sem Next).run P w ≠ .ok (.enter f xs) w' := by
    intro s e
    simp only [Sem.run_bind] at e
    cases hs : s.run P w with
    | ok v w2 => rw [hs] at e; simp at e
    | halt x w2 => rw [hs] at e; simp at e
  obtain ⟨d, op, t, p, af, g⟩ := o
  simp only [plainOp] at hn hk
  cases op <;> simp only [kindOf, reduceCtorEq] at hk <;> simp only [execOp] <;> first
    | exact hv _
    | exact hu _
    | skip
  case call c =>
    obtain ⟨cal, xs', ts⟩ := c
    cases cal with
    | builtin b =>
      intro e
      simp only [resolve, Sem.run_bind, Sem.run_pure, Result.andThen_ok, invoke] at e
      cases b <;> first
        | (simp at hn; done)
        | (simp at hk; done)
        | (simp only [builtin] at e; exact hv _ e)
    | value f => simp at hn
    | invoke r m => simp at hn
def loudB (os : List Oper) (i : Nat) : Bool := match os[i]? with | some o => kindOf o.op == .loud | none => false
theorem loudSeq_eq (os : List Oper) (ρ : List Nat) : loudSeq os ρ = ρ.filter (loudB os) := rfl
theorem take_next {L h : List Nat} {i : Nat} (h1 : L.take (h.length + 1) = h ++ [i]) : L.take h.length = h ∧ L[h.length]? = some i := by
  have hl := congrArg List.length h1
  simp only [List.length_take, List.length_append, List.length_cons, List.length_nil] at hl
  constructor
  · have := congrArg (List.take h.length) h1
    rw [List.take_take, Nat.min_eq_left (by omega), List.take_left] at this
    exact this
  · have := congrArg (fun l => l[h.length]?) h1
    simp only [List.getElem?_take, Nat.lt_succ_self, if_true] at this
    rw [this]; simp
theorem wpAny_of_orders {os : List Oper} {need : Nat → Bool} {reps : List (List Nat)} (hSi : ∃ w, S w) (hnc : callOnce os reps = true) (hok : drawsOk os need reps = true) : ∀ (fuel : Nat) (listed : Array Bool) (hh : List Nat) (a : Act) (w : World),
    (leftF os 0 listed).length ≤ fuel → Inv0 os S listed w → (∀ i, loudB os i = true → (listed.getD i true = true ↔ i ∈ hh)) → (∃ ρ ∈ reps, (loudSeq os ρ).take hh.length = hh) →
    (∀ ρ ∈ reps, (loudSeq os ρ).take hh.length = hh → wpD P os.toArray S need Q (inOrder os listed ρ) a w) → wpAny P .any os.toArray Q fuel listed a w := by
  simp only [drawsOk, Bool.and_eq_true] at hok
  obtain ⟨⟨⟨⟨hT, hOrd⟩, hSel⟩, hNeed⟩, hComp⟩ := hok
  have nil_left : ∀ listed w, Inv0 os S listed w → Region.ready .any os.toArray listed = [] → leftF os 0 listed = [] := by
    intro listed w hI hr
    refine Classical.byContradiction fun hne => ?_
    obtain ⟨i, o, _, ho, hl, hall⟩ := leftF_nil os 0 listed hne
    simp only [Nat.sub_zero] at ho
    have hi := (List.getElem?_eq_some_iff.1 ho).1
    have hmem : i ∈ Region.ready .any os.toArray listed := ready_of ho hl fun e he hb => by
      have h1 := List.all_eq_true.1 hT i (by simpa using hi)
      rw [ho] at h1
      simp only [Bool.and_eq_true] at h1
      have h2 := List.all_eq_true.1 h1.1 e (by simpa using he)
      have hlt : e.on < i := by simpa [hb] using h2
      have h3 := hall e.on (Nat.zero_le _) hlt
      rwa [getD_size (by rw [hI.size]; omega)] at h3
    rw [hr] at hmem; cases hmem
  have in_nil : ∀ (listed : Array Bool) (ρ : List Nat), leftF os 0 listed = [] → inOrder os listed ρ = [] := by
    intro listed ρ h0
    refine Classical.byContradiction fun hne => ?_
    obtain ⟨p, hp⟩ := List.exists_mem_of_ne_nil _ hne
    obtain ⟨_, hl, ho⟩ := mem_inOrder hp
    obtain ⟨R1, R2, h1, _⟩ := leftF_split os 0 p.1 listed p.2 (Nat.zero_le _) (by simpa using ho) hl
    rw [h0] at h1; simp at h1
  have noSel : ∀ (i : Nat) (o : Oper), os[i]? = some o → ∀ cs b, o.op ≠ .select cs b := by
    intro i o ho cs b e
    have := List.all_eq_true.1 hSel o (List.mem_of_getElem? ho)
    rw [e] at this; simp at this
  intro fuel
  induction fuel with
  | zero =>
    intro listed hh a w hf hI hHist hex h
    have h0 : leftF os 0 listed = [] := List.eq_nil_of_length_eq_zero (by omega)
    obtain ⟨ρ, hρ, hp⟩ := hex
    have h1 := h ρ hρ hp
    rw [in_nil listed ρ h0] at h1
    refine ⟨?_, h1⟩
    refine Classical.byContradiction fun hne => ?_
    obtain ⟨i, hi⟩ := List.exists_mem_of_ne_nil _ hne
    obtain ⟨o, ho, hl, _⟩ := mem_readyD hi
    obtain ⟨R1, R2, h1, _⟩ := leftF_split os 0 i listed o (Nat.zero_le _) (by simpa using ho) hl
    rw [h0] at h1; simp at h1
  | succ fuel ih =>
    intro listed hh a w hf hI hHist hex h
    refine ⟨fun hr => ?_, fun i hi => ?_⟩
    · obtain ⟨ρ, hρ, hp⟩ := hex
      have h1 := h ρ hρ hp
      rw [in_nil listed ρ (nil_left listed w hI hr)] at h1
      exact h1
    obtain ⟨o, ho, hl, he⟩ := mem_readyD hi
    have hio : os.toArray[i]? = some o := by simpa using ho
    have hilt := (List.getElem?_eq_some_iff.1 ho).1
    have hso := noSel i o ho
    have hanc := anc_listed hT hI.closed i o ho he
    have hlen : (leftF os 0 (listed.setIfInBounds i true)).length ≤ fuel := by
      obtain ⟨R1, R2, h1, h2, _⟩ := leftF_split os 0 i listed o (Nat.zero_le _) (by simpa using ho) hl
      rw [h1] at hf; rw [h2]; simp only [List.length_append, List.length_cons] at *; omega
    -- in each order, what stands ahead of it is apart from it
    have ahead : ∀ ρ ∈ reps, ∃ R1 R2, inOrder os listed ρ = R1 ++ (i, o) :: R2 ∧ inOrder os (listed.setIfInBounds i true) ρ = R1 ++ R2 ∧ (∀ p ∈ R1, p.2.apart os.toArray o = true ∧ (∀ cs b, p.2.op ≠ .select cs b)) ∧
        ((loudSeq os ρ).take (hh.length + 1) = hh ++ [i] → ∀ p ∈ R1, kindOf p.2.op ≠ .loud) := by
      intro ρ hρ
      have hO := List.all_eq_true.1 hOrd ρ hρ
      simp only [orderOk, Bool.and_eq_true] at hO
      obtain ⟨⟨⟨hO1, hO2⟩, hO3⟩, hO4⟩ := hO
      have hnd : ρ.Nodup := of_decide_eq_true hO2
      have hmem : i ∈ ρ := by have := List.all_eq_true.1 hO1 i (by simpa using hilt); simpa using this
      obtain ⟨R1, R2, P1, h1, h2, h3, P2, h4⟩ := inOrder_split os listed i o ho hl ρ hnd hmem
      refine ⟨R1, R2, h1, h2, fun p hp => ?_, fun hnext p hp hk => ?_⟩
      · rw [h3] at hp
        obtain ⟨q1, q2, q3⟩ := mem_inOrder hp
        refine ⟨?_, noSel p.1 p.2 q3⟩
        obtain ⟨k, hk, hk2⟩ := List.getElem_of_mem q1
        have hq : P1.length < ρ.length := by rw [h4]; simp
        have hall := List.all_eq_true.1 (List.all_eq_true.1 hO4 P1.length (by simpa using hq)) k (by simpa using hk)
        have g1 : ρ[P1.length]? = some i := by rw [h4]; simp
        have g2 : ρ[k]? = some p.1 := by rw [h4, List.getElem?_append_left hk]; simp [hk, hk2]
        rw [g1, g2] at hall
        simp only [ho, q3, Bool.or_eq_true] at hall
        rcases hall with hall | hall
        · have hpl := (List.getElem?_eq_some_iff.1 q3).1
          have := hanc p.1 (by simpa using hall)
          rw [← getD_size (by rw [hI.size]; exact hpl), q2] at this; cases this
        · exact hall
      · rw [h3] at hp
        obtain ⟨q1, q2, q3⟩ := mem_inOrder hp
        have hpl : loudB os p.1 = true := by unfold loudB; rw [q3]; simp [hk]
        have hnh : p.1 ∉ hh := fun hm => by rw [(hHist p.1 hpl).2 hm] at q2; cases q2
        obtain ⟨t1, t2⟩ := take_next hnext
        -- the acts ahead of i in this order are those of hh
        have hsp : loudSeq os ρ = P1.filter (loudB os) ++ (i :: P2).filter (loudB os) := by rw [loudSeq_eq, h4, List.filter_append]
        have hpm : p.1 ∈ P1.filter (loudB os) := List.mem_filter.2 ⟨q1, hpl⟩
        have hle : (P1.filter (loudB os)).length ≤ hh.length := by
          refine Nat.le_of_not_lt fun hgt => ?_
          rw [hsp, List.getElem?_append_left hgt] at t2
          have := List.mem_of_getElem? t2
          have hi1 := (List.mem_filter.1 this).1
          rw [h4] at hnd
          have := (List.nodup_append.1 hnd).2.2 i hi1 i (by simp)
          exact this rfl
        have hil : loudB os i = true := by
          have hm := List.mem_of_getElem? t2
          rw [loudSeq_eq] at hm
          exact (List.mem_filter.1 hm).2
        have hih : i ∉ hh := fun hm => by rw [(hHist i hil).2 hm] at hl; cases hl
        have hlt : hh.length ≤ (P1.filter (loudB os)).length := by
          refine Nat.le_of_not_lt fun hgt => hih ?_
          have e1 : (loudSeq os ρ)[(P1.filter (loudB os)).length]? = some i := by
            rw [hsp, List.getElem?_append_right (Nat.le_refl _)]; simp [hil]
          rw [← t1]
          refine List.mem_of_getElem? (i := (P1.filter (loudB os)).length) ?_
          rw [List.getElem?_take, if_pos hgt]; exact e1
        rw [hsp, List.take_append_of_le_length hlt, List.take_of_length_le (by omega)] at t1
        rw [t1] at hpm
        exact hnh hpm
    by_cases hk : kindOf o.op = .loud
    · have hil : loudB os i = true := by unfold loudB; rw [ho]; simp [hk]
      have hih : i ∉ hh := fun hm => by rw [(hHist i hil).2 hm] at hl; cases hl
      -- some order goes on with it
      obtain ⟨ρ0, hρ0, hp0⟩ := hex
      have hnext : ∃ σ ∈ reps, (loudSeq os σ).take (hh.length + 1) = hh ++ [i] := by
        have hkl : hh.length ≤ (loudSeq os ρ0).length := by
          have := congrArg List.length hp0
          rw [List.length_take] at this; omega
        have hC := List.all_eq_true.1 (List.all_eq_true.1 (List.all_eq_true.1 hComp ρ0 hρ0) hh.length (by simp; omega)) i (by simpa using hilt)
        rw [ho] at hC
        simp only [hk, hp0, Bool.or_eq_true, beq_self_eq_true, Bool.not_true, Bool.false_eq_true, false_or] at hC
        rcases hC with (hC | hC) | hC
        · exact absurd (by simpa using hC) hih
        · exfalso
          simp only [Bool.not_eq_true'] at hC
          rw [← Bool.not_eq_true] at hC
          refine hC (List.all_eq_true.2 fun r hr => ?_)
          cases hc : ((ancs os).getD i []).contains r with
          | false => rfl
          | true =>
            simp only [Bool.not_true, Bool.false_or]
            have hrl : loudB os r = true := by rw [loudSeq_eq] at hr; exact (List.mem_filter.1 hr).2
            have hrlt : r < os.length := by
              unfold loudB at hrl
              cases hor : os[r]? with
              | none => rw [hor] at hrl; cases hrl
              | some _ => exact (List.getElem?_eq_some_iff.1 hor).1
            have h5 := hanc r (by simpa using hc)
            rw [← getD_size (by rw [hI.size]; exact hrlt)] at h5
            simpa using (hHist r hrl).1 h5
        · obtain ⟨σ, hσ, h6⟩ := List.any_eq_true.1 hC
          exact ⟨σ, hσ, by simpa using h6⟩
      obtain ⟨σ0, hσ0, hn0⟩ := hnext
      have hHist' : ∀ j, loudB os j = true → ((listed.setIfInBounds i true).getD j true = true ↔ j ∈ hh ++ [i]) := by
        intro j hj
        by_cases e : j = i
        · subst e; rw [getD_set_eq]; simp
        · rw [getD_set_ne e, hHist j hj]; simp [e]
      have hreads : ∀ w', (need i = true → S w') → ∀ j p, os[j]? = some p → kindOf p.op = .read → (listed.setIfInBounds i true).getD j true = false → S w' := by
        intro w' hS j p hp hrd hlj
        cases hn : need i with
        | true => exact hS hn
        | false =>
          have h5 := List.all_eq_true.1 hNeed i (by simpa using hilt)
          rw [ho] at h5
          simp only [hn, hk, Bool.false_or, beq_self_eq_true, Bool.not_true] at h5
          have hj := (List.getElem?_eq_some_iff.1 hp).1
          have h6 := List.all_eq_true.1 h5 j (by simpa using hj)
          rw [hp] at h6
          simp only [hrd] at h6
          simp only [beq_self_eq_true, Bool.not_true, Bool.false_or] at h6
          have h7 := hanc j (by simpa using h6)
          have hne : j ≠ i := by rintro rfl; rw [ho] at hp; obtain rfl := Option.some.inj hp; rw [hk] at hrd; cases hrd
          rw [getD_set_ne hne, getD_size (by rw [hI.size]; exact hj), h7] at hlj; cases hlj
      have step : ∀ a' w', (∀ ρ ∈ reps, (loudSeq os ρ).take (hh.length + 1) = hh ++ [i] → (need i = true → S w') ∧ wpD P os.toArray S need Q (inOrder os (listed.setIfInBounds i true) ρ) a' w') → wpAny P .any os.toArray Q fuel (listed.setIfInBounds i true) a' w' := by
        intro a' w' hall
        refine ih _ (hh ++ [i]) _ _ hlen (hI.put ho he (hreads w' (hall σ0 hσ0 hn0).1)) hHist' ⟨σ0, hσ0, by simpa using hn0⟩ fun ρ hρ hp => (hall ρ hρ (by simpa using hp)).2
      cases hw : Region.wanted o (yielded os.toArray a.tmps) with
      | true =>
        refine wpOp_loud hio hw ?_
        have each : ∀ ρ ∈ reps, (loudSeq os ρ).take (hh.length + 1) = hh ++ [i] → loudUp P a o.dst (fun a' w' => (need i = true → S w') ∧ wpD P os.toArray S need Q (inOrder os (listed.setIfInBounds i true) ρ) a' w') ((execOp a.eval o).run P w) := by
          intro ρ hρ hn
          obtain ⟨R1, R2, h1, h2, h3, h4⟩ := ahead ρ hρ
          have h5 := h ρ hρ (take_next hn).1
          rw [h1] at h5
          have h6 := wpD_loud hso hk R1 R2 a w (fun p hp => ⟨(h3 p hp).1, (h3 p hp).2, h4 hn p hp⟩) hw h5
          rw [h2]; exact h6
        have h0 := each σ0 hσ0 hn0
        cases hr : (execOp a.eval o).run P w with
        | halt e w' => rw [hr] at h0; exact h0
        | ok nx w' =>
          rw [hr] at h0
          cases nx with
          | value v => exact step _ _ fun ρ hρ hn => by have := each ρ hρ hn; rw [hr] at this; exact this
          | skip => exact step _ _ fun ρ hρ hn => by have := each ρ hρ hn; rw [hr] at this; exact this
          | enter f xs =>
            have hc := List.all_eq_true.1 hnc i (by simpa using hilt)
            rw [ho] at hc
            simp only [Bool.or_eq_true] at hc
            rcases hc with hc | hc
            · exact absurd hr (noCall_spec hc hk a w w' f xs)
            refine Calls.mono h0 ?_
            rintro e w2 ⟨x, rfl, hx⟩
            refine ⟨x, rfl, step _ _ fun ρ hρ hn => ?_⟩
            have hp := take_next hn0
            have hlt : hh.length < (loudSeq os σ0).length := (List.getElem?_eq_some_iff.1 hp.2).1
            have h5 := List.all_eq_true.1 (List.all_eq_true.1 (List.all_eq_true.1 hc σ0 hσ0) ρ hρ) hh.length (by simpa using hlt)
            rw [hp.2, hn0, hn] at h5
            obtain rfl : σ0 = ρ := by simpa using h5
            exact hx
          | _ => exact h0
      | false =>
        unfold wpOp
        simp only [hio]
        rw [hw, if_neg (by simp)]
        refine ih _ (hh ++ [i]) _ _ hlen (hI.put ho he fun j p hp hrd hlj => hI.reads j p hp hrd (by
          by_cases e : j = i
          · subst e; rw [getD_set_eq] at hlj; cases hlj
          · rwa [getD_set_ne e] at hlj)) hHist' ⟨σ0, hσ0, by simpa using hn0⟩ fun ρ hρ hp => ?_
        have hn : (loudSeq os ρ).take (hh.length + 1) = hh ++ [i] := by simpa using hp
        obtain ⟨R1, R2, h1, h2, h3, h4⟩ := ahead ρ hρ
        have h5 := h ρ hρ (take_next hn).1
        rw [h1] at h5
        rw [h2]
        exact wpD_loud_off R1 R2 a w (fun p hp => ⟨(h3 p hp).1, (h3 p hp).2, h4 hn p hp⟩) hw h5
    · have hHist' : ∀ j, loudB os j = true → ((listed.setIfInBounds i true).getD j true = true ↔ j ∈ hh) := by
        intro j hj
        by_cases e : j = i
        · subst e
          unfold loudB at hj; rw [ho] at hj
          exact absurd (by simpa using hj) hk
        · rw [getD_set_ne e, hHist j hj]
      have hI' : Inv0 os S (listed.setIfInBounds i true) w := hI.put ho he fun j p hp hrd hlj => hI.reads j p hp hrd (by
          by_cases e : j = i
          · subst e; rw [getD_set_eq] at hlj; cases hlj
          · rwa [getD_set_ne e] at hlj)
      have each : ∀ ρ ∈ reps, (loudSeq os ρ).take hh.length = hh → ∃ x, nowYields P os.toArray S o a x ∧ wpD P os.toArray S need Q (inOrder os (listed.setIfInBounds i true) ρ) (a.put o.dst x) w := by
        intro ρ hρ hn
        obtain ⟨R1, R2, h1, h2, h3, _⟩ := ahead ρ hρ
        have h5 := h ρ hρ hn
        rw [h1] at h5
        obtain ⟨x, hx, h6⟩ := wpD_first hSi hso hk R1 R2 a w h3 h5
        exact ⟨x, hx, by rw [h2]; exact h6⟩
      obtain ⟨ρ0, hρ0, hp0⟩ := hex
      obtain ⟨x, hx, _⟩ := each ρ0 hρ0 hp0
      refine wpOp_now hio hx (fun hrd => hI.reads i o ho hrd hl) ?_
      refine ih _ hh _ _ hlen hI' hHist' ⟨ρ0, hρ0, hp0⟩ fun ρ hρ hp => ?_
      obtain ⟨y, hy, h6⟩ := each ρ hρ hp
      obtain rfl := nowYields_unique hSi hx hy
      exact h6
/-! ### The rules -/
def enumF : Nat → List Oper → List (Nat × Oper)
  | _, [] => []
  | k, o :: r => (k, o) :: enumF (k + 1) r
theorem enumF_eq : ∀ (os : List Oper) (k : Nat), (List.range' k os.length).zip os = enumF k os
  | [], _ => rfl
  | o :: r, k => by simp only [List.length_cons, List.range'_succ, List.zip_cons_cons, enumF, enumF_eq r (k + 1)]
def Wd (P : Program) (ops : Array Oper) (S : World → Prop) (need : Nat → Bool) (rest : List (Nat × Oper)) (Q : Exit → Act → World → Prop) (n : Sz) (l : L) (w : World) : Prop := ∀ a v, Fr n l a → Dr w v → wpD P ops S need Q rest a v
theorem Cw.draw {id : Nat} {os : List Oper} (S : World → Prop) (need : Nat → Bool) (hm : P.follows .mixedOrders = true) (hok : drawOk os need = true) (hS : ∀ v, Dr w v → S v) (h : Wd P os.toArray S need (enumF 0 os) Q n l w) : Cw P (.region id os.toArray true) Q n l w := by
  intro a v hf hd
  have hd1 : Dr w { v with drawn := v.drawn + 1 } := by obtain ⟨m, rfl⟩ := hd; exact ⟨m + 1, rfl⟩
  refine wp_region_any hm ?_
  refine wpAny_of_wpD ⟨_, hS _ hd1⟩ hok _ _ _ _ ?_ ⟨by simp, fun j o _ hl => ?_, fun _ _ _ _ _ => hS _ hd1⟩ ?_
  · rw [leftF_all os 0 _ (by simp)]; simp
  · exfalso
    simp only [Array.getD_eq_getD_getElem?, Array.getElem?_replicate] at hl
    split at hl <;> simp at hl
  · rw [leftF_all os 0 _ (by simp), enumF_eq]
    exact h a _ hf hd1
def nthO : List Oper → Nat → Option Oper
  | [], _ => none
  | o :: _, 0 => some o
  | _ :: r, k + 1 => nthO r k
theorem nthO_eq : ∀ (l : List Oper) (k : Nat), nthO l k = l[k]?
  | [], _ => by simp [nthO]
  | o :: _, 0 => rfl
  | _ :: r, k + 1 => by simpa [nthO] using nthO_eq r k
/-- The operations in an order of one's own. -/
def pickO (os : List Oper) : List Nat → List (Nat × Oper)
  | [] => []
  | i :: r => match nthO os i with
    | some o => (i, o) :: pickO os r
    | none => pickO os r
theorem inOrder_start (os : List Oper) (ρ : List Nat) : inOrder os (Array.replicate os.length false) ρ = pickO os ρ := by
  induction ρ with
  | nil => rfl
  | cons i r ih =>
    simp only [inOrder] at ih
    simp only [inOrder, List.filterMap_cons, pickO, nthO_eq, Array.getD_eq_getD_getElem?, Array.getElem?_replicate] at ih ⊢
    by_cases hi : i < os.length
    · rw [if_pos hi]
      simp only [Option.getD_some, Bool.false_eq_true, if_false, List.getElem?_eq_getElem hi, Option.map_some]
      rw [ih]
    · rw [if_neg hi, List.getElem?_eq_none (by omega)]
      simp only [Option.getD_none, if_true]
      exact ih
/-- Where those that act may come in several orders: each of them is walked. -/
theorem Cw.draws {id : Nat} {os : List Oper} (S : World → Prop) (need : Nat → Bool) (reps : List (List Nat)) (hm : P.follows .mixedOrders = true) (hnc : callOnce os reps = true) (hok : drawsOk os need reps = true) (hne : reps ≠ []) (hS : ∀ v, Dr w v → S v) (h : ∀ ρ ∈ reps, Wd P os.toArray S need (pickO os ρ) Q n l w) : Cw P (.region id os.toArray true) Q n l w := by
  intro a v hf hd
  have hd1 : Dr w { v with drawn := v.drawn + 1 } := by obtain ⟨m, rfl⟩ := hd; exact ⟨m + 1, rfl⟩
  refine wp_region_any hm ?_
  refine wpAny_of_orders (reps := reps) ⟨_, hS _ hd1⟩ hnc hok _ _ [] _ _ ?_ ⟨by simp, fun j o _ hl => ?_, fun _ _ _ _ _ => hS _ hd1⟩ ?_ ?_ ?_
  · rw [leftF_all os 0 _ (by simp)]; simp
  · exfalso
    simp only [Array.getD_eq_getD_getElem?, Array.getElem?_replicate] at hl
    split at hl <;> simp at hl
  · intro i hi
    have hlt : i < os.length := by
      unfold loudB at hi
      cases hor : os[i]? with
      | none => rw [hor] at hi; cases hi
      | some _ => exact (List.getElem?_eq_some_iff.1 hor).1
    simp [Array.getD_eq_getD_getElem?, hlt]
  · obtain ⟨ρ, hρ⟩ := List.exists_mem_of_ne_nil _ hne
    exact ⟨ρ, hρ, by simp⟩
  · intro ρ hρ _
    have e : os.toArray.size = os.length := by simp
    rw [e, inOrder_start]
    exact h ρ hρ a _ hf hd1
section rules
variable {rest : List (Nat × Oper)} {o : Oper} {i d : Nat} {x : Value} {need : Nat → Bool}
theorem Wd.nil (h : Ex .normal Q n l w) : Wd P ops S need [] Q n l w := h
theorem Wd.pure (hk : kindOf o.op = .pure) (hw : want ops l o = some true) (hd : o.dst = some d) (hn : Nat.ble (d + 1) n.n = true) (hv : ∀ W, Val P l n o W x) (h : Wd P ops S need rest Q n ((d, x) :: l) w) : Wd P ops S need ((i, o) :: rest) Q n l w := by
  intro a v hf hdr
  unfold wpD
  rw [want_spec hf hw, if_pos rfl, hk]
  exact ⟨x, fun W => hv W a W hf (Dr.refl W), by rw [hd]; exact h _ v (hf.put d x (lt_ble hn)) hdr⟩
theorem Wd.read (hk : kindOf o.op = .read) (hw : want ops l o = some true) (hd : o.dst = some d) (hn : Nat.ble (d + 1) n.n = true) (hv : ∀ W, S W → Val P l n o W x) (h : Wd P ops S need rest Q n ((d, x) :: l) w) : Wd P ops S need ((i, o) :: rest) Q n l w := by
  intro a v hf hdr
  unfold wpD
  rw [want_spec hf hw, if_pos rfl, hk]
  exact ⟨x, fun W hW => hv W hW a W hf (Dr.refl W), by rw [hd]; exact h _ v (hf.put d x (lt_ble hn)) hdr⟩
theorem Wd.off (hw : want ops l o = some false) (hd : o.dst = some d) (hn : Nat.ble (d + 1) n.n = true) (h : Wd P ops S need rest Q n ((d, undef) :: l) w) : Wd P ops S need ((i, o) :: rest) Q n l w := by
  intro a v hf hdr
  unfold wpD
  rw [want_spec hf hw, if_neg (by simp), hd]
  exact h _ v (hf.put d _ (lt_ble hn)) hdr
theorem Wd.split (d : Nat) {b : Bool} (hd : get l d = some (.bool b)) (ht : b = true → Wd P ops S need rest Q n ((d, .bool true) :: l) w) (hf : b = false → Wd P ops S need rest Q n ((d, .bool false) :: l) w) : Wd P ops S need rest Q n l w := by
  intro a v hr hdr
  have key : ∀ c, b = c → Fr n ((d, .bool c) :: l) a := fun c e => hr.weaken fun i u hu => by
    subst e
    simp only [get] at hu
    by_cases hb : Nat.beq d i = true
    · rw [hb] at hu; have : d = i := by simpa using hb
      subst this; rw [hd]; simpa using hu
    · rw [beq_no hb] at hu; simpa using hu
  cases b with
  | true => exact ht rfl a v (key true rfl) hdr
  | false => exact hf rfl a v (key false rfl) hdr
/-- What acts, one outcome. -/
theorem Wd.act {w' : World} (hk : kindOf o.op = .loud) (hw : want ops l o = some true) (hd : o.dst = some d) (hn : Nat.ble (d + 1) n.n = true) (hv : Act1 P l n o w x w') (hS : need i = true → ∀ v, Dr w' v → S v) (h : Wd P ops S need rest Q n ((d, x) :: l) w') : Wd P ops S need ((i, o) :: rest) Q n l w := by
  intro a v hf hdr
  unfold wpD
  rw [want_spec hf hw, if_pos rfl, hk]
  obtain ⟨v', hr, hd'⟩ := hv a v hf hdr
  simp only
  rw [hr]
  exact ⟨fun hn => hS hn _ hd', by rw [hd]; exact h _ v' (hf.put d x (lt_ble hn)) hd'⟩
theorem Wd.act0 {w' : World} (hk : kindOf o.op = .loud) (hw : want ops l o = some true) (hd : o.dst = none) (hv : Act0 P l n o w w') (hS : need i = true → ∀ v, Dr w' v → S v) (h : Wd P ops S need rest Q n l w') : Wd P ops S need ((i, o) :: rest) Q n l w := by
  intro a v hf hdr
  unfold wpD
  rw [want_spec hf hw, if_pos rfl, hk]
  obtain ⟨v', hr, hd'⟩ := hv a v hf hdr
  simp only
  rw [hr]
  exact ⟨fun hn => hS hn _ hd', by rw [hd]; exact h _ v' hf hd'⟩
theorem Wd.acts (R : Value → World → Prop) (hk : kindOf o.op = .loud) (hw : want ops l o = some true) (hd : o.dst = some d) (hn : Nat.ble (d + 1) n.n = true) (hv : ∀ a v, Fr n l a → Dr w v → ∃ x v', (execOp a.eval o).run P v = .ok (.value x) v' ∧ R x v') (hS : need i = true → ∀ x v, R x v → S v) (h : ∀ x w', R x w' → Wd P ops S need rest Q n ((d, x) :: l) w') : Wd P ops S need ((i, o) :: rest) Q n l w := by
  intro a v hf hdr
  unfold wpD
  rw [want_spec hf hw, if_pos rfl, hk]
  obtain ⟨x, v', hr, hR⟩ := hv a v hf hdr
  simp only
  rw [hr]
  exact ⟨fun hn => hS hn _ _ hR, by rw [hd]; exact h x v' hR _ v' (hf.put d x (lt_ble hn)) (Dr.refl _)⟩
theorem Wd.call {f : FuncId} {vs : List Value} {R : Value → World → Prop} (hk : kindOf o.op = .loud) (hw : want ops l o = some true) (hd : o.dst = some d) (hn : Nat.ble (d + 1) n.n = true) (hg : Goes P l n o w f vs) (hs : Ctr P f vs w R) (hS : need i = true → ∀ x v, R x v → S v) (h : ∀ x w', R x w' → Wd P ops S need rest Q n ((d, x) :: l) w') : Wd P ops S need ((i, o) :: rest) Q n l w := by
  intro a v hf hdr
  unfold wpD
  rw [want_spec hf hw, if_pos rfl, hk]
  simp only
  rw [hg a v hf hdr]
  refine (hs v hdr).mono ?_
  rintro e w' ⟨x, rfl, hR⟩
  exact ⟨x, rfl, fun hn => hS hn _ _ hR, by rw [hd]; exact h x w' hR _ w' (hf.put d x (lt_ble hn)) (Dr.refl _)⟩
/-- Blocks that are as they were. -/
def Same (Bs : List Nat) (w W : World) : Prop := ∀ k ∈ Bs, W.heap[k]? = w.heap[k]?
theorem Same.cell {Bs : List Nat} {w W : World} (h : Same Bs w W) {g j : Nat} (hg : g ∈ Bs) : W.cell? ⟨g, j, none⟩ = w.cell? ⟨g, j, none⟩ := World.cell?_of_block (w := w) (h g hg)
theorem Same.start {Bs : List Nat} {w : World} : ∀ v, Dr w v → Same Bs w v := fun v hd k _ => by rw [hd.heap]
theorem Same.keep {Bs : List Nat} {X : Nat → Prop} {w w1 : World} (hk : Keep X w w1) (hB : ∀ k ∈ Bs, X k) : ∀ v, Dr w1 v → Same Bs w v := fun v hd k h => by rw [hd.heap]; exact hk.block k (hB k h)
theorem Wd.box {y : Operand} {t : TypeId} {u : Value} (cs : List Value) (hk : kindOf o.op = .loud) (hw : want ops l o = some true) (hd : o.dst = some d) (hn : Nat.ble (d + 1) n.n = true) (ho : o.op = .box t y) (hx : ev l y = some u) (hcs : u.cells = cs.toArray)
    (hS : need i = true → ∀ w1, Keep (fun k => k < w.heap.size) w w1 → ∀ v, Dr w1 v → S v)
    (h : ∀ b w1, b = w.heap.size → Row w1 b t cs → Keep (fun k => k < b) w w1 → w1.heap.size = b + 1 → Wd P ops S need rest Q n ((d, .pointer (some ⟨b, 0, none⟩)) :: l) w1) : Wd P ops S need ((i, o) :: rest) Q n l w := by
  refine Wd.act hk hw hd hn (act_box ho hx) (fun hh => hS hh _ (Keep.alloc _ fun _ h => h)) (h _ _ rfl ?_ (Keep.alloc _ fun _ h => h) (by simp))
  rw [hcs]; exact Row.alloc_new ..
theorem Wd.alloc {t : TypeId} {z : Value} {s b : Nat} [hi : Inf P t z s b] (cs : List Value) (hk : kindOf o.op = .loud) (hw : want ops l o = some true) (hd : o.dst = some d) (hn : Nat.ble (d + 1) n.n = true) (ho : o.op = .alloc t) (hcs : z.cells = cs.toArray)
    (hS : need i = true → ∀ w1, Keep (fun k => k < w.heap.size) w w1 → ∀ v, Dr w1 v → S v)
    (h : ∀ b w1, b = w.heap.size → Row w1 b t cs → Keep (fun k => k < b) w w1 → w1.heap.size = b + 1 → Wd P ops S need rest Q n ((d, .pointer (some ⟨b, 0, none⟩)) :: l) w1) : Wd P ops S need ((i, o) :: rest) Q n l w := by
  refine Wd.act hk hw hd hn (act_alloc (z := z) ho) (fun hh => hS hh _ (Keep.alloc _ fun _ h => h)) (h _ _ rfl ?_ (Keep.alloc _ fun _ h => h) (by simp))
  rw [hcs]; exact Row.alloc_new ..
theorem act_slice1 {y : Operand} {t e : TypeId} {z u : Value} {b : Nat} [hu : Und P t (.slice e)] [hs : Inf P e z 1 b] (ho : o.op = .buildSlice t 1 #[(0, y)]) (hx : ev l y = some u) (hz : z.oneCell' = true) (h1 : u.oneCell' = true) : Act1 P l n o w (.slice (some ⟨w.heap.size, 0, none⟩) 1 1) (w.alloc (.cells [u].toArray e)) := by
  intro a V hf hdr
  refine ⟨V.alloc (.cells [u].toArray e), ?_, hdr.alloc _⟩
  have hr := run_buildSlice (P := P) (t := t) (e := e) (k := 1) (parts := #[(0, u)]) (cs := [u]) (by simp) (by simp [Instr.fill, cells_one h1, cells_one hz, range1]) V
  simp [execOp, ho, hr, hdr.size, hf.ev hx]
theorem act_slice2 {y : Operand} {t e : TypeId} {z0 z1 u v : Value} {b : Nat} [hu : Und P t (.slice e)] [hs : Inf P e (.agg #[z0, z1]) 2 b] (ho : o.op = .buildSlice t 1 #[(0, y)]) (hx : ev l y = some (.agg #[u, v])) : Act1 P l n o w (.slice (some ⟨w.heap.size, 0, none⟩) 1 1) (w.alloc (.cells [u, v].toArray e)) := by
  intro a V hf hdr
  refine ⟨V.alloc (.cells [u, v].toArray e), ?_, hdr.alloc _⟩
  have hr := run_buildSlice (P := P) (t := t) (e := e) (k := 1) (parts := #[(0, .agg #[u, v])]) (cs := [u, v]) (by simp) (by simp [Instr.fill, Value.cells, range2]) V
  simp [execOp, ho, hr, hdr.size, hf.ev hx]
theorem Wd.slice1 {y : Operand} {t e : TypeId} {z u : Value} {b : Nat} [hu : Und P t (.slice e)] [hs : Inf P e z 1 b] (hk : kindOf o.op = .loud) (hw : want ops l o = some true) (hd : o.dst = some d) (hn : Nat.ble (d + 1) n.n = true) (ho : o.op = .buildSlice t 1 #[(0, y)]) (hx : ev l y = some u) (hz : z.oneCell' = true) (h1 : u.oneCell' = true)
    (hS : need i = true → ∀ w1, Keep (fun k => k < w.heap.size) w w1 → ∀ v, Dr w1 v → S v)
    (h : ∀ b w1, b = w.heap.size → Row w1 b e [u] → Keep (fun k => k < b) w w1 → w1.heap.size = b + 1 → Wd P ops S need rest Q n ((d, .slice (some ⟨b, 0, none⟩) 1 1) :: l) w1) : Wd P ops S need ((i, o) :: rest) Q n l w :=
  Wd.act hk hw hd hn (act_slice1 ho hx hz h1) (fun hh => hS hh _ (Keep.alloc _ fun _ h => h)) (h _ _ rfl (Row.alloc_new ..) (Keep.alloc _ fun _ h => h) (by simp))
theorem Wd.slice2 {y : Operand} {t e : TypeId} {z0 z1 u v : Value} {b : Nat} [hu : Und P t (.slice e)] [hs : Inf P e (.agg #[z0, z1]) 2 b] (hk : kindOf o.op = .loud) (hw : want ops l o = some true) (hd : o.dst = some d) (hn : Nat.ble (d + 1) n.n = true) (ho : o.op = .buildSlice t 1 #[(0, y)]) (hx : ev l y = some (.agg #[u, v]))
    (hS : need i = true → ∀ w1, Keep (fun k => k < w.heap.size) w w1 → ∀ v, Dr w1 v → S v)
    (h : ∀ b w1, b = w.heap.size → Row w1 b e [u, v] → Keep (fun k => k < b) w w1 → w1.heap.size = b + 1 → Wd P ops S need rest Q n ((d, .slice (some ⟨b, 0, none⟩) 1 1) :: l) w1) : Wd P ops S need ((i, o) :: rest) Q n l w :=
  Wd.act hk hw hd hn (act_slice2 ho hx) (fun hh => hS hh _ (Keep.alloc _ fun _ h => h)) (h _ _ rfl (Row.alloc_new ..) (Keep.alloc _ fun _ h => h) (by simp))
theorem Wd.put {y z' : Operand} {t t0 : TypeId} {z : Value} {b g k : Nat} {u u0 : Value} {cs : List Value} [hi : Inf P t z 1 b] (hR : Row w g t0 cs) (hk : kindOf o.op = .loud) (hw : want ops l o = some true) (hd : o.dst = none) (ho : o.op = .store t y z') (hx : ev l y = some (.pointer (some ⟨g, k, none⟩))) (hy : ev l z' = some u) (h1 : u.oneCell' = true) (hc : cs[k]? = some u0)
    (hS : need i = true → ∀ w1, Keep (fun k => k ≠ g) w w1 → ∀ v, Dr w1 v → S v)
    (h : ∀ w1, Row w1 g t0 (cs.set k u) → Keep (fun j => j ≠ g) w w1 → w1.heap.size = w.heap.size → Wd P ops S need rest Q n l w1) : Wd P ops S need ((i, o) :: rest) Q n l w :=
  Wd.act0 hk hw hd (act_store1 ho hx hy h1 (hR.cell hc) (hR.frozen k)) (fun hh => hS hh _ keep_ne) (h _ (hR.set k u) keep_ne (by simp))
theorem Wd.putO {y z' : Operand} {t t0 : TypeId} {z : Value} {b s g k m cap : Nat} {u u0 : Value} {xs : List Value} {X : Nat → Prop} [hi : Inf P t z 1 b] (hR : Own w X t0 s (.slice (some ⟨g, 0, none⟩) m cap) m xs) (hk : kindOf o.op = .loud) (hw : want ops l o = some true) (hd : o.dst = none) (ho : o.op = .store t y z') (hx : ev l y = some (.pointer (some ⟨g, k, none⟩))) (hy : ev l z' = some u) (h1 : u.oneCell' = true) (hc : xs[k]? = some u0)
    (hS : need i = true → ∀ w1, Keep (fun k => k ≠ g) w w1 → ∀ v, Dr w1 v → S v)
    (h : ∀ w1, Own w1 X t0 s (.slice (some ⟨g, 0, none⟩) m cap) m (xs.set k u) → Keep (fun j => j ≠ g) w w1 → w1.heap.size = w.heap.size → Wd P ops S need rest Q n l w1) : Wd P ops S need ((i, o) :: rest) Q n l w :=
  Wd.act0 hk hw hd (act_store1 ho hx hy h1 (hR.cell hc) (hR.frozen k)) (fun hh => hS hh _ keep_ne) (h _ (hR.set k u) keep_ne (by simp))
theorem Wd.putO2 {y z' : Operand} {t t0 : TypeId} {z : Value} {b s g k m cap : Nat} {u v u0 v0 : Value} {xs : List Value} {X : Nat → Prop} [hi : Inf P t z 2 b] (hR : Own w X t0 s (.slice (some ⟨g, 0, none⟩) m cap) m xs) (hk : kindOf o.op = .loud) (hw : want ops l o = some true) (hd : o.dst = none) (ho : o.op = .store t y z') (hx : ev l y = some (.pointer (some ⟨g, k, none⟩))) (hy : ev l z' = some (.agg #[u, v])) (h1 : u.oneCell' = true) (h2 : v.oneCell' = true) (hc : xs[k]? = some u0) (hc' : xs[k + 1]? = some v0)
    (hS : need i = true → ∀ w1, Keep (fun k => k ≠ g) w w1 → ∀ v, Dr w1 v → S v)
    (h : ∀ w1, Own w1 X t0 s (.slice (some ⟨g, 0, none⟩) m cap) m ((xs.set k u).set (k + 1) v) → Keep (fun j => j ≠ g) w w1 → w1.heap.size = w.heap.size → Wd P ops S need rest Q n l w1) : Wd P ops S need ((i, o) :: rest) Q n l w := by
  refine Wd.act0 hk hw hd (act_storeAgg (cs := [u, v]) ho hx hy rfl (by simp [h1, h2]) (fun j hj => ?_) hR.frozen) (fun hh => hS hh _ keep_nes) (h _ ((hR.set k u).set (k + 1) v) keep_nes (size_setCells [u, v] k w))
  match j, hj with
  | 0, _ => exact ⟨u0, hR.cell hc⟩
  | 1, _ => exact ⟨v0, hR.cell hc'⟩
theorem Wd.append {y z' : Operand} {t e : TypeId} {z : Value} {s b : Nat} [hu : Und P t (.slice e)] [hi : Inf P e z s b] {X : Nat → Prop} {v : Value} {m : Nat} {xs : List Value} {g k c : Nat} {news : List Value}
    (hk : kindOf o.op = .loud) (hw : want ops l o = some true) (hd : o.dst = some d) (hn : Nat.ble (d + 1) n.n = true) (ho : o.op = .call { callee := .builtin .append, args := #[y, z'], argTypes := #[t, t] })
    (hz : z.cells.size = s) (hs : 0 < s) (hx : ev l y = some v) (hy : ev l z' = some (.slice (some ⟨g, 0, none⟩) k c)) (hO : Own w X e s v m xs)
    (hl : news.length = k * s) (hc : ∀ j u, news[j]? = some u → w.cell? ⟨g, j, none⟩ = some u) (h1 : ∀ u ∈ news, u.oneCell' = true) (hm : (m + k) * (b + 1) ≤ 140737488355328) (hX : ∀ k, X k → k < w.heap.size)
    (hS : need i = true → ∀ w1, Keep X w w1 → ∀ v, Dr w1 v → S v)
    (h : ∀ v' w', Own w' X e s v' (m + k) (xs ++ news) → Keep X w w' → Keep (fun i => i < w.heap.size ∧ v.ownBlock ≠ some i) w w' → (∀ i, v'.ownBlock = some i → v.ownBlock = some i ∨ w.heap.size ≤ i) → Wd P ops S need rest Q n ((d, v') :: l) w') : Wd P ops S need ((i, o) :: rest) Q n l w := by
  refine Wd.acts (fun v' w' => Own w' X e s v' (m + k) (xs ++ news) ∧ Keep X w w' ∧ Keep (fun i => i < w.heap.size ∧ v.ownBlock ≠ some i) w w' ∧ (∀ i, v'.ownBlock = some i → v.ownBlock = some i ∨ w.heap.size ≤ i)) hk hw hd hn ?_ (fun hh x v' hR => hS hh v' hR.2.1 v' (Dr.refl _)) fun v' w' hh => h v' w' hh.1 hh.2.1 hh.2.2.1 hh.2.2.2
  exact acts_append ho hz hs hx hy hO hl hc h1 hm hX
end rules
end
/-! ### Short names -/
section
variable {P : Program} {Q : Exit → Act → World → Prop} {ops : Array Oper} {S : World → Prop} {need : Nat → Bool} {n : Sz} {l : L} {w : World} {o : Oper} {i d : Nat} {rest : List (Nat × Oper)}
theorem Wd.p {x : Value} (hk : kindOf o.op = .pure) (hw : want ops l o = some true) (hd : o.dst = some d) (hn : Nat.ble (d + 1) n.n = true) (hv : pureVal l o.op = some x) (h : Wd P ops S need rest Q n ((d, x) :: l) w) : Wd P ops S need ((i, o) :: rest) Q n l w := Wd.pure hk hw hd hn (fun _ => val_pure hv) h
theorem Wd.f {x : Operand} {t : TypeId} {f off g k : Nat} [hF : Fld P t f off] (hk : kindOf o.op = .pure) (hw : want ops l o = some true) (hd : o.dst = some d) (hn : Nat.ble (d + 1) n.n = true) (ho : o.op = .fieldAddr t x f) (hx : ev l x = some (.pointer (some ⟨g, k, none⟩))) (h : Wd P ops S need rest Q n ((d, .pointer (some ⟨g, k + off, none⟩)) :: l) w) : Wd P ops S need ((i, o) :: rest) Q n l w := Wd.pure hk hw hd hn (fun _ => val_fieldAddr ho hx) h
theorem Wd.z {x : Operand} {t : TypeId} {e : TypeId} {A : Option Addr} {len cap : Nat} [hu : Und P t (.slice e)] (hk : kindOf o.op = .pure) (hw : want ops l o = some true) (hd : o.dst = some d) (hn : Nat.ble (d + 1) n.n = true) (ho : o.op = .call { callee := .builtin .len, args := #[x], argTypes := #[t] }) (hx : ev l x = some (.slice A len cap)) (h : Wd P ops S need rest Q n ((d, .int .i64 len) :: l) w) : Wd P ops S need ((i, o) :: rest) Q n l w := Wd.pure hk hw hd hn (fun _ => val_len_slice ho hx) h
theorem Wd.x {x j : Operand} {t e : TypeId} {z : Value} {s b g off len cap : Nat} {k : IntKind} {m : Nat} [hu : Und P t (.slice e)] [hs : Inf P e z s b] (hk : kindOf o.op = .pure) (hw : want ops l o = some true) (hd : o.dst = some d) (hn : Nat.ble (d + 1) n.n = true) (ho : o.op = .indexAddr t x j) (hx : ev l x = some (.slice (some ⟨g, off, none⟩) len cap)) (hi : ev l j = some (.int k (m : Int))) (h1 : m < len) (h : Wd P ops S need rest Q n ((d, .pointer (some ⟨g, off + m * s, none⟩)) :: l) w) : Wd P ops S need ((i, o) :: rest) Q n l w := Wd.pure hk hw hd hn (fun _ => val_indexAddrN ho hx hi h1) h
theorem Wd.y {x j : Operand} {t e : TypeId} {z : Value} {s b g off len cap : Nat} {k : IntKind} {m : Int} [hu : Und P t (.slice e)] [hs : Inf P e z s b] (hk : kindOf o.op = .pure) (hw : want ops l o = some true) (hd : o.dst = some d) (hn : Nat.ble (d + 1) n.n = true) (ho : o.op = .indexAddr t x j) (hx : ev l x = some (.slice (some ⟨g, off, none⟩) len cap)) (hi : ev l j = some (.int k m)) (h0 : 0 ≤ m) (h1 : m < len) (h : Wd P ops S need rest Q n ((d, .pointer (some ⟨g, off + m.toNat * s, none⟩)) :: l) w) : Wd P ops S need ((i, o) :: rest) Q n l w := Wd.pure hk hw hd hn (fun _ => val_indexAddr ho hx hi h0 h1) h
theorem Wd.r {Bs : List Nat} {v : World} {x : Operand} {t : TypeId} {td : TypeDesc} {g k : Nat} {u : Value} [hu : Und P t td] (hk : kindOf o.op = .read) (hw : want ops l o = some true) (hd : o.dst = some d) (hn : Nat.ble (d + 1) n.n = true) (ho : o.op = .load t x) (hx : ev l x = some (.pointer (some ⟨g, k, none⟩))) (hc : v.cell? ⟨g, k, none⟩ = some u) (hg : g ∈ Bs) (h : Wd P ops (Same Bs v) need rest Q n ((d, u) :: l) w) (ha : aggB td = false := by rfl) : Wd P ops (Same Bs v) need ((i, o) :: rest) Q n l w := Wd.read hk hw hd hn (fun _ hS => val_load1 ho hx (by rw [hS.cell hg]; exact hc) ha) h
theorem Wd.e {Bs : List Nat} {v' : World} {x : Operand} {t : TypeId} {td : TypeDesc} {z : Value} {b g k : Nat} {u v : Value} [hu : Und P t td] [hs : Inf P t z 2 b] (hk : kindOf o.op = .read) (hw : want ops l o = some true) (hd : o.dst = some d) (hn : Nat.ble (d + 1) n.n = true) (ho : o.op = .load t x) (hx : ev l x = some (.pointer (some ⟨g, k, none⟩))) (h0 : v'.cell? ⟨g, k, none⟩ = some u) (h1 : v'.cell? ⟨g, k + 1, none⟩ = some v) (hg : g ∈ Bs) (h : Wd P ops (Same Bs v') need rest Q n ((d, .agg #[u, v]) :: l) w) (ha : aggB td = true := by rfl) : Wd P ops (Same Bs v') need ((i, o) :: rest) Q n l w := Wd.read hk hw hd hn (fun _ hS => val_load2 ho hx (by rw [hS.cell hg]; exact h0) (by rw [hS.cell hg]; exact h1) ha) h
end
end Go.Proofs.Ytbjcdgcdnbnknaa.Sx
