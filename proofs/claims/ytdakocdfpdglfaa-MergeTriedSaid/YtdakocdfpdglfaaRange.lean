/- A range over a function, walked: the body in its round, the iterator's call of yield, the function's end. -/
import Derived.Test.YtdakocdfpdglfaaDraw
import Derived.RangeFuncFrom
import Derived.RangeFuncLeaves
import Derived.RangeFuncCalls
import Derived.OrdersIn
import Derived.TacticsIn
namespace Go.Proofs.Ytdakocdfpdglfaa.Sx
open Go.RowKit
abbrev FR (lp : Nat) : Fence := Fence.wide.inRound lp
section
variable {P : Program} {Q : Exit → Act → World → Prop} {ops : Array Oper} {lp nn : Nat}
theorem wpIn_round {o : Oper} {a : Act} {w : World} {K : Act → World → Prop} (hd : ∀ c, o.op ≠ .defer c) (h : o.wp P a w K Q) : o.wpIn (FR lp) nn P a w K Q := by
  refine ⟨fun _ _ => trivial, ?_⟩
  rw [Oper.semAt_eq _ _ _ hd]
  unfold Oper.wp at h
  generalize (execOp a.eval o).run P w = r at h ⊢
  cases r with
  | ok x w' =>
    cases x with
    | value v => exact h
    | skip => exact h
    | defer d => exact h
    | enter f args => exact ⟨nofun, (callsIn_wide.2 h).inRound lp⟩
    | row row args => exact ⟨nofun, fun c cs _ => let ⟨v, w', r, s⟩ := h c cs; ⟨v, w', r, stepsIn_wide.2 s⟩⟩
    | _ => exact False.elim h
  | halt x w' => cases x <;> first | exact h | exact False.elim h
def nodef (os : List Oper) : Bool := os.all fun o => match o.op with | .defer _ => false | _ => true
theorem nodef_spec {os : List Oper} (h : nodef os = true) {i : Nat} {o : Oper} (ho : os.toArray[i]? = some o) : ∀ c, o.op ≠ Op.defer c := by
  intro c e
  have hm : o ∈ os := by
    have : os[i]? = some o := by simpa using ho
    exact List.mem_of_getElem? this
  have := List.all_eq_true.1 h o hm
  rw [e] at this; cases this
theorem wpOpIn_round (hd : ∀ (i : Nat) (o : Oper), ops[i]? = some o → ∀ c, o.op ≠ Op.defer c) (hq : ¬ LetsOut Q) {i : Nat} {K : Act → World → Prop} {a : Act} {w : World} (h : wpOp P ops Q i K a w) : wpOpIn (FR lp) nn P ops Q i K a w := by
  unfold wpOp at h
  unfold wpOpIn
  cases ho : ops[i]? with
  | none => rw [ho] at h; exact h
  | some o =>
    rw [ho] at h
    simp only at h ⊢
    split
    · rename_i hw
      rw [if_pos hw] at h
      rcases h with h | h
      · exact wpIn_round (hd i o ho) h
      · exact absurd h.2 hq
    · rename_i hw
      rw [if_neg hw] at h
      exact ⟨fun _ _ => trivial, h⟩
theorem wpAnyIn_round (hd : ∀ (i : Nat) (o : Oper), ops[i]? = some o → ∀ c, o.op ≠ Op.defer c) (hq : ¬ LetsOut Q) {md : Region.Mode} : ∀ (fuel : Nat) (listed : Array Bool) (a : Act) (w : World), wpAny P md ops Q fuel listed a w → wpAnyIn (FR lp) nn P md ops Q fuel listed a w
  | 0, _, _, _, h => h
  | fuel + 1, _, _, _, h => ⟨h.1, fun i hi => wpOpIn_mono (fun a w => wpAnyIn_round hd hq fuel _ a w) (wpOpIn_round hd hq (h.2 i hi))⟩
variable {n : Sz} {l : L} {w : World}
/-- A region that draws its order, in a round. -/
theorem drawIn {id : Nat} {os : List Oper} (S : World → Prop) (need : Nat → Bool) (hm : P.follows .mixedOrders = true) (hok : drawOk os need = true) (hnd : nodef os = true) (hq : ¬ LetsOut Q) (hS : ∀ v, Dr w v → S v) (h : Wd P os.toArray S need (enumF 0 os) Q n l w) :
    ∀ a v, Fr n l a → Dr w v → (Code.region id os.toArray true).wpIn (FR lp) nn P Q a v := by
  intro a v hf hd
  have hd1 : Dr w { v with drawn := v.drawn + 1 } := by obtain ⟨m, rfl⟩ := hd; exact ⟨m + 1, rfl⟩
  refine wpIn_region_any hm (wpAnyIn_round (fun i o ho => nodef_spec hnd ho) hq _ _ _ _ ?_)
  refine wpAny_of_wpD ⟨_, hS _ hd1⟩ hok _ _ _ _ ?_ ⟨by simp, fun j o _ hl => ?_, fun _ _ _ _ _ => hS _ hd1⟩ ?_
  · rw [leftF_all os 0 _ (by simp)]; simp
  · exfalso
    simp only [Array.getD_eq_getD_getElem?, Array.getElem?_replicate] at hl
    split at hl <;> simp at hl
  · rw [leftF_all os 0 _ (by simp), enumF_eq]
    exact h a _ hf hd1
/-- The iterator's region with its call of yield. -/
def WlI (P : Program) (ops : Array Oper) (rest : List Oper) (Q : Exit → Act → World → Prop) (n : Sz) (l : L) (w : World) : Prop := ∀ a v, Fr n l a → Dr w v → wpListIn Fence.wide 2 P ops Q rest a v
theorem Cw.regionI {id : Nat} {os : List Oper} (h : WlI P os.toArray os Q n l w) : Cw P (.region id os.toArray false) Q n l w := fun a v hf hd => (wpIn_wide (n := 2)).1 (wpIn_region_lit (h a v hf hd))
variable {rest : List Oper} {o : Oper} {d : Nat} {x : Value}
theorem WlI.nil (h : Ex .normal Q n l w) : WlI P ops [] Q n l w := h
theorem WlI.val (hw : want ops l o = some true) (hd : o.dst = some d) (hn : Nat.ble (d + 1) n.n = true) (hv : Val P l n o w x) (h : WlI P ops rest Q n ((d, x) :: l) w) : WlI P ops (o :: rest) Q n l w := by
  intro a v hf hdr
  unfold wpListIn
  rw [want_spec hf hw, if_pos rfl]
  refine ⟨fun _ _ => trivial, ?_⟩
  show o.uponIn _ _ P a _ Q ((execOp a.eval o).run P v)
  rw [hv a v hf hdr, Oper.uponIn_value, hd]
  exact h _ v (hf.put d x (lt_ble hn)) hdr
theorem WlI.yield {y : Operand} {xs : List Operand} {ts : Array TypeId} {vs : List Value} {A B : World → Prop} (hw : want ops l o = some true) (hd : o.dst = some d) (hn : Nat.ble (d + 1) n.n = true) (ho : o.op = .call { callee := .value y, args := xs.toArray, argTypes := ts }) (hfv : ev l y = some (.func (.yield lp) #[] #[])) (hx : xs.map (ev l) = vs.map some)
    (hY : ∀ v, Dr w v → YieldAt Fence.wide 1 P lp vs.toArray v fun e W' => (e = .returned (.bool true) ∧ A W') ∨ (e = .returned (.bool false) ∧ B W'))
    (ht : ∀ W', A W' → WlI P ops rest Q n ((d, .bool true) :: l) W') (hff : ∀ W', B W' → WlI P ops rest Q n ((d, .bool false) :: l) W') : WlI P ops (o :: rest) Q n l w := by
  intro a v hf hdr
  unfold wpListIn
  rw [want_spec hf hw, if_pos rfl]
  refine ⟨fun _ _ => trivial, ?_⟩
  show o.uponIn _ _ P a _ Q ((execOp a.eval o).run P v)
  obtain ⟨fn, tmps, assign, body, hy, hR⟩ := hY v hdr
  have hargs := map_ev hf hx
  have e : (execOp a.eval o).run P v = .ok (.round lp fn tmps assign body) v := by
    simp [execOp, ho, resolve, hf.ev hfv, Deferred.ofValue, invoke, hargs, hy]
  rw [e, Oper.uponIn_round]
  refine ⟨nofun, hR.mono ?_⟩
  rintro e' W' (⟨rfl, hA⟩ | ⟨rfl, hB⟩)
  · show wpListIn Fence.wide 2 P ops Q rest (a.put o.dst _) W'
    rw [hd]
    exact ht W' hA _ W' (hf.put d _ (lt_ble hn)) (Dr.refl _)
  · show wpListIn Fence.wide 2 P ops Q rest (a.put o.dst _) W'
    rw [hd]
    exact hff W' hB _ W' (hf.put d _ (lt_ble hn)) (Dr.refl _)
theorem Dr.grown {w v : World} (h : Dr w v) : w.grownBy v none := by obtain ⟨m, rfl⟩ := h; exact ⟨rfl, rfl, rfl, Nat.le_refl _, fun _ _ _ => rfl⟩
/-- The loop over a function's values. -/
theorem Cw.range {α : Type} {g : Operand} {ps : Array Tmp} {assign body : Code} {gf : Nat} {lb : Array Value} [hF : Fun P gf] (hg : ev l g = some (.func (.func gf) #[] lb))
    {encs : α → Array Value} {Kp : World → World → Prop} {S : List α → Prop} {N : Nat} (hseq : SeqStopsK Fence.wide 2 P gf lb encs Kp S (fun _ => True) N w)
    (hKt : ∀ {A B C : World}, Kp A B → Kp B C → Kp A C) (hKb : ∀ (W : World) (l : Nat) (o o' : Obj), w.heap.size ≤ l → W.heap[l]? = some o → o.isCells = false → o.isWalk = false → Kp W (W.putObj l o'))
    (hps : ∀ x, (encs x).size = ps.size) (I : List α → World → Prop) (hI : OwnFrom w.heap.size I) (h0 : I [] w) (La : α → L)
    (hassign : ∀ a, Fr n l a → ∃ a₁ : α → Act, (∀ x, Fr ⟨n.n, []⟩ (La x) (a₁ x)) ∧ ∀ (lp : Nat) (x : α) (W : World) (K : Act → World → Prop), K (a₁ x) W → assign.wpIn (FR lp) 1 P (Exit.then K (fun _ _ _ => False)) { tmps := (ps.zip (encs x)).foldl (fun t (p, v) => t.setIfInBounds p v) a.tmps, defers := [] } W)
    (hbody : ∀ (lp : Nat) (pre : List α) (x : α) (W : World), I pre W → pre.length < N → ∀ a, Fr ⟨n.n, []⟩ (La x) a → body.wpIn (FR lp) 1 P (ownPostK Kp I (fun _ _ _ => False) (pre ++ [x]) W) a W)
    (hdone : ∀ (D : Nat) (xs : List α) (W : World), w.heap.size ≤ D → S xs → I xs W → W.heap[D]? = some (.deferred (some [])) → Ex .normal Q ⟨n.n, { target := .collected D, args := #[] } :: n.ds⟩ l W) :
    Cw P (.rangeFunc g ps assign body) Q n l w := by
  intro a v hf hd
  obtain ⟨a₁, h1, h2⟩ := hassign a hf
  have hz := hd.size
  refine (wpIn_wide (n := 3)).1 (wpIn_rangeFunc_ownF (F := Fence.wide) (w0 := w) rfl (by decide) (hf.ev hg) trivial hF.h hseq hKt (fun W l o o' hl => hKb W l o o' (by omega)) ?_ hps I (fun _ _ _ => False) (by rw [hz]; exact hI) (fun _ _ _ _ _ hs _ _ => hs) (hI _ _ _ none h0 hd.grown (fun _ e => by cases e)) a₁ h2 (fun lp pre x W hi hl => hbody lp pre x W hi hl _ (h1 x)) ?_ (fun _ _ _ _ _ _ h _ => h.elim))
  · obtain ⟨m, rfl⟩ := hd; exact ⟨rfl, rfl, rfl, Nat.le_refl _, fun _ _ => rfl⟩
  · intro D xs W hD hS hi hK
    exact hdone D xs W (by omega) hS hi hK _ W ⟨hf.size, by show _ :: a.defers = _ :: n.ds; rw [hf.defers], hf.at_⟩ (Dr.refl W)
/-- A function that holds such a loop: its begin and its ends. -/
theorem ctrM {m : Nat} {f : FuncId} {fn : Func} {c : Code} {vs : List Value} {R : Value → World → Prop} (hf : P.funcs[f]? = some fn) (hb : fn.body = some c) (hn : fn.ntmps = m) (hle : Nat.ble vs.length m = true)
    (h : Cw P c (bodyPostM Fence.wide 3 P fn fun e w' => ∃ x, e = .returned x ∧ R x w') ⟨m, []⟩ (args vs 0) w) : Ctr P f vs w R := by
  intro v hd
  refine callsIn_wide.1 (callsIn_of_wp_marks (n := 3) hf hb trivial (wpIn_wide.2 (h _ v ⟨?_, rfl, ?_⟩ hd)))
  · have := Nat.le_of_ble_eq_true hle
    simp [hn]; omega
  · intro i v hi
    obtain ⟨_, h2⟩ := get_args vs 0 i v hi
    simp only [Nat.sub_zero] at h2
    have hlt := (List.getElem?_eq_some_iff.1 h2).1
    simp only
    rw [Array.getElem?_append_left (by simpa using hlt)]
    simpa using h2
theorem finM2 {m : Nat} {fn : Func} {R : Value → World → Prop} {e : Exit} {t u : Nat} {x y : Value} (he : e = .ret ∨ e = .normal) (hr : fn.results = #[.tmp t, .tmp u]) (hx : get l t = some x) (hy : get l u = some y) (h : ∀ v, Dr w v → R (.tuple #[x, y]) v) : Ex e (bodyPostM Fence.wide 3 P fn fun e w' => ∃ x, e = .returned x ∧ R x w') ⟨m, []⟩ l w := by
  intro a v hf hd
  have hh : LeavesInM Fence.wide 3 P fn a.tmps (fun e w' => ∃ x, e = .returned x ∧ R x w') a.defers .returning v := by
    rw [hf.defers]
    exact ⟨_, by rw [results_tmp2 hr]; simp [hf.at_ t x hx, hf.at_ u y hy], _, rfl, h v hd⟩
  rcases he with rfl | rfl <;> exact hh
theorem finM2D {m : Nat} {fn : Func} {R : Value → World → Prop} {e : Exit} {t u D : Nat} {x y : Value} (he : e = .ret ∨ e = .normal) (hr : fn.results = #[.tmp t, .tmp u]) (hK : w.heap[D]? = some (.deferred (some []))) (hx : get l t = some x) (hy : get l u = some y) (h : ∀ v, Dr w v → R (.tuple #[x, y]) (v.putObj D (.deferred none))) : Ex e (bodyPostM Fence.wide 3 P fn fun e w' => ∃ x, e = .returned x ∧ R x w') ⟨m, [{ target := .collected D, args := #[] }]⟩ l w := by
  intro a v hf hd
  have hh : LeavesInM Fence.wide 3 P fn a.tmps (fun e w' => ∃ x, e = .returned x ∧ R x w') a.defers .returning v := by
    rw [hf.defers]
    refine ⟨nofun, .inl ⟨D, _, rfl, run_takeDeferred (by rw [hd.heap]; exact hK), ?_⟩⟩
    exact ⟨_, by rw [results_tmp2 hr]; simp [hf.at_ t x hx, hf.at_ u y hy], _, rfl, h v hd⟩
  rcases he with rfl | rfl <;> exact hh
theorem Keep.putObj {X : Nat → Prop} {A : World} {D : Nat} (o : Obj) (hX : ¬ X D) : Keep X A (A.putObj D o) := by
  have g := grownBy_putObj' A D o
  exact ⟨g.os, g.tape, g.output, g.size, fun k hk => World.putObj_heap_other (fun e => hX (e ▸ hk))⟩
theorem Keep.grown {X : Nat → Prop} {A B : World} {row : Option Nat} (h : A.grownBy B row) (hX : ∀ k, X k → k < A.heap.size ∧ row ≠ some k) : Keep X A B :=
  ⟨h.os, h.tape, h.output, h.size, fun k hk => h.block k (hX k hk).1 fun e => (hX k hk).2 e.symm⟩
/-- Two loop variables, each put into a slot of its own. -/
theorem assign2 {α : Type} {encs : α → Array Value} (e0 e1 : α → Value) (he : ∀ x, encs x = #[e0 x, e1 x]) {p q r s i1 i2 t1 t2 : Nat} {ps1 ps2 : String} (hr : Nat.beq r q = false) (hpq : Nat.beq q p = false) (h1 : Nat.ble (p + 1) n.n = true) (h2 : Nat.ble (q + 1) n.n = true) (h3 : Nat.ble (r + 1) n.n = true) (h4 : Nat.ble (s + 1) n.n = true) :
    ∀ a, Fr n l a → ∃ a₁ : α → Act, (∀ x, Fr ⟨n.n, []⟩ ((s, e1 x) :: (r, e0 x) :: (q, e1 x) :: (p, e0 x) :: l) (a₁ x)) ∧ ∀ (lp : Nat) (x : α) (W : World) (K : Act → World → Prop), K (a₁ x) W →
      (Code.seq (.region i1 #[{ dst := some r, op := .assign (.tmp p), type := t1, pos := ps1, after := #[], guard := none }] false) (.region i2 #[{ dst := some s, op := .assign (.tmp q), type := t2, pos := ps2, after := #[], guard := none }] false)).wpIn (FR lp) 1 P (Exit.then K (fun _ _ _ => False)) { tmps := (#[p, q].zip (encs x)).foldl (fun t (p, v) => t.setIfInBounds p v) a.tmps, defers := [] } W := by
  intro a hf
  have hb : ∀ x, ({ tmps := (#[p, q].zip (encs x)).foldl (fun t (p, v) => t.setIfInBounds p v) a.tmps, defers := [] } : Act) = ((({ a with defers := [] } : Act).put (some p) (e0 x)).put (some q) (e1 x)) := fun x => by
    rw [he]; simp [Act.put]
  have hf0 : Fr ⟨n.n, []⟩ l ({ a with defers := [] } : Act) := ⟨hf.size, rfl, hf.at_⟩
  have hf2 : ∀ x, Fr ⟨n.n, []⟩ ((q, e1 x) :: (p, e0 x) :: l) ((({ a with defers := [] } : Act).put (some p) (e0 x)).put (some q) (e1 x)) := fun x => (hf0.put p (e0 x) (lt_ble h1)).put q (e1 x) (lt_ble h2)
  have hf3 := fun x => (hf2 x).put r (e0 x) (lt_ble h3)
  have hf4 := fun x => (hf3 x).put s (e1 x) (lt_ble h4)
  refine ⟨_, hf4, fun lp x W K hK => ?_⟩
  rw [hb]
  have ep : ∀ x, ((({ a with defers := [] } : Act).put (some p) (e0 x)).put (some q) (e1 x)).eval (.tmp p) = e0 x := fun x => (hf2 x).ev (by simp only [ev, get]; rw [hpq]; simp)
  have eq : ∀ x, (((({ a with defers := [] } : Act).put (some p) (e0 x)).put (some q) (e1 x)).put (some r) (e0 x)).eval (.tmp q) = e1 x := fun x => (hf3 x).ev (by simp only [ev, get]; rw [hr]; simp)
  refine wpIn_seq (wpIn_region_lit (l := [_]) ?_)
  unfold wpListIn
  rw [if_pos (by rfl)]
  refine ⟨fun _ _ => trivial, ?_⟩
  rw [Oper.semAt_eq _ _ _ (by rintro _ h; cases h)]
  rw [show ∀ (ρ : Operand → Value) (W : World), (execOp ρ { dst := some r, op := .assign (.tmp p), type := t1, pos := ps1, after := #[], guard := none }).run P W = .ok (.value (ρ (.tmp p))) W from fun ρ W => by simp [execOp], Oper.uponIn_value, ep]
  refine wpIn_region_lit (l := [_]) ?_
  unfold wpListIn
  rw [if_pos (by rfl)]
  refine ⟨fun _ _ => trivial, ?_⟩
  rw [Oper.semAt_eq _ _ _ (by rintro _ h; cases h)]
  rw [show ∀ (ρ : Operand → Value) (W : World), (execOp ρ { dst := some s, op := .assign (.tmp q), type := t2, pos := ps2, after := #[], guard := none }).run P W = .ok (.value (ρ (.tmp q))) W from fun ρ W => by simp [execOp], Oper.uponIn_value, eq]
  exact hK
/-- What keeps all but a block of cells keeps all that is none. -/
theorem keepsOthers_of {W V : World} {g : Nat} {t : TypeId} {cs : List Value} (hR : Row W g t cs) (hK : Keep (fun k => k ≠ g) W V) : KeepsOthers W V := by
  refine ⟨hK.size, fun k o hk ho => ?_⟩
  by_cases e : k = g
  · subst e
    unfold Row at hR
    rw [hR] at hk
    obtain rfl := Option.some.inj hk
    simp [Obj.isCells] at ho
  · rw [hK.block k e]; exact hk
end
end Go.Proofs.Ytdakocdfpdglfaa.Sx
