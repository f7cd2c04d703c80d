/- A small calculus of walks: a frame told as a list of slots and values, one rule an operation. -/
import Derived.Test.YtbjcdgcdnbnknaaProg
import Derived.OwnWalk
import Derived.WalkKit
import Derived.KernelRfl
import Derived.Deep.Quiet
import Derived.Deep.Draws
import Derived.Deep.LoopGhost
import Derived.Below
import Derived.IntWalk
namespace Go.Proofs.Ytbjcdgcdnbnknaa.Sx
open Go.RowKit

/-! ### 1. Frames as lists -/
abbrev L := List (Nat × Value)
def get : L → Nat → Option Value
  | [], _ => none
  | (j, v) :: t, i => bif Nat.beq j i then some v else get t i
def ev (l : L) : Operand → Option Value
  | .tmp t => get l t
  | .const v => some v
  | .global g => some (.pointer (some ⟨g, 0, none⟩))
  | .func f => some (.func (.func f) #[] #[])
/-- A frame's size, and what is put off to its end. -/
structure Sz where
  n : Nat
  ds : List Deferred
structure Fr (n : Sz) (l : L) (a : Act) : Prop where
  size : a.tmps.size = n.n
  defers : a.defers = n.ds
  at_ : ∀ i v, get l i = some v → a.tmps[i]? = some v
/-- The world, some orders having been drawn. -/
def Dr (w v : World) : Prop := ∃ m, v = w.drewN m
theorem Dr.refl (w : World) : Dr w w := ⟨0, rfl⟩
theorem Dr.drawn {w v : World} (h : Dr w v) (k : Nat) : Dr w (v.drewN k) := by obtain ⟨m, rfl⟩ := h; exact ⟨m + k, World.drewN_drewN ..⟩
theorem Dr.trans {u v w : World} (h : Dr u v) (k : Dr v w) : Dr u w := by obtain ⟨m, rfl⟩ := k; exact h.drawn m
theorem Dr.heap {w v : World} (h : Dr w v) : v.heap = w.heap := by obtain ⟨m, rfl⟩ := h; rfl
theorem Dr.cell {w v : World} (h : Dr w v) (a : Addr) : v.cell? a = w.cell? a := by obtain ⟨m, rfl⟩ := h; rfl
theorem Dr.frozen {w v : World} (h : Dr w v) (a : Addr) : v.frozen? a = w.frozen? a := by obtain ⟨m, rfl⟩ := h; rfl

theorem lt_ble {d n : Nat} (h : Nat.ble (d + 1) n = true) : d < n := Nat.le_of_ble_eq_true h
theorem beq_no {d i : Nat} (h : ¬ Nat.beq d i = true) : Nat.beq d i = false := by cases e : Nat.beq d i <;> simp_all
theorem beq_ne {d i : Nat} (h : d ≠ i) : Nat.beq d i = false := beq_no fun e => h (Nat.eq_of_beq_eq_true e)
theorem Fr.ev {n : Sz} {l : L} {a : Act} (h : Fr n l a) {x : Operand} {v : Value} (hx : ev l x = some v) : a.eval x = v := by
  cases x with
  | tmp t => have := h.at_ t v hx; simp [Act.eval, this]
  | const c => exact Option.some.inj hx
  | global g => exact Option.some.inj hx
  | func f => exact Option.some.inj hx
theorem Fr.put {n : Sz} {l : L} {a : Act} (h : Fr n l a) (d : Nat) (v : Value) (hd : d < n.n) : Fr n ((d, v) :: l) (a.put (some d) v) := by
  refine ⟨by simp [Act.put, h.size], by simp [Act.put, h.defers], fun i u hi => ?_⟩
  simp only [get] at hi
  by_cases e : d = i
  · subst e
    have hb : Nat.beq d d = true := by simp
    rw [hb] at hi
    simp at hi; subst hi
    simp [Act.put, h.size, hd]
  · have hb : Nat.beq d i = false := beq_ne e
    rw [hb] at hi
    simp only [cond_false] at hi
    simp [Act.put, Array.getElem?_setIfInBounds_ne e, h.at_ i u hi]
theorem Fr.put_none {n : Sz} {l : L} {a : Act} (h : Fr n l a) (v : Value) : Fr n l (a.put none v) := h
theorem Fr.weaken {n : Sz} {l l' : L} {a : Act} (h : Fr n l a) (hl : ∀ i v, get l' i = some v → get l i = some v) : Fr n l' a := ⟨h.size, h.defers, fun i v hi => h.at_ i v (hl i v hi)⟩
/-- A list of slots is found in another one. -/
def sub (l : L) : L → Prop
  | [] => True
  | (j, v) :: t => get l j = some v ∧ sub l t
theorem sub_get {l : L} : ∀ {l' : L}, sub l l' → ∀ i v, get l' i = some v → get l i = some v
  | [], _, i, v, h => by simp [get] at h
  | (j, u) :: t, hs, i, v, h => by
    simp only [get] at h
    by_cases e : Nat.beq j i = true
    · rw [e] at h; simp at h; subst h
      have : j = i := by simpa using e
      subst this; exact hs.1
    · have e' : Nat.beq j i = false := beq_no e
      rw [e'] at h
      exact sub_get hs.2 i v (by simpa using h)
theorem Fr.sub {n : Sz} {l l' : L} {a : Act} (h : Fr n l a) (hs : sub l l') : Fr n l' a := h.weaken (sub_get hs)

/-- The frame at a call's begin. -/
def args : List Value → Nat → L
  | [], _ => []
  | v :: t, k => (k, v) :: args t (k + 1)
theorem get_args : ∀ (vs : List Value) (k i : Nat) (v : Value), get (args vs k) i = some v → k ≤ i ∧ vs[i - k]? = some v
  | [], _, _, _, h => by simp [args, get] at h
  | u :: t, k, i, v, h => by
    simp only [args, get] at h
    by_cases e : Nat.beq k i = true
    · rw [e] at h; simp at h; subst h
      have : k = i := by simpa using e
      subst this; simp
    · have e' : Nat.beq k i = false := beq_no e
      rw [e'] at h
      obtain ⟨h1, h2⟩ := get_args t (k + 1) i v (by simpa using h)
      refine ⟨by omega, ?_⟩
      rw [show i - k = (i - (k + 1)) + 1 from by omega]
      simpa using h2

/-! ### 2. Code -/
section
variable {P : Program} {Q : Exit → Act → World → Prop} {n : Sz} {l : L} {w : World}
def Cw (P : Program) (c : Code) (Q : Exit → Act → World → Prop) (n : Sz) (l : L) (w : World) : Prop := ∀ a v, Fr n l a → Dr w v → c.wp P Q a v
def Ex (e : Exit) (Q : Exit → Act → World → Prop) (n : Sz) (l : L) (w : World) : Prop := ∀ a v, Fr n l a → Dr w v → Q e a v
theorem Cw.seq {x y : Code} (h : Cw P x (Exit.then (y.wp P Q) Q) n l w) : Cw P (.seq x y) Q n l w := fun a v hf hd => wp_seq (h a v hf hd)
theorem Cw.block {i : Nat} {x : Code} (h : Cw P x (Exit.inBlock i Q) n l w) : Cw P (.block i x) Q n l w := fun a v hf hd => wp_block (h a v hf hd)
theorem Cw.skip (h : Ex .normal Q n l w) : Cw P .skip Q n l w := fun a v hf hd => wp_skip (h a v hf hd)
theorem Cw.ret (h : Ex .ret Q n l w) : Cw P .ret Q n l w := fun a v hf hd => wp_ret (h a v hf hd)
theorem Cw.exit {i : Nat} (h : Ex (.exit i) Q n l w) : Cw P (.exit i) Q n l w := fun a v hf hd => wp_exit (h a v hf hd)
theorem Cw.cond {c : Operand} {x y : Code} {b : Bool} (hc : ev l c = some (.bool b)) (ht : b = true → Cw P x Q n l w) (hf : b = false → Cw P y Q n l w) : Cw P (.cond c x y) Q n l w :=
  fun a v hr hd => wp_cond_split (hr.ev hc) (fun h => ht h a v hr hd) (fun h => hf h a v hr hd)
theorem Cw.cond_t {c : Operand} {x y : Code} (hc : ev l c = some (.bool true)) (ht : Cw P x Q n l w) : Cw P (.cond c x y) Q n l w := fun a v hr hd => wp_cond_true (hr.ev hc) (ht a v hr hd)
theorem Cw.cond_f {c : Operand} {x y : Code} (hc : ev l c = some (.bool false)) (ht : Cw P y Q n l w) : Cw P (.cond c x y) Q n l w := fun a v hr hd => wp_cond_false (hr.ev hc) (ht a v hr hd)
theorem Ex.then_n {y : Code} (h : Cw P y Q n l w) : Ex .normal (Exit.then (y.wp P Q) Q) n l w := h
theorem Ex.then_ret {K : Act → World → Prop} (h : Ex .ret Q n l w) : Ex .ret (Exit.then K Q) n l w := h
theorem Ex.then_exit {K : Act → World → Prop} {i : Nat} (h : Ex (.exit i) Q n l w) : Ex (.exit i) (Exit.then K Q) n l w := h
theorem Ex.blk_n {i : Nat} (h : Ex .normal Q n l w) : Ex .normal (Exit.inBlock i Q) n l w := h
theorem Ex.blk_ret {i : Nat} (h : Ex .ret Q n l w) : Ex .ret (Exit.inBlock i Q) n l w := h
theorem Ex.blk_eq {i : Nat} (h : Ex .normal Q n l w) : Ex (.exit i) (Exit.inBlock i Q) n l w := fun a v hf hd => by simp only [Exit.inBlock, if_true]; exact h a v hf hd
theorem Ex.blk_ne {i j : Nat} (hne : Nat.beq j i = false) (h : Ex (.exit j) Q n l w) : Ex (.exit j) (Exit.inBlock i Q) n l w := fun a v hf hd => by
  have : j ≠ i := by intro e; subst e; simp at hne
  simp only [Exit.inBlock, if_neg this]; exact h a v hf hd

/-- What a round hands on. -/
def Again {σ : Type} (Lf : σ → L) (Inv : σ → World → Prop) (m : σ → Nat) (n : Sz) (k : Nat) (a : Act) (v : World) : Prop := ∃ s w, m s < k ∧ Inv s w ∧ Fr n (Lf s) a ∧ Dr w v
/-- A loop: what its head knows hangs on a state of the proof's own. -/
theorem Cw.loop {σ : Type} (Lf : σ → L) (Inv : σ → World → Prop) (m : σ → Nat) {c : Code} (s0 : σ) (h0 : sub l (Lf s0)) (hi : Inv s0 w)
    (round : ∀ s w, Inv s w → Cw P c (Exit.then (Again Lf Inv m n (m s)) Q) n (Lf s) w) : Cw P (.loop c) Q n l w := by
  intro a v hf hd
  refine wp_loop_ghost (I := fun k a v => ∃ s w, m s = k ∧ Inv s w ∧ Fr n (Lf s) a ∧ Dr w v) (m s0) ⟨s0, w, rfl, hi, hf.sub h0, hd⟩ ?_
  rintro k a v ⟨s, w, rfl, hi, hf, hd⟩
  refine wp_mono (round s w hi a v hf hd) ?_
  intro e a' v' hq
  cases e with
  | normal => obtain ⟨s', w', hlt, hi', hf', hd'⟩ := hq; exact ⟨m s', hlt, s', w', rfl, hi', hf', hd'⟩
  | exit id => exact hq
  | goto l => exact hq
  | ret => exact hq
  | panic ch => exact hq
  | outgrown => exact hq
theorem Ex.next {σ : Type} {Lf : σ → L} {Inv : σ → World → Prop} {m : σ → Nat} {k : Nat} (s : σ) (hm : m s < k) (hs : sub l (Lf s)) (hi : Inv s w) : Ex .normal (Exit.then (Again Lf Inv m n k) Q) n l w :=
  fun _ _ hf hd => ⟨s, w, hm, hi, hf.sub hs, hd⟩
/-- Ways that meet. -/
def Meets {σ : Type} (Lf : σ → L) (I : σ → World → Prop) (n : Sz) (a : Act) (v : World) : Prop := ∃ s w, I s w ∧ Fr n (Lf s) a ∧ Dr w v
theorem Cw.cut {σ : Type} (Lf : σ → L) (I : σ → World → Prop) {x y : Code} (hx : Cw P x (Exit.then (Meets Lf I n) Q) n l w) (hy : ∀ s w', I s w' → Cw P y Q n (Lf s) w') : Cw P (.seq x y) Q n l w := by
  intro a v hf hd
  refine wp_seq (wp_mono (hx a v hf hd) ?_)
  intro e a' v' hq
  cases e with
  | normal => obtain ⟨s, w', hi, hf', hd'⟩ := hq; exact hy s w' hi a' v' hf' hd'
  | exit id => exact hq
  | goto l => exact hq
  | ret => exact hq
  | panic ch => exact hq
  | outgrown => exact hq
theorem Ex.meet {σ : Type} {Lf : σ → L} {I : σ → World → Prop} (s : σ) (hs : sub l (Lf s)) (hi : I s w) : Ex .normal (Exit.then (Meets Lf I n) Q) n l w := fun _ _ hf hd => ⟨s, w, hi, hf.sub hs, hd⟩
/-- The frame forgets what isn't named. -/
theorem Cw.keep (l' : L) {c : Code} (hs : sub l l') (h : Cw P c Q n l' w) : Cw P c Q n l w := fun a v hf hd => h a v (hf.sub hs) hd
end

/-! ### 3. A function's begin and end -/
theorem enter {P : Program} {f : FuncId} {fn : Func} {c : Code} {vs : List Value} {w : World} {R : Ending → World → Prop} (hf : P.funcs[f]? = some fn) (hb : fn.body = some c) {n : Nat} (hn : fn.ntmps = n) (hle : vs.length ≤ n)
    (h : Cw P c (bodyPost P fn R) ⟨n, []⟩ (args vs 0) w) : Calls P f vs.toArray w R := by
  refine calls_of_wp hf hb (h _ w ⟨?_, rfl, ?_⟩ (Dr.refl w))
  · simp [hn]; omega
  · intro i v hi
    obtain ⟨_, h2⟩ := get_args vs 0 i v hi
    simp only [Nat.sub_zero] at h2
    have hlt := (List.getElem?_eq_some_iff.1 h2).1
    simp only
    rw [Array.getElem?_append_left (by simpa using hlt)]
    simpa using h2
def resTmps : List ResultVar → Option (List Nat)
  | [] => some []
  | .tmp t :: r => (resTmps r).map (t :: ·)
  | _ :: _ => none
theorem ret0 {P : Program} {fn : Func} {R : Ending → World → Prop} {n : Nat} {l : L} {w : World} {e : Exit} (he : e = .ret ∨ e = .normal) (hr : fn.results = #[]) (h : ∀ v, Dr w v → R (.returned (.tuple #[])) v) : Ex e (bodyPost P fn R) ⟨n, []⟩ l w := by
  intro a v hf hd
  have hh : a.defers = [] ∧ ∃ u, (results fn a.tmps).run P v = .ok u v ∧ R (.returned u) v := ⟨hf.defers, _, results_none hr _ _ _, h v hd⟩
  rcases he with rfl | rfl <;> exact hh
theorem ret1 {P : Program} {fn : Func} {R : Ending → World → Prop} {n : Nat} {l : L} {w : World} {e : Exit} {t : Nat} {x : Value} (he : e = .ret ∨ e = .normal) (hr : fn.results = #[.tmp t]) (hx : get l t = some x) (h : ∀ v, Dr w v → R (.returned x) v) : Ex e (bodyPost P fn R) ⟨n, []⟩ l w := by
  intro a v hf hd
  have hh : a.defers = [] ∧ ∃ u, (results fn a.tmps).run P v = .ok u v ∧ R (.returned u) v := ⟨hf.defers, x, by rw [results_tmp hr]; simp [hf.at_ t x hx], h v hd⟩
  rcases he with rfl | rfl <;> exact hh
theorem ret2 {P : Program} {fn : Func} {R : Ending → World → Prop} {n : Nat} {l : L} {w : World} {e : Exit} {t u : Nat} {x y : Value} (he : e = .ret ∨ e = .normal) (hr : fn.results = #[.tmp t, .tmp u]) (hx : get l t = some x) (hy : get l u = some y) (h : ∀ v, Dr w v → R (.returned (.tuple #[x, y])) v) : Ex e (bodyPost P fn R) ⟨n, []⟩ l w := by
  intro a v hf hd
  have hh : a.defers = [] ∧ ∃ u, (results fn a.tmps).run P v = .ok u v ∧ R (.returned u) v := ⟨hf.defers, _, by rw [results_tmp2 hr]; simp [hf.at_ t x hx, hf.at_ u y hy], h v hd⟩
  rcases he with rfl | rfl <;> exact hh
theorem ret3 {P : Program} {fn : Func} {R : Ending → World → Prop} {n : Nat} {l : L} {w : World} {e : Exit} {t u s : Nat} {x y z : Value} (he : e = .ret ∨ e = .normal) (hr : fn.results = #[.tmp t, .tmp u, .tmp s]) (hx : get l t = some x) (hy : get l u = some y) (hz : get l s = some z) (h : ∀ v, Dr w v → R (.returned (.tuple #[x, y, z])) v) : Ex e (bodyPost P fn R) ⟨n, []⟩ l w := by
  intro a v hf hd
  have hh : a.defers = [] ∧ ∃ u, (results fn a.tmps).run P v = .ok u v ∧ R (.returned u) v := ⟨hf.defers, _, by rw [results_tmp3 hr]; simp [hf.at_ t x hx, hf.at_ u y hy, hf.at_ s z hz], h v hd⟩
  rcases he with rfl | rfl <;> exact hh

/-! ### 4. Regions -/
section
variable {P : Program} {Q : Exit → Act → World → Prop} {n : Sz} {l : L} {w : World} {ops : Array Oper} {o : Oper} {rest : List Oper}
/-- A region in the text's order. -/
def Wl (P : Program) (ops : Array Oper) (rest : List Oper) (Q : Exit → Act → World → Prop) (n : Sz) (l : L) (w : World) : Prop := ∀ a v, Fr n l a → Dr w v → wpList P ops Q rest a v
/-- A region whose operations only read, in whatever order. -/
def Wq (P : Program) (ops : Array Oper) (rest : List Oper) (Q : Exit → Act → World → Prop) (n : Sz) (l : L) (w : World) : Prop := ∀ a, Fr n l a → wpQuiet P ops (Dr w) (fun a' => ∀ v, Dr w v → Q .normal a' v) rest a
theorem Cw.region {id : Nat} {os : List Oper} (h : Wl P os.toArray os Q n l w) : Cw P (.region id os.toArray false) Q n l w := fun a v hf hd => wp_region_lit (h a v hf hd)
theorem Cw.quiet {id : Nat} {os : List Oper} (hm : P.follows .mixedOrders = true) (hB : Region.lexB .any os.toArray = true) (h : Wq P os.toArray os Q n l w) : Cw P (.region id os.toArray true) Q n l w := by
  intro a v hf hd
  refine wp_region_quiet (C := Dr w) hm hB ?_ (by simpa using h a hf)
  obtain ⟨m, rfl⟩ := hd; exact ⟨m + 1, rfl⟩
theorem Wl.nil (h : Ex .normal Q n l w) : Wl P ops [] Q n l w := h
theorem Wq.nil (h : Ex .normal Q n l w) : Wq P ops [] Q n l w := fun a hf v hd => h a v hf hd
/-- Is an operation wanted? -/
def want (ops : Array Oper) (l : L) (o : Oper) : Option Bool :=
  match o.guard with
  | none => some true
  | some (j, b) =>
    match ops[j]? with
    | some g =>
      match g.dst with
      | some d =>
        match get l d with
        | some (.bool c) => some (c == b)
        | some (.tuple _) => some false
        | _ => none
      | none => none
    | none => none
theorem want_spec {a : Act} (hf : Fr n l a) {b : Bool} (h : want ops l o = some b) : Region.wanted o (yielded ops a.tmps) = b := by
  unfold want at h
  unfold Region.wanted
  split at h
  · rename_i hg; rw [hg]; simpa using h
  · rename_i j c hg
    rw [hg]
    split at h
    · rename_i g hj
      split at h
      · rename_i d hd
        split at h
        · rename_i c' hc
          have h1 := hf.at_ _ _ hc
          simp only [yielded, hj, Option.bind_some, hd, h1]
          simp only [Option.some.injEq] at h
          subst h
          cases c <;> cases c' <;> rfl
        · rename_i vs hc
          have h1 := hf.at_ _ _ hc
          simp only [yielded, hj, Option.bind_some, hd, h1]
          simp only [Option.some.injEq] at h
          subst h
          cases c <;> rfl
        · exact absurd h (by simp)
      · exact absurd h (by simp)
    · exact absurd h (by simp)
/-- What an operation yields, the world staying as it is. -/
def Val (P : Program) (l : L) (n : Sz) (o : Oper) (w : World) (x : Value) : Prop := ∀ a v, Fr n l a → Dr w v → (execOp a.eval o).run P v = .ok (.value x) v
theorem Wl.val {d : Nat} {x : Value} (hw : want ops l o = some true) (hd : o.dst = some d) (hn : Nat.ble (d + 1) n.n = true) (hv : Val P l n o w x) (h : Wl P ops rest Q n ((d, x) :: l) w) : Wl P ops (o :: rest) Q n l w := by
  intro a v hf hdr
  unfold wpList
  rw [want_spec hf hw, if_pos rfl]
  refine .inl ?_
  show o.upon P a _ Q _
  rw [hv a v hf hdr, Oper.upon_value, hd]
  exact h _ v (hf.put d x (lt_ble hn)) hdr
theorem Wq.val {d : Nat} {x : Value} (hw : want ops l o = some true) (hd : o.dst = some d) (hn : Nat.ble (d + 1) n.n = true) (hv : Val P l n o w x) (h : Wq P ops rest Q n ((d, x) :: l) w) : Wq P ops (o :: rest) Q n l w := by
  intro a hf
  unfold wpQuiet
  rw [want_spec hf hw, if_pos rfl]
  refine ⟨x, fun v hdr => ?_, ?_⟩
  · unfold Oper.quietAt
    rw [hv a v hf hdr]
    exact ⟨rfl, rfl⟩
  · rw [hd]; exact h _ (hf.put d x (lt_ble hn))
theorem Wl.off {d : Nat} (hw : want ops l o = some false) (hd : o.dst = some d) (hn : Nat.ble (d + 1) n.n = true) (h : Wl P ops rest Q n ((d, undef) :: l) w) : Wl P ops (o :: rest) Q n l w := by
  intro a v hf hdr
  unfold wpList
  rw [want_spec hf hw, if_neg (by simp), hd]
  exact h _ v (hf.put d _ (lt_ble hn)) hdr
theorem Wq.off {d : Nat} (hw : want ops l o = some false) (hd : o.dst = some d) (hn : Nat.ble (d + 1) n.n = true) (h : Wq P ops rest Q n ((d, undef) :: l) w) : Wq P ops (o :: rest) Q n l w := by
  intro a hf
  unfold wpQuiet
  rw [want_spec hf hw, if_neg (by simp), hd]
  exact h _ (hf.put d _ (lt_ble hn))
theorem Wl.off_none (hw : want ops l o = some false) (hd : o.dst = none) (h : Wl P ops rest Q n l w) : Wl P ops (o :: rest) Q n l w := by
  intro a v hf hdr
  unfold wpList
  rw [want_spec hf hw, if_neg (by simp), hd]
  exact h _ v hf hdr
/-- A Bool slot, both ways. -/
theorem Wl.split (d : Nat) {b : Bool} (hd : get l d = some (.bool b)) (ht : b = true → Wl P ops rest Q n ((d, .bool true) :: l) w) (hf : b = false → Wl P ops rest Q n ((d, .bool false) :: l) w) : Wl P ops rest Q n l w := by
  intro a v hr hdr
  have key : ∀ c, b = c → Fr n ((d, .bool c) :: l) a := fun c e => hr.weaken fun i u hu => by
    subst e
    simp only [get] at hu
    by_cases hb : Nat.beq d i = true
    · rw [hb] at hu; have : d = i := by simpa using hb
      subst this; rw [hd]; simpa using hu
    · have hb' : Nat.beq d i = false := beq_no hb
      rw [hb'] at hu; simpa using hu
  cases b with
  | true => exact ht rfl a v (key true rfl) hdr
  | false => exact hf rfl a v (key false rfl) hdr
theorem Wq.split (d : Nat) {b : Bool} (hd : get l d = some (.bool b)) (ht : b = true → Wq P ops rest Q n ((d, .bool true) :: l) w) (hf : b = false → Wq P ops rest Q n ((d, .bool false) :: l) w) : Wq P ops rest Q n l w := by
  intro a hr
  have key : ∀ c, b = c → Fr n ((d, .bool c) :: l) a := fun c e => hr.weaken fun i u hu => by
    subst e
    simp only [get] at hu
    by_cases hb : Nat.beq d i = true
    · rw [hb] at hu; have : d = i := by simpa using hb
      subst this; rw [hd]; simpa using hu
    · have hb' : Nat.beq d i = false := beq_no hb
      rw [hb'] at hu; simpa using hu
  cases b with
  | true => exact ht rfl a (key true rfl)
  | false => exact hf rfl a (key false rfl)
/-- An operation that yields a value and turns the world. -/
def Act1 (P : Program) (l : L) (n : Sz) (o : Oper) (w : World) (x : Value) (w' : World) : Prop := ∀ a v, Fr n l a → Dr w v → ∃ v', (execOp a.eval o).run P v = .ok (.value x) v' ∧ Dr w' v'
theorem Wl.act {d : Nat} {x : Value} {w' : World} (hw : want ops l o = some true) (hd : o.dst = some d) (hn : Nat.ble (d + 1) n.n = true) (hv : Act1 P l n o w x w') (h : Wl P ops rest Q n ((d, x) :: l) w') : Wl P ops (o :: rest) Q n l w := by
  intro a v hf hdr
  unfold wpList
  rw [want_spec hf hw, if_pos rfl]
  refine .inl ?_
  show o.upon P a _ Q _
  obtain ⟨v', hr, hd'⟩ := hv a v hf hdr
  rw [hr, Oper.upon_value, hd]
  exact h _ v' (hf.put d x (lt_ble hn)) hd'
/-- An operation that yields nothing and turns the world. -/
def Act0 (P : Program) (l : L) (n : Sz) (o : Oper) (w : World) (w' : World) : Prop := ∀ a v, Fr n l a → Dr w v → ∃ v', (execOp a.eval o).run P v = .ok .skip v' ∧ Dr w' v'
theorem Wl.act0 {w' : World} (hw : want ops l o = some true) (hd : o.dst = none) (hv : Act0 P l n o w w') (h : Wl P ops rest Q n l w') : Wl P ops (o :: rest) Q n l w := by
  intro a v hf hdr
  unfold wpList
  rw [want_spec hf hw, if_pos rfl]
  refine .inl ?_
  show o.upon P a _ Q _
  obtain ⟨v', hr, hd'⟩ := hv a v hf hdr
  rw [hr, Oper.upon_skip, hd]
  exact h _ v' hf hd'
/-- An operation of several outcomes (an append). -/
theorem Wl.acts {d : Nat} (R : Value → World → Prop) (hw : want ops l o = some true) (hd : o.dst = some d) (hn : Nat.ble (d + 1) n.n = true)
    (hv : ∀ a v, Fr n l a → Dr w v → ∃ x v', (execOp a.eval o).run P v = .ok (.value x) v' ∧ R x v') (h : ∀ x w', R x w' → Wl P ops rest Q n ((d, x) :: l) w') : Wl P ops (o :: rest) Q n l w := by
  intro a v hf hdr
  unfold wpList
  rw [want_spec hf hw, if_pos rfl]
  refine .inl ?_
  show o.upon P a _ Q _
  obtain ⟨x, v', hr, hR⟩ := hv a v hf hdr
  rw [hr, Oper.upon_value, hd]
  exact h x v' hR _ v' (hf.put d x (lt_ble hn)) (Dr.refl _)
/-- A call. -/
def Goes (P : Program) (l : L) (n : Sz) (o : Oper) (w : World) (f : FuncId) (vs : List Value) : Prop := ∀ a v, Fr n l a → Dr w v → (execOp a.eval o).run P v = .ok (.enter f vs.toArray) v
/-- A contract: what a call hands back, and the world behind it. -/
def Ctr (P : Program) (f : FuncId) (vs : List Value) (w : World) (R : Value → World → Prop) : Prop := ∀ v, Dr w v → Calls P f vs.toArray v fun e w' => ∃ x, e = .returned x ∧ R x w'
theorem Wl.call {d : Nat} {f : FuncId} {vs : List Value} {R : Value → World → Prop} (hw : want ops l o = some true) (hd : o.dst = some d) (hn : Nat.ble (d + 1) n.n = true) (hg : Goes P l n o w f vs) (hs : Ctr P f vs w R) (h : ∀ x w', R x w' → Wl P ops rest Q n ((d, x) :: l) w') : Wl P ops (o :: rest) Q n l w := by
  intro a v hf hdr
  unfold wpList
  rw [want_spec hf hw, if_pos rfl]
  refine .inl ?_
  show o.upon P a _ Q _
  rw [hg a v hf hdr, Oper.upon_enter]
  refine (hs v hdr).mono ?_
  rintro e w' ⟨x, rfl, hR⟩
  show wpList P ops Q rest (a.put o.dst x) w'
  rw [hd]
  exact h x w' hR _ w' (hf.put d x (lt_ble hn)) (Dr.refl _)
/-- A call that only reads. -/
theorem Wl.callq {d : Nat} {f : FuncId} {vs : List Value} {x : Value} (hw : want ops l o = some true) (hd : o.dst = some d) (hn : Nat.ble (d + 1) n.n = true) (hg : Goes P l n o w f vs) (hs : Ctr P f vs w fun y v => y = x ∧ Dr w v) (h : Wl P ops rest Q n ((d, x) :: l) w) : Wl P ops (o :: rest) Q n l w := by
  intro a v hf hdr
  unfold wpList
  rw [want_spec hf hw, if_pos rfl]
  refine .inl ?_
  show o.upon P a _ Q _
  rw [hg a v hf hdr, Oper.upon_enter]
  refine (hs v hdr).mono ?_
  rintro e w' ⟨y, rfl, rfl, hR⟩
  show wpList P ops Q rest (a.put o.dst y) w'
  rw [hd]
  exact h _ w' (hf.put d y (lt_ble hn)) hR
theorem Wq.callq {d : Nat} {f : FuncId} {vs : List Value} {x : Value} (hw : want ops l o = some true) (hd : o.dst = some d) (hn : Nat.ble (d + 1) n.n = true) (hg : Goes P l n o w f vs) (hs : Ctr P f vs w fun y v => y = x ∧ Dr w v) (h : Wq P ops rest Q n ((d, x) :: l) w) : Wq P ops (o :: rest) Q n l w := by
  intro a hf
  unfold wpQuiet
  rw [want_spec hf hw, if_pos rfl]
  refine ⟨x, fun v hdr => ?_, ?_⟩
  · unfold Oper.quietAt
    rw [hg a v hf hdr]
    refine ⟨rfl, (hs v hdr).mono ?_⟩
    rintro e w' ⟨y, rfl, rfl, hR⟩
    exact ⟨rfl, hR⟩
  · rw [hd]; exact h _ (hf.put d x (lt_ble hn))
end
end Go.Proofs.Ytbjcdgcdnbnknaa.Sx
