/- More rules, over the calculus of walks. -/
import Derived.Test.YtbjcdgcdnbnknaaDraw
import Derived.DataShut
namespace Go.Proofs.Ytbjcdgcdnbnknaa.Sx
open Go.RowKit
section
variable {P : Program} {Q : Exit → Act → World → Prop} {ops : Array Oper} {S : World → Prop} {need : Nat → Bool} {n : Sz} {l : L} {w : World} {o : Oper} {i d : Nat}
theorem range3 : Array.range 3 = #[0, 1, 2] := rfl
theorem val_min {x y : Operand} {ts : Array TypeId} {k k' : IntKind} {a b : Int} (ho : o.op = .call { callee := .builtin .min, args := #[x, y], argTypes := ts }) (hx : ev l x = some (.int k a)) (hy : ev l y = some (.int k' b)) : Val P l n o w (.int k (if b < a then b else a)) := by
  intro A v hf _
  simp [execOp, ho, resolve, invoke, builtin, Builtin.min_, Builtin.min2, hf.ev hx, hf.ev hy, List.foldlM]
theorem val_max {x y : Operand} {ts : Array TypeId} {k k' : IntKind} {a b : Int} (ho : o.op = .call { callee := .builtin .max, args := #[x, y], argTypes := ts }) (hx : ev l x = some (.int k a)) (hy : ev l y = some (.int k' b)) : Val P l n o w (.int k (if a < b then b else a)) := by
  intro A v hf _
  simp [execOp, ho, resolve, invoke, builtin, Builtin.max_, Builtin.max2, hf.ev hx, hf.ev hy, List.foldlM]
/-- A struct of one-cell fields, some of them given. -/
def setL (ps : List (Nat × Nat)) : List Value → List (Nat × Value) → Option (List Value)
  | zs, [] => some zs
  | zs, (i, u) :: r =>
    match ps[i]? with
    | some (off, 1) => bif u.oneCell' && Nat.blt off zs.length then setL ps (zs.set off u) r else none
    | _ => none
theorem fill_setL (ps : List (Nat × Nat)) : ∀ (us : List (Nat × Value)) (zs cs : List Value), setL ps zs us = some cs → Instr.fill (ps.toArray[·]?) zs.toArray us = some cs.toArray
  | [], zs, cs, h => by simp only [setL, Option.some.injEq] at h; subst h; rfl
  | (i, u) :: r, zs, cs, h => by
    unfold setL at h
    split at h
    · rename_i off e
      cases hb : (u.oneCell' && Nat.blt off zs.length) with
      | false => rw [hb] at h; simp at h
      | true =>
        rw [hb, cond_true] at h
        simp only [Bool.and_eq_true] at hb
        have hlt : off < zs.length := by have := hb.2; rw [Nat.blt_eq] at this; exact this
        have ih := fill_setL ps r _ cs h
        unfold Instr.fill
        simp only [List.getElem?_toArray, e, cells_one hb.1]
        rw [if_neg (by simp; omega)]
        simpa using ih
    · cases h
theorem val_buildF {t : TypeId} {ps : List (Nat × Nat)} {parts : List (Nat × Operand)} {us : List (Nat × Value)} {z : Value} {s b : Nat} {zs cs : List Value} [hF : Flds P t ps] [hz : Inf P t z s b] (ho : o.op = .build t parts.toArray) (hev : parts.map (fun p => (p.1, ev l p.2)) = us.map fun u => (u.1, some u.2)) (ez : z = .agg zs.toArray) (hc : setL ps zs us = some cs) : Val P l n o w (.agg cs.toArray) := by
  intro a v hf _
  obtain ⟨fs, h1, h2⟩ := hF.h
  subst ez
  have hargs : parts.map (fun p => (p.1, a.eval p.2)) = us := by
    clear ho hc
    induction parts generalizing us with
    | nil => cases us <;> simp_all
    | cons x r ih =>
      cases us with
      | nil => simp at hev
      | cons u t =>
        simp only [List.map_cons, List.cons.injEq, Prod.mk.injEq] at hev
        simp only [List.map_cons, ih hev.2, hf.ev hev.1.2, hev.1.1]
  have hu : (underlying t).run P v = .ok (.struct fs) v := by simp [underlying, h1]
  have hfill := fill_setL ps us zs cs hc
  simp only [execOp, ho, Instr.build]
  simp only [Sem.run_bind, run_zeroValue (z := .agg zs.toArray), hu, Result.andThen_ok, h2, List.map_toArray, hargs]
  rw [show (Value.agg zs.toArray).cells = zs.toArray from rfl, hfill]
  simp
/-- A load of a whole struct out of its own row. -/
theorem val_loadR {x : Operand} {t t0 : TypeId} {td : TypeDesc} {z : Value} {s b g : Nat} {cs : List Value} [hu : Und P t td] [hs : Inf P t z s b] (hR : Row w g t0 cs) (ho : o.op = .load t x) (hx : ev l x = some (.pointer (some ⟨g, 0, none⟩))) (hl : cs.length = s) (hd : aggB td = true := by rfl) : Val P l n o w (.agg cs.toArray) :=
  val_loadAgg cs ho hx hl (fun j u hj => by rw [Nat.zero_add]; exact hR.cell hj) hd
theorem Row.same {W V : World} {g : Nat} {t : TypeId} {cs : List Value} {Bs : List Nat} (h : Row W g t cs) (hS : Same Bs W V) (hg : g ∈ Bs) : Row V g t cs := h.of_heap (hS g hg)
theorem act_slice0 {t e : TypeId} {z : Value} {s b : Nat} [hu : Und P t (.slice e)] [hs : Inf P e z s b] (ho : o.op = .buildSlice t 0 #[]) : Act1 P l n o w (.slice (some ⟨w.heap.size, 0, none⟩) 0 0) (w.alloc (.cells [].toArray e)) := by
  intro a V hf hdr
  refine ⟨V.alloc (.cells [].toArray e), ?_, hdr.alloc _⟩
  have hr := run_buildSlice (P := P) (t := t) (e := e) (k := 0) (parts := #[]) (cs := []) (by simp) (by simp [Instr.fill]) V
  simp [execOp, ho, hr, hdr.size]
theorem act_slice3 {x y z' : Operand} {t e : TypeId} {z u u1 u2 : Value} {b : Nat} [hu : Und P t (.slice e)] [hs : Inf P e z 1 b] (ho : o.op = .buildSlice t 3 #[(0, x), (1, y), (2, z')]) (hx : ev l x = some u) (hy : ev l y = some u1) (hz' : ev l z' = some u2) (hz : z.oneCell' = true) (h0 : u.oneCell' = true) (h1 : u1.oneCell' = true) (h2 : u2.oneCell' = true) : Act1 P l n o w (.slice (some ⟨w.heap.size, 0, none⟩) 3 3) (w.alloc (.cells [u, u1, u2].toArray e)) := by
  intro a V hf hdr
  refine ⟨V.alloc (.cells [u, u1, u2].toArray e), ?_, hdr.alloc _⟩
  have hr := run_buildSlice (P := P) (t := t) (e := e) (k := 3) (parts := #[(0, u), (1, u1), (2, u2)]) (cs := [u, u1, u2]) (by simp) (by simp [Instr.fill, cells_one h0, cells_one h1, cells_one h2, cells_one hz, range3]) V
  simp [execOp, ho, hr, hdr.size, hf.ev hx, hf.ev hy, hf.ev hz']
theorem Wl.slice3 {rest : List Oper} {x y z' : Operand} {t e : TypeId} {z u u1 u2 : Value} {b : Nat} [hu : Und P t (.slice e)] [hs : Inf P e z 1 b] (hw : want ops l o = some true) (hd : o.dst = some d) (hn : Nat.ble (d + 1) n.n = true) (ho : o.op = .buildSlice t 3 #[(0, x), (1, y), (2, z')]) (hx : ev l x = some u) (hy : ev l y = some u1) (hz' : ev l z' = some u2) (hz : z.oneCell' = true) (h0 : u.oneCell' = true) (h1 : u1.oneCell' = true) (h2 : u2.oneCell' = true)
    (h : ∀ b w1, b = w.heap.size → Row w1 b e [u, u1, u2] → Keep (fun k => k < b) w w1 → w1.heap.size = b + 1 → Wl P ops rest Q n ((d, .slice (some ⟨b, 0, none⟩) 3 3) :: l) w1) : Wl P ops (o :: rest) Q n l w :=
  Wl.act hw hd hn (act_slice3 ho hx hy hz' hz h0 h1 h2) (h _ _ rfl (Row.alloc_new ..) (Keep.alloc _ fun _ h => h) (by simp))
theorem Wd.slice0 {rest : List (Nat × Oper)} {t e : TypeId} {z : Value} {s b : Nat} [hu : Und P t (.slice e)] [hs : Inf P e z s b] (hk : kindOf o.op = .loud) (hw : want ops l o = some true) (hd : o.dst = some d) (hn : Nat.ble (d + 1) n.n = true) (ho : o.op = .buildSlice t 0 #[])
    (hS : need i = true → ∀ w1, Keep (fun k => k < w.heap.size) w w1 → ∀ v, Dr w1 v → S v)
    (h : ∀ b w1, b = w.heap.size → Row w1 b e [] → Keep (fun k => k < b) w w1 → w1.heap.size = b + 1 → Wd P ops S need rest Q n ((d, .slice (some ⟨b, 0, none⟩) 0 0) :: l) w1) : Wd P ops S need ((i, o) :: rest) Q n l w :=
  Wd.act hk hw hd hn (act_slice0 ho) (fun hh => hS hh _ (Keep.alloc _ fun _ h => h)) (h _ _ rfl (Row.alloc_new ..) (Keep.alloc _ fun _ h => h) (by simp))
theorem Wd.appendR {rest : List (Nat × Oper)} {y z' : Operand} {t e : TypeId} {z : Value} {s b : Nat} [hu : Und P t (.slice e)] [hi : Inf P e z s b] {X : Nat → Prop} {v : Value} {m : Nat} {xs : List Value} {A : Option Addr} {Y : Nat → Prop} {k c : Nat} {news : List Value}
    (hk : kindOf o.op = .loud) (hw : want ops l o = some true) (hd : o.dst = some d) (hn : Nat.ble (d + 1) n.n = true) (ho : o.op = .call { callee := .builtin .append, args := #[y, z'], argTypes := #[t, t] })
    (hz : z.cells.size = s) (hs : 0 < s) (hx : ev l y = some v) (hy : ev l z' = some (.slice A k c)) (hO : Own w X e s v m xs)
    (hl : news.length = k * s) (hR : Rd w Y A k news) (h1 : ∀ u ∈ news, u.oneCell' = true) (hm : (m + k) * (b + 1) ≤ 140737488355328) (hX : ∀ k, X k → k < w.heap.size)
    (hS : need i = true → ∀ w1, Keep X w w1 → ∀ v, Dr w1 v → S v)
    (h : ∀ v' w', Own w' X e s v' (m + k) (xs ++ news) → Keep X w w' → Keep (fun i => i < w.heap.size ∧ v.ownBlock ≠ some i) w w' → (∀ i, v'.ownBlock = some i → v.ownBlock = some i ∨ w.heap.size ≤ i) → Wd P ops S need rest Q n ((d, v') :: l) w') : Wd P ops S need ((i, o) :: rest) Q n l w := by
  refine Wd.acts (fun v' w' => Own w' X e s v' (m + k) (xs ++ news) ∧ Keep X w w' ∧ Keep (fun i => i < w.heap.size ∧ v.ownBlock ≠ some i) w w' ∧ (∀ i, v'.ownBlock = some i → v.ownBlock = some i ∨ w.heap.size ≤ i)) hk hw hd hn ?_ (fun hh x v' hR => hS hh v' hR.2.1 v' (Dr.refl _)) fun v' w' hh => h v' w' hh.1 hh.2.1 hh.2.2.1 hh.2.2.2
  exact acts_appendR ho hz hs hx hy hO hl hR h1 hm hX
end
theorem wf64 {n : Int} (h : (Lit.int .i64 n).wf = true) : -9223372036854775808 ≤ n ∧ n ≤ 9223372036854775807 := (Lit.wf_int_iff .i64 n).1 h
theorem wfU8 {n : Int} (h : (Lit.int .u8 n).wf = true) : 0 ≤ n ∧ n < 256 := by have h1 : 0 ≤ n ∧ n ≤ 255 := (Lit.wf_int_iff .u8 n).1 h; omega
theorem wfU16 {n : Int} (h : (Lit.int .u16 n).wf = true) : 0 ≤ n ∧ n < 65536 := by have h1 : 0 ≤ n ∧ n ≤ 65535 := (Lit.wf_int_iff .u16 n).1 h; omega
theorem wfU64 {n : Int} (h : (Lit.int .u64 n).wf = true) : 0 ≤ n ∧ n < 18446744073709551616 := by have h1 : 0 ≤ n ∧ n ≤ 18446744073709551615 := (Lit.wf_int_iff .u64 n).1 h; omega
/-- What the row's shell tells of a slice of numbers, as what may be read. -/
theorem rd_of {k : IntKind} {w : World} {a : Option Addr} {len cap : Nat} {zs : List Int} (h : (a = none ∧ len = 0 ∧ cap = 0 ∧ zs = []) ∨
    ∃ x, a = some x ∧ len ≤ cap ∧ cap ≤ maxLen ∧ zs.length = cap ∧ (∀ i, i < zs.length → w.cell? (x.add i) = some (.int k (zs.getD i 0))) ∧ ∀ n ∈ zs, (Lit.int k n).wf = true) :
    ∃ ys : List Int, ys.length = len ∧ (∀ n ∈ ys, (Lit.int k n).wf = true) ∧ Rd w (fun j => j < w.heap.size) a len (ys.map (Value.int k)) := by
  rcases h with ⟨rfl, rfl, _, rfl⟩ | ⟨x, rfl, hl, _, hz, hc, hw⟩
  · exact ⟨[], rfl, by simp, fun j u hj => by simp at hj⟩
  · refine ⟨zs.take len, by rw [List.length_take]; omega, fun n hn => hw n (List.mem_of_mem_take hn), fun j u hj => ?_⟩
    have hjl := (List.getElem?_eq_some_iff.1 hj).1
    simp only [List.length_map, List.length_take] at hjl
    have h0 := hc 0 (by omega)
    have hx0 : x.add 0 = x := by unfold Addr.add; rw [if_pos rfl]
    rw [hx0] at h0
    obtain ⟨g, off, sp⟩ := x
    have hs : sp = none ∧ g < w.heap.size := by
      unfold World.cell? at h0
      simp only at h0
      split at h0
      · rename_i e
        refine ⟨?_, (Array.getElem?_eq_some_iff.1 e).1⟩
        cases sp with
        | none => rfl
        | some _ => simp at h0
      · cases h0
    obtain ⟨rfl, hg⟩ := hs
    refine ⟨g, off, rfl, hg, ?_, by omega⟩
    have hj2 := hc j (by omega)
    rw [add_at] at hj2
    rw [hj2]
    simp only [List.getElem?_map, List.getElem?_take] at hj
    rw [if_pos (by omega)] at hj
    rw [List.getD_eq_getElem?_getD]
    cases e : zs[j]? with
    | none => rw [e] at hj; simp at hj
    | some y => rw [e] at hj; simpa using hj
end Go.Proofs.Ytbjcdgcdnbnknaa.Sx
