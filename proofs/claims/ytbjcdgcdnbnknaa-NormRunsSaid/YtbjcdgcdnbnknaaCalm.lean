/- A region in whatever order, whose calls may make memory: what lay stays as it lay. -/
import Derived.Test.YtbjcdgcdnbnknaaMore
namespace Go.Proofs.Ytbjcdgcdnbnknaa.Sx
open Go.RowKit
def Cm (w V : World) : Prop := Keep (fun k => k < w.heap.size) w V
theorem cell_lt {w : World} {g k : Nat} {u : Value} (h : w.cell? ⟨g, k, none⟩ = some u) : g < w.heap.size := by
  unfold World.cell? at h
  simp only at h
  split at h
  · rename_i e; exact (Array.getElem?_eq_some_iff.1 e).1
  · cases h
theorem Cm.cell {w V : World} (h : Cm w V) {g k : Nat} {u : Value} (hc : w.cell? ⟨g, k, none⟩ = some u) : V.cell? ⟨g, k, none⟩ = some u := by
  rw [World.cell?_of_block (h.block g (cell_lt hc))]; exact hc
theorem Cm.row {w V : World} (h : Cm w V) {g : Nat} {t : TypeId} {cs : List Value} (hr : Row w g t cs) : Row V g t cs := Keep.row h hr hr.lt
theorem Cm.rd {w V : World} (h : Cm w V) {X : Nat → Prop} {A : Option Addr} {m : Nat} {cs : List Value} (hr : Rd w X A m cs) (hX : ∀ k, X k → k < w.heap.size) : Rd V X A m cs := hr.keep (Keep.mono h hX)
theorem Cm.of_dr {w V : World} (h : Dr w V) : Cm w V := Keep.dr h
section
variable {P : Program} {Q : Exit → Act → World → Prop} {n : Sz} {l : L} {w : World} {ops : Array Oper} {o : Oper} {rest : List Oper}
def Wk (P : Program) (ops : Array Oper) (rest : List Oper) (Q : Exit → Act → World → Prop) (n : Sz) (l : L) (w : World) : Prop := ∀ a, Fr n l a → wpQuiet P ops (Cm w) (fun a' => ∀ v, Cm w v → Q .normal a' v) rest a
theorem Cw.calm {id : Nat} {os : List Oper} (hm : P.follows .mixedOrders = true) (hB : Region.lexB .any os.toArray = true) (h : Wk P os.toArray os Q n l w) : Cw P (.region id os.toArray true) Q n l w := by
  intro a v hf hd
  refine wp_region_quiet (C := Cm w) hm hB ?_ (by simpa using h a hf)
  obtain ⟨m, rfl⟩ := hd; exact Keep.dr ⟨m + 1, rfl⟩
theorem Wk.nil (h : ∀ V, Cm w V → Ex .normal Q n l V) : Wk P ops [] Q n l w := fun a hf v hv => h v hv a v hf (Dr.refl v)
theorem Wk.val {d : Nat} {x : Value} (hw : want ops l o = some true) (hd : o.dst = some d) (hn : Nat.ble (d + 1) n.n = true) (hv : ∀ V, Cm w V → Val P l n o V x) (h : Wk P ops rest Q n ((d, x) :: l) w) : Wk P ops (o :: rest) Q n l w := by
  intro a hf
  unfold wpQuiet
  rw [want_spec hf hw, if_pos rfl]
  refine ⟨x, fun v hc => ?_, ?_⟩
  · unfold Oper.quietAt
    rw [hv v hc a v hf (Dr.refl v)]
    exact ⟨rfl, rfl⟩
  · rw [hd]; exact h _ (hf.put d x (lt_ble hn))
theorem Wk.off {d : Nat} (hw : want ops l o = some false) (hd : o.dst = some d) (hn : Nat.ble (d + 1) n.n = true) (h : Wk P ops rest Q n ((d, undef) :: l) w) : Wk P ops (o :: rest) Q n l w := by
  intro a hf
  unfold wpQuiet
  rw [want_spec hf hw, if_neg (by simp), hd]
  exact h _ (hf.put d _ (lt_ble hn))
theorem Wk.split (d : Nat) {b : Bool} (hd : get l d = some (.bool b)) (ht : b = true → Wk P ops rest Q n ((d, .bool true) :: l) w) (hf : b = false → Wk P ops rest Q n ((d, .bool false) :: l) w) : Wk P ops rest Q n l w := by
  intro a hr
  have key : ∀ c, b = c → Fr n ((d, .bool c) :: l) a := fun c e => hr.weaken fun i u hu => by
    subst e
    simp only [get] at hu
    by_cases hb : Nat.beq d i = true
    · rw [hb] at hu; have : d = i := by simpa using hb
      subst this; rw [hd]; simpa using hu
    · have hb' : Nat.beq d i = false := beq_no hb
      rw [hb'] at hu; simpa using hu
  cases b with
  | true => exact ht rfl a (key true rfl)
  | false => exact hf rfl a (key false rfl)
theorem Wk.call {d : Nat} {f : FuncId} {vs : List Value} {x : Value} (hw : want ops l o = some true) (hd : o.dst = some d) (hn : Nat.ble (d + 1) n.n = true) (hg : ∀ V, Goes P l n o V f vs) (hs : ∀ V, Cm w V → Ctr P f vs V fun y V' => y = x ∧ Cm V V') (h : Wk P ops rest Q n ((d, x) :: l) w) : Wk P ops (o :: rest) Q n l w := by
  intro a hf
  unfold wpQuiet
  rw [want_spec hf hw, if_pos rfl]
  refine ⟨x, fun v hc => ?_, ?_⟩
  · unfold Oper.quietAt
    rw [hg v a v hf (Dr.refl v)]
    refine ⟨rfl, (hs v hc v (Dr.refl v)).mono ?_⟩
    rintro e w' ⟨y, rfl, rfl, hR⟩
    exact ⟨rfl, Keep.trans hc (Keep.mono hR fun k hk => by have := hc.size; omega)⟩
  · rw [hd]; exact h _ (hf.put d x (lt_ble hn))
end
theorem Ctr.cm {P : Program} {f : FuncId} {vs : List Value} {w : World} {x : Value} (h : Ctr P f vs w fun y V => y = x ∧ Dr w V) : Ctr P f vs w fun y V => y = x ∧ Cm w V := h.mono fun _ _ h => ⟨h.1, Keep.dr h.2⟩
end Go.Proofs.Ytbjcdgcdnbnknaa.Sx
