/- Texts: bytes appended, bytes as a text; strings.Builder; vint.Put. -/
import Derived.Test.YtbjcdgcdnbnknaaNormG
import Derived.Lib.UnsafeStr
import Derived.Lib.Builder
import Derived.Laws.BytesString
namespace Go.Proofs.Ytbjcdgcdnbnknaa.Sx
open Go.RowKit
section
variable {P : Program} {n : Sz} {l : L} {w : World}
def u8v (l : List UInt8) : List Value := l.map fun b => Value.int .u8 b.toNat
theorem u8v_append (a b : List UInt8) : u8v (a ++ b) = u8v a ++ u8v b := by simp [u8v]
theorem u8v_len (a : List UInt8) : (u8v a).length = a.length := by simp [u8v]
theorem u8v_one (a : List UInt8) : ∀ u ∈ u8v a, u.oneCell' = true := by intro u hu; simp only [u8v, List.mem_map] at hu; obtain ⟨z, _, rfl⟩ := hu; rfl
def txt (l : List UInt8) : Value := .string ⟨l.toArray⟩
theorem Own.base {W : World} {B : Nat} {t : TypeId} {s : Nat} {v : Value} {m : Nat} {xs : List Value} (h : W.ownsRow B t s v m xs) : Own W (fun k => k < B) t s v m xs := by
  refine ⟨⟨h.1, ?_⟩, fun k hk => ?_⟩
  · rcases h.2 with h | ⟨g, cap, cur, e, _, r⟩
    · exact .inl h
    · exact .inr ⟨g, cap, cur, e, Nat.zero_le _, r⟩
  · rcases h.2 with ⟨rfl, _⟩ | ⟨g, cap, cur, rfl, hb, _⟩
    · cases hk
    · simp only [Value.ownBlock, Option.some.injEq] at hk; omega
theorem Own.unbase {W : World} {B : Nat} {t : TypeId} {s : Nat} {v : Value} {m : Nat} {xs : List Value} (h : Own W (fun k => k < B) t s v m xs) : W.ownsRow B t s v m xs := by
  refine ⟨h.1.1, ?_⟩
  rcases h.1.2 with e | ⟨g, cap, cur, rfl, _, r⟩
  · exact .inl e
  · exact .inr ⟨g, cap, cur, rfl, by have := h.2 g rfl; omega, r⟩
/-- An append of a text's bytes onto a slice of the call's own. -/
theorem acts_appendS {o : Oper} {x y : Operand} {t u e : TypeId} [hu : Und P t (.slice e)] [hv : Und P u .string] [hi : Inf P e (.int .u8 0) 1 1] {B : Nat} {v : Value} {m : Nat} {xs : List Value} {s : List UInt8}
    (ho : o.op = .call { callee := .builtin .append, args := #[x, y], argTypes := #[t, u] })
    (hx : ev l x = some v) (hy : ev l y = some (txt s)) (hO : Own w (fun k => k < B) e 1 v m xs) (hm : m + s.length ≤ 140737488355328) (hB : B ≤ w.heap.size) :
    ∀ a V, Fr n l a → Dr w V → ∃ v' w', (execOp a.eval o).run P V = .ok (.value v') w' ∧ (Own w' (fun k => k < B) e 1 v' (m + s.length) (xs ++ u8v s) ∧ Keep (fun i => i < w.heap.size ∧ v.ownBlock ≠ some i) w w' ∧ (v' = .slice none 0 0 ↔ v = .slice none 0 0 ∧ s.length = 0)) := by
  intro a V hf hdr
  obtain ⟨i, hi1, hi2⟩ : ∃ i, P.info? e = some i ∧ (i.zero, i.size, i.bytes) = (some (.int .u8 0), 1, 1) := by
    have := hi.h
    simpa [Option.map_eq_some_iff] using this
  simp only [Prod.mk.injEq] at hi2
  have hs : (⟨s.toArray⟩ : ByteArray).size = s.length := rfl
  have hsz : V.heap.size = w.heap.size := by obtain ⟨k, rfl⟩ := hdr; rfl
  obtain ⟨v', w', hr, hown, hgr, hnil⟩ := Lib.run_append_own_string (P := P) V B t u o.type e i hu.h hv.h hi1 hi2.1 hi2.2.1 hi2.2.2 v m xs (Own.unbase (hO.dr hdr)) ⟨s.toArray⟩ (by rw [hs]; unfold maxLen; omega) (by rw [hs]; exact hm) (by omega)
  rw [hs] at hown
  refine ⟨v', w', ?_, Own.base hown, ?_, hnil⟩
  · simp [execOp, ho, resolve, invoke, builtin, hf.ev hx, hf.ev hy, hr, txt]
  · exact Keep.of_dr hdr ⟨hgr.os, hgr.tape, hgr.output, hgr.size, fun j hj => hgr.block j (by rw [hsz]; exact hj.1) fun e => hj.2 e.symm⟩
theorem Wl.appendS {Q : Exit → Act → World → Prop} {ops : Array Oper} {rest : List Oper} {o : Oper} {d : Nat} {x y : Operand} {t u e : TypeId} [hu : Und P t (.slice e)] [hv : Und P u .string] [hi : Inf P e (.int .u8 0) 1 1] {B : Nat} {v : Value} {m : Nat} {xs : List Value} {s : List UInt8}
    (hw : want ops l o = some true) (hd : o.dst = some d) (hn : Nat.ble (d + 1) n.n = true) (ho : o.op = .call { callee := .builtin .append, args := #[x, y], argTypes := #[t, u] })
    (hx : ev l x = some v) (hy : ev l y = some (txt s)) (hO : Own w (fun k => k < B) e 1 v m xs) (hm : m + s.length ≤ 140737488355328) (hB : B ≤ w.heap.size)
    (h : ∀ v' w', Own w' (fun k => k < B) e 1 v' (m + s.length) (xs ++ u8v s) → Keep (fun i => i < w.heap.size ∧ v.ownBlock ≠ some i) w w' → (v' = .slice none 0 0 ↔ v = .slice none 0 0 ∧ s.length = 0) → Wl P ops rest Q n ((d, v') :: l) w') : Wl P ops (o :: rest) Q n l w := by
  refine Wl.acts (fun v' w' => Own w' (fun k => k < B) e 1 v' (m + s.length) (xs ++ u8v s) ∧ Keep (fun i => i < w.heap.size ∧ v.ownBlock ≠ some i) w w' ∧ (v' = .slice none 0 0 ↔ v = .slice none 0 0 ∧ s.length = 0)) hw hd hn ?_ fun v' w' hh => h v' w' hh.1 hh.2.1 hh.2.2
  exact acts_appendS ho hx hy hO hm hB
/-- Bytes as a text. -/
theorem val_text {o : Oper} {x : Operand} {t u e : TypeId} [hu : Und P t (.slice e)] [hv : Und P u .string] [he : Und P e (.int .u8)] {X : Nat → Prop} {v : Value} {m : Nat} {s : List UInt8}
    (ho : o.op = .convert t u x) (hx : ev l x = some v) (hO : Own w X e 1 v m (u8v s)) : Val P l n o w (txt s) := by
  intro a V hf hdr
  have hO' := hO.dr hdr
  have hml : s.length = m := by have := hO'.1.1; rw [u8v_len] at this; omega
  obtain ⟨A, cap, rfl⟩ := hO'.form'
  simp only [execOp, ho]
  have key : (convert t u (.slice A m cap)).run P V = .ok (txt s) V := by
    rw [run_convert_bytes_string V t u e A m cap hu.h he.h hv.h]
    rcases hO'.1.2 with ⟨h1, h2⟩ | ⟨g, cap', cur, h1, _⟩
    · simp only [Value.slice.injEq] at h1
      obtain ⟨rfl, _, _⟩ := h1
      have : s = [] := List.eq_nil_of_length_eq_zero (by omega)
      subst this
      rfl
    · simp only [Value.slice.injEq] at h1
      obtain ⟨rfl, _, rfl⟩ := h1
      have hl := run_loadCells_list (P := P) (w := V) (⟨g, 0, none⟩ : Addr) (u8v s) (fun j u hj => by rw [add_at, Nat.zero_add]; exact hO'.cell hj)
      rw [u8v_len, hml] at hl
      rw [run_bytesToString V ⟨g, 0, none⟩ m cap (s.map fun b => (b.toNat : Int)) (by rw [hl]; simp [u8v])]
      congr 2
      have : ∀ (s : List UInt8) (r : ByteArray), (s.map fun b => (b.toNat : Int)).foldl (fun r n => r.push (UInt8.ofNat n.toNat)) r = ⟨r.data ++ s.toArray⟩ := by
        intro s
        induction s with
        | nil => intro r; simp
        | cons b s ih => intro r; rw [List.map_cons, List.foldl_cons, ih]; simp [ByteArray.push]
      rw [this]; simp [ByteArray.empty, ByteArray.emptyWithCapacity]; rfl
  simp [hf.ev hx, key]
/-- A pointer held against nil. -/
theorem val_ptrNil {o : Oper} {x : Operand} {t t' te : TypeId} {p : Option Addr} [hu : Und P t (.pointer te)] (ho : o.op = .binOp .eql t x (.const (.pointer none)) t') (hx : ev l x = some (.pointer p)) : Val P l n o w (.bool p.isNone) := by
  intro a V hf _
  have h : ∀ d : Nat, (Op.equalIn (d + 1) t (.pointer p) (.pointer none)).run P V = .ok p.isNone V := fun d => by
    cases p <;> simp [Op.equalIn, run_und (d := .pointer te)]
  have h2 : (binOp .eql t (.pointer p) (.pointer none)).run P V = .ok (.bool p.isNone) V := by
    simp only [binOp]
    simp [Op.equal, Op.maxDepth, h 9999]
  have hc : a.eval (.const (.pointer none)) = .pointer none := rfl
  simp [execOp, ho, hf.ev hx, hc, eqGuard, h2]
/-- A pointer held against itself. -/
theorem val_ptrSame {o : Oper} {x y : Operand} {t t' te : TypeId} {p : Addr} {z : Value} {s b : Nat} [hu : Und P t (.pointer te)] [hi : Inf P te z s b] (ho : o.op = .binOp .neq t x y t') (hx : ev l x = some (.pointer (some p))) (hy : ev l y = some (.pointer (some p))) : Val P l n o w (.bool false) := by
  intro a V hf _
  obtain ⟨i, hi1, _⟩ : ∃ i, P.info? te = some i ∧ (i.zero, i.size, i.bytes) = (some z, s, b) := by
    have := hi.h
    simpa [Option.map_eq_some_iff] using this
  have h := Lib.run_neq_ptr_same (P := P) V p hu.h hi1
  simp [execOp, ho, hf.ev hx, hf.ev hy, eqGuard, h]
theorem val_toUnsafe {o : Oper} {x : Operand} {t u te T : TypeId} {g k : Nat} {z : Value} {s b : Nat} {cs : List Value} [hu : Und P t (.pointer te)] [hv : Und P u .unsafePointer] [hi : Inf P te z s b] (ho : o.op = .convert t u x) (hx : ev l x = some (.pointer (some ⟨g, k, none⟩))) (hs : s ≠ 0) (hR : Row w g T cs) (hk : k < cs.length) : Val P l n o w (.pointer (some ⟨g, k, none⟩)) := by
  intro a V hf hdr
  obtain ⟨i, hi1, hi2⟩ : ∃ i, P.info? te = some i ∧ (i.zero, i.size, i.bytes) = (some z, s, b) := by
    have := hi.h
    simpa [Option.map_eq_some_iff] using this
  simp only [Prod.mk.injEq] at hi2
  have hRV := hdr.row hR
  unfold Row at hRV
  have h := Lib.run_to_unsafe (P := P) V ⟨g, k, none⟩ hu.h hv.h hi1 (by rw [hi2.2.1]; exact hs) (e := T) (cells := cs.length) (by simp [World.shape?, hRV]) hk
  simp [execOp, ho, hf.ev hx, h]
theorem val_fromUnsafe {o : Oper} {x : Operand} {t u te T : TypeId} {g k : Nat} {z : Value} {s b : Nat} {cs : List Value} [hu : Und P t .unsafePointer] [hv : Und P u (.pointer te)] [hi : Inf P te z s b] (ho : o.op = .convert t u x) (hx : ev l x = some (.pointer (some ⟨g, k, none⟩))) (hR : Row w g T cs) (hk : liesAt P P.depth T (cs.length / P.cellsOf T) k te 1 = true) : Val P l n o w (.pointer (some ⟨g, k, none⟩)) := by
  intro a V hf hdr
  obtain ⟨i, hi1, hi2⟩ : ∃ i, P.info? te = some i ∧ (i.zero, i.size, i.bytes) = (some z, s, b) := by
    have := hi.h
    simpa [Option.map_eq_some_iff] using this
  have hRV := hdr.row hR
  unfold Row at hRV
  have h := Lib.run_from_unsafe (P := P) V ⟨g, k, none⟩ hu.h hv.h hi1 (e := T) (cells := cs.length) (by simp [World.shape?, hRV]) hk
  simp [execOp, ho, hf.ev hx, h]
theorem val_noEscape {o : Oper} {x : Operand} {ts : Array TypeId} {u : Value} {n : Sz} {l : L} {w : World} (ho : o.op = .call { callee := .value (.func 48), args := #[x], argTypes := ts }) (hx : ev l x = some u) : Val Try.prog l n o w u := by
  intro a V hf _
  have h : (callFunc 48 #[u]).run Try.prog V = .ok (.value u) V := by
    rw [run_callFunc_extern Try.func48 (by kernel_rfl) (by kernel_rfl) (by kernel_rfl) (e := Extern.AbiNoEscape.same) (by kernel_rfl)]
    rw [Lib.run_noEscape]; rfl
  have hfn : a.eval (.func 48) = .func (.func 48) #[] #[] := rfl
  simp [execOp, ho, resolve, invoke, hf.ev hx, hfn, Deferred.ofValue, h]
end
end Go.Proofs.Ytbjcdgcdnbnknaa.Sx
