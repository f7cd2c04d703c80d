/- One rule an operation, over the calculus of walks. -/
import Derived.Test.YtbjcdgcdnbnknaaSx
import Derived.Laws.StructEq
namespace Go.Proofs.Ytbjcdgcdnbnknaa.Sx
open Go.RowKit

/-! ### Facts of the program's tables, found by type -/
class Und (P : Program) (t : TypeId) (d : outParam TypeDesc) : Prop where h : P.underlying t = some d
class Inf (P : Program) (t : TypeId) (z : outParam Value) (size bytes : outParam Nat) : Prop where h : (P.info? t).map (fun i => (i.zero, i.size, i.bytes)) = some (some z, size, bytes)
class Fld (P : Program) (s : TypeId) (f : Nat) (off : outParam Nat) : Prop where h : ∀ (a : Addr) (w : World), (Instr.fieldAt s (.pointer (some a)) f).run P w = .ok (.pointer (some (a.add off))) w
/-- Where a struct's fields lie, and how many cells each has. -/
class Flds (P : Program) (t : TypeId) (ps : outParam (List (Nat × Nat))) : Prop where h : ∃ fs, P.underlying t = some (.struct fs) ∧ ∀ v : World, (fs.mapM fun f => do pure (f.offset, ← sizeOf f.type) : Sem (Array (Nat × Nat))).run P v = .ok ps.toArray v
class Fun (P : Program) (f : FuncId) : Prop where h : ∀ (xs : Array Value) (w : World), (callFunc f xs).run P w = .ok (.enter f xs) w

theorem i64_wrap (n : Int) : IntKind.i64.wrap n = wrap64 n := by rw [IntKind.wrap_i64]; unfold wrap64; rfl
def posB : Int → Bool
  | .ofNat (_ + 1) => true
  | _ => false
theorem posB_ne {y : Int} (h : posB y = true) : y ≠ 0 := by rintro rfl; simp [posB] at h
def andK (k : IntKind) (x y : Int) : Int := k.wrap ((BitVec.ofInt k.bits x &&& BitVec.ofInt k.bits y).toNat : Int)
def orK (k : IntKind) (x y : Int) : Int := k.wrap ((BitVec.ofInt k.bits x ||| BitVec.ofInt k.bits y).toNat : Int)
def xorK (k : IntKind) (x y : Int) : Int := k.wrap ((BitVec.ofInt k.bits x ^^^ BitVec.ofInt k.bits y).toNat : Int)
def shlK (k : IntKind) (x : Int) (m : Nat) : Int := k.wrap (x * 2 ^ (min m k.bits))
def shrK (k : IntKind) (x : Int) (m : Nat) : Int := x.fdiv (2 ^ (min m k.bits))
def shlV (k : IntKind) (x : Int) : Int → Option Value
  | .ofNat m => some (.int k (shlK k x m))
  | _ => none
def shrV (k : IntKind) (x : Int) : Int → Option Value
  | .ofNat m => some (.int k (shrK k x m))
  | _ => none
def intBin : BinOp → IntKind → Int → Int → Option Value
  | .and, k, x, y => some (.int k (andK k x y))
  | .or, k, x, y => some (.int k (orK k x y))
  | .xor, k, x, y => some (.int k (xorK k x y))
  | .add, .i64, x, y => some (.int .i64 (wrap64 (x + y)))
  | .sub, .i64, x, y => some (.int .i64 (wrap64 (x - y)))
  | .mul, .i64, x, y => some (.int .i64 (wrap64 (x * y)))
  | .add, k, x, y => some (.int k (k.wrap (x + y)))
  | .sub, k, x, y => some (.int k (k.wrap (x - y)))
  | .mul, k, x, y => some (.int k (k.wrap (x * y)))
  | .quo, k, x, y => bif posB y then some (.int k (k.wrap (x.tdiv y))) else none
  | .rem, k, x, y => bif posB y then some (.int k (x.tmod y)) else none
  | .eql, _, x, y => some (.bool (decide (x = y)))
  | .neq, _, x, y => some (.bool (!decide (x = y)))
  | .lss, _, x, y => some (.bool (decide (x < y)))
  | .leq, _, x, y => some (.bool (decide (x ≤ y)))
  | .gtr, _, x, y => some (.bool (decide (y < x)))
  | .geq, _, x, y => some (.bool (decide (y ≤ x)))
  | _, _, _, _ => none
def nth : List Value → Nat → Option Value
  | [], _ => none
  | v :: _, 0 => some v
  | _ :: r, k + 1 => nth r k
theorem nth_eq : ∀ (l : List Value) (k : Nat), nth l k = l[k]?
  | [], _ => by simp [nth]
  | v :: _, 0 => rfl
  | _ :: r, k + 1 => by simpa [nth] using nth_eq r k
def pureVal (l : L) : Op → Option Value
  | .move x | .assign x => ev l x
  | .pick c x y =>
    match ev l c with
    | some (.bool true) => ev l x
    | some (.bool false) => ev l y
    | _ => none
  | .binOp op _ x y _ =>
    match ev l x, ev l y with
    | some (.int k a), some (.int k' b) =>
      match op with
      | .shl => shlV k a b
      | .shr => shrV k a b
      | op => if k = k' then intBin op k a b else none
    | _, _ => none
  | .unOp .neg _ x =>
    match ev l x with
    | some (.int k b) => some (.int k (k.wrap (0 - b)))
    | _ => none
  | .unOp .not _ x =>
    match ev l x with
    | some (.bool b) => some (.bool (!b))
    | _ => none
  | .nilCheck x =>
    match ev l x with
    | some (.pointer (some a)) => some (.pointer (some a))
    | some (.func (.func f) b c) => some (.func (.func f) b c)
    | _ => none
  | .extract x i =>
    match ev l x with
    | some (.tuple vs) => nth vs.toList i
    | _ => none
  | _ => none
section
variable {P : Program} {n : Sz} {l : L} {w : World}
theorem intBin_spec {op : BinOp} {k : IntKind} {x y : Int} {v : Value} (h : intBin op k x y = some v) (W : World) : (binOp op 0 (.int k x) (.int k y)).run P W = .ok v W := by
  cases op <;> cases k <;> simp only [intBin, Option.some.injEq, reduceCtorEq] at h <;>
    first
      | (subst h; simp [binOp, Op.intArith, Op.intCmp, i64_wrap]; done)
      | (subst h; simp only [binOp, Op.intBits, andK, orK, xorK]; simp; done)
      | (subst h; simp only [binOp, Op.intCmp]; simp [bne, BEq.beq]; done)
      | (cases hy : posB y with
         | true =>
           rw [hy] at h
           simp only [cond_true, Option.some.injEq] at h
           subst h
           simp [binOp, Op.intDiv, posB_ne hy]; done
         | false => rw [hy] at h; simp at h)
theorem val_pure {o : Oper} {res : Value} (h : pureVal l o.op = some res) : Val P l n o w res := by
  intro a v hf _
  obtain ⟨d, op, t, p, af, g⟩ := o
  simp only at h
  cases op <;> simp only [pureVal, reduceCtorEq] at h
  case move x => simp [execOp, hf.ev h]
  case assign x => simp [execOp, hf.ev h]
  case pick c x y =>
    split at h
    · rename_i hc; simp [execOp, hf.ev hc, hf.ev h, asBool]
    · rename_i hc; simp [execOp, hf.ev hc, hf.ev h, asBool]
    · exact absurd h (by simp)
  case binOp op t1 x y t2 =>
    split at h
    · rename_i k a k' b h1 h2
      have hg : (eqGuard op t1 x y (.int k a) (.int k' b)).run P v = .ok () v := by unfold eqGuard; cases op <;> rfl
      have key : (binOp op t1 (.int k a) (.int k' b)).run P v = .ok res v := by
        split at h
        · cases b with
          | ofNat m =>
            simp only [shlV, Option.some.injEq] at h
            simp only [binOp, Op.shift]
            rw [if_neg (by simp)]
            rw [show (Int.ofNat m).toNat = m from rfl]; simp only [Sem.run_pure]
            exact congrArg (fun u => Result.ok u v) h
          | negSucc m => simp [shlV] at h
        · cases b with
          | ofNat m =>
            simp only [shrV, Option.some.injEq] at h
            simp only [binOp, Op.shift]
            rw [if_neg (by simp)]
            rw [show (Int.ofNat m).toNat = m from rfl]; simp only [Sem.run_pure]
            exact congrArg (fun u => Result.ok u v) h
          | negSucc m => simp [shrV] at h
        · split at h
          · rename_i hk
            subst hk
            have hb := intBin_spec (P := P) h v
            have hb2 : (binOp op t1 (.int k a) (.int k b)).run P v = (binOp op 0 (.int k a) (.int k b)).run P v := by cases op <;> rfl
            exact hb2.trans hb
          · exact absurd h (by simp)
      simp only [execOp, hf.ev h1, hf.ev h2]
      simp [hg, key]
    · exact absurd h (by simp)
  case unOp op t1 x =>
    cases op <;> simp only [reduceCtorEq] at h
    all_goals
      split at h
      · rename_i hb
        simp only [Option.some.injEq] at h
        subst h
        simp [execOp, hf.ev hb, Op.unary, Op.intArith]
      · exact absurd h (by simp)
  case nilCheck x =>
    split at h
    · rename_i hb
      simp only [Option.some.injEq] at h
      subst h
      simp [execOp, hf.ev hb]
    · rename_i hb
      simp only [Option.some.injEq] at h
      subst h
      simp [execOp, hf.ev hb]
    · exact absurd h (by simp)
  case extract x i =>
    split at h
    · rename_i vs hb
      rw [nth_eq, Array.getElem?_toList] at h
      simp [execOp, hf.ev hb, Instr.extract, h]
    · exact absurd h (by simp)

def aggB : TypeDesc → Bool
  | .struct _ | .array _ _ => true
  | _ => false
theorem run_und {t : TypeId} {d : TypeDesc} [hu : Und P t d] (v : World) : (underlying t).run P v = .ok d v := by simp [underlying, hu.h]
theorem run_isAgg {t : TypeId} {d : TypeDesc} [hu : Und P t d] (v : World) : (isAgg t).run P v = .ok (aggB d) v := by
  simp only [isAgg]
  simp only [Sem.run_bind, run_und (d := d), Result.andThen_ok]
  cases d <;> rfl
theorem inf_ex {t : TypeId} {z : Value} {s b : Nat} (hi : Inf P t z s b) : ∃ i, P.info? t = some i ∧ i.zero = some z ∧ i.size = s ∧ i.bytes = b := info_parts hi.h
theorem run_sizeOf {t : TypeId} {z : Value} {s b : Nat} [hi : Inf P t z s b] (v : World) : (sizeOf t).run P v = .ok s v := by
  obtain ⟨i, h1, _, h3, _⟩ := inf_ex hi
  simp [sizeOf, typeInfo, h1, h3]
theorem run_zeroValue {t : TypeId} {z : Value} {s b : Nat} [hi : Inf P t z s b] (v : World) : (zeroValue t).run P v = .ok z v := by
  obtain ⟨i, h1, h2, _, _⟩ := inf_ex hi
  simp [zeroValue, typeInfo, h1, h2]
theorem val_len_slice {o : Oper} {x : Operand} {t : TypeId} {e : TypeId} {A : Option Addr} {len cap : Nat} [hu : Und P t (.slice e)] (ho : o.op = .call { callee := .builtin .len, args := #[x], argTypes := #[t] }) (hx : ev l x = some (.slice A len cap)) : Val P l n o w (.int .i64 len) := by
  intro a v hf _
  simp [execOp, ho, resolve, invoke, builtin, Builtin.len_, hf.ev hx, run_und (d := .slice e), goInt]
theorem val_len_string {o : Oper} {x : Operand} {t : TypeId} {s : ByteArray} [hu : Und P t .string] (ho : o.op = .call { callee := .builtin .len, args := #[x], argTypes := #[t] }) (hx : ev l x = some (.string s)) : Val P l n o w (.int .i64 s.size) := by
  intro a v hf _
  simp [execOp, ho, resolve, invoke, builtin, Builtin.len_, hf.ev hx, run_und (d := .string), goInt]
theorem add_at (g o k : Nat) : (⟨g, o, none⟩ : Addr).add k = ⟨g, o + k, none⟩ := by unfold Addr.add; split <;> simp_all
theorem val_indexAddr {o : Oper} {x i : Operand} {t e : TypeId} {z : Value} {s b g off len cap : Nat} {k : IntKind} {m : Int} [hu : Und P t (.slice e)] [hs : Inf P e z s b] (ho : o.op = .indexAddr t x i) (hx : ev l x = some (.slice (some ⟨g, off, none⟩) len cap)) (hi : ev l i = some (.int k m)) (h0 : 0 ≤ m) (h1 : m < len) :
    Val P l n o w (.pointer (some ⟨g, off + m.toNat * s, none⟩)) := by
  intro a v hf _
  simp [execOp, ho, Instr.indexAt, hf.ev hx, hf.ev hi, asIntOf, run_und (d := .slice e), h0, h1, run_sizeOf (s := s), add_at]
theorem val_indexAddrN {o : Oper} {x i : Operand} {t e : TypeId} {z : Value} {s b g off len cap : Nat} {k : IntKind} {m : Nat} [hu : Und P t (.slice e)] [hs : Inf P e z s b] (ho : o.op = .indexAddr t x i) (hx : ev l x = some (.slice (some ⟨g, off, none⟩) len cap)) (hi : ev l i = some (.int k (m : Int))) (h1 : m < len) :
    Val P l n o w (.pointer (some ⟨g, off + m * s, none⟩)) := val_indexAddr (m := (m : Int)) ho hx hi (by omega) (by omega)
theorem val_fieldAddr {o : Oper} {x : Operand} {t : TypeId} {f off g k : Nat} [hF : Fld P t f off] (ho : o.op = .fieldAddr t x f) (hx : ev l x = some (.pointer (some ⟨g, k, none⟩))) : Val P l n o w (.pointer (some ⟨g, k + off, none⟩)) := by
  intro a v hf _
  simp [execOp, ho, hf.ev hx, hF.h, add_at]
theorem val_load1 {o : Oper} {x : Operand} {t : TypeId} {d : TypeDesc} {ad : Addr} {u : Value} [hu : Und P t d] (ho : o.op = .load t x) (hx : ev l x = some (.pointer (some ad))) (hc : w.cell? ad = some u) (hd : aggB d = false := by rfl) : Val P l n o w u := by
  intro a v hf hdr
  have hc' := (hdr.cell ad).trans hc
  simp [execOp, ho, Instr.loadAt, Instr.sureAddr, hf.ev hx, loadVar, run_isAgg (d := d), hd, hc']
theorem val_loadAgg {o : Oper} {x : Operand} {t : TypeId} {d : TypeDesc} {z : Value} {s b g k : Nat} (cs : List Value) [hu : Und P t d] [hs : Inf P t z s b] (ho : o.op = .load t x) (hx : ev l x = some (.pointer (some ⟨g, k, none⟩))) (hl : cs.length = s) (hc : ∀ j u, cs[j]? = some u → w.cell? ⟨g, k + j, none⟩ = some u) (hd : aggB d = true := by rfl) : Val P l n o w (.agg cs.toArray) := by
  intro a v hf hdr
  have h := run_loadCells_list (P := P) (w := v) (⟨g, k, none⟩ : Addr) cs (fun j u hj => by rw [add_at, hdr.cell]; exact hc j u hj)
  rw [hl] at h
  simp [execOp, ho, Instr.loadAt, Instr.sureAddr, hf.ev hx, loadVar, run_isAgg (d := d), hd, run_sizeOf (s := s), h]
theorem val_iface {o : Oper} {x : Operand} {t : TypeId} {d : TypeDesc} {u : Value} [hu : Und P t d] (ho : o.op = .makeInterface t x) (hx : ev l x = some u) (hd : (match d with | .interface _ => false | _ => true) = true := by rfl) : Val P l n o w (.iface t u) := by
  intro a v hf _
  simp only [execOp, ho, Instr.makeInterface, hf.ev hx]
  simp only [Sem.run_bind, run_und (d := d), Result.andThen_ok]
  cases d <;> simp_all
theorem val_convert {o : Oper} {x : Operand} {t t' : TypeId} {d : TypeDesc} {k k' : IntKind} {m : Int} [hu : Und P t d] [hv : Und P t' (.int k')] (ho : o.op = .convert t t' x) (hx : ev l x = some (.int k m)) : Val P l n o w (.int k' (k'.wrap m)) := by
  intro a v hf _
  simp only [execOp, ho, convert, hf.ev hx]
  simp only [Sem.run_bind, run_und (d := d), run_und (d := .int k'), Result.andThen_ok]
  cases d <;> simp [Conv.intToInt]
theorem val_assert {o : Oper} {x : Operand} {tx t : TypeId} {d : TypeDesc} {u : Value} [hu : Und P t d] (ho : o.op = .typeAssert x tx t true) (hx : ev l x = some (.iface t u)) (hd : (match d with | .interface _ => false | _ => true) = true := by rfl) : Val P l n o w (.tuple #[u, .bool true]) := by
  intro a v hf _
  simp only [execOp, ho, Instr.typeAssert, hf.ev hx]
  simp only [Sem.run_bind, run_und (d := d), Result.andThen_ok]
  cases d <;> simp_all
theorem val_func {o : Oper} {fn : Fn} (ho : o.op = .makeFunc fn #[] #[]) : Val P l n o w (.func fn #[] #[]) := by
  intro a v hf _; simp [execOp, ho, Instr.makeFunc]
theorem val_func1 {o : Oper} {fn : Fn} {x : Operand} {u : Value} (ho : o.op = .makeFunc fn #[x] #[]) (hx : ev l x = some u) : Val P l n o w (.func fn #[u] #[]) := by
  intro a v hf _; simp [execOp, ho, Instr.makeFunc, hf.ev hx]
theorem val_funcC1 {o : Oper} {fn : Fn} {x : Operand} {u : Value} (ho : o.op = .makeFunc fn #[] #[x]) (hx : ev l x = some u) : Val P l n o w (.func fn #[] #[u]) := by
  intro a v hf _; simp [execOp, ho, Instr.makeFunc, hf.ev hx]
theorem val_funcC2 {o : Oper} {fn : Fn} {x y : Operand} {u u' : Value} (ho : o.op = .makeFunc fn #[] #[x, y]) (hx : ev l x = some u) (hy : ev l y = some u') : Val P l n o w (.func fn #[] #[u, u']) := by
  intro a v hf _; simp [execOp, ho, Instr.makeFunc, hf.ev hx, hf.ev hy]
/-- A slice cut: 'x[lo:hi]'. -/
theorem val_cut {o : Oper} {x : Operand} {lo hi : Option Operand} {t e : TypeId} {z : Value} {s b g off len cap : Nat} {p q : Int} [hu : Und P t (.slice e)] [hs : Inf P e z s b] (ho : o.op = .slice t x lo hi none) (hx : ev l x = some (.slice (some ⟨g, off, none⟩) len cap))
    (hlo : match lo with | none => p = 0 | some y => ∃ k, ev l y = some (.int k p)) (hhi : match hi with | none => q = len | some y => ∃ k, ev l y = some (.int k q)) (h0 : 0 ≤ p) (h1 : p ≤ q) (h2 : q ≤ cap) :
    Val P l n o w (.slice (some ⟨g, if cap = p.toNat then off else off + p.toNat * s, none⟩) (q.toNat - p.toNat) (cap - p.toNat)) := by
  intro a v hf _
  have hq : 0 ≤ q := by omega
  have e1 : ((q.toNat : Nat) : Int) = q := by omega
  have fin : ∀ (X : Option Addr), X = (if cap = p.toNat then some (⟨g, off, none⟩ : Addr) else some ((⟨g, off, none⟩ : Addr).add (p.toNat * s))) → X = some ⟨g, if cap = p.toNat then off else off + p.toNat * s, none⟩ := by
    rintro X rfl; split <;> simp [add_at]
  cases lo with
  | none =>
    simp only at hlo; subst hlo
    cases hi with
    | none =>
      simp only at hhi; subst hhi
      simp [execOp, ho, Instr.sliceAt, Instr.slice, Instr.sliceBounds, hf.ev hx, run_und (d := .slice e), run_sizeOf (s := s), add_at]
    | some y =>
      obtain ⟨k, hy⟩ := hhi
      simp [execOp, ho, Instr.sliceAt, Instr.slice, Instr.sliceBounds, Instr.sliceBound, asIntOf, hf.ev hx, hf.ev hy, run_und (d := .slice e), run_sizeOf (s := s), add_at, hq, h2]
  | some y =>
    obtain ⟨k, hy⟩ := hlo
    cases hi with
    | none =>
      simp only at hhi; subst hhi
      simp [execOp, ho, Instr.sliceAt, Instr.slice, Instr.sliceBounds, Instr.sliceBound, asIntOf, hf.ev hx, hf.ev hy, run_und (d := .slice e), run_sizeOf (s := s), h0, h1]
      exact fin _ (by simp)
    | some y' =>
      obtain ⟨k', hy'⟩ := hhi
      simp [execOp, ho, Instr.sliceAt, Instr.slice, Instr.sliceBounds, Instr.sliceBound, asIntOf, hf.ev hx, hf.ev hy, hf.ev hy', run_und (d := .slice e), run_sizeOf (s := s), h0, hq, h2]
      rw [if_pos (by omega)]
      congr 3
      exact fin _ rfl
/-- A bound of a cut. -/
def Bnd (l : L) (o : Option Operand) (d p : Nat) : Prop := match o with | none => p = d | some y => ∃ k, ev l y = some (.int k (p : Int))
def cutV (A : Option Addr) (s p q m : Nat) : Value := .slice (if m = p then A else A.map (·.add (p * s))) (q - p) (m - p)
theorem val_cutG {o : Oper} {x : Operand} {lo hi mx : Option Operand} {t e : TypeId} {z : Value} {s b len cap : Nat} {A : Option Addr} {p q m : Nat} [hu : Und P t (.slice e)] [hs : Inf P e z s b] (ho : o.op = .slice t x lo hi mx) (hx : ev l x = some (.slice A len cap))
    (hlo : Bnd l lo 0 p) (hhi : Bnd l hi len q) (hmx : Bnd l mx cap m) (hh : mx.isSome = true → hi.isSome = true) (h0 : p ≤ q) (h1 : q ≤ m) (h2 : m ≤ cap) : Val P l n o w (cutV A s p q m) := by
  intro a v hf _
  cases lo <;> cases hi <;> cases mx <;> simp only [Bnd] at hlo hhi hmx <;> first | (simp at hh; done) | skip
  all_goals (try obtain ⟨k1, hlo⟩ := hlo)
  all_goals (try obtain ⟨k2, hhi⟩ := hhi)
  all_goals (try obtain ⟨k3, hmx⟩ := hmx)
  all_goals (try have hlo' := hf.ev hlo)
  all_goals (try have hhi' := hf.ev hhi)
  all_goals (try have hmx' := hf.ev hmx)
  all_goals (try subst hlo)
  all_goals (try subst hhi)
  all_goals (try subst hmx)
  all_goals simp_all [execOp, Instr.sliceAt, Instr.slice, Instr.sliceBounds, Instr.sliceBound, asIntOf, hf.ev hx, run_und (d := .slice e), run_sizeOf (s := s), cutV]
/-! ### What turns the world -/
theorem Dr.alloc {v : World} (h : Dr w v) (o : Obj) : Dr (w.alloc o) (v.alloc o) := by obtain ⟨m, rfl⟩ := h; exact ⟨m, rfl⟩
theorem Dr.setCell {v : World} (h : Dr w v) (ad : Addr) (u : Value) : Dr (w.setCell ad u) (v.setCell ad u) := by obtain ⟨m, rfl⟩ := h; exact ⟨m, rfl⟩
theorem Dr.size {v : World} (h : Dr w v) : v.heap.size = w.heap.size := by rw [h.heap]
theorem act_box {o : Oper} {x : Operand} {t : TypeId} {u : Value} (ho : o.op = .box t x) (hx : ev l x = some u) : Act1 P l n o w (.pointer (some ⟨w.heap.size, 0, none⟩)) (w.alloc (.cells u.cells t)) := by
  intro a v hf hd
  refine ⟨v.alloc (.cells u.cells t), ?_, hd.alloc _⟩
  simp [execOp, ho, Instr.box, newVar, newRow, hf.ev hx, hd.size]
theorem act_alloc {o : Oper} {t : TypeId} {z : Value} {s b : Nat} [hi : Inf P t z s b] (ho : o.op = .alloc t) : Act1 P l n o w (.pointer (some ⟨w.heap.size, 0, none⟩)) (w.alloc (.cells z.cells t)) := by
  intro a v hf hd
  refine ⟨v.alloc (.cells z.cells t), ?_, hd.alloc _⟩
  simp [execOp, ho, Instr.alloc, newVar, newRow, run_zeroValue (z := z), hd.size]
theorem run_store1 {v : World} {ad : Addr} {u u0 : Value} (ho : u.oneCell' = true) (hc : v.cell? ad = some u0) (hz : v.frozen? ad = false) : (store ad u).run P v = .ok () (v.setCell ad u) := by
  rw [run_store P v ad u _ ho, hc]; simp [hz]
theorem act_store1 {o : Oper} {x y : Operand} {t : TypeId} {z : Value} {b g k : Nat} {u u0 : Value} [hi : Inf P t z 1 b] (ho : o.op = .store t x y) (hx : ev l x = some (.pointer (some ⟨g, k, none⟩))) (hy : ev l y = some u) (h1 : u.oneCell' = true) (hc : w.cell? ⟨g, k, none⟩ = some u0) (hz : w.frozen? ⟨g, k, none⟩ = false) :
    Act0 P l n o w (w.setCell ⟨g, k, none⟩ u) := by
  intro a v hf hd
  refine ⟨v.setCell ⟨g, k, none⟩ u, ?_, hd.setCell _ _⟩
  have hcs : u.cells = #[u] := by cases u <;> simp_all [Value.cells, Value.oneCell']
  have hs := run_store1 (P := P) h1 ((hd.cell _).trans hc) ((hd.frozen _).trans hz)
  simp [execOp, ho, Instr.storeAt, Instr.sureAddr, hf.ev hx, hf.ev hy, storeVar, hcs, run_sizeOf (s := 1), storeCells, add_at, hs]
def setCells (W : World) (g : Nat) : Nat → List Value → World
  | _, [] => W
  | k, u :: r => setCells (W.setCell ⟨g, k, none⟩ u) g (k + 1) r
theorem Dr.setCells {g : Nat} : ∀ {us : List Value} {k : Nat} {w v : World}, Dr w v → Dr (Sx.setCells w g k us) (Sx.setCells v g k us)
  | [], _, _, _, h => h
  | u :: r, k, _, _, h => Dr.setCells (us := r) (k := k + 1) (h.setCell ⟨g, k, none⟩ u)
theorem cell_setCell_ne {v : World} {g k k' : Nat} {u : Value} (h : k' ≠ k) : (v.setCell ⟨g, k, none⟩ u).cell? ⟨g, k', none⟩ = v.cell? ⟨g, k', none⟩ := World.cell?_setCell_other _ _ _ _ (by simp only [ne_eq, Addr.mk.injEq, not_and]; omega)
theorem run_storeCells {g : Nat} : ∀ (us : List Value) (k i : Nat) (v : World), (∀ u ∈ us, u.oneCell' = true) → (∀ j, j < us.length → ∃ u0, v.cell? ⟨g, k + i + j, none⟩ = some u0) → (∀ j, v.frozen? ⟨g, j, none⟩ = false) →
    (storeCells ⟨g, k, none⟩ us i).run P v = .ok () (Sx.setCells v g (k + i) us)
  | [], k, i, v, _, _, _ => rfl
  | u :: r, k, i, v, h1, hc, hz => by
    obtain ⟨u0, h0⟩ := hc 0 (by simp)
    simp only [Nat.add_zero] at h0
    have hs := run_store1 (P := P) (h1 u (by simp)) h0 (hz _)
    have ih := run_storeCells r k (i + 1) (v.setCell ⟨g, k + i, none⟩ u) (fun x hx => h1 x (by simp [hx])) (fun j hj => by
      obtain ⟨u1, h2⟩ := hc (j + 1) (by simp; omega)
      exact ⟨u1, by rw [cell_setCell_ne (by omega), ← h2]; congr 2; omega⟩) (fun j => by simp [hz j])
    simp only [storeCells, Sem.run_bind, add_at, hs, Result.andThen_ok, ih]
    rw [show k + (i + 1) = k + i + 1 from by omega]
    rfl
theorem act_storeAgg {o : Oper} {x y : Operand} {t : TypeId} {z : Value} {s b g k : Nat} {cs : List Value} [hi : Inf P t z s b] (ho : o.op = .store t x y) (hx : ev l x = some (.pointer (some ⟨g, k, none⟩))) (hy : ev l y = some (.agg cs.toArray)) (hl : cs.length = s) (h1 : ∀ u ∈ cs, u.oneCell' = true)
    (hc : ∀ j, j < cs.length → ∃ u0, w.cell? ⟨g, k + j, none⟩ = some u0) (hz : ∀ j, w.frozen? ⟨g, j, none⟩ = false) : Act0 P l n o w (Sx.setCells w g k cs) := by
  intro a v hf hd
  refine ⟨Sx.setCells v g k cs, ?_, hd.setCells⟩
  have hs := run_storeCells (P := P) (g := g) cs k 0 v h1 (fun j hj => by obtain ⟨u0, h⟩ := hc j hj; exact ⟨u0, by rw [hd.cell]; simpa using h⟩) (fun j => by rw [hd.frozen]; exact hz j)
  simp only [Nat.add_zero] at hs
  simp [execOp, ho, Instr.storeAt, Instr.sureAddr, hf.ev hx, hf.ev hy, storeVar, Value.cells, hl, run_sizeOf (s := s), hs]

/-! ### Rows of cells -/
/-- Block g is a plain row of these cells. -/
def Row (W : World) (g : Nat) (t : TypeId) (cs : List Value) : Prop := W.heap[g]? = some (.cells cs.toArray t (0, 0))
theorem Row.lt {W : World} {g : Nat} {t : TypeId} {cs : List Value} (h : Row W g t cs) : g < W.heap.size := (Array.getElem?_eq_some_iff.1 h).1
theorem Row.cell {W : World} {g : Nat} {t : TypeId} {cs : List Value} (h : Row W g t cs) {j : Nat} {u : Value} (hj : cs[j]? = some u) : W.cell? ⟨g, j, none⟩ = some u := by
  unfold Row at h; simp [World.cell?, h, hj]
theorem Row.frozen {W : World} {g : Nat} {t : TypeId} {cs : List Value} (h : Row W g t cs) (j : Nat) : W.frozen? ⟨g, j, none⟩ = false := by
  unfold Row at h; simp [World.frozen?, h]
theorem Row.of_heap {W W' : World} {g : Nat} {t : TypeId} {cs : List Value} (h : Row W g t cs) (e : W'.heap[g]? = W.heap[g]?) : Row W' g t cs := by unfold Row at *; rw [e, h]
theorem Row.set {W : World} {g : Nat} {t : TypeId} {cs : List Value} (h : Row W g t cs) (j : Nat) (u : Value) : Row (W.setCell ⟨g, j, none⟩ u) g t (cs.set j u) := by
  unfold Row at *
  have hlt := (Array.getElem?_eq_some_iff.1 h).1
  simp [World.setCell, Array.getElem?_modify, h]
theorem heap_setCell_ne {W : World} {k : Nat} {ad : Addr} {u : Value} (hk : k ≠ ad.block) : (W.setCell ad u).heap[k]? = W.heap[k]? := Below.heap_setCell W ad u k hk
theorem heap_alloc_lt {W : World} {o : Obj} {k : Nat} (hk : k < W.heap.size) : (W.alloc o).heap[k]? = W.heap[k]? := Below.heap_alloc W o k hk
theorem Row.alloc_new (W : World) (cs : List Value) (t : TypeId) : Row (W.alloc (.cells cs.toArray t)) W.heap.size t cs := by
  show (W.heap.push _)[W.heap.size]? = _; simp
theorem Row.setCells {g : Nat} {t : TypeId} : ∀ (us : List Value) (cs : List Value) (k : Nat) (W : World), Row W g t cs → ∃ ds, Row (Sx.setCells W g k us) g t ds ∧ ds.length = cs.length ∧ ∀ j, ds[j]? = if k ≤ j ∧ j < k + us.length ∧ j < cs.length then us[j - k]? else cs[j]?
  | [], cs, k, _, h => ⟨cs, h, rfl, fun j => by rw [if_neg (by simp only [List.length_nil]; omega)]⟩
  | u :: r, cs, k, _, h => by
    obtain ⟨ds, h1, h2, h3⟩ := Row.setCells r (cs.set k u) (k + 1) _ (h.set k u)
    refine ⟨ds, h1, by simpa using h2, fun j => ?_⟩
    rw [h3]
    simp only [List.length_set, List.length_cons]
    by_cases e : k = j
    · subst e
      rw [if_neg (by omega)]
      by_cases hl : k < cs.length
      · rw [if_pos ⟨by omega, by omega, hl⟩]; simp [hl]
      · rw [if_neg (by omega)]
        rw [List.getElem?_eq_none (by simpa using hl), List.getElem?_eq_none (by simpa using hl)]
    · by_cases c : k + 1 ≤ j ∧ j < k + 1 + r.length ∧ j < cs.length
      · rw [if_pos c, if_pos ⟨by omega, by omega, c.2.2⟩]
        rw [show j - k = (j - (k + 1)) + 1 from by omega]; simp
      · rw [if_neg c, if_neg (by omega), List.getElem?_set_ne e]
/-- What the world keeps: the blocks of X are as they were. -/
structure Keep (X : Nat → Prop) (W W' : World) : Prop where
  os : W'.os = W.os
  tape : W'.tape = W.tape
  output : W'.output = W.output
  size : W.heap.size ≤ W'.heap.size
  block : ∀ k, X k → W'.heap[k]? = W.heap[k]?
theorem Keep.refl (X : Nat → Prop) (W : World) : Keep X W W := ⟨rfl, rfl, rfl, Nat.le_refl _, fun _ _ => rfl⟩
theorem Keep.trans {X : Nat → Prop} {A B C : World} (h : Keep X A B) (k : Keep X B C) : Keep X A C := ⟨k.os.trans h.os, k.tape.trans h.tape, k.output.trans h.output, Nat.le_trans h.size k.size, fun i hi => (k.block i hi).trans (h.block i hi)⟩
theorem Keep.mono {X Y : Nat → Prop} {A B : World} (h : Keep X A B) (hs : ∀ k, Y k → X k) : Keep Y A B := ⟨h.os, h.tape, h.output, h.size, fun i hi => h.block i (hs i hi)⟩
theorem Keep.dr {X : Nat → Prop} {A B : World} (h : Dr A B) : Keep X A B := by obtain ⟨m, rfl⟩ := h; exact ⟨rfl, rfl, rfl, Nat.le_refl _, fun _ _ => rfl⟩
theorem Keep.then_dr {X : Nat → Prop} {A B C : World} (h : Keep X A B) (k : Dr B C) : Keep X A C := h.trans (.dr k)
theorem Keep.of_dr {X : Nat → Prop} {A B C : World} (h : Dr A B) (k : Keep X B C) : Keep X A C := (Keep.dr h).trans k
theorem Keep.alloc {X : Nat → Prop} {A : World} (o : Obj) (hX : ∀ k, X k → k < A.heap.size) : Keep X A (A.alloc o) := ⟨rfl, rfl, rfl, by simp, fun k hk => heap_alloc_lt (hX k hk)⟩
theorem Keep.setCell {X : Nat → Prop} {A : World} (ad : Addr) (u : Value) (hX : ¬ X ad.block) : Keep X A (A.setCell ad u) := ⟨rfl, rfl, rfl, by simp, fun k hk => Below.heap_setCell A ad u k fun e => hX (e ▸ hk)⟩
theorem Keep.setCells {X : Nat → Prop} {g : Nat} (hX : ¬ X g) : ∀ (us : List Value) (k : Nat) (A : World), Keep X A (Sx.setCells A g k us)
  | [], _, A => .refl X A
  | u :: r, k, _ => (Keep.setCell ⟨g, k, none⟩ u hX).trans (Keep.setCells hX r (k + 1) _)
theorem Keep.row {X : Nat → Prop} {A B : World} (h : Keep X A B) {g : Nat} {t : TypeId} {cs : List Value} (hr : Row A g t cs) (hX : X g) : Row B g t cs := hr.of_heap (h.block g hX)
theorem Keep.below {X : Nat → Prop} {A B : World} (h : Keep X A B) (hX : ∀ k, k < A.heap.size → X k) : Below A.heap.size A B := ⟨h.os, h.tape, h.output, h.size, fun k hk => h.block k (hX k hk)⟩
theorem Dr.row {v : World} (h : Dr w v) {g : Nat} {t : TypeId} {cs : List Value} (hr : Row w g t cs) : Row v g t cs := hr.of_heap (by rw [h.heap])
theorem Dr.row' {v : World} (h : Dr w v) {g : Nat} {t : TypeId} {cs : List Value} (hr : Row v g t cs) : Row w g t cs := hr.of_heap (by rw [h.heap])

/-! ### Calls -/
theorem goes_func {o : Oper} {f : FuncId} {xs : List Operand} {ts : Array TypeId} {vs : List Value} [hF : Fun P f] (ho : o.op = .call { callee := .value (.func f), args := xs.toArray, argTypes := ts }) (hx : xs.map (ev l) = vs.map some) : Goes P l n o w f vs := by
  intro a v hf _
  have hargs : xs.map a.eval = vs := by
    clear ho
    induction xs generalizing vs with
    | nil => cases vs <;> simp_all
    | cons x r ih =>
      cases vs with
      | nil => simp at hx
      | cons u t =>
        simp only [List.map_cons, List.cons.injEq] at hx
        simp only [List.map_cons, hf.ev hx.1, ih hx.2]
  have e : a.eval (.func f) = .func (.func f) #[] #[] := rfl
  simp [execOp, ho, resolve, e, Deferred.ofValue, invoke, hargs, hF.h]
theorem map_ev {a : Act} (hf : Fr n l a) : ∀ {xs : List Operand} {vs : List Value}, xs.map (ev l) = vs.map some → xs.map a.eval = vs
  | [], [], _ => rfl
  | [], _ :: _, h => by simp at h
  | _ :: _, [], h => by simp at h
  | x :: r, u :: t, h => by
    simp only [List.map_cons, List.cons.injEq] at h
    simp only [List.map_cons, hf.ev h.1, map_ev hf h.2]
/-- A call through a function's value, captured variables and all. -/
theorem goes_value {o : Oper} {x : Operand} {f : FuncId} {xs : List Operand} {ts : Array TypeId} {vs : List Value} {first cap : List Value} [hF : Fun P f] (ho : o.op = .call { callee := .value x, args := xs.toArray, argTypes := ts }) (hfv : ev l x = some (.func (.func f) first.toArray cap.toArray)) (hx : xs.map (ev l) = vs.map some) :
    Goes P l n o w f (first ++ vs ++ cap) := by
  intro a v hf _
  have hargs := map_ev hf hx
  simp [execOp, ho, resolve, hf.ev hfv, Deferred.ofValue, invoke, hargs, hF.h]
/-- A method of a dynamic type: its function, and the receiver out of the value. -/
class Meth (P : Program) (t : TypeId) (name : String) (f : outParam FuncId) (deref : outParam (Option TypeId)) : Prop where
  h : ∀ (a : Addr) (v : World) (u : Value), (match deref with | none => u = .pointer (some a) | some _ => v.cell? a = some u) → (method (P.types.size + Made.depth) t (.pointer (some a)) name).run P v = .ok (f, u) v
theorem goes_iface {o : Oper} {x : Operand} {name : String} {f : FuncId} {d : Option TypeId} {xs : List Operand} {ts : Array TypeId} {vs : List Value} {t : TypeId} {g k : Nat} {u : Value} [hm : Meth P t name f d] [hF : Fun P f]
    (ho : o.op = .call { callee := .invoke x name, args := xs.toArray, argTypes := ts }) (hxv : ev l x = some (.iface t (.pointer (some ⟨g, k, none⟩)))) (hx : xs.map (ev l) = vs.map some)
    (hu : match d with | none => u = .pointer (some ⟨g, k, none⟩) | some _ => w.cell? ⟨g, k, none⟩ = some u) : Goes P l n o w f (u :: vs) := by
  intro a v hf hd
  have hargs := map_ev hf hx
  have h1 := hm.h ⟨g, k, none⟩ v u (by cases d with | none => exact hu | some e => exact (hd.cell _).trans hu)
  simp [execOp, ho, resolve, invoke, callMethod, hf.ev hxv, hargs, h1, hF.h]
theorem run_loadVar1 {t : TypeId} {d : TypeDesc} {ad : Addr} {u : Value} [hu : Und P t d] (hd : aggB d = false) (hc : w.cell? ad = some u) : ∀ v, Dr w v → (loadVar t ad).run P v = .ok u v := by
  intro v hdr
  have hc' := (hdr.cell ad).trans hc
  simp [loadVar, run_isAgg (d := d), hd, hc']

theorem ctr {m : Nat} {f : FuncId} {fn : Func} {c : Code} {vs : List Value} {R : Value → World → Prop} (hf : P.funcs[f]? = some fn) (hb : fn.body = some c) (hn : fn.ntmps = m) (hle : Nat.ble vs.length m = true)
    (h : Cw P c (bodyPost P fn fun e w' => ∃ x, e = .returned x ∧ R x w') ⟨m, []⟩ (args vs 0) w) : Ctr P f vs w R := by
  intro v hd
  refine enter hf hb hn (Nat.le_of_ble_eq_true hle) ?_
  exact fun a u hf hdu => h a u hf (hd.trans hdu)
theorem Ctr.mono {f : FuncId} {vs : List Value} {R R' : Value → World → Prop} (h : Ctr P f vs w R) (hr : ∀ x v, R x v → R' x v) : Ctr P f vs w R' := fun v hd => (h v hd).mono fun _ w' ⟨x, e, r⟩ => ⟨x, e, hr x w' r⟩
/-- The end of a function that only reads. -/
theorem fin0 {m : Nat} {fn : Func} {R : Value → World → Prop} {e : Exit} (he : e = .ret ∨ e = .normal) (hr : fn.results = #[]) (h : ∀ v, Dr w v → R (.tuple #[]) v) : Ex e (bodyPost P fn fun e w' => ∃ x, e = .returned x ∧ R x w') ⟨m, []⟩ l w :=
  ret0 he hr fun v hd => ⟨_, rfl, h v hd⟩
theorem fin1 {m : Nat} {fn : Func} {R : Value → World → Prop} {e : Exit} {t : Nat} {x : Value} (he : e = .ret ∨ e = .normal) (hr : fn.results = #[.tmp t]) (hx : get l t = some x) (h : ∀ v, Dr w v → R x v) : Ex e (bodyPost P fn fun e w' => ∃ x, e = .returned x ∧ R x w') ⟨m, []⟩ l w :=
  ret1 he hr hx fun v hd => ⟨_, rfl, h v hd⟩
theorem fin2 {m : Nat} {fn : Func} {R : Value → World → Prop} {e : Exit} {t u : Nat} {x y : Value} (he : e = .ret ∨ e = .normal) (hr : fn.results = #[.tmp t, .tmp u]) (hx : get l t = some x) (hy : get l u = some y) (h : ∀ v, Dr w v → R (.tuple #[x, y]) v) : Ex e (bodyPost P fn fun e w' => ∃ x, e = .returned x ∧ R x w') ⟨m, []⟩ l w :=
  ret2 he hr hx hy fun v hd => ⟨_, rfl, h v hd⟩
/-- A slice of the call's own (or nil): n elements of s cells each; its block is none of X. -/
def Own (W : World) (X : Nat → Prop) (t : TypeId) (s : Nat) (v : Value) (m : Nat) (xs : List Value) : Prop := W.ownsRow 0 t s v m xs ∧ ∀ k, v.ownBlock = some k → ¬ X k
theorem Own.nil (W : World) (X : Nat → Prop) (t : TypeId) (s : Nat) : Own W X t s (.slice none 0 0) 0 [] := ⟨World.ownsRow_nil W 0 t s, fun _ h => by cases h⟩
theorem Own.form {W : World} {X : Nat → Prop} {t : TypeId} {s : Nat} {v : Value} {m : Nat} {xs : List Value} (h : Own W X t s v m xs) (hm : 0 < m) : ∃ g cap, v = .slice (some ⟨g, 0, none⟩) m cap ∧ ¬ X g ∧ m ≤ cap ∧ g < W.heap.size := by
  rcases h.1.2 with ⟨_, h0⟩ | ⟨g, cap, cur, rfl, _, hg, hc, _⟩
  · omega
  · exact ⟨g, cap, rfl, h.2 g rfl, hc, (Array.getElem?_eq_some_iff.1 hg).1⟩
theorem Own.form' {W : World} {X : Nat → Prop} {t : TypeId} {s : Nat} {v : Value} {m : Nat} {xs : List Value} (h : Own W X t s v m xs) : ∃ A cap, v = .slice A m cap := by
  rcases h.1.2 with ⟨rfl, rfl⟩ | ⟨g, cap, cur, rfl, _⟩
  · exact ⟨none, 0, rfl⟩
  · exact ⟨_, cap, rfl⟩
theorem Own.cell {W : World} {X : Nat → Prop} {t : TypeId} {s g m cap : Nat} {xs : List Value} (h : Own W X t s (.slice (some ⟨g, 0, none⟩) m cap) m xs) {j : Nat} {u : Value} (hj : xs[j]? = some u) : W.cell? ⟨g, j, none⟩ = some u := by
  have := h.1.cells (g := g) rfl j u hj
  rwa [add_at, Nat.zero_add] at this
theorem Own.frozen {W : World} {X : Nat → Prop} {t : TypeId} {s g m cap : Nat} {xs : List Value} (h : Own W X t s (.slice (some ⟨g, 0, none⟩) m cap) m xs) (j : Nat) : W.frozen? ⟨g, j, none⟩ = false := h.1.frozenAt j
theorem Own.set {W : World} {X : Nat → Prop} {t : TypeId} {s g m cap : Nat} {xs : List Value} (h : Own W X t s (.slice (some ⟨g, 0, none⟩) m cap) m xs) (j : Nat) (u : Value) : Own (W.setCell ⟨g, j, none⟩ u) X t s (.slice (some ⟨g, 0, none⟩) m cap) m (xs.set j u) := ⟨(h.1.stored j u).1, h.2⟩
theorem Own.setCells {X : Nat → Prop} {t : TypeId} {s g m cap : Nat} : ∀ (us : List Value) {W : World} {xs : List Value} (k : Nat), Own W X t s (.slice (some ⟨g, 0, none⟩) m cap) m xs → Own (Sx.setCells W g k us) X t s (.slice (some ⟨g, 0, none⟩) m cap) m (us.zipIdx k |>.foldl (fun a p => a.set p.2 p.1) xs)
  | [], _, _, _, h => h
  | u :: r, _, _, k, h => Own.setCells r (k + 1) (h.set k u)
theorem Own.kept {W W' : World} {X : Nat → Prop} {t : TypeId} {s : Nat} {v : Value} {m : Nat} {xs : List Value} (h : Own W X t s v m xs) (hk : ∀ k, v.ownBlock = some k → W'.heap[k]? = W.heap[k]?) : Own W' X t s v m xs := by
  refine ⟨⟨h.1.1, ?_⟩, h.2⟩
  rcases h.1.2 with hh | ⟨g, cap, cur, rfl, hb, hg, rest⟩
  · exact .inl hh
  · exact .inr ⟨g, cap, cur, rfl, hb, (hk g rfl).trans hg, rest⟩
theorem Own.avoid {W : World} {X Y : Nat → Prop} {t : TypeId} {s : Nat} {v : Value} {m : Nat} {xs : List Value} (h : Own W X t s v m xs) (hY : ∀ k, v.ownBlock = some k → ¬ Y k) : Own W Y t s v m xs := ⟨h.1, hY⟩
theorem Own.dr {W W' : World} {X : Nat → Prop} {t : TypeId} {s : Nat} {v : Value} {m : Nat} {xs : List Value} (h : Own W X t s v m xs) (hd : Dr W W') : Own W' X t s v m xs := h.kept fun k _ => by rw [hd.heap]
theorem Own.lt {W : World} {X : Nat → Prop} {t : TypeId} {s : Nat} {v : Value} {m : Nat} {xs : List Value} (h : Own W X t s v m xs) (k : Nat) (hk : v.ownBlock = some k) : k < W.heap.size := (h.1.lt k hk).2
theorem Own.alloc {W : World} {X : Nat → Prop} {t : TypeId} {s : Nat} {v : Value} {m : Nat} {xs : List Value} (h : Own W X t s v m xs) (o : Obj) : Own (W.alloc o) X t s v m xs := h.kept fun k hk => heap_alloc_lt (h.lt k hk)
theorem Own.setCell {W : World} {X : Nat → Prop} {t : TypeId} {s : Nat} {v : Value} {m : Nat} {xs : List Value} (h : Own W X t s v m xs) (ad : Addr) (u : Value) (hne : v.ownBlock ≠ some ad.block) : Own (W.setCell ad u) X t s v m xs := h.kept fun k hk => Below.heap_setCell W ad u k fun e => hne (e ▸ hk)
/-- A shorter one over the same row. -/
theorem Own.shrink {W : World} {X : Nat → Prop} {t : TypeId} {s g m cap k : Nat} {xs ys : List Value} (h : Own W X t s (.slice (some ⟨g, 0, none⟩) m cap) m xs) (hk : k ≤ m) (hy : xs.take (k * s) = ys) : Own W X t s (.slice (some ⟨g, 0, none⟩) k cap) k ys := by
  refine ⟨⟨?_, ?_⟩, h.2⟩
  · rw [← hy, List.length_take, h.1.1]; exact Nat.min_eq_left (Nat.mul_le_mul_right _ hk)
  · rcases h.1.2 with ⟨hv, _⟩ | ⟨g', cap', cur, hv, hb, hg, hc, hm, hs, ht⟩
    · simp at hv
    · simp only [Value.slice.injEq, Option.some.injEq, Addr.mk.injEq, and_true, true_and] at hv
      obtain ⟨rfl, rfl⟩ := hv
      refine .inr ⟨g, cap, cur, rfl, hb, hg, by omega, hm, hs, ?_⟩
      rw [← hy, ← ht, List.take_take, Nat.min_eq_left (Nat.mul_le_mul_right _ hk)]
/-- A slice that is read: n elements, their cells; its block is one of X. -/
def Rd (W : World) (X : Nat → Prop) (A : Option Addr) (m : Nat) (cs : List Value) : Prop := ∀ j u, cs[j]? = some u → ∃ g off, A = some ⟨g, off, none⟩ ∧ X g ∧ W.cell? ⟨g, off + j, none⟩ = some u ∧ 0 < m
theorem Rd.at_ {W : World} {X : Nat → Prop} {A : Option Addr} {m : Nat} {cs : List Value} (h : Rd W X A m cs) {j : Nat} {u : Value} (hj : cs[j]? = some u) : ∃ g off, A = some ⟨g, off, none⟩ ∧ X g ∧ ∀ j u, cs[j]? = some u → W.cell? ⟨g, off + j, none⟩ = some u := by
  obtain ⟨g, off, e, hX, hc, _⟩ := h j u hj
  refine ⟨g, off, e, hX, fun j' u' hj' => ?_⟩
  obtain ⟨g', off', e', _, hc', _⟩ := h j' u' hj'
  rw [e] at e'
  simp only [Option.some.injEq, Addr.mk.injEq, and_true] at e'
  obtain ⟨rfl, rfl⟩ := e'
  exact hc'
theorem Rd.keep {W V : World} {X : Nat → Prop} {A : Option Addr} {m : Nat} {cs : List Value} (h : Rd W X A m cs) (hK : Keep X W V) : Rd V X A m cs := by
  intro j u hj
  obtain ⟨g, off, e, hX, hc, hm⟩ := h j u hj
  exact ⟨g, off, e, hX, by rw [World.cell?_of_block (w := W) (hK.block g hX)]; exact hc, hm⟩
theorem Rd.mono {W : World} {X Y : Nat → Prop} {A : Option Addr} {m : Nat} {cs : List Value} (h : Rd W X A m cs) (hs : ∀ k, X k → Y k) : Rd W Y A m cs := by
  intro j u hj
  obtain ⟨g, off, e, hX, hc, hm⟩ := h j u hj
  exact ⟨g, off, e, hs g hX, hc, hm⟩
/-- A cut of what is read. -/
theorem Rd.cut {W : World} {X : Nat → Prop} {A : Option Addr} {n' : Nat} {cs : List Value} (h : Rd W X A n' cs) {s p q m : Nat} (h0 : p ≤ q) (h1 : q ≤ m) : Rd W X (if m = p then A else A.map (·.add (p * s))) (q - p) ((cs.drop (p * s)).take ((q - p) * s)) := by
  intro j u hj
  rw [List.getElem?_take] at hj
  split at hj
  case isTrue hlt =>
    rw [List.getElem?_drop] at hj
    obtain ⟨g, off, rfl, hX, hc, _⟩ := h _ u hj
    have hqp : 0 < q - p := by
      rcases Nat.eq_zero_or_pos (q - p) with e | e
      · rw [e] at hlt; simp at hlt
      · exact e
    refine ⟨g, off + p * s, ?_, hX, by rw [Nat.add_assoc]; exact hc, hqp⟩
    rw [if_neg (by omega)]; simp [add_at]
  case isFalse => cases hj
theorem Rd.dr {W V : World} {X : Nat → Prop} {A : Option Addr} {m : Nat} {cs : List Value} (h : Rd W X A m cs) (hd : Dr W V) : Rd V X A m cs := h.keep (Keep.dr hd)
/-- What is owned may be read. -/
theorem Own.rd {W : World} {X Y : Nat → Prop} {t : TypeId} {s : Nat} {A : Option Addr} {m cap : Nat} {xs : List Value} (h : Own W X t s (.slice A m cap) m xs) (hY : ∀ k, (Value.slice A m cap).ownBlock = some k → Y k) : Rd W Y A m xs := by
  intro j u hj
  have hjl := (List.getElem?_eq_some_iff.1 hj).1
  have hm : 0 < m := by
    rcases Nat.eq_zero_or_pos m with h0 | h0
    · rw [h.1.1, h0] at hjl; simp at hjl
    · exact h0
  obtain ⟨g, cap', e, _⟩ := h.form hm
  simp only [Value.slice.injEq] at e
  obtain ⟨rfl, _, rfl⟩ := e
  exact ⟨g, 0, rfl, hY g rfl, by rw [Nat.zero_add]; exact h.cell hj, hm⟩

/-- An append onto a slice of the call's own: what it comes to. -/
theorem acts_appendR {o : Oper} {x y : Operand} {t e : TypeId} {z : Value} {s b : Nat} [hu : Und P t (.slice e)] [hi : Inf P e z s b] {X : Nat → Prop} {v : Value} {m : Nat} {xs : List Value} {A : Option Addr} {Y : Nat → Prop} {k c : Nat} {news : List Value}
    (ho : o.op = .call { callee := .builtin .append, args := #[x, y], argTypes := #[t, t] })
    (hz : z.cells.size = s) (hs : 0 < s) (hx : ev l x = some v) (hy : ev l y = some (.slice A k c)) (hO : Own w X e s v m xs)
    (hl : news.length = k * s) (hR : Rd w Y A k news) (h1 : ∀ u ∈ news, u.oneCell' = true) (hm : (m + k) * (b + 1) ≤ 140737488355328) (hX : ∀ k, X k → k < w.heap.size) :
    ∀ a V, Fr n l a → Dr w V → ∃ v' w', (execOp a.eval o).run P V = .ok (.value v') w' ∧ (Own w' X e s v' (m + k) (xs ++ news) ∧ Keep X w w' ∧ Keep (fun i => i < w.heap.size ∧ v.ownBlock ≠ some i) w w' ∧ (∀ i, v'.ownBlock = some i → v.ownBlock = some i ∨ w.heap.size ≤ i)) := by
  intro a V hf hdr
  by_cases hA : A = none
  · subst hA
    have hn0 : news = [] := by
      cases news with
      | nil => rfl
      | cons u r => obtain ⟨g, off, e, _⟩ := hR 0 u rfl; cases e
    subst hn0
    have hk0 : k = 0 := by
      simp only [List.length_nil] at hl
      rcases Nat.mul_eq_zero.1 hl.symm with h | h
      · exact h
      · omega
    subst hk0
    refine ⟨v, V, ?_, ?_, Keep.dr hdr, Keep.dr hdr, fun i h => .inl h⟩
    · obtain ⟨B, cap, rfl⟩ := hO.form'
      have hmc : m ≤ cap := by
        rcases hO.1.2 with ⟨h1, h2⟩ | ⟨_, _, _, h1, _, _, h2, _⟩
        · omega
        · simp only [Value.slice.injEq] at h1; omega
      have hun : ∀ d : TypeDesc, (match d with | .slice _ => True | _ => False) → (d matches .int _) = false := by intro d; cases d <;> simp
      have hr : (Builtin.append_ #[t, t] o.type #[.slice B m cap, .slice none 0 c]).run P V = .ok (.slice B m cap) V := by
        unfold Builtin.append_
        simp only [List.getElem?_toArray, List.getElem?_cons_zero, List.getElem?_cons_succ, Sem.run_bind, run_und (d := .slice e), Result.andThen_ok, run_sizeOf (t := e) (s := s), Sem.run_pure]
        simp [Builtin.lenOf, Builtin.firstCells, hmc, storeCells]
        cases B <;> rfl
      simp [execOp, ho, resolve, invoke, builtin, hf.ev hx, hf.ev hy, hr]
    · simpa using hO.dr hdr
  obtain ⟨ad, rfl⟩ := Option.ne_none_iff_exists'.1 hA
  have hc : ∀ j u, news[j]? = some u → w.cell? (ad.add j) = some u := by
    intro j u hj
    obtain ⟨g, off, e, _, h, _⟩ := hR j u hj
    obtain rfl := Option.some.inj e
    rw [add_at]; exact h
  obtain ⟨i, e1, e2, e3, e4⟩ := inf_ex hi
  have hm' : (m + k) * b + (m + k) ≤ 140737488355328 := by rw [← Nat.mul_succ]; exact hm
  have hO' := hO.dr hdr
  obtain ⟨v', w', hr, hown, hgr, _⟩ := run_append_own (P := P) V 0 t o.type e i z s b hu.h e1 e2 e3 e4 hz hs v m xs hO'.1 ad k c news hl (fun j u hj => by rw [hdr.cell]; exact hc j u hj) h1 (by unfold maxLen; omega) (by omega) (Nat.zero_le _)
  have hsz : V.heap.size = w.heap.size := hdr.size
  have hnew : ∀ j, v'.ownBlock = some j → v.ownBlock = some j ∨ V.heap.size ≤ j := by
    intro j hj
    rcases hO'.1.2 with ⟨hv, hm0⟩ | ⟨g0, cap, cur, hv, _, hg0, hnc, hcm, hcs, htake⟩
    · have hnil : V.ownsRow V.heap.size e s v m xs := by
        subst hm0; have hx0 : xs = [] := List.eq_nil_of_length_eq_zero (by simpa using hO'.1.1)
        subst hx0; rw [hv]; exact World.ownsRow_nil ..
      obtain ⟨v2, w2, hr2, hown2, _⟩ := run_append_own (P := P) V V.heap.size t o.type e i z s b hu.h e1 e2 e3 e4 hz hs v m xs hnil ad k c news hl (fun j u hj => by rw [hdr.cell]; exact hc j u hj) h1 (by unfold maxLen; omega) (by omega) (Nat.le_refl _)
      rw [hr] at hr2
      injection hr2 with ev _
      subst ev
      exact .inr (hown2.lt j hj).1
    · by_cases hroom : m + k ≤ cap
      · have hfit : m * i.size + news.length ≤ cur.size := by rw [hl, e3, hcs, ← Nat.add_mul]; exact Nat.mul_le_mul_right _ hroom
        have hr2 := run_append_room (P := P) V t o.type e i hu.h e1 g0 m cap cur hg0 ad k c news (by rw [e3]; exact hl) (fun j u hj => by rw [hdr.cell]; exact hc j u hj) h1 hroom hfit
        rw [hv] at hr
        rw [hr] at hr2
        injection hr2 with ev _
        subst ev
        rw [hv]
        exact .inl hj
      · have hO2 := hO'.1
        rw [hv] at hO2 hr
        have holds : ∀ j u, xs[j]? = some u → V.cell? ((⟨g0, 0, none⟩ : Addr).add j) = some u := hO2.cells (g := g0) rfl
        have hr2 := run_append_grow (P := P) V t o.type e i z hu.h e1 e2 ⟨g0, 0, none⟩ m cap xs (by rw [e3]; exact hO'.1.1) holds ad k c news (by rw [e3]; exact hl) (fun j u hj => by rw [hdr.cell]; exact hc j u hj) (by omega) (by omega) (by rw [e4]; exact growslice_fits (by omega) (by omega))
        rw [hr] at hr2
        injection hr2 with ev _
        subst ev
        exact .inr (by simp only [Value.ownBlock, Option.some.injEq] at hj; omega)
  refine ⟨v', w', ?_, ⟨hown, fun j hj => ?_⟩, ?_, ?_, fun j hj => hsz ▸ hnew j hj⟩
  · simp [execOp, ho, resolve, invoke, builtin, hf.ev hx, hf.ev hy, hr]
  · rcases hnew j hj with h2 | h2
    · exact hO.2 j h2
    · intro hXj; have := hX j hXj; omega
  · refine Keep.of_dr hdr ⟨hgr.os, hgr.tape, hgr.output, hgr.size, fun j hj => hgr.block j (by rw [hsz]; exact hX j hj) fun e => ?_⟩
    exact hO.2 j e.symm hj
  · refine Keep.of_dr hdr ⟨hgr.os, hgr.tape, hgr.output, hgr.size, fun j hj => hgr.block j (by rw [hsz]; exact hj.1) fun e => hj.2 e.symm⟩

/-- An append onto a slice of the call's own: what it comes to. -/
theorem acts_append {o : Oper} {x y : Operand} {t e : TypeId} {z : Value} {s b : Nat} [hu : Und P t (.slice e)] [hi : Inf P e z s b] {X : Nat → Prop} {v : Value} {m : Nat} {xs : List Value} {g k c : Nat} {news : List Value}
    (ho : o.op = .call { callee := .builtin .append, args := #[x, y], argTypes := #[t, t] })
    (hz : z.cells.size = s) (hs : 0 < s) (hx : ev l x = some v) (hy : ev l y = some (.slice (some ⟨g, 0, none⟩) k c)) (hO : Own w X e s v m xs)
    (hl : news.length = k * s) (hc : ∀ j u, news[j]? = some u → w.cell? ⟨g, j, none⟩ = some u) (h1 : ∀ u ∈ news, u.oneCell' = true) (hm : (m + k) * (b + 1) ≤ 140737488355328) (hX : ∀ k, X k → k < w.heap.size) :
    ∀ a V, Fr n l a → Dr w V → ∃ v' w', (execOp a.eval o).run P V = .ok (.value v') w' ∧ (Own w' X e s v' (m + k) (xs ++ news) ∧ Keep X w w' ∧ Keep (fun i => i < w.heap.size ∧ v.ownBlock ≠ some i) w w' ∧ (∀ i, v'.ownBlock = some i → v.ownBlock = some i ∨ w.heap.size ≤ i)) := by
  refine acts_appendR (Y := fun _ => True) ho hz hs hx hy hO hl (fun j u hj => ⟨g, 0, rfl, trivial, by rw [Nat.zero_add]; exact hc j u hj, ?_⟩) h1 hm hX
  have := (List.getElem?_eq_some_iff.1 hj).1
  rcases Nat.eq_zero_or_pos k with h0 | h0
  · rw [hl, h0] at this; simp at this
  · exact h0
/-- An append onto a slice of the call's own. -/
theorem Wl.append {Q : Exit → Act → World → Prop} {ops : Array Oper} {rest : List Oper} {o : Oper} {d : Nat} {x y : Operand} {t e : TypeId} {z : Value} {s b : Nat} [hu : Und P t (.slice e)] [hi : Inf P e z s b] {X : Nat → Prop} {v : Value} {m : Nat} {xs : List Value} {g k c : Nat} {news : List Value}
    (hw : want ops l o = some true) (hd : o.dst = some d) (hn : Nat.ble (d + 1) n.n = true) (ho : o.op = .call { callee := .builtin .append, args := #[x, y], argTypes := #[t, t] })
    (hz : z.cells.size = s) (hs : 0 < s) (hx : ev l x = some v) (hy : ev l y = some (.slice (some ⟨g, 0, none⟩) k c)) (hO : Own w X e s v m xs)
    (hl : news.length = k * s) (hc : ∀ j u, news[j]? = some u → w.cell? ⟨g, j, none⟩ = some u) (h1 : ∀ u ∈ news, u.oneCell' = true) (hm : (m + k) * (b + 1) ≤ 140737488355328) (hX : ∀ k, X k → k < w.heap.size)
    (h : ∀ v' w', Own w' X e s v' (m + k) (xs ++ news) → Keep X w w' → Keep (fun i => i < w.heap.size ∧ v.ownBlock ≠ some i) w w' → (∀ i, v'.ownBlock = some i → v.ownBlock = some i ∨ w.heap.size ≤ i) → Wl P ops rest Q n ((d, v') :: l) w') : Wl P ops (o :: rest) Q n l w := by
  refine Wl.acts (fun v' w' => Own w' X e s v' (m + k) (xs ++ news) ∧ Keep X w w' ∧ Keep (fun i => i < w.heap.size ∧ v.ownBlock ≠ some i) w w' ∧ (∀ i, v'.ownBlock = some i → v.ownBlock = some i ∨ w.heap.size ≤ i)) hw hd hn ?_ fun v' w' hh => h v' w' hh.1 hh.2.1 hh.2.2.1 hh.2.2.2
  exact acts_append ho hz hs hx hy hO hl hc h1 hm hX
theorem Wl.appendR {Q : Exit → Act → World → Prop} {ops : Array Oper} {rest : List Oper} {o : Oper} {d : Nat} {x y : Operand} {t e : TypeId} {z : Value} {s b : Nat} [hu : Und P t (.slice e)] [hi : Inf P e z s b] {X : Nat → Prop} {v : Value} {m : Nat} {xs : List Value} {A : Option Addr} {Y : Nat → Prop} {k c : Nat} {news : List Value}
    (hw : want ops l o = some true) (hd : o.dst = some d) (hn : Nat.ble (d + 1) n.n = true) (ho : o.op = .call { callee := .builtin .append, args := #[x, y], argTypes := #[t, t] })
    (hz : z.cells.size = s) (hs : 0 < s) (hx : ev l x = some v) (hy : ev l y = some (.slice A k c)) (hO : Own w X e s v m xs)
    (hl : news.length = k * s) (hR : Rd w Y A k news) (h1 : ∀ u ∈ news, u.oneCell' = true) (hm : (m + k) * (b + 1) ≤ 140737488355328) (hX : ∀ k, X k → k < w.heap.size)
    (h : ∀ v' w', Own w' X e s v' (m + k) (xs ++ news) → Keep X w w' → Keep (fun i => i < w.heap.size ∧ v.ownBlock ≠ some i) w w' → (∀ i, v'.ownBlock = some i → v.ownBlock = some i ∨ w.heap.size ≤ i) → Wl P ops rest Q n ((d, v') :: l) w') : Wl P ops (o :: rest) Q n l w := by
  refine Wl.acts (fun v' w' => Own w' X e s v' (m + k) (xs ++ news) ∧ Keep X w w' ∧ Keep (fun i => i < w.heap.size ∧ v.ownBlock ≠ some i) w w' ∧ (∀ i, v'.ownBlock = some i → v.ownBlock = some i ∨ w.heap.size ≤ i)) hw hd hn ?_ fun v' w' hh => h v' w' hh.1 hh.2.1 hh.2.2.1 hh.2.2.2
  exact acts_appendR ho hz hs hx hy hO hl hR h1 hm hX
section acts
variable {Q : Exit → Act → World → Prop} {ops : Array Oper} {rest : List Oper} {o : Oper} {d : Nat}
theorem cells_one {u : Value} (h : u.oneCell' = true) : u.cells = #[u] := by cases u <;> simp_all [Value.cells, Value.oneCell']
/-- A new variable that holds a value. -/
theorem Wl.box {x : Operand} {t : TypeId} {u : Value} (cs : List Value) (hw : want ops l o = some true) (hd : o.dst = some d) (hn : Nat.ble (d + 1) n.n = true) (ho : o.op = .box t x) (hx : ev l x = some u) (hcs : u.cells = cs.toArray)
    (h : ∀ b w1, b = w.heap.size → Row w1 b t cs → Keep (fun k => k < b) w w1 → w1.heap.size = b + 1 → Wl P ops rest Q n ((d, .pointer (some ⟨b, 0, none⟩)) :: l) w1) : Wl P ops (o :: rest) Q n l w := by
  refine Wl.act hw hd hn (act_box ho hx) (h _ _ rfl ?_ (Keep.alloc _ fun _ h => h) (by simp))
  rw [hcs]; exact Row.alloc_new ..
/-- A new variable at its type's zero. -/
theorem Wl.alloc {t : TypeId} {z : Value} {s b : Nat} [hi : Inf P t z s b] (cs : List Value) (hw : want ops l o = some true) (hd : o.dst = some d) (hn : Nat.ble (d + 1) n.n = true) (ho : o.op = .alloc t) (hcs : z.cells = cs.toArray)
    (h : ∀ b w1, b = w.heap.size → Row w1 b t cs → Keep (fun k => k < b) w w1 → w1.heap.size = b + 1 → Wl P ops rest Q n ((d, .pointer (some ⟨b, 0, none⟩)) :: l) w1) : Wl P ops (o :: rest) Q n l w := by
  refine Wl.act hw hd hn (act_alloc (z := z) ho) (h _ _ rfl ?_ (Keep.alloc _ fun _ h => h) (by simp))
  rw [hcs]; exact Row.alloc_new ..
theorem keep_ne {W : World} {g k : Nat} {u : Value} : Keep (fun j => j ≠ g) W (W.setCell ⟨g, k, none⟩ u) := Keep.setCell _ _ fun h => h rfl
theorem keep_nes {W : World} {g k : Nat} {us : List Value} : Keep (fun j => j ≠ g) W (Sx.setCells W g k us) := Keep.setCells (fun h => h rfl) us k W
theorem size_setCells {g : Nat} : ∀ (us : List Value) (k : Nat) (W : World), (Sx.setCells W g k us).heap.size = W.heap.size
  | [], _, _ => rfl
  | u :: r, k, W => by simp only [Sx.setCells]; rw [size_setCells r]; simp
/-- A store of one cell into a row. -/
theorem Wl.put {x y : Operand} {t t0 : TypeId} {z : Value} {b g k : Nat} {u u0 : Value} {cs : List Value} [hi : Inf P t z 1 b] (hR : Row w g t0 cs) (hw : want ops l o = some true) (hd : o.dst = none) (ho : o.op = .store t x y) (hx : ev l x = some (.pointer (some ⟨g, k, none⟩))) (hy : ev l y = some u) (h1 : u.oneCell' = true) (hk : cs[k]? = some u0)
    (h : ∀ w1, Row w1 g t0 (cs.set k u) → Keep (fun j => j ≠ g) w w1 → w1.heap.size = w.heap.size → Wl P ops rest Q n l w1) : Wl P ops (o :: rest) Q n l w :=
  Wl.act0 hw hd (act_store1 ho hx hy h1 (hR.cell hk) (hR.frozen k)) (h _ (hR.set k u) keep_ne (by simp))
/-- A store of one cell into an owned row. -/
theorem Wl.putO {x y : Operand} {t t0 : TypeId} {z : Value} {b s g k m cap : Nat} {u u0 : Value} {xs : List Value} {X : Nat → Prop} [hi : Inf P t z 1 b] (hR : Own w X t0 s (.slice (some ⟨g, 0, none⟩) m cap) m xs) (hw : want ops l o = some true) (hd : o.dst = none) (ho : o.op = .store t x y) (hx : ev l x = some (.pointer (some ⟨g, k, none⟩))) (hy : ev l y = some u) (h1 : u.oneCell' = true) (hk : xs[k]? = some u0)
    (h : ∀ w1, Own w1 X t0 s (.slice (some ⟨g, 0, none⟩) m cap) m (xs.set k u) → Keep (fun j => j ≠ g) w w1 → w1.heap.size = w.heap.size → Wl P ops rest Q n l w1) : Wl P ops (o :: rest) Q n l w :=
  Wl.act0 hw hd (act_store1 ho hx hy h1 (hR.cell hk) (hR.frozen k)) (h _ (hR.set k u) keep_ne (by simp))
/-- A store of a whole struct into its own variable. -/
theorem Wl.putAll {x y : Operand} {t t0 : TypeId} {z : Value} {s b g : Nat} {us cs : List Value} [hi : Inf P t z s b] (hR : Row w g t0 cs) (hw : want ops l o = some true) (hd : o.dst = none) (ho : o.op = .store t x y) (hx : ev l x = some (.pointer (some ⟨g, 0, none⟩))) (hy : ev l y = some (.agg us.toArray)) (hl : us.length = s) (hl2 : cs.length = us.length) (h1 : ∀ u ∈ us, u.oneCell' = true)
    (h : ∀ w1, Row w1 g t0 us → Keep (fun j => j ≠ g) w w1 → w1.heap.size = w.heap.size → Wl P ops rest Q n l w1) : Wl P ops (o :: rest) Q n l w := by
  refine Wl.act0 hw hd (act_storeAgg ho hx hy hl h1 (fun j hj => ⟨cs[j]'(by omega), hR.cell (by simp [show j < cs.length by omega])⟩) hR.frozen) (h _ ?_ keep_nes (size_setCells us 0 w))
  obtain ⟨ds, e1, e2, e3⟩ := Row.setCells us cs 0 w hR
  have e : ds = us := by
    apply List.ext_getElem?
    intro j
    rw [e3]
    by_cases hj : j < us.length
    · rw [if_pos ⟨by omega, by omega, by omega⟩, Nat.sub_zero]
    · rw [if_neg (by omega), List.getElem?_eq_none (by omega), List.getElem?_eq_none (by omega)]
  rw [e] at e1; exact e1
/-- A store of a struct of two cells into an owned row. -/
theorem Wl.putO2 {x y : Operand} {t t0 : TypeId} {z : Value} {b s g k m cap : Nat} {u v u0 v0 : Value} {xs : List Value} {X : Nat → Prop} [hi : Inf P t z 2 b] (hR : Own w X t0 s (.slice (some ⟨g, 0, none⟩) m cap) m xs) (hw : want ops l o = some true) (hd : o.dst = none) (ho : o.op = .store t x y) (hx : ev l x = some (.pointer (some ⟨g, k, none⟩))) (hy : ev l y = some (.agg #[u, v])) (h1 : u.oneCell' = true) (h2 : v.oneCell' = true) (hk : xs[k]? = some u0) (hk' : xs[k + 1]? = some v0)
    (h : ∀ w1, Own w1 X t0 s (.slice (some ⟨g, 0, none⟩) m cap) m ((xs.set k u).set (k + 1) v) → Keep (fun j => j ≠ g) w w1 → w1.heap.size = w.heap.size → Wl P ops rest Q n l w1) : Wl P ops (o :: rest) Q n l w := by
  refine Wl.act0 hw hd (act_storeAgg (cs := [u, v]) ho hx hy rfl (by simp [h1, h2]) (fun j hj => ?_) hR.frozen) (h _ ((hR.set k u).set (k + 1) v) keep_nes (size_setCells [u, v] k w))
  match j, hj with
  | 0, _ => exact ⟨u0, hR.cell hk⟩
  | 1, _ => exact ⟨v0, hR.cell hk'⟩
/-- A load of a struct of two cells. -/
theorem val_load2 {x : Operand} {t : TypeId} {td : TypeDesc} {z : Value} {b g k : Nat} {u v : Value} [hu : Und P t td] [hs : Inf P t z 2 b] (ho : o.op = .load t x) (hx : ev l x = some (.pointer (some ⟨g, k, none⟩))) (h0 : w.cell? ⟨g, k, none⟩ = some u) (h1 : w.cell? ⟨g, k + 1, none⟩ = some v) (hd : aggB td = true := by rfl) : Val P l n o w (.agg #[u, v]) := by
  refine val_loadAgg [u, v] ho hx rfl (fun j y hj => ?_) hd
  match j, hj with
  | 0, hj => simp at hj; subst hj; exact h0
  | 1, hj => simp at hj; subst hj; exact h1
/-- A struct of two one-cell fields. -/
theorem val_build2 {x y : Operand} {t : TypeId} {f0 f1 : Field} {z : Value} {s0 s1 bb b0 b1 : Nat} {z0 z1 u v : Value} [hu : Und P t (.struct #[f0, f1])] [hz : Inf P t z 2 bb] [hi0 : Inf P f0.type z0 s0 b0] [hi1 : Inf P f1.type z1 s1 b1] (ho : o.op = .build t #[(0, x), (1, y)]) (e0 : f0.offset = 0) (e1 : f1.offset = 1) (es0 : s0 = 1) (es1 : s1 = 1) (ez : ∃ p q, z = .agg #[p, q]) (hx : ev l x = some u) (hy : ev l y = some v) (h1 : u.oneCell' = true) (h2 : v.oneCell' = true) : Val P l n o w (.agg #[u, v]) := by
  intro a V hf _
  obtain ⟨p, q, rfl⟩ := ez
  subst es0 es1
  have hc : (Value.agg #[p, q]).cells = #[p, q] := rfl
  have hfill : Instr.fill (fun i => [(0, 1), (1, 1)][i]?) #[p, q] [(0, u), (1, v)] = some #[u, v] := by simp [Instr.fill, cells_one h1, cells_one h2]
  simp [execOp, ho, Instr.build, run_zeroValue (z := .agg #[p, q]), run_und (d := .struct #[f0, f1]), hc, hf.ev hx, hf.ev hy, run_sizeOf (t := f0.type) (s := 1), run_sizeOf (t := f1.type) (s := 1), e0, e1, hfill]
theorem range1 : Array.range 1 = #[0] := rfl
theorem range2 : Array.range 2 = #[0, 1] := rfl
theorem run_buildSlice {t e : TypeId} {z : Value} {s b k : Nat} {parts : Array (Nat × Value)} {cs : List Value} [hu : Und P t (.slice e)] [hs : Inf P e z s b] (hk : Nat.ble (k * s) 16777216 = true) (hf : Instr.fill (fun i => some (i * s, s)) ((Array.range (k * s)).map ((if k * s = 0 then #[] else z.cells)[· % (if k * s = 0 then #[] else z.cells).size]!)) parts.toList = some cs.toArray) (V : World) :
    (Instr.buildSlice t k parts).run P V = .ok (.slice (some ⟨V.heap.size, 0, none⟩) k k) (V.alloc (.cells cs.toArray e)) := by
  have hk' : ¬ (k * s > 2 ^ 24) := by have := Nat.le_of_ble_eq_true hk; omega
  unfold Instr.buildSlice
  simp only [Sem.run_bind, run_und (d := .slice e), Result.andThen_ok, run_sizeOf (t := e) (s := s), hk', if_false]
  by_cases h0 : k * s = 0
  · simp only [h0, if_true] at hf ⊢
    simp only [Sem.run_pure, Result.andThen_ok, Sem.run_bind]
    rw [hf]
    simp [newRow]
  · simp only [h0, if_false] at hf ⊢
    simp only [Sem.run_pure, Result.andThen_ok, Sem.run_bind, run_zeroValue (z := z)]
    rw [hf]
    simp [newRow]
/-- A new slice without elements. -/
theorem Wl.slice0 {t e : TypeId} {z : Value} {s b : Nat} [hu : Und P t (.slice e)] [hs : Inf P e z s b] (hw : want ops l o = some true) (hd : o.dst = some d) (hn : Nat.ble (d + 1) n.n = true) (ho : o.op = .buildSlice t 0 #[])
    (h : ∀ b w1, b = w.heap.size → Row w1 b e [] → Keep (fun k => k < b) w w1 → w1.heap.size = b + 1 → Wl P ops rest Q n ((d, .slice (some ⟨b, 0, none⟩) 0 0) :: l) w1) : Wl P ops (o :: rest) Q n l w := by
  refine Wl.act hw hd hn (w' := w.alloc (.cells [].toArray e)) ?_ (h _ _ rfl (Row.alloc_new ..) (Keep.alloc _ fun _ h => h) (by simp))
  intro a V hf hdr
  refine ⟨V.alloc (.cells [].toArray e), ?_, hdr.alloc _⟩
  have hr := run_buildSlice (P := P) (t := t) (e := e) (k := 0) (parts := #[]) (cs := []) (by simp) (by simp [Instr.fill]) V
  simp [execOp, ho, hr, hdr.size]
/-- A new slice of one element of one cell. -/
theorem Wl.slice1 {x : Operand} {t e : TypeId} {z u : Value} {b : Nat} [hu : Und P t (.slice e)] [hs : Inf P e z 1 b] (hw : want ops l o = some true) (hd : o.dst = some d) (hn : Nat.ble (d + 1) n.n = true) (ho : o.op = .buildSlice t 1 #[(0, x)]) (hx : ev l x = some u) (hz : z.oneCell' = true) (h1 : u.oneCell' = true)
    (h : ∀ b w1, b = w.heap.size → Row w1 b e [u] → Keep (fun k => k < b) w w1 → w1.heap.size = b + 1 → Wl P ops rest Q n ((d, .slice (some ⟨b, 0, none⟩) 1 1) :: l) w1) : Wl P ops (o :: rest) Q n l w := by
  refine Wl.act hw hd hn (w' := w.alloc (.cells [u].toArray e)) ?_ (h _ _ rfl (Row.alloc_new ..) (Keep.alloc _ fun _ h => h) (by simp))
  intro a V hf hdr
  refine ⟨V.alloc (.cells [u].toArray e), ?_, hdr.alloc _⟩
  have hr := run_buildSlice (P := P) (t := t) (e := e) (k := 1) (parts := #[(0, u)]) (cs := [u]) (by simp) (by simp [Instr.fill, cells_one h1, cells_one hz, range1]) V
  simp [execOp, ho, hr, hdr.size, hf.ev hx]
/-- A new slice of one element of two cells. -/
theorem Wl.slice2 {x : Operand} {t e : TypeId} {z0 z1 u v : Value} {b : Nat} [hu : Und P t (.slice e)] [hs : Inf P e (.agg #[z0, z1]) 2 b] (hw : want ops l o = some true) (hd : o.dst = some d) (hn : Nat.ble (d + 1) n.n = true) (ho : o.op = .buildSlice t 1 #[(0, x)]) (hx : ev l x = some (.agg #[u, v]))
    (h : ∀ b w1, b = w.heap.size → Row w1 b e [u, v] → Keep (fun k => k < b) w w1 → w1.heap.size = b + 1 → Wl P ops rest Q n ((d, .slice (some ⟨b, 0, none⟩) 1 1) :: l) w1) : Wl P ops (o :: rest) Q n l w := by
  refine Wl.act hw hd hn (w' := w.alloc (.cells [u, v].toArray e)) ?_ (h _ _ rfl (Row.alloc_new ..) (Keep.alloc _ fun _ h => h) (by simp))
  intro a V hf hdr
  refine ⟨V.alloc (.cells [u, v].toArray e), ?_, hdr.alloc _⟩
  have hr := run_buildSlice (P := P) (t := t) (e := e) (k := 1) (parts := #[(0, .agg #[u, v])]) (cs := [u, v]) (by simp) (by simp [Instr.fill, Value.cells, range2]) V
  simp [execOp, ho, hr, hdr.size, hf.ev hx]
end acts

/-! ### What came in -/
def ints (zs : List Int) : List Value := zs.map (Value.int .i64)
theorem ints_get {zs : List Int} {i : Nat} (h : i < zs.length) : (ints zs)[i]? = some (.int .i64 zs[i]) := by simp [ints, h]
theorem ints_len (zs : List Int) : (ints zs).length = zs.length := by simp [ints]
theorem ints_append (xs ys : List Int) : ints (xs ++ ys) = ints xs ++ ints ys := by simp [ints]
theorem ints_one (zs : List Int) : ∀ u ∈ ints zs, u.oneCell' = true := by intro u hu; simp only [ints, List.mem_map] at hu; obtain ⟨z, _, rfl⟩ := hu; rfl
theorem ints_set (zs : List Int) (i : Nat) (z : Int) : (ints zs).set i (.int .i64 z) = ints (zs.set i z) := by simp [ints, List.map_set]
/-! ### More operations -/
def bt (s : ByteArray) (i : Nat) : Nat := (s.data.toList.getD i 0).toNat
theorem bt_lt (s : ByteArray) (i : Nat) : bt s i < 256 := (s.data.toList.getD i 0).toNat_lt
theorem val_indexString {o : Oper} {x i : Operand} {t : TypeId} {s : ByteArray} {k : IntKind} {m : Int} [hu : Und P t .string] (ho : o.op = .index t x i) (hx : ev l x = some (.string s)) (hi : ev l i = some (.int k m)) (h0 : 0 ≤ m) (h1 : m < s.size) : Val P l n o w (.int .u8 (bt s m.toNat)) := by
  intro a v hf _
  have hlt : m.toNat < s.size := by omega
  have e : s[m.toNat]? = some s[m.toNat] := by simp [hlt]
  have e2 : (s[m.toNat].toNat : Int) = (bt s m.toNat : Int) := by
    unfold bt
    have : s.data.toList[m.toNat]? = some s[m.toNat] := by
      rw [List.getElem?_eq_getElem (by simpa using hlt)]; rfl
    rw [List.getD_eq_getElem?_getD, this]; rfl
  simp only [execOp, ho, Instr.index, hf.ev hx, hf.ev hi, asIntOf]
  simp only [Sem.run_bind, run_und (d := .string), Sem.run_pure, Result.andThen_ok, h0, if_true, e]
  rw [← e2]
theorem val_indexStringN {o : Oper} {x i : Operand} {t : TypeId} {s : ByteArray} {k : IntKind} {m : Nat} [hu : Und P t .string] (ho : o.op = .index t x i) (hx : ev l x = some (.string s)) (hi : ev l i = some (.int k (m : Int))) (h1 : m < s.size) : Val P l n o w (.int .u8 (bt s m)) := val_indexString (m := (m : Int)) ho hx hi (by omega) (by omega)
theorem val_build0 {o : Oper} {t : TypeId} {z : Value} {fs : Array Field} {s b : Nat} {cs : List Value} [hu : Und P t (.struct fs)] [hz : Inf P t z s b] (ho : o.op = .build t #[]) (hcs : z = .agg cs.toArray) (hm : ∀ v : World, ∃ ps, ((fs.mapM fun f => do pure (f.offset, ← sizeOf f.type) : Sem (Array (Nat × Nat)))).run P v = .ok ps v) : Val P l n o w (.agg cs.toArray) := by
  intro a v hf _
  subst hcs
  obtain ⟨ps, hps⟩ := hm v
  simp only [execOp, ho, Instr.build]
  simp only [Sem.run_bind, run_zeroValue (z := .agg cs.toArray), run_und (d := .struct fs), Result.andThen_ok, hps]
  simp [Instr.fill, Value.cells]
def reps (zs : List Value) : Nat → List Value
  | 0 => []
  | k + 1 => zs ++ reps zs k
theorem reps_len (zs : List Value) (k : Nat) : (reps zs k).length = k * zs.length := by
  induction k with
  | zero => simp [reps]
  | succ k ih => simp only [reps, List.length_append, ih, Nat.succ_mul]; omega
theorem reps_get (zs : List Value) (k j : Nat) (h : j < k * zs.length) : (reps zs k)[j]? = zs[j % zs.length]? := by
  induction k generalizing j with
  | zero => simp at h
  | succ k ih =>
    simp only [reps]
    have hz : 0 < zs.length := by
      rcases Nat.eq_zero_or_pos zs.length with h0 | h0
      · rw [h0] at h; simp at h
      · exact h0
    by_cases hj : j < zs.length
    · rw [List.getElem?_append_left hj, Nat.mod_eq_of_lt hj]
    · rw [List.getElem?_append_right (by omega), ih _ (by rw [Nat.succ_mul] at h; omega)]
      congr 1
      rw [Nat.mod_eq_sub_mod (a := j) (by omega)]
theorem reps_one (z : Value) (k : Nat) : reps [z] k = List.replicate k z := by
  induction k with
  | zero => rfl
  | succ k ih => simp [reps, ih, List.replicate_succ]
theorem reps_ints (k : Nat) : reps [.int .i64 0] k = ints (List.replicate k 0) := by rw [reps_one]; simp [ints]
theorem made_eq (zs : List Value) (k : Nat) (hz : 0 < zs.length) : (madeCells zs.toArray (k * zs.length)).toList = reps zs k := by
  apply List.ext_getElem?
  intro j
  by_cases hj : j < k * zs.length
  · rw [reps_get zs k j hj]
    have hm : j % zs.length < zs.length := Nat.mod_lt _ hz
    simp [madeCells, hj, hm]
  · rw [List.getElem?_eq_none (by simp [madeCells]; omega), List.getElem?_eq_none (by rw [reps_len]; omega)]
/-- 'make([]T, k)'. -/
theorem act_make {o : Oper} {x y : Operand} {t e : TypeId} {z : Value} {s b k : Nat} {kl kc : IntKind} {zs : List Value} [hu : Und P t (.slice e)] [hi : Inf P e z s b] (ho : o.op = .makeSlice t x y) (hx : ev l x = some (.int kl (k : Int))) (hy : ev l y = some (.int kc (k : Int))) (hz : z.cells = zs.toArray) (hs : zs.length = s) (h0 : 0 < s) (hk : k * b ≤ 281474976710656) (hm : k ≤ 140737488355328) :
    Act1 P l n o w (.slice (some ⟨w.heap.size, 0, none⟩) k k) (w.alloc (.cells (reps zs k).toArray e)) := by
  intro a V hf hd
  obtain ⟨i, e1, e2, e3, e4⟩ := inf_ex hi
  have h63 : (k : Int) ≤ 9223372036854775807 := by omega
  have hb : (i.bytes : Int) * (k : Int) ≤ 281474976710656 := by
    rw [e4]
    have h : ((b * k : Nat) : Int) ≤ 281474976710656 := by rw [Nat.mul_comm]; omega
    rwa [Int.natCast_mul] at h
  have hr := run_make (P := P) V t e i z hu.h e1 e2 kl kc k k (by omega) (Int.le_refl _) hb h63
  simp only [Int.toNat_natCast] at hr
  have hcells : madeCells z.cells (k * i.size) = (reps zs k).toArray := by
    rw [e3, ← hs, hz]
    apply Array.toList_inj.1
    rw [made_eq zs k (by omega)]
  rw [hcells] at hr
  refine ⟨V.alloc (.cells (reps zs k).toArray e), ?_, hd.alloc _⟩
  simp [execOp, ho, hf.ev hx, hf.ev hy, hr, hd.size]
theorem Own.of_row {W : World} {X : Nat → Prop} {t : TypeId} {s g k : Nat} {cs : List Value} (hR : Row W g t cs) (hl : cs.length = k * s) (hX : ¬ X g) (hk : k ≤ 140737488355328) : Own W X t s (.slice (some ⟨g, 0, none⟩) k k) k cs := by
  refine ⟨⟨hl, .inr ⟨g, k, cs.toArray, rfl, Nat.zero_le _, hR, Nat.le_refl _, by unfold maxLen; omega, by simpa using hl, ?_⟩⟩, fun j hj => ?_⟩
  · simp only; rw [List.take_of_length_le (by omega)]
  · simp only [Value.ownBlock, Option.some.injEq] at hj; subst hj; exact hX
theorem Wl.make {Q : Exit → Act → World → Prop} {ops : Array Oper} {rest : List Oper} {o : Oper} {d : Nat} {x y : Operand} {t e : TypeId} {z : Value} {s b k : Nat} {kl kc : IntKind} (zs : List Value) [hu : Und P t (.slice e)] [hi : Inf P e z s b] (hw : want ops l o = some true) (hd : o.dst = some d) (hn : Nat.ble (d + 1) n.n = true) (ho : o.op = .makeSlice t x y) (hx : ev l x = some (.int kl (k : Int))) (hy : ev l y = some (.int kc (k : Int))) (hz : z.cells = zs.toArray) (hs : zs.length = s) (h0 : 0 < s) (hk : k * b ≤ 281474976710656) (hm : k ≤ 140737488355328)
    (h : ∀ g w1, g = w.heap.size → Row w1 g e (reps zs k) → Keep (fun k => k < g) w w1 → w1.heap.size = g + 1 → Wl P ops rest Q n ((d, .slice (some ⟨g, 0, none⟩) k k) :: l) w1) : Wl P ops (o :: rest) Q n l w :=
  Wl.act hw hd hn (act_make ho hx hy hz hs h0 hk hm) (h _ _ rfl (Row.alloc_new ..) (Keep.alloc _ fun _ h => h) (by simp))
/-- A result that lies in memory. -/
theorem finC {m : Nat} {fn : Func} {R : Value → World → Prop} {e : Exit} {t ty : Nat} {td : TypeDesc} {z : Value} {s b g : Nat} {cs : List Value} [hu : Und P ty td] [hi : Inf P ty z s b] {tt : TypeId} (hR : Row w g tt cs) (he : e = .ret ∨ e = .normal) (hr : fn.results = #[.cell t ty]) (hx : get l t = some (.pointer (some ⟨g, 0, none⟩))) (hl : cs.length = s) (h : ∀ v, Dr w v → R (.agg cs.toArray) v) (hd : aggB td = true := by rfl) : Ex e (bodyPost P fn fun e w' => ∃ x, e = .returned x ∧ R x w') ⟨m, []⟩ l w := by
  intro a v hf hdr
  have hRv := hdr.row hR
  have hlc := run_loadCells_list (P := P) (w := v) (⟨g, 0, none⟩ : Addr) cs (fun j u hj => by rw [add_at, Nat.zero_add]; exact hRv.cell hj)
  have hload : (loadVar ty ⟨g, 0, none⟩).run P v = .ok (.agg cs.toArray) v := by
    simp [loadVar, run_isAgg (d := td), hd, run_sizeOf (s := s), ← hl, hlc]
  have hres : (results fn a.tmps).run P v = .ok (.agg cs.toArray) v := by
    simp [results, hr, hf.at_ t _ hx, asAddr, hload]
  have hh : a.defers = [] ∧ ∃ u, (results fn a.tmps).run P v = .ok u v ∧ ∃ x, Ending.returned u = .returned x ∧ R x v := ⟨hf.defers, _, hres, _, rfl, h v hdr⟩
  rcases he with rfl | rfl <;> exact hh

/-- Structs of two whole numbers, compared. -/
class Eq2 (P : Program) (t : TypeId) : Prop where
  h : ∃ f0 f1 : Field, ∃ k0 k1 : IntKind, P.underlying t = some (.struct (P.fieldsOf t)) ∧ (P.fieldsOf t).toList = [f0, f1] ∧ P.stoodInHeld t = false ∧ P.eqGuardType P.depth t = false ∧ f0.name ≠ "_" ∧ f1.name ≠ "_" ∧ f0.offset = 0 ∧ f1.offset = 1 ∧ P.underlying f0.type = some (.int k0) ∧ P.underlying f1.type = some (.int k1)
theorem run_part {t : TypeId} {d : TypeDesc} (hu : P.underlying t = some d) (hd : aggB d = false) {cs : Array Value} {i : Nat} {u : Value} (hc : cs[i]? = some u) (v : World) : (part t cs i).run P v = .ok u v := by
  have hi : (isAgg t).run P v = .ok false v := by
    have := @run_isAgg P t d ⟨hu⟩ v
    rw [hd] at this; exact this
  simp [part, hi, hc]
theorem run_eq2 {t : TypeId} [hE : Eq2 P t] (k0 k1 : IntKind) (a b c d : Int) (v : World) : (Op.equalIn 10000 t (.agg #[.int k0 a, .int k1 b]) (.agg #[.int k0 c, .int k1 d])).run P v = .ok (decide (a = c) && decide (b = d)) v := by
  obtain ⟨f0, f1, q0, q1, h1, h2, h3, h4, n0, n1, o0, o1, u0, u1⟩ := hE.h
  rw [run_equalIn_struct (P := P) v 9999 t _ _ h1 h3, h2]
  have p0 : ∀ (x y : Int), (part f0.type #[.int k0 x, .int k1 y] f0.offset).run P v = .ok (.int k0 x) v := fun x y => run_part u0 rfl (by rw [o0]; rfl) v
  have p1 : ∀ (x y : Int), (part f1.type #[.int k0 x, .int k1 y] f1.offset).run P v = .ok (.int k1 y) v := fun x y => run_part u1 rfl (by rw [o1]; rfl) v
  have e0 := run_equalIn_int (P := P) v 9998 f0.type k0 q0 a c u0
  have e1 := run_equalIn_int (P := P) v 9998 f1.type k1 q1 b d u1
  simp only [Op.eqFields, ne_eq, n0, n1, not_false_eq_true, if_true, Sem.run_bind, p0, p1, Result.andThen_ok, e0, e1, Sem.run_ite, Sem.run_pure]
  by_cases ha : a = c
  · by_cases hb : b = d
    · simp [ha, hb]
    · simp [ha, hb]
  · simp [ha]
theorem val_eql2 {o : Oper} {x y : Operand} {t t' : TypeId} {k0 k1 : IntKind} {a b c d : Int} [hE : Eq2 P t] (ho : o.op = .binOp .eql t x y t') (hx : ev l x = some (.agg #[.int k0 a, .int k1 b])) (hy : ev l y = some (.agg #[.int k0 c, .int k1 d])) : Val P l n o w (.bool (decide (a = c) && decide (b = d))) := by
  intro A v hf _
  obtain ⟨_, _, _, _, _, _, _, h4, _⟩ := hE.h
  simp only [execOp, ho, hf.ev hx, hf.ev hy]
  simp only [Sem.run_bind, run_eqGuard_agg (P := P) v .eql t x y _ _ h4, Result.andThen_ok, run_eql_struct, run_eq2 (P := P)]
  rfl
theorem val_neq2 {o : Oper} {x y : Operand} {t t' : TypeId} {k0 k1 : IntKind} {a b c d : Int} [hE : Eq2 P t] (ho : o.op = .binOp .neq t x y t') (hx : ev l x = some (.agg #[.int k0 a, .int k1 b])) (hy : ev l y = some (.agg #[.int k0 c, .int k1 d])) : Val P l n o w (.bool (!(decide (a = c) && decide (b = d)))) := by
  intro A v hf _
  obtain ⟨_, _, _, _, _, _, _, h4, _⟩ := hE.h
  simp only [execOp, ho, hf.ev hx, hf.ev hy]
  simp only [Sem.run_bind, run_eqGuard_agg (P := P) v .neq t x y _ _ h4, Result.andThen_ok, run_neq_struct, run_eq2 (P := P)]
  rfl
end
/-! ### Short names of the steps that need no thought -/
section
variable {P : Program} {Q : Exit → Act → World → Prop} {n : Sz} {l : L} {w : World} {ops : Array Oper} {o : Oper} {rest : List Oper} {d : Nat}
theorem Wl.p {x : Value} (hw : want ops l o = some true) (hd : o.dst = some d) (hn : Nat.ble (d + 1) n.n = true) (hv : pureVal l o.op = some x) (h : Wl P ops rest Q n ((d, x) :: l) w) : Wl P ops (o :: rest) Q n l w := Wl.val hw hd hn (val_pure hv) h
theorem Wl.f {x : Operand} {t : TypeId} {f off g k : Nat} [hF : Fld P t f off] (hw : want ops l o = some true) (hd : o.dst = some d) (hn : Nat.ble (d + 1) n.n = true) (ho : o.op = .fieldAddr t x f) (hx : ev l x = some (.pointer (some ⟨g, k, none⟩))) (h : Wl P ops rest Q n ((d, .pointer (some ⟨g, k + off, none⟩)) :: l) w) : Wl P ops (o :: rest) Q n l w := Wl.val hw hd hn (val_fieldAddr ho hx) h
theorem Wl.z {x : Operand} {t : TypeId} {e : TypeId} {A : Option Addr} {len cap : Nat} [hu : Und P t (.slice e)] (hw : want ops l o = some true) (hd : o.dst = some d) (hn : Nat.ble (d + 1) n.n = true) (ho : o.op = .call { callee := .builtin .len, args := #[x], argTypes := #[t] }) (hx : ev l x = some (.slice A len cap)) (h : Wl P ops rest Q n ((d, .int .i64 len) :: l) w) : Wl P ops (o :: rest) Q n l w := Wl.val hw hd hn (val_len_slice ho hx) h
theorem Wl.c {x : Operand} {t t' : TypeId} {td : TypeDesc} {k k' : IntKind} {m : Int} [hu : Und P t td] [hv : Und P t' (.int k')] (hw : want ops l o = some true) (hd : o.dst = some d) (hn : Nat.ble (d + 1) n.n = true) (ho : o.op = .convert t t' x) (hx : ev l x = some (.int k m)) (h : Wl P ops rest Q n ((d, .int k' (k'.wrap m)) :: l) w) : Wl P ops (o :: rest) Q n l w := Wl.val hw hd hn (val_convert ho hx) h
theorem Wl.x {x i : Operand} {t e : TypeId} {z : Value} {s b g off len cap : Nat} {k : IntKind} {m : Nat} [hu : Und P t (.slice e)] [hs : Inf P e z s b] (hw : want ops l o = some true) (hd : o.dst = some d) (hn : Nat.ble (d + 1) n.n = true) (ho : o.op = .indexAddr t x i) (hx : ev l x = some (.slice (some ⟨g, off, none⟩) len cap)) (hi : ev l i = some (.int k (m : Int))) (h1 : m < len) (h : Wl P ops rest Q n ((d, .pointer (some ⟨g, off + m * s, none⟩)) :: l) w) : Wl P ops (o :: rest) Q n l w := Wl.val hw hd hn (val_indexAddrN ho hx hi h1) h
theorem Wl.y {x i : Operand} {t e : TypeId} {z : Value} {s b g off len cap : Nat} {k : IntKind} {m : Int} [hu : Und P t (.slice e)] [hs : Inf P e z s b] (hw : want ops l o = some true) (hd : o.dst = some d) (hn : Nat.ble (d + 1) n.n = true) (ho : o.op = .indexAddr t x i) (hx : ev l x = some (.slice (some ⟨g, off, none⟩) len cap)) (hi : ev l i = some (.int k m)) (h0 : 0 ≤ m) (h1 : m < len) (h : Wl P ops rest Q n ((d, .pointer (some ⟨g, off + m.toNat * s, none⟩)) :: l) w) : Wl P ops (o :: rest) Q n l w := Wl.val hw hd hn (val_indexAddr ho hx hi h0 h1) h
theorem Wl.r {x : Operand} {t : TypeId} {td : TypeDesc} {ad : Addr} {u : Value} [hu : Und P t td] (hw : want ops l o = some true) (hd : o.dst = some d) (hn : Nat.ble (d + 1) n.n = true) (ho : o.op = .load t x) (hx : ev l x = some (.pointer (some ad))) (hc : w.cell? ad = some u) (h : Wl P ops rest Q n ((d, u) :: l) w) (ha : aggB td = false := by rfl) : Wl P ops (o :: rest) Q n l w := Wl.val hw hd hn (val_load1 ho hx hc ha) h
theorem Wl.e {x : Operand} {t : TypeId} {td : TypeDesc} {z : Value} {b g k : Nat} {u v : Value} [hu : Und P t td] [hs : Inf P t z 2 b] (hw : want ops l o = some true) (hd : o.dst = some d) (hn : Nat.ble (d + 1) n.n = true) (ho : o.op = .load t x) (hx : ev l x = some (.pointer (some ⟨g, k, none⟩))) (h0 : w.cell? ⟨g, k, none⟩ = some u) (h1 : w.cell? ⟨g, k + 1, none⟩ = some v) (h : Wl P ops rest Q n ((d, .agg #[u, v]) :: l) w) (ha : aggB td = true := by rfl) : Wl P ops (o :: rest) Q n l w := Wl.val hw hd hn (val_load2 ho hx h0 h1 ha) h
theorem Wl.b {x : Operand} {t : TypeId} {td : TypeDesc} {u : Value} [hu : Und P t td] (hw : want ops l o = some true) (hd : o.dst = some d) (hn : Nat.ble (d + 1) n.n = true) (ho : o.op = .makeInterface t x) (hx : ev l x = some u) (h : Wl P ops rest Q n ((d, .iface t u) :: l) w) (ha : (match td with | .interface _ => false | _ => true) = true := by rfl) : Wl P ops (o :: rest) Q n l w := Wl.val hw hd hn (val_iface ho hx ha) h
theorem Wl.a {x : Operand} {tx t : TypeId} {td : TypeDesc} {u : Value} [hu : Und P t td] (hw : want ops l o = some true) (hd : o.dst = some d) (hn : Nat.ble (d + 1) n.n = true) (ho : o.op = .typeAssert x tx t true) (hx : ev l x = some (.iface t u)) (h : Wl P ops rest Q n ((d, .tuple #[u, .bool true]) :: l) w) (ha : (match td with | .interface _ => false | _ => true) = true := by rfl) : Wl P ops (o :: rest) Q n l w := Wl.val hw hd hn (val_assert ho hx ha) h
theorem Wq.p {x : Value} (hw : want ops l o = some true) (hd : o.dst = some d) (hn : Nat.ble (d + 1) n.n = true) (hv : pureVal l o.op = some x) (h : Wq P ops rest Q n ((d, x) :: l) w) : Wq P ops (o :: rest) Q n l w := Wq.val hw hd hn (val_pure hv) h
theorem Wq.f {x : Operand} {t : TypeId} {f off g k : Nat} [hF : Fld P t f off] (hw : want ops l o = some true) (hd : o.dst = some d) (hn : Nat.ble (d + 1) n.n = true) (ho : o.op = .fieldAddr t x f) (hx : ev l x = some (.pointer (some ⟨g, k, none⟩))) (h : Wq P ops rest Q n ((d, .pointer (some ⟨g, k + off, none⟩)) :: l) w) : Wq P ops (o :: rest) Q n l w := Wq.val hw hd hn (val_fieldAddr ho hx) h
theorem Wq.z {x : Operand} {t : TypeId} {e : TypeId} {A : Option Addr} {len cap : Nat} [hu : Und P t (.slice e)] (hw : want ops l o = some true) (hd : o.dst = some d) (hn : Nat.ble (d + 1) n.n = true) (ho : o.op = .call { callee := .builtin .len, args := #[x], argTypes := #[t] }) (hx : ev l x = some (.slice A len cap)) (h : Wq P ops rest Q n ((d, .int .i64 len) :: l) w) : Wq P ops (o :: rest) Q n l w := Wq.val hw hd hn (val_len_slice ho hx) h
theorem Wq.c {x : Operand} {t t' : TypeId} {td : TypeDesc} {k k' : IntKind} {m : Int} [hu : Und P t td] [hv : Und P t' (.int k')] (hw : want ops l o = some true) (hd : o.dst = some d) (hn : Nat.ble (d + 1) n.n = true) (ho : o.op = .convert t t' x) (hx : ev l x = some (.int k m)) (h : Wq P ops rest Q n ((d, .int k' (k'.wrap m)) :: l) w) : Wq P ops (o :: rest) Q n l w := Wq.val hw hd hn (val_convert ho hx) h
theorem Wq.x {x i : Operand} {t e : TypeId} {z : Value} {s b g off len cap : Nat} {k : IntKind} {m : Nat} [hu : Und P t (.slice e)] [hs : Inf P e z s b] (hw : want ops l o = some true) (hd : o.dst = some d) (hn : Nat.ble (d + 1) n.n = true) (ho : o.op = .indexAddr t x i) (hx : ev l x = some (.slice (some ⟨g, off, none⟩) len cap)) (hi : ev l i = some (.int k (m : Int))) (h1 : m < len) (h : Wq P ops rest Q n ((d, .pointer (some ⟨g, off + m * s, none⟩)) :: l) w) : Wq P ops (o :: rest) Q n l w := Wq.val hw hd hn (val_indexAddrN ho hx hi h1) h
theorem Wq.y {x i : Operand} {t e : TypeId} {z : Value} {s b g off len cap : Nat} {k : IntKind} {m : Int} [hu : Und P t (.slice e)] [hs : Inf P e z s b] (hw : want ops l o = some true) (hd : o.dst = some d) (hn : Nat.ble (d + 1) n.n = true) (ho : o.op = .indexAddr t x i) (hx : ev l x = some (.slice (some ⟨g, off, none⟩) len cap)) (hi : ev l i = some (.int k m)) (h0 : 0 ≤ m) (h1 : m < len) (h : Wq P ops rest Q n ((d, .pointer (some ⟨g, off + m.toNat * s, none⟩)) :: l) w) : Wq P ops (o :: rest) Q n l w := Wq.val hw hd hn (val_indexAddr ho hx hi h0 h1) h
theorem Wq.r {x : Operand} {t : TypeId} {td : TypeDesc} {ad : Addr} {u : Value} [hu : Und P t td] (hw : want ops l o = some true) (hd : o.dst = some d) (hn : Nat.ble (d + 1) n.n = true) (ho : o.op = .load t x) (hx : ev l x = some (.pointer (some ad))) (hc : w.cell? ad = some u) (h : Wq P ops rest Q n ((d, u) :: l) w) (ha : aggB td = false := by rfl) : Wq P ops (o :: rest) Q n l w := Wq.val hw hd hn (val_load1 ho hx hc ha) h
theorem Wq.e {x : Operand} {t : TypeId} {td : TypeDesc} {z : Value} {b g k : Nat} {u v : Value} [hu : Und P t td] [hs : Inf P t z 2 b] (hw : want ops l o = some true) (hd : o.dst = some d) (hn : Nat.ble (d + 1) n.n = true) (ho : o.op = .load t x) (hx : ev l x = some (.pointer (some ⟨g, k, none⟩))) (h0 : w.cell? ⟨g, k, none⟩ = some u) (h1 : w.cell? ⟨g, k + 1, none⟩ = some v) (h : Wq P ops rest Q n ((d, .agg #[u, v]) :: l) w) (ha : aggB td = true := by rfl) : Wq P ops (o :: rest) Q n l w := Wq.val hw hd hn (val_load2 ho hx h0 h1 ha) h
end
end Go.Proofs.Ytbjcdgcdnbnknaa.Sx
