/- The document's order. -/
import Derived.Test.YtbjcdgcdnbnknaaSame
namespace Go.Proofs.Ytbjcdgcdnbnknaa.Sx
open Go.RowKit
/-- An append that must grow: a new row. -/
theorem acts_grow {P : Program} {n : Sz} {l : L} {w : World} {o : Oper} {x y : Operand} {t e : TypeId} {z : Value} {s b : Nat} [hu : Und P t (.slice e)] [hi : Inf P e z s b] {Y Y' : Nat → Prop} {A A' : Option Addr} {m k c : Nat} {olds news : List Value}
    (ho : o.op = .call { callee := .builtin .append, args := #[x, y], argTypes := #[t, t] })
    (hz : z.cells.size = s) (hs : 0 < s) (hx : ev l x = some (.slice A m m)) (hy : ev l y = some (.slice A' k c)) (hRo : Rd w Y A m olds) (hRn : Rd w Y' A' k news)
    (hlo : olds.length = m * s) (hl : news.length = k * s) (hk : 0 < k) (h1 : ∀ u ∈ news, u.oneCell' = true) (hm : (m + k) * (b + 1) ≤ 140737488355328) :
    ∀ a V, Fr n l a → Dr w V → ∃ v' w', (execOp a.eval o).run P V = .ok (.value v') w' ∧ (Own w' (fun j => j < w.heap.size) e s v' (m + k) (olds ++ news) ∧ Keep (fun j => j < w.heap.size) w w') := by
  intro a V hf hdr
  cases A with
  | none =>
    have ho0 : olds = [] := by
      cases olds with
      | nil => rfl
      | cons u r => obtain ⟨g, off, e, _⟩ := hRo 0 u rfl; cases e
    subst ho0
    have hm0 : m = 0 := by
      simp only [List.length_nil] at hlo
      rcases Nat.mul_eq_zero.1 hlo.symm with h | h
      · exact h
      · omega
    subst hm0
    obtain ⟨v', w', hr, h2, h3, _⟩ := acts_appendR (P := P) (X := fun j => j < w.heap.size) ho hz hs hx hy (Own.nil w _ e s) hl hRn h1 hm (fun _ h => h) a V hf hdr
    exact ⟨v', w', hr, by simpa using h2, h3⟩
  | some ad =>
    obtain ⟨i, e1, e2, e3, e4⟩ := inf_ex hi
    have hm' : (m + k) * b + (m + k) ≤ 140737488355328 := by rw [← Nat.mul_succ]; exact hm
    have hn0 : 0 < news.length := by rw [hl]; exact Nat.mul_pos hk hs
    obtain ⟨ad', rfl⟩ : ∃ ad', A' = some ad' := by obtain ⟨g, off, e, _⟩ := hRn 0 news[0] (List.getElem?_eq_getElem hn0); exact ⟨_, e⟩
    have hco : ∀ j u, olds[j]? = some u → V.cell? (ad.add j) = some u := by
      intro j u hj
      obtain ⟨g, off, e, _, h, _⟩ := hRo j u hj
      obtain rfl := Option.some.inj e
      rw [add_at, hdr.cell]; exact h
    have hcn : ∀ j u, news[j]? = some u → V.cell? (ad'.add j) = some u := by
      intro j u hj
      obtain ⟨g, off, e, _, h, _⟩ := hRn j u hj
      obtain rfl := Option.some.inj e
      rw [add_at, hdr.cell]; exact h
    have hr := run_append_grow (P := P) V t o.type e i z hu.h e1 e2 ad m m olds (by rw [e3]; exact hlo) hco ad' k c news (by rw [e3]; exact hl) hcn (by omega) (by omega) (by rw [e4]; exact growslice_fits (by omega) (by omega))
    refine ⟨.slice (some ⟨V.heap.size, 0, none⟩) (m + k) (grownCap V (m + k) m e), V.drew.alloc (.cells (olds.toArray ++ news.toArray ++ Builtin.zeroCells z.cells (grownCap V (m + k) m e - (m + k))) e), by simp [execOp, ho, resolve, invoke, builtin, hf.ev hx, hf.ev hy, hr], ⟨⟨?_, .inr ⟨V.heap.size, _, _, rfl, Nat.zero_le _, heap_alloc_new V.drew _, grownCap_ge V (m + k) m e, grownCap_le_maxLen V (m + k) m e (by unfold maxLen; omega), ?_, ?_⟩⟩, ?_⟩, ?_⟩
    · rw [List.length_append, hlo, hl, Nat.add_mul]
    · have hge := grownCap_ge V (m + k) m e
      simp only [Array.size_append, List.size_toArray, size_zeroCells, hz, hlo, hl, ← Nat.add_mul]
      congr 1
      omega
    · have hlen : (olds ++ news).length = (m + k) * s := by rw [List.length_append, hlo, hl, Nat.add_mul]
      simp only [Array.toList_append, List.append_assoc]
      rw [← List.append_assoc, ← hlen]
      exact List.take_left
    · intro j hj
      simp only [Value.ownBlock, Option.some.injEq] at hj
      have := hdr.size; omega
    · refine Keep.of_dr hdr ⟨rfl, rfl, rfl, by simp, fun j hj => heap_alloc_lt (W := V.drew) (by have := hdr.size; show j < V.heap.size; omega)⟩
end Go.Proofs.Ytbjcdgcdnbnknaa.Sx
namespace Go.Proofs.Ytbjcdgcdnbnknaa.Merge
open Go.RowKit Go.Proofs.Ytbjcdgcdnbnknaa.Sx Go.Proofs.Ytbjcdgcdnbnknaa.Parts Go.Proofs.Ytbjcdgcdnbnknaa.Heap
set_option maxRecDepth 20000
/-- One place put in, as the document has it: behind those that are no less. -/
def insAt (fs : List Int) (i : Nat) (out : List Nat) : Nat → Nat
  | 0 => 0
  | k + 1 => if fs.getD (out.getD k 0) 0 < fs.getD i 0 then insAt fs i out k else k + 1
def ordF (fs : List Int) : Nat → List Nat → List Nat
  | 0, out => out
  | i + 1, out => let o := ordF fs i out; if 0 < fs.getD i 0 then o.take (insAt fs i o o.length) ++ [i] ++ o.drop (insAt fs i o o.length) else o
theorem insAt_le (fs : List Int) (i : Nat) (out : List Nat) : ∀ k, insAt fs i out k ≤ k
  | 0 => Nat.le_refl _
  | k + 1 => by simp only [insAt]; split
                · have := insAt_le fs i out k; omega
                · exact Nat.le_refl _
def nats (ns : List Nat) : List Value := ns.map fun (n : Nat) => Value.int .i64 (n : Int)
theorem nats_get {ns : List Nat} {i : Nat} (h : i < ns.length) : (nats ns)[i]? = some (.int .i64 (ns[i] : Int)) := by simp [nats, h]
theorem nats_len (ns : List Nat) : (nats ns).length = ns.length := by simp [nats]
theorem nats_one (ns : List Nat) : ∀ u ∈ nats ns, u.oneCell' = true := by intro u hu; simp only [nats, List.mem_map] at hu; obtain ⟨z, _, rfl⟩ := hu; rfl
theorem ordF_lt (fs : List Int) : ∀ i, (∀ x ∈ ordF fs i [], x < i) ∧ (ordF fs i []).length ≤ i
  | 0 => ⟨by simp [ordF], by simp [ordF]⟩
  | i + 1 => by
    have ih := ordF_lt fs i
    simp only [ordF]
    split
    · refine ⟨fun x hx => ?_, ?_⟩
      · simp only [List.mem_append, List.mem_singleton] at hx
        rcases hx with (hx | rfl) | hx
        · have := ih.1 x (List.mem_of_mem_take hx); omega
        · omega
        · have := ih.1 x (List.mem_of_mem_drop hx); omega
      · simp only [List.length_append, List.length_take, List.length_drop, List.length_singleton]; have := ih.2; omega
    · exact ⟨fun x hx => by have := ih.1 x hx; omega, by have := ih.2; omega⟩
theorem rorder {W : World} {X : Nat → Prop} {A : Option Addr} {cap : Nat} {fs : List Int} (hF : Rd W X A fs.length (ints fs)) (hX : ∀ k, X k → k < W.heap.size) (hl : fs.length < 800000) :
    Ctr Try.prog 29 [.slice A fs.length cap] W fun y V => Own V X 3 1 y (ordF fs fs.length []).length (nats (ordF fs fs.length [])) ∧ Keep X W V := by
  refine ctr Try.func29 rfl Try.ntmps29 rfl ?_
  repeat (first | with_reducible (first | refine Cw.seq ?_ | refine Cw.block ?_ | refine Cw.region ?_ | refine Cw.skip ?_ | refine Cw.ret ?_ | refine Cw.exit ?_ | refine Ex.then_n ?_ | refine Ex.then_ret ?_ | refine Ex.then_exit ?_ | refine Ex.blk_n ?_ | refine Ex.blk_ret ?_ | refine Ex.blk_eq ?_ | refine Wl.nil ?_ | refine Wq.nil ?_) | (refine Ex.blk_ne rfl ?_) | refine Wl.p rfl rfl rfl rfl ?_ | refine Wq.p rfl rfl rfl rfl ?_ | refine Wl.off rfl rfl rfl ?_ | refine Wq.off rfl rfl rfl ?_ | refine Wl.f rfl rfl rfl rfl rfl ?_ | refine Wq.f rfl rfl rfl rfl rfl ?_ | refine Wl.z rfl rfl rfl rfl rfl ?_ | refine Wq.z rfl rfl rfl rfl rfl ?_ | refine Wl.b rfl rfl rfl rfl rfl ?_ | refine Wl.a rfl rfl rfl rfl rfl ?_ | refine Wl.c rfl rfl rfl rfl rfl ?_ | refine Wq.c rfl rfl rfl rfl rfl ?_ | refine Wl.x rfl rfl rfl rfl rfl rfl (by omega) ?_ | refine Wq.x rfl rfl rfl rfl rfl rfl (by omega) ?_ | refine Wl.y rfl rfl rfl rfl rfl rfl (by omega) (by omega) ?_ | refine Wq.y rfl rfl rfl rfl rfl rfl (by omega) (by omega) ?_ | refine Wl.r rfl rfl rfl rfl rfl (by assumption) ?_ | refine Wq.r rfl rfl rfl rfl rfl (by assumption) ?_ | refine Wl.e rfl rfl rfl rfl rfl (by assumption) (by assumption) ?_ | refine Wq.e rfl rfl rfl rfl rfl (by assumption) (by assumption) ?_)
  refine Cw.loop (σ := Nat × Value) (fun s => [(0, .slice A fs.length cap), (3, s.2), (4, .int .i64 s.1)]) (fun s V => Own V X 3 1 s.2 (ordF fs s.1 []).length (nats (ordF fs s.1 [])) ∧ s.1 ≤ fs.length ∧ Keep X W V) (fun s => fs.length - s.1) (0, .slice none 0 0) ⟨rfl, rfl, rfl, trivial⟩ ⟨by show Own W X _ 1 (.slice none 0 0) 0 []; exact Own.nil .., Nat.zero_le _, Keep.refl X W⟩ ?_
  rintro ⟨i, vo⟩ V ⟨hO, hi, hK⟩
  simp only at hO hi ⊢
  repeat (first | with_reducible (first | refine Cw.seq ?_ | refine Cw.block ?_ | refine Cw.region ?_ | refine Cw.skip ?_ | refine Cw.ret ?_ | refine Cw.exit ?_ | refine Ex.then_n ?_ | refine Ex.then_ret ?_ | refine Ex.then_exit ?_ | refine Ex.blk_n ?_ | refine Ex.blk_ret ?_ | refine Ex.blk_eq ?_ | refine Wl.nil ?_ | refine Wq.nil ?_) | (refine Ex.blk_ne rfl ?_) | refine Wl.p rfl rfl rfl rfl ?_ | refine Wq.p rfl rfl rfl rfl ?_ | refine Wl.off rfl rfl rfl ?_ | refine Wq.off rfl rfl rfl ?_ | refine Wl.f rfl rfl rfl rfl rfl ?_ | refine Wq.f rfl rfl rfl rfl rfl ?_ | refine Wl.z rfl rfl rfl rfl rfl ?_ | refine Wq.z rfl rfl rfl rfl rfl ?_ | refine Wl.b rfl rfl rfl rfl rfl ?_ | refine Wl.a rfl rfl rfl rfl rfl ?_ | refine Wl.c rfl rfl rfl rfl rfl ?_ | refine Wq.c rfl rfl rfl rfl rfl ?_ | refine Wl.x rfl rfl rfl rfl rfl rfl (by omega) ?_ | refine Wq.x rfl rfl rfl rfl rfl rfl (by omega) ?_ | refine Wl.y rfl rfl rfl rfl rfl rfl (by omega) (by omega) ?_ | refine Wq.y rfl rfl rfl rfl rfl rfl (by omega) (by omega) ?_ | refine Wl.r rfl rfl rfl rfl rfl (by assumption) ?_ | refine Wq.r rfl rfl rfl rfl rfl (by assumption) ?_ | refine Wl.e rfl rfl rfl rfl rfl (by assumption) (by assumption) ?_ | refine Wq.e rfl rfl rfl rfl rfl (by assumption) (by assumption) ?_)
  by_cases hlt : i < fs.length
  · refine Cw.cond_t (by rw [decide_eq_true (show (i : Int) < fs.length by omega)]; rfl) ?_
    have hFV := hF.keep hK
    obtain ⟨ag, off, rfl, _, hcell⟩ := hFV.at_ (ints_get hlt)
    have hc : V.cell? ⟨ag, off + i * 1, none⟩ = some (.int .i64 fs[i]) := by rw [Nat.mul_one]; exact hcell i _ (ints_get hlt)
    have efi : fs.getD i 0 = fs[i] := by rw [List.getD_eq_getElem?_getD, List.getElem?_eq_getElem hlt, Option.getD_some]
    have hord : ordF fs (i + 1) [] = if 0 < fs[i] then (ordF fs i []).take (insAt fs i (ordF fs i []) (ordF fs i []).length) ++ [i] ++ (ordF fs i []).drop (insAt fs i (ordF fs i []) (ordF fs i []).length) else ordF fs i [] := by rw [← efi]; rfl
    have hol := ordF_lt fs i
    generalize ordF fs i [] = o at hO hord hol
    obtain ⟨B, bc, rfl⟩ := hO.form'
    repeat (first | with_reducible (first | refine Cw.seq ?_ | refine Cw.block ?_ | refine Cw.region ?_ | refine Cw.skip ?_ | refine Cw.ret ?_ | refine Cw.exit ?_ | refine Ex.then_n ?_ | refine Ex.then_ret ?_ | refine Ex.then_exit ?_ | refine Ex.blk_n ?_ | refine Ex.blk_ret ?_ | refine Ex.blk_eq ?_ | refine Wl.nil ?_ | refine Wq.nil ?_) | (refine Ex.blk_ne rfl ?_) | refine Wl.p rfl rfl rfl rfl ?_ | refine Wq.p rfl rfl rfl rfl ?_ | refine Wl.off rfl rfl rfl ?_ | refine Wq.off rfl rfl rfl ?_ | refine Wl.f rfl rfl rfl rfl rfl ?_ | refine Wq.f rfl rfl rfl rfl rfl ?_ | refine Wl.z rfl rfl rfl rfl rfl ?_ | refine Wq.z rfl rfl rfl rfl rfl ?_ | refine Wl.b rfl rfl rfl rfl rfl ?_ | refine Wl.a rfl rfl rfl rfl rfl ?_ | refine Wl.c rfl rfl rfl rfl rfl ?_ | refine Wq.c rfl rfl rfl rfl rfl ?_ | refine Wl.x rfl rfl rfl rfl rfl rfl (by omega) ?_ | refine Wq.x rfl rfl rfl rfl rfl rfl (by omega) ?_ | refine Wl.y rfl rfl rfl rfl rfl rfl (by omega) (by omega) ?_ | refine Wq.y rfl rfl rfl rfl rfl rfl (by omega) (by omega) ?_ | refine Wl.r rfl rfl rfl rfl rfl (by assumption) ?_ | refine Wq.r rfl rfl rfl rfl rfl (by assumption) ?_ | refine Wl.e rfl rfl rfl rfl rfl (by assumption) (by assumption) ?_ | refine Wq.e rfl rfl rfl rfl rfl (by assumption) (by assumption) ?_)
    refine Cw.cond rfl (fun h => ?_) (fun h => ?_)
    · have h := of_decide_eq_true h
      rw [if_neg (by omega)] at hord
      repeat (first | with_reducible (first | refine Cw.seq ?_ | refine Cw.block ?_ | refine Cw.region ?_ | refine Cw.skip ?_ | refine Cw.ret ?_ | refine Cw.exit ?_ | refine Ex.then_n ?_ | refine Ex.then_ret ?_ | refine Ex.then_exit ?_ | refine Ex.blk_n ?_ | refine Ex.blk_ret ?_ | refine Ex.blk_eq ?_ | refine Wl.nil ?_ | refine Wq.nil ?_) | (refine Ex.blk_ne rfl ?_) | refine Wl.p rfl rfl rfl rfl ?_ | refine Wq.p rfl rfl rfl rfl ?_ | refine Wl.off rfl rfl rfl ?_ | refine Wq.off rfl rfl rfl ?_ | refine Wl.f rfl rfl rfl rfl rfl ?_ | refine Wq.f rfl rfl rfl rfl rfl ?_ | refine Wl.z rfl rfl rfl rfl rfl ?_ | refine Wq.z rfl rfl rfl rfl rfl ?_ | refine Wl.b rfl rfl rfl rfl rfl ?_ | refine Wl.a rfl rfl rfl rfl rfl ?_ | refine Wl.c rfl rfl rfl rfl rfl ?_ | refine Wq.c rfl rfl rfl rfl rfl ?_ | refine Wl.x rfl rfl rfl rfl rfl rfl (by omega) ?_ | refine Wq.x rfl rfl rfl rfl rfl rfl (by omega) ?_ | refine Wl.y rfl rfl rfl rfl rfl rfl (by omega) (by omega) ?_ | refine Wq.y rfl rfl rfl rfl rfl rfl (by omega) (by omega) ?_ | refine Wl.r rfl rfl rfl rfl rfl (by assumption) ?_ | refine Wq.r rfl rfl rfl rfl rfl (by assumption) ?_ | refine Wl.e rfl rfl rfl rfl rfl (by assumption) (by assumption) ?_ | refine Wq.e rfl rfl rfl rfl rfl (by assumption) (by assumption) ?_)
      rw [Parts.succ_eq (by omega)]
      exact Ex.next (i + 1, .slice B o.length bc) (by show fs.length - (i + 1) < fs.length - i; omega) ⟨rfl, rfl, rfl, trivial⟩ ⟨by rw [hord]; exact hO, hlt, hK⟩
    · have h := of_decide_eq_false h
      rw [if_pos (by omega)] at hord
      repeat (first | with_reducible (first | refine Cw.region ?_ | refine Cw.skip ?_ | refine Cw.ret ?_ | refine Cw.exit ?_ | refine Ex.then_n ?_ | refine Ex.then_ret ?_ | refine Ex.then_exit ?_ | refine Ex.blk_n ?_ | refine Ex.blk_ret ?_ | refine Ex.blk_eq ?_ | refine Wl.nil ?_ | refine Wq.nil ?_) | (refine Ex.blk_ne rfl ?_) | refine Wl.p rfl rfl rfl rfl ?_ | refine Wq.p rfl rfl rfl rfl ?_ | refine Wl.off rfl rfl rfl ?_ | refine Wq.off rfl rfl rfl ?_ | refine Wl.f rfl rfl rfl rfl rfl ?_ | refine Wq.f rfl rfl rfl rfl rfl ?_ | refine Wl.z rfl rfl rfl rfl rfl ?_ | refine Wq.z rfl rfl rfl rfl rfl ?_ | refine Wl.b rfl rfl rfl rfl rfl ?_ | refine Wl.a rfl rfl rfl rfl rfl ?_ | refine Wl.c rfl rfl rfl rfl rfl ?_ | refine Wq.c rfl rfl rfl rfl rfl ?_ | refine Wl.x rfl rfl rfl rfl rfl rfl (by omega) ?_ | refine Wq.x rfl rfl rfl rfl rfl rfl (by omega) ?_ | refine Wl.y rfl rfl rfl rfl rfl rfl (by omega) (by omega) ?_ | refine Wq.y rfl rfl rfl rfl rfl rfl (by omega) (by omega) ?_ | refine Wl.r rfl rfl rfl rfl rfl (by assumption) ?_ | refine Wq.r rfl rfl rfl rfl rfl (by assumption) ?_ | refine Wl.e rfl rfl rfl rfl rfl (by assumption) (by assumption) ?_ | refine Wq.e rfl rfl rfl rfl rfl (by assumption) (by assumption) ?_)
      refine Cw.seq ?_
      repeat (first | with_reducible (first | refine Cw.region ?_ | refine Cw.skip ?_ | refine Cw.ret ?_ | refine Cw.exit ?_ | refine Ex.then_n ?_ | refine Ex.then_ret ?_ | refine Ex.then_exit ?_ | refine Ex.blk_n ?_ | refine Ex.blk_ret ?_ | refine Ex.blk_eq ?_ | refine Wl.nil ?_ | refine Wq.nil ?_) | (refine Ex.blk_ne rfl ?_) | refine Wl.p rfl rfl rfl rfl ?_ | refine Wq.p rfl rfl rfl rfl ?_ | refine Wl.off rfl rfl rfl ?_ | refine Wq.off rfl rfl rfl ?_ | refine Wl.f rfl rfl rfl rfl rfl ?_ | refine Wq.f rfl rfl rfl rfl rfl ?_ | refine Wl.z rfl rfl rfl rfl rfl ?_ | refine Wq.z rfl rfl rfl rfl rfl ?_ | refine Wl.b rfl rfl rfl rfl rfl ?_ | refine Wl.a rfl rfl rfl rfl rfl ?_ | refine Wl.c rfl rfl rfl rfl rfl ?_ | refine Wq.c rfl rfl rfl rfl rfl ?_ | refine Wl.x rfl rfl rfl rfl rfl rfl (by omega) ?_ | refine Wq.x rfl rfl rfl rfl rfl rfl (by omega) ?_ | refine Wl.y rfl rfl rfl rfl rfl rfl (by omega) (by omega) ?_ | refine Wq.y rfl rfl rfl rfl rfl rfl (by omega) (by omega) ?_ | refine Wl.r rfl rfl rfl rfl rfl (by assumption) ?_ | refine Wq.r rfl rfl rfl rfl rfl (by assumption) ?_ | refine Wl.e rfl rfl rfl rfl rfl (by assumption) (by assumption) ?_ | refine Wq.e rfl rfl rfl rfl rfl (by assumption) (by assumption) ?_)
      have hk0 : ∀ m, insAt fs i o m ≤ m := insAt_le fs i o
      refine Cw.cut (σ := Nat) (fun k => [(0, .slice (some ⟨ag, off, none⟩) fs.length cap), (3, .slice B o.length bc), (4, .int .i64 i), (5, .int .i64 k)]) (fun k V' => k = insAt fs i o o.length ∧ V = V') ?_ ?_
      · refine Cw.block ?_
        refine Cw.loop (σ := Nat) (fun s => [(0, .slice (some ⟨ag, off, none⟩) fs.length cap), (3, .slice B o.length bc), (4, .int .i64 i), (5, .int .i64 s)]) (fun s V' => insAt fs i o s = insAt fs i o o.length ∧ s ≤ o.length ∧ V = V') (fun s => s) o.length ⟨rfl, rfl, rfl, rfl, trivial⟩ ⟨rfl, Nat.le_refl _, rfl⟩ ?_
        rintro k V' ⟨hu, hko, rfl⟩
        refine Cw.seq ?_
        repeat (first | with_reducible (first | refine Cw.region ?_ | refine Cw.skip ?_ | refine Cw.ret ?_ | refine Cw.exit ?_ | refine Ex.then_n ?_ | refine Ex.then_ret ?_ | refine Ex.then_exit ?_ | refine Ex.blk_n ?_ | refine Ex.blk_ret ?_ | refine Ex.blk_eq ?_ | refine Wl.nil ?_ | refine Wq.nil ?_) | (refine Ex.blk_ne rfl ?_) | refine Wl.p rfl rfl rfl rfl ?_ | refine Wq.p rfl rfl rfl rfl ?_ | refine Wl.off rfl rfl rfl ?_ | refine Wq.off rfl rfl rfl ?_ | refine Wl.f rfl rfl rfl rfl rfl ?_ | refine Wq.f rfl rfl rfl rfl rfl ?_ | refine Wl.z rfl rfl rfl rfl rfl ?_ | refine Wq.z rfl rfl rfl rfl rfl ?_ | refine Wl.b rfl rfl rfl rfl rfl ?_ | refine Wl.a rfl rfl rfl rfl rfl ?_ | refine Wl.c rfl rfl rfl rfl rfl ?_ | refine Wq.c rfl rfl rfl rfl rfl ?_ | refine Wl.x rfl rfl rfl rfl rfl rfl (by omega) ?_ | refine Wq.x rfl rfl rfl rfl rfl rfl (by omega) ?_ | refine Wl.y rfl rfl rfl rfl rfl rfl (by omega) (by omega) ?_ | refine Wq.y rfl rfl rfl rfl rfl rfl (by omega) (by omega) ?_ | refine Wl.r rfl rfl rfl rfl rfl (by assumption) ?_ | refine Wq.r rfl rfl rfl rfl rfl (by assumption) ?_ | refine Wl.e rfl rfl rfl rfl rfl (by assumption) (by assumption) ?_ | refine Wq.e rfl rfl rfl rfl rfl (by assumption) (by assumption) ?_)
        refine Cw.seq ?_
        refine Cw.quiet mixed (by kernel_rfl) ?_
        by_cases hk : 0 < k
        · obtain ⟨k, rfl⟩ : ∃ m, k = m + 1 := ⟨k - 1, by omega⟩
          have hlo : k < o.length := by omega
          have hoi := hol.1 o[k] (List.getElem_mem hlo)
          have hof : o[k] < fs.length := by omega
          obtain ⟨g, gc, e, _, _, _⟩ := hO.form (by omega)
          simp only [Value.slice.injEq, true_and] at e
          obtain ⟨rfl, rfl⟩ := e
          have cg : V.cell? ⟨g, 0 + k * 1, none⟩ = some (.int .i64 (o[k] : Int)) := by rw [Nat.zero_add, Nat.mul_one]; exact hO.cell (nats_get hlo)
          have cf : V.cell? ⟨ag, off + o[k] * 1, none⟩ = some (.int .i64 fs[o[k]]) := by rw [Nat.mul_one]; exact hcell _ _ (ints_get hof)
          have eok : o.getD k 0 = o[k] := by rw [List.getD_eq_getElem?_getD, List.getElem?_eq_getElem hlo, Option.getD_some]
          have efk : fs.getD o[k] 0 = fs[o[k]] := by rw [List.getD_eq_getElem?_getD, List.getElem?_eq_getElem hof, Option.getD_some]
          simp only [insAt, eok, efk, efi] at hu
          repeat (first | with_reducible (first | refine Cw.region ?_ | refine Cw.skip ?_ | refine Cw.ret ?_ | refine Cw.exit ?_ | refine Ex.then_n ?_ | refine Ex.then_ret ?_ | refine Ex.then_exit ?_ | refine Ex.blk_n ?_ | refine Ex.blk_ret ?_ | refine Ex.blk_eq ?_ | refine Wl.nil ?_ | refine Wq.nil ?_) | (refine Ex.blk_ne rfl ?_) | refine Wl.p rfl rfl rfl rfl ?_ | refine Wq.p rfl rfl rfl rfl ?_ | refine Wl.off rfl rfl rfl ?_ | refine Wq.off rfl rfl rfl ?_ | refine Wl.f rfl rfl rfl rfl rfl ?_ | refine Wq.f rfl rfl rfl rfl rfl ?_ | refine Wl.z rfl rfl rfl rfl rfl ?_ | refine Wq.z rfl rfl rfl rfl rfl ?_ | refine Wl.b rfl rfl rfl rfl rfl ?_ | refine Wl.a rfl rfl rfl rfl rfl ?_ | refine Wl.c rfl rfl rfl rfl rfl ?_ | refine Wq.c rfl rfl rfl rfl rfl ?_ | refine Wl.x rfl rfl rfl rfl rfl rfl (by omega) ?_ | refine Wq.x rfl rfl rfl rfl rfl rfl (by omega) ?_ | refine Wl.y rfl rfl rfl rfl rfl rfl (by omega) (by omega) ?_ | refine Wq.y rfl rfl rfl rfl rfl rfl (by omega) (by omega) ?_ | refine Wl.r rfl rfl rfl rfl rfl (by assumption) ?_ | refine Wq.r rfl rfl rfl rfl rfl (by assumption) ?_ | refine Wl.e rfl rfl rfl rfl rfl (by assumption) (by assumption) ?_ | refine Wq.e rfl rfl rfl rfl rfl (by assumption) (by assumption) ?_)
          rw [decide_eq_true (show (0 : Int) < ((k + 1 : Nat) : Int) by omega)]
          repeat (first | with_reducible (first | refine Cw.region ?_ | refine Cw.skip ?_ | refine Cw.ret ?_ | refine Cw.exit ?_ | refine Ex.then_n ?_ | refine Ex.then_ret ?_ | refine Ex.then_exit ?_ | refine Ex.blk_n ?_ | refine Ex.blk_ret ?_ | refine Ex.blk_eq ?_ | refine Wl.nil ?_ | refine Wq.nil ?_) | (refine Ex.blk_ne rfl ?_) | refine Wl.p rfl rfl rfl rfl ?_ | refine Wq.p rfl rfl rfl rfl ?_ | refine Wl.off rfl rfl rfl ?_ | refine Wq.off rfl rfl rfl ?_ | refine Wl.f rfl rfl rfl rfl rfl ?_ | refine Wq.f rfl rfl rfl rfl rfl ?_ | refine Wl.z rfl rfl rfl rfl rfl ?_ | refine Wq.z rfl rfl rfl rfl rfl ?_ | refine Wl.b rfl rfl rfl rfl rfl ?_ | refine Wl.a rfl rfl rfl rfl rfl ?_ | refine Wl.c rfl rfl rfl rfl rfl ?_ | refine Wq.c rfl rfl rfl rfl rfl ?_ | refine Wl.x rfl rfl rfl rfl rfl rfl (by omega) ?_ | refine Wq.x rfl rfl rfl rfl rfl rfl (by omega) ?_ | refine Wl.y rfl rfl rfl rfl rfl rfl (by omega) (by omega) ?_ | refine Wq.y rfl rfl rfl rfl rfl rfl (by omega) (by omega) ?_ | refine Wl.r rfl rfl rfl rfl rfl (by assumption) ?_ | refine Wq.r rfl rfl rfl rfl rfl (by assumption) ?_ | refine Wl.e rfl rfl rfl rfl rfl (by assumption) (by assumption) ?_ | refine Wq.e rfl rfl rfl rfl rfl (by assumption) (by assumption) ?_)
          rw [w64n (x := ((k + 1 : Nat) : Int) - 1) k (by omega) (by omega)]
          repeat (first | with_reducible (first | refine Cw.region ?_ | refine Cw.skip ?_ | refine Cw.ret ?_ | refine Cw.exit ?_ | refine Ex.then_n ?_ | refine Ex.then_ret ?_ | refine Ex.then_exit ?_ | refine Ex.blk_n ?_ | refine Ex.blk_ret ?_ | refine Ex.blk_eq ?_ | refine Wl.nil ?_ | refine Wq.nil ?_) | (refine Ex.blk_ne rfl ?_) | refine Wl.p rfl rfl rfl rfl ?_ | refine Wq.p rfl rfl rfl rfl ?_ | refine Wl.off rfl rfl rfl ?_ | refine Wq.off rfl rfl rfl ?_ | refine Wl.f rfl rfl rfl rfl rfl ?_ | refine Wq.f rfl rfl rfl rfl rfl ?_ | refine Wl.z rfl rfl rfl rfl rfl ?_ | refine Wq.z rfl rfl rfl rfl rfl ?_ | refine Wl.b rfl rfl rfl rfl rfl ?_ | refine Wl.a rfl rfl rfl rfl rfl ?_ | refine Wl.c rfl rfl rfl rfl rfl ?_ | refine Wq.c rfl rfl rfl rfl rfl ?_ | refine Wl.x rfl rfl rfl rfl rfl rfl (by omega) ?_ | refine Wq.x rfl rfl rfl rfl rfl rfl (by omega) ?_ | refine Wl.y rfl rfl rfl rfl rfl rfl (by omega) (by omega) ?_ | refine Wq.y rfl rfl rfl rfl rfl rfl (by omega) (by omega) ?_ | refine Wl.r rfl rfl rfl rfl rfl (by assumption) ?_ | refine Wq.r rfl rfl rfl rfl rfl (by assumption) ?_ | refine Wl.e rfl rfl rfl rfl rfl (by assumption) (by assumption) ?_ | refine Wq.e rfl rfl rfl rfl rfl (by assumption) (by assumption) ?_)
          refine Cw.cond rfl (fun hq => ?_) (fun hq => ?_)
          · rw [if_pos (of_decide_eq_true hq)] at hu
            repeat (first | with_reducible (first | refine Cw.seq ?_ | refine Cw.block ?_ | refine Cw.region ?_ | refine Cw.skip ?_ | refine Cw.ret ?_ | refine Cw.exit ?_ | refine Ex.then_n ?_ | refine Ex.then_ret ?_ | refine Ex.then_exit ?_ | refine Ex.blk_n ?_ | refine Ex.blk_ret ?_ | refine Ex.blk_eq ?_ | refine Wl.nil ?_ | refine Wq.nil ?_) | (refine Ex.blk_ne rfl ?_) | refine Wl.p rfl rfl rfl rfl ?_ | refine Wq.p rfl rfl rfl rfl ?_ | refine Wl.off rfl rfl rfl ?_ | refine Wq.off rfl rfl rfl ?_ | refine Wl.f rfl rfl rfl rfl rfl ?_ | refine Wq.f rfl rfl rfl rfl rfl ?_ | refine Wl.z rfl rfl rfl rfl rfl ?_ | refine Wq.z rfl rfl rfl rfl rfl ?_ | refine Wl.b rfl rfl rfl rfl rfl ?_ | refine Wl.a rfl rfl rfl rfl rfl ?_ | refine Wl.c rfl rfl rfl rfl rfl ?_ | refine Wq.c rfl rfl rfl rfl rfl ?_ | refine Wl.x rfl rfl rfl rfl rfl rfl (by omega) ?_ | refine Wq.x rfl rfl rfl rfl rfl rfl (by omega) ?_ | refine Wl.y rfl rfl rfl rfl rfl rfl (by omega) (by omega) ?_ | refine Wq.y rfl rfl rfl rfl rfl rfl (by omega) (by omega) ?_ | refine Wl.r rfl rfl rfl rfl rfl (by assumption) ?_ | refine Wq.r rfl rfl rfl rfl rfl (by assumption) ?_ | refine Wl.e rfl rfl rfl rfl rfl (by assumption) (by assumption) ?_ | refine Wq.e rfl rfl rfl rfl rfl (by assumption) (by assumption) ?_)
            rw [w64n (x := ((k + 1 : Nat) : Int) - 1) k (by omega) (by omega)]
            exact Ex.next k (by show k < k + 1; omega) ⟨rfl, rfl, rfl, rfl, trivial⟩ ⟨hu, by omega, rfl⟩
          · rw [if_neg (of_decide_eq_false hq)] at hu
            repeat (first | with_reducible (first | refine Cw.seq ?_ | refine Cw.block ?_ | refine Cw.region ?_ | refine Cw.skip ?_ | refine Cw.ret ?_ | refine Cw.exit ?_ | refine Ex.then_n ?_ | refine Ex.then_ret ?_ | refine Ex.then_exit ?_ | refine Ex.blk_n ?_ | refine Ex.blk_ret ?_ | refine Ex.blk_eq ?_ | refine Wl.nil ?_ | refine Wq.nil ?_) | (refine Ex.blk_ne rfl ?_) | refine Wl.p rfl rfl rfl rfl ?_ | refine Wq.p rfl rfl rfl rfl ?_ | refine Wl.off rfl rfl rfl ?_ | refine Wq.off rfl rfl rfl ?_ | refine Wl.f rfl rfl rfl rfl rfl ?_ | refine Wq.f rfl rfl rfl rfl rfl ?_ | refine Wl.z rfl rfl rfl rfl rfl ?_ | refine Wq.z rfl rfl rfl rfl rfl ?_ | refine Wl.b rfl rfl rfl rfl rfl ?_ | refine Wl.a rfl rfl rfl rfl rfl ?_ | refine Wl.c rfl rfl rfl rfl rfl ?_ | refine Wq.c rfl rfl rfl rfl rfl ?_ | refine Wl.x rfl rfl rfl rfl rfl rfl (by omega) ?_ | refine Wq.x rfl rfl rfl rfl rfl rfl (by omega) ?_ | refine Wl.y rfl rfl rfl rfl rfl rfl (by omega) (by omega) ?_ | refine Wq.y rfl rfl rfl rfl rfl rfl (by omega) (by omega) ?_ | refine Wl.r rfl rfl rfl rfl rfl (by assumption) ?_ | refine Wq.r rfl rfl rfl rfl rfl (by assumption) ?_ | refine Wl.e rfl rfl rfl rfl rfl (by assumption) (by assumption) ?_ | refine Wq.e rfl rfl rfl rfl rfl (by assumption) (by assumption) ?_)
            exact Ex.meet (k + 1) ⟨rfl, rfl, rfl, rfl, trivial⟩ ⟨hu, rfl⟩
        · obtain rfl : k = 0 := by omega
          repeat (first | with_reducible (first | refine Cw.region ?_ | refine Cw.skip ?_ | refine Cw.ret ?_ | refine Cw.exit ?_ | refine Ex.then_n ?_ | refine Ex.then_ret ?_ | refine Ex.then_exit ?_ | refine Ex.blk_n ?_ | refine Ex.blk_ret ?_ | refine Ex.blk_eq ?_ | refine Wl.nil ?_ | refine Wq.nil ?_) | (refine Ex.blk_ne rfl ?_) | refine Wl.p rfl rfl rfl rfl ?_ | refine Wq.p rfl rfl rfl rfl ?_ | refine Wl.off rfl rfl rfl ?_ | refine Wq.off rfl rfl rfl ?_ | refine Wl.f rfl rfl rfl rfl rfl ?_ | refine Wq.f rfl rfl rfl rfl rfl ?_ | refine Wl.z rfl rfl rfl rfl rfl ?_ | refine Wq.z rfl rfl rfl rfl rfl ?_ | refine Wl.b rfl rfl rfl rfl rfl ?_ | refine Wl.a rfl rfl rfl rfl rfl ?_ | refine Wl.c rfl rfl rfl rfl rfl ?_ | refine Wq.c rfl rfl rfl rfl rfl ?_ | refine Wl.x rfl rfl rfl rfl rfl rfl (by omega) ?_ | refine Wq.x rfl rfl rfl rfl rfl rfl (by omega) ?_ | refine Wl.y rfl rfl rfl rfl rfl rfl (by omega) (by omega) ?_ | refine Wq.y rfl rfl rfl rfl rfl rfl (by omega) (by omega) ?_ | refine Wl.r rfl rfl rfl rfl rfl (by assumption) ?_ | refine Wq.r rfl rfl rfl rfl rfl (by assumption) ?_ | refine Wl.e rfl rfl rfl rfl rfl (by assumption) (by assumption) ?_ | refine Wq.e rfl rfl rfl rfl rfl (by assumption) (by assumption) ?_)
          rw [decide_eq_false (show ¬ (0 : Int) < ((0 : Nat) : Int) by omega)]
          repeat (first | with_reducible (first | refine Cw.region ?_ | refine Cw.skip ?_ | refine Cw.ret ?_ | refine Cw.exit ?_ | refine Ex.then_n ?_ | refine Ex.then_ret ?_ | refine Ex.then_exit ?_ | refine Ex.blk_n ?_ | refine Ex.blk_ret ?_ | refine Ex.blk_eq ?_ | refine Wl.nil ?_ | refine Wq.nil ?_) | (refine Ex.blk_ne rfl ?_) | refine Wl.p rfl rfl rfl rfl ?_ | refine Wq.p rfl rfl rfl rfl ?_ | refine Wl.off rfl rfl rfl ?_ | refine Wq.off rfl rfl rfl ?_ | refine Wl.f rfl rfl rfl rfl rfl ?_ | refine Wq.f rfl rfl rfl rfl rfl ?_ | refine Wl.z rfl rfl rfl rfl rfl ?_ | refine Wq.z rfl rfl rfl rfl rfl ?_ | refine Wl.b rfl rfl rfl rfl rfl ?_ | refine Wl.a rfl rfl rfl rfl rfl ?_ | refine Wl.c rfl rfl rfl rfl rfl ?_ | refine Wq.c rfl rfl rfl rfl rfl ?_ | refine Wl.x rfl rfl rfl rfl rfl rfl (by omega) ?_ | refine Wq.x rfl rfl rfl rfl rfl rfl (by omega) ?_ | refine Wl.y rfl rfl rfl rfl rfl rfl (by omega) (by omega) ?_ | refine Wq.y rfl rfl rfl rfl rfl rfl (by omega) (by omega) ?_ | refine Wl.r rfl rfl rfl rfl rfl (by assumption) ?_ | refine Wq.r rfl rfl rfl rfl rfl (by assumption) ?_ | refine Wl.e rfl rfl rfl rfl rfl (by assumption) (by assumption) ?_ | refine Wq.e rfl rfl rfl rfl rfl (by assumption) (by assumption) ?_)
          refine Cw.cond_f rfl ?_
          repeat (first | with_reducible (first | refine Cw.seq ?_ | refine Cw.block ?_ | refine Cw.region ?_ | refine Cw.skip ?_ | refine Cw.ret ?_ | refine Cw.exit ?_ | refine Ex.then_n ?_ | refine Ex.then_ret ?_ | refine Ex.then_exit ?_ | refine Ex.blk_n ?_ | refine Ex.blk_ret ?_ | refine Ex.blk_eq ?_ | refine Wl.nil ?_ | refine Wq.nil ?_) | (refine Ex.blk_ne rfl ?_) | refine Wl.p rfl rfl rfl rfl ?_ | refine Wq.p rfl rfl rfl rfl ?_ | refine Wl.off rfl rfl rfl ?_ | refine Wq.off rfl rfl rfl ?_ | refine Wl.f rfl rfl rfl rfl rfl ?_ | refine Wq.f rfl rfl rfl rfl rfl ?_ | refine Wl.z rfl rfl rfl rfl rfl ?_ | refine Wq.z rfl rfl rfl rfl rfl ?_ | refine Wl.b rfl rfl rfl rfl rfl ?_ | refine Wl.a rfl rfl rfl rfl rfl ?_ | refine Wl.c rfl rfl rfl rfl rfl ?_ | refine Wq.c rfl rfl rfl rfl rfl ?_ | refine Wl.x rfl rfl rfl rfl rfl rfl (by omega) ?_ | refine Wq.x rfl rfl rfl rfl rfl rfl (by omega) ?_ | refine Wl.y rfl rfl rfl rfl rfl rfl (by omega) (by omega) ?_ | refine Wq.y rfl rfl rfl rfl rfl rfl (by omega) (by omega) ?_ | refine Wl.r rfl rfl rfl rfl rfl (by assumption) ?_ | refine Wq.r rfl rfl rfl rfl rfl (by assumption) ?_ | refine Wl.e rfl rfl rfl rfl rfl (by assumption) (by assumption) ?_ | refine Wq.e rfl rfl rfl rfl rfl (by assumption) (by assumption) ?_)
          exact Ex.meet 0 ⟨rfl, rfl, rfl, rfl, trivial⟩ ⟨hu, rfl⟩
      · rintro k V' ⟨rfl, rfl⟩
        have hkl := insAt_le fs i o o.length
        generalize insAt fs i o o.length = k at hkl hord
        have hbc : o.length ≤ bc := by
          rcases hO.1.2 with ⟨h1, h2⟩ | ⟨_, _, _, h1, _, _, h2, _⟩
          · omega
          · simp only [Value.slice.injEq] at h1; omega
        have hR1 : ∀ V', Keep (fun k => k < V.heap.size) V V' → Rd V' (fun _ => True) B o.length (nats o) := fun V' hk => (hO.kept fun k hk' => hk.block k (hO.lt k hk')).rd fun _ _ => trivial
        have ndrop : (nats o).drop (k * 1) = nats (o.drop k) := by rw [Nat.mul_one]; simp [nats, List.map_drop]
        have ntake : (nats o).take (k * 1) = nats (o.take k) := by rw [Nat.mul_one]; simp [nats, List.map_take]
        have hRk : ∀ V', Keep (fun k => k < V.heap.size) V V' → Rd V' (fun _ => True) (if k = 0 then B else B.map (·.add (0 * 1))) (k - 0) (nats (o.take k)) := fun V' hk => by
          have := (hR1 V' hk).cut (s := 1) (p := 0) (q := k) (m := k) (Nat.zero_le _) (Nat.le_refl _)
          rwa [Nat.zero_mul, List.drop_zero, Nat.sub_zero, ntake] at this
        have hRd : ∀ V', Keep (fun k => k < V.heap.size) V V' → Rd V' (fun _ => True) (if bc = k then B else B.map (·.add (k * 1))) (o.length - k) (nats (o.drop k)) := fun V' hk' => by
          have := (hR1 V' hk').cut (s := 1) (p := k) (q := o.length) (m := bc) (by omega) hbc
          rwa [ndrop, List.take_of_length_le (by rw [nats_len, List.length_drop]; omega)] at this
        refine Cw.draw (fun _ => True) (fun _ => false) mixed (by kernel_rfl) (fun _ _ => trivial) ?_
        repeat (first | with_reducible refine Wd.nil ?_ | refine Wd.p rfl rfl rfl rfl rfl ?_ | refine Wd.f rfl rfl rfl rfl rfl rfl ?_ | refine Wd.x rfl rfl rfl rfl rfl rfl rfl (by omega) ?_ | refine Wd.y rfl rfl rfl rfl rfl rfl rfl (by omega) (by omega) ?_ | refine Wd.z rfl rfl rfl rfl rfl rfl ?_ | refine Wd.r rfl rfl rfl rfl rfl rfl (by assumption) (by simp) ?_ | refine Wd.e rfl rfl rfl rfl rfl rfl (by assumption) (by assumption) (by simp) ?_ | refine Wd.off rfl rfl rfl ?_)
        refine Wd.pure rfl rfl rfl rfl (fun _ => val_cutG (p := 0) (q := k) (m := k) rfl rfl rfl ⟨_, rfl⟩ ⟨_, rfl⟩ (by simp) (Nat.zero_le _) (Nat.le_refl _) (by omega)) ?_
        repeat (first | with_reducible refine Wd.nil ?_ | refine Wd.p rfl rfl rfl rfl rfl ?_ | refine Wd.f rfl rfl rfl rfl rfl rfl ?_ | refine Wd.x rfl rfl rfl rfl rfl rfl rfl (by omega) ?_ | refine Wd.y rfl rfl rfl rfl rfl rfl rfl (by omega) (by omega) ?_ | refine Wd.z rfl rfl rfl rfl rfl rfl ?_ | refine Wd.r rfl rfl rfl rfl rfl rfl (by assumption) (by simp) ?_ | refine Wd.e rfl rfl rfl rfl rfl rfl (by assumption) (by assumption) (by simp) ?_ | refine Wd.off rfl rfl rfl ?_)
        refine Wd.slice1 rfl rfl rfl rfl rfl rfl rfl rfl (fun h => absurd h (by decide)) ?_
        intro c1 w1 hc1 hR1' hK1 hs1
        have hO1 : Own w1 (fun j => j < V.heap.size) 3 1 (.slice (some ⟨c1, 0, none⟩) 1 1) 1 [.int .i64 (i : Int)] := Own.of_row hR1' rfl (by omega) (by decide)
        have k1 : Keep (fun j => j < V.heap.size) V w1 := hK1.mono fun k hk => by omega
        repeat (first | with_reducible refine Wd.nil ?_ | refine Wd.p rfl rfl rfl rfl rfl ?_ | refine Wd.f rfl rfl rfl rfl rfl rfl ?_ | refine Wd.x rfl rfl rfl rfl rfl rfl rfl (by omega) ?_ | refine Wd.y rfl rfl rfl rfl rfl rfl rfl (by omega) (by omega) ?_ | refine Wd.z rfl rfl rfl rfl rfl rfl ?_ | refine Wd.r rfl rfl rfl rfl rfl rfl (by assumption) (by simp) ?_ | refine Wd.e rfl rfl rfl rfl rfl rfl (by assumption) (by assumption) (by simp) ?_ | refine Wd.off rfl rfl rfl ?_)
        refine Wd.pure rfl rfl rfl rfl (fun _ => val_cutG (p := k) (q := o.length) (m := bc) rfl rfl ⟨_, rfl⟩ rfl rfl (by simp) (by omega) hbc (Nat.le_refl _)) ?_
        refine Wd.appendR (s := 1) rfl rfl rfl rfl rfl rfl (by decide) rfl rfl hO1 (news := nats (o.drop k)) (by rw [nats_len, List.length_drop]; omega) (hRd _ k1) (nats_one _) (by omega) (fun k hk => by omega) (fun h => absurd h (by decide)) ?_
        intro v2 w2 hO2 hK2 _ _
        have k2 := k1.trans hK2
        have hz2 := k2.size
        obtain ⟨B2, b2, rfl⟩ := hO2.form'
        refine Wd.acts (fun v' w' => Own w' (fun j => j < w2.heap.size) 3 1 v' ((k - 0) + (1 + (o.length - k))) (nats (o.take k) ++ ([.int .i64 (i : Int)] ++ nats (o.drop k))) ∧ Keep (fun j => j < w2.heap.size) w2 w') rfl rfl rfl rfl (acts_grow (s := 1) (Y' := fun _ => True) rfl rfl (by decide) rfl rfl (hRk _ k2) (hO2.rd fun _ _ => trivial) (by rw [nats_len, List.length_take]; omega) (by simp [nats_len]; omega) (by omega) (by
          intro u hu
          rcases List.mem_append.1 hu with hu | hu
          · obtain rfl : u = .int .i64 (i : Int) := by simpa using hu
            rfl
          · exact nats_one _ u hu) (by omega)) (fun h => absurd h (by decide)) ?_
        rintro v3 w3 ⟨hO3, hK3⟩
        refine Wd.pure rfl rfl rfl rfl (fun _ => val_pure rfl) ?_
        refine Wd.nil ?_
        repeat (first | with_reducible (first | refine Cw.seq ?_ | refine Cw.block ?_ | refine Cw.region ?_ | refine Cw.skip ?_ | refine Cw.ret ?_ | refine Cw.exit ?_ | refine Ex.then_n ?_ | refine Ex.then_ret ?_ | refine Ex.then_exit ?_ | refine Ex.blk_n ?_ | refine Ex.blk_ret ?_ | refine Ex.blk_eq ?_ | refine Wl.nil ?_ | refine Wq.nil ?_) | (refine Ex.blk_ne rfl ?_) | refine Wl.p rfl rfl rfl rfl ?_ | refine Wq.p rfl rfl rfl rfl ?_ | refine Wl.off rfl rfl rfl ?_ | refine Wq.off rfl rfl rfl ?_ | refine Wl.f rfl rfl rfl rfl rfl ?_ | refine Wq.f rfl rfl rfl rfl rfl ?_ | refine Wl.z rfl rfl rfl rfl rfl ?_ | refine Wq.z rfl rfl rfl rfl rfl ?_ | refine Wl.b rfl rfl rfl rfl rfl ?_ | refine Wl.a rfl rfl rfl rfl rfl ?_ | refine Wl.c rfl rfl rfl rfl rfl ?_ | refine Wq.c rfl rfl rfl rfl rfl ?_ | refine Wl.x rfl rfl rfl rfl rfl rfl (by omega) ?_ | refine Wq.x rfl rfl rfl rfl rfl rfl (by omega) ?_ | refine Wl.y rfl rfl rfl rfl rfl rfl (by omega) (by omega) ?_ | refine Wq.y rfl rfl rfl rfl rfl rfl (by omega) (by omega) ?_ | refine Wl.r rfl rfl rfl rfl rfl (by assumption) ?_ | refine Wq.r rfl rfl rfl rfl rfl (by assumption) ?_ | refine Wl.e rfl rfl rfl rfl rfl (by assumption) (by assumption) ?_ | refine Wq.e rfl rfl rfl rfl rfl (by assumption) (by assumption) ?_)
        rw [Parts.succ_eq (by omega)]
        have e : nats (o.take k) ++ ([.int .i64 (i : Int)] ++ nats (o.drop k)) = nats (o.take k ++ [i] ++ o.drop k) := by simp [nats]
        rw [e, show k - 0 + (1 + (o.length - k)) = (o.take k ++ [i] ++ o.drop k).length from by simp; omega] at hO3
        refine Ex.next (i + 1, v3) (by show fs.length - (i + 1) < fs.length - i; omega) ⟨rfl, rfl, rfl, trivial⟩ ⟨?_, hlt, ?_⟩
        · rw [hord]
          exact hO3.avoid fun j hj hx => hO3.2 j hj (by have := hX j hx; have := hK.size; show j < w2.heap.size; omega)
        · exact (hK.trans (k2.mono fun j hj => by have := hX j hj; have := hK.size; omega)).trans (hK3.mono fun j hj => by have := hX j hj; have := hK.size; omega)
  · refine Cw.cond_f (by rw [decide_eq_false (show ¬ (i : Int) < fs.length by omega)]; rfl) ?_
    have hie : i = fs.length := by omega
    subst hie
    repeat (first | with_reducible (first | refine Cw.seq ?_ | refine Cw.block ?_ | refine Cw.region ?_ | refine Cw.skip ?_ | refine Cw.ret ?_ | refine Cw.exit ?_ | refine Ex.then_n ?_ | refine Ex.then_ret ?_ | refine Ex.then_exit ?_ | refine Ex.blk_n ?_ | refine Ex.blk_ret ?_ | refine Ex.blk_eq ?_ | refine Wl.nil ?_ | refine Wq.nil ?_) | (refine Ex.blk_ne rfl ?_) | refine Wl.p rfl rfl rfl rfl ?_ | refine Wq.p rfl rfl rfl rfl ?_ | refine Wl.off rfl rfl rfl ?_ | refine Wq.off rfl rfl rfl ?_ | refine Wl.f rfl rfl rfl rfl rfl ?_ | refine Wq.f rfl rfl rfl rfl rfl ?_ | refine Wl.z rfl rfl rfl rfl rfl ?_ | refine Wq.z rfl rfl rfl rfl rfl ?_ | refine Wl.b rfl rfl rfl rfl rfl ?_ | refine Wl.a rfl rfl rfl rfl rfl ?_ | refine Wl.c rfl rfl rfl rfl rfl ?_ | refine Wq.c rfl rfl rfl rfl rfl ?_ | refine Wl.x rfl rfl rfl rfl rfl rfl (by omega) ?_ | refine Wq.x rfl rfl rfl rfl rfl rfl (by omega) ?_ | refine Wl.y rfl rfl rfl rfl rfl rfl (by omega) (by omega) ?_ | refine Wq.y rfl rfl rfl rfl rfl rfl (by omega) (by omega) ?_ | refine Wl.r rfl rfl rfl rfl rfl (by assumption) ?_ | refine Wq.r rfl rfl rfl rfl rfl (by assumption) ?_ | refine Wl.e rfl rfl rfl rfl rfl (by assumption) (by assumption) ?_ | refine Wq.e rfl rfl rfl rfl rfl (by assumption) (by assumption) ?_)
    exact fin1 (by first | exact .inl rfl | exact .inr rfl) rfl rfl fun U hd => ⟨hO.dr hd, hK.then_dr hd⟩
end Go.Proofs.Ytbjcdgcdnbnknaa.Merge
