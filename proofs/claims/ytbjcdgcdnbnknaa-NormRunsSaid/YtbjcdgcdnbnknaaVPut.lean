/- vint.Put: a number in bytes. -/
import Derived.Test.YtbjcdgcdnbnknaaBuild
namespace Go.Proofs.Ytbjcdgcdnbnknaa.Norm
open Go.RowKit Go.Proofs.Ytbjcdgcdnbnknaa.Sx Go.Proofs.Ytbjcdgcdnbnknaa.Parts Go.Proofs.Ytbjcdgcdnbnknaa.Merge Go.Proofs.Ytbjcdgcdnbnknaa.Heap
set_option maxRecDepth 20000
/-- The bytes of a number. -/
def putV (u : Nat) : List UInt8 := if h : u < 128 then [UInt8.ofNat u] else UInt8.ofNat (u % 128 + 128) :: putV (u / 128)
theorem putV_len : ∀ (k u : Nat), u < 128 ^ (k + 1) → (putV u).length ≤ k + 1
  | 0, u, h => by unfold putV; rw [dif_pos (by simpa using h)]; simp
  | k + 1, u, h => by
    unfold putV
    split
    · simp
    · have := putV_len k (u / 128) (by rw [Nat.div_lt_iff_lt_mul (by omega), ← Nat.pow_succ]; exact h)
      simp only [List.length_cons]; omega
theorem putV_pos (u : Nat) : putV u ≠ [] := by unfold putV; split <;> simp
theorem u8_of (x : Nat) (h : x < 256) : Value.int .u8 ((UInt8.ofNat x).toNat : Int) = .int .u8 (x : Int) := by
  rw [UInt8.toNat_ofNat_of_lt' h]
theorem or128 (u : Nat) : orK .u8 (IntKind.u8.wrap (u : Int)) 128 = ((u % 128 + 128 : Nat) : Int) := by
  have h : ∀ x : Nat, x < 256 → orK .u8 (x : Int) 128 = ((x % 128 + 128 : Nat) : Int) := by decide +kernel
  have e : IntKind.u8.wrap (u : Int) = ((u % 256 : Nat) : Int) := by rw [IntKind.wrap_u8]; omega
  rw [e, h _ (Nat.mod_lt _ (by omega))]
  omega
theorem wrap8 (u : Nat) (h : u < 128) : IntKind.u8.wrap (u : Int) = (u : Int) := by rw [IntKind.wrap_u8]; omega
theorem shr7 (u : Nat) : shrK .u64 (u : Int) 7 = ((u / 128 : Nat) : Int) := by
  unfold shrK
  rw [show min 7 IntKind.u64.bits = 7 from rfl, show ((2 : Int) ^ 7) = 128 from rfl, Int.fdiv_eq_ediv_of_nonneg _ (by omega)]
  omega
theorem vput {W : World} {u : Nat} (hu : u < 18446744073709551616) :
    Ctr Try.prog 34 [.int .u64 u] W fun y V => y = txt (putV u) ∧ Keep (fun k => k < W.heap.size) W V := by
  refine ctr Try.func34 rfl Try.ntmps34 rfl ?_
  repeat (first | with_reducible (first | refine Cw.seq ?_ | refine Cw.block ?_ | refine Cw.region ?_ | refine Cw.skip ?_ | refine Cw.ret ?_ | refine Cw.exit ?_ | refine Ex.then_n ?_ | refine Ex.then_ret ?_ | refine Ex.then_exit ?_ | refine Ex.blk_n ?_ | refine Ex.blk_ret ?_ | refine Ex.blk_eq ?_ | refine Wl.nil ?_ | refine Wq.nil ?_) | (refine Ex.blk_ne rfl ?_) | refine Wl.p rfl rfl rfl rfl ?_ | refine Wq.p rfl rfl rfl rfl ?_ | refine Wl.off rfl rfl rfl ?_ | refine Wq.off rfl rfl rfl ?_ | refine Wl.f rfl rfl rfl rfl rfl ?_ | refine Wq.f rfl rfl rfl rfl rfl ?_ | refine Wl.z rfl rfl rfl rfl rfl ?_ | refine Wq.z rfl rfl rfl rfl rfl ?_ | refine Wl.b rfl rfl rfl rfl rfl ?_ | refine Wl.a rfl rfl rfl rfl rfl ?_ | refine Wl.c rfl rfl rfl rfl rfl ?_ | refine Wq.c rfl rfl rfl rfl rfl ?_ | refine Wl.x rfl rfl rfl rfl rfl rfl (by omega) ?_ | refine Wq.x rfl rfl rfl rfl rfl rfl (by omega) ?_ | refine Wl.y rfl rfl rfl rfl rfl rfl (by omega) (by omega) ?_ | refine Wq.y rfl rfl rfl rfl rfl rfl (by omega) (by omega) ?_ | refine Wl.r rfl rfl rfl rfl rfl (by assumption) ?_ | refine Wq.r rfl rfl rfl rfl rfl (by assumption) ?_ | refine Wl.e rfl rfl rfl rfl rfl (by assumption) (by assumption) ?_ | refine Wq.e rfl rfl rfl rfl rfl (by assumption) (by assumption) ?_)
  refine Cw.loop (σ := Nat × List UInt8 × Value) (fun s => [(0, .int .u64 s.1), (3, s.2.2)]) (fun s V => s.2.1 ++ putV s.1 = putV u ∧ s.1 ≤ u ∧ Own V (fun k => k < W.heap.size) 5 1 s.2.2 s.2.1.length (u8v s.2.1) ∧ s.2.1.length ≤ 100 ∧ Keep (fun k => k < W.heap.size) W V) (fun s => s.1) (u, [], .slice none 0 0) ⟨rfl, rfl, trivial⟩ ⟨rfl, Nat.le_refl _, Own.nil .., by simp, Keep.refl _ _⟩ ?_
  rintro ⟨n, b, v⟩ V ⟨hu1, hn, hO, hb, hK⟩
  simp only at hu1 hn hO hb ⊢
  have hlen := congrArg List.length hu1
  have hpl := putV_len 9 u (by omega)
  rw [List.length_append] at hlen
  have hzV := hK.size
  repeat (first | with_reducible (first | refine Cw.seq ?_ | refine Cw.block ?_ | refine Cw.region ?_ | refine Cw.skip ?_ | refine Cw.ret ?_ | refine Cw.exit ?_ | refine Ex.then_n ?_ | refine Ex.then_ret ?_ | refine Ex.then_exit ?_ | refine Ex.blk_n ?_ | refine Ex.blk_ret ?_ | refine Ex.blk_eq ?_ | refine Wl.nil ?_ | refine Wq.nil ?_) | (refine Ex.blk_ne rfl ?_) | refine Wl.p rfl rfl rfl rfl ?_ | refine Wq.p rfl rfl rfl rfl ?_ | refine Wl.off rfl rfl rfl ?_ | refine Wq.off rfl rfl rfl ?_ | refine Wl.f rfl rfl rfl rfl rfl ?_ | refine Wq.f rfl rfl rfl rfl rfl ?_ | refine Wl.z rfl rfl rfl rfl rfl ?_ | refine Wq.z rfl rfl rfl rfl rfl ?_ | refine Wl.b rfl rfl rfl rfl rfl ?_ | refine Wl.a rfl rfl rfl rfl rfl ?_ | refine Wl.c rfl rfl rfl rfl rfl ?_ | refine Wq.c rfl rfl rfl rfl rfl ?_ | refine Wl.x rfl rfl rfl rfl rfl rfl (by omega) ?_ | refine Wq.x rfl rfl rfl rfl rfl rfl (by omega) ?_ | refine Wl.y rfl rfl rfl rfl rfl rfl (by omega) (by omega) ?_ | refine Wq.y rfl rfl rfl rfl rfl rfl (by omega) (by omega) ?_ | refine Wl.r rfl rfl rfl rfl rfl (by assumption) ?_ | refine Wq.r rfl rfl rfl rfl rfl (by assumption) ?_ | refine Wl.e rfl rfl rfl rfl rfl (by assumption) (by assumption) ?_ | refine Wq.e rfl rfl rfl rfl rfl (by assumption) (by assumption) ?_)
  by_cases hlt : n < 128
  · refine Cw.cond_f (by rw [decide_eq_false (show ¬ (128 : Int) ≤ n by omega)]; rfl) ?_
    repeat (first | with_reducible (first | refine Cw.seq ?_ | refine Cw.block ?_ | refine Cw.region ?_ | refine Cw.skip ?_ | refine Cw.ret ?_ | refine Cw.exit ?_ | refine Ex.then_n ?_ | refine Ex.then_ret ?_ | refine Ex.then_exit ?_ | refine Ex.blk_n ?_ | refine Ex.blk_ret ?_ | refine Ex.blk_eq ?_ | refine Wl.nil ?_ | refine Wq.nil ?_) | (refine Ex.blk_ne rfl ?_) | refine Wl.p rfl rfl rfl rfl ?_ | refine Wq.p rfl rfl rfl rfl ?_ | refine Wl.off rfl rfl rfl ?_ | refine Wq.off rfl rfl rfl ?_ | refine Wl.f rfl rfl rfl rfl rfl ?_ | refine Wq.f rfl rfl rfl rfl rfl ?_ | refine Wl.z rfl rfl rfl rfl rfl ?_ | refine Wq.z rfl rfl rfl rfl rfl ?_ | refine Wl.b rfl rfl rfl rfl rfl ?_ | refine Wl.a rfl rfl rfl rfl rfl ?_ | refine Wl.c rfl rfl rfl rfl rfl ?_ | refine Wq.c rfl rfl rfl rfl rfl ?_ | refine Wl.x rfl rfl rfl rfl rfl rfl (by omega) ?_ | refine Wq.x rfl rfl rfl rfl rfl rfl (by omega) ?_ | refine Wl.y rfl rfl rfl rfl rfl rfl (by omega) (by omega) ?_ | refine Wq.y rfl rfl rfl rfl rfl rfl (by omega) (by omega) ?_ | refine Wl.r rfl rfl rfl rfl rfl (by assumption) ?_ | refine Wq.r rfl rfl rfl rfl rfl (by assumption) ?_ | refine Wl.e rfl rfl rfl rfl rfl (by assumption) (by assumption) ?_ | refine Wq.e rfl rfl rfl rfl rfl (by assumption) (by assumption) ?_)
    rw [wrap8 n hlt]
    refine Wl.slice1 rfl rfl rfl rfl rfl rfl rfl ?_
    intro c w1 hc hR hK1 hs1
    have hO1 := hO.kept (W' := w1) fun k hk => hK1.block k (by have := hO.lt k hk; omega)
    refine Wl.append rfl rfl rfl rfl (by decide) (by decide) rfl rfl hO1 (news := u8v [UInt8.ofNat n]) rfl (fun j u hj => hR.cell (by rw [← hj]; unfold u8v; rw [List.map_cons, u8_of n (by omega)]; rfl)) (u8v_one _) (by omega) (fun k hk => by omega) ?_
    intro v' w2 hO2 hK2 _ _
    rw [← u8v_append] at hO2
    refine Wl.val rfl rfl rfl (val_text rfl rfl hO2) ?_
    repeat (first | with_reducible (first | refine Cw.seq ?_ | refine Cw.block ?_ | refine Cw.region ?_ | refine Cw.skip ?_ | refine Cw.ret ?_ | refine Cw.exit ?_ | refine Ex.then_n ?_ | refine Ex.then_ret ?_ | refine Ex.then_exit ?_ | refine Ex.blk_n ?_ | refine Ex.blk_ret ?_ | refine Ex.blk_eq ?_ | refine Wl.nil ?_ | refine Wq.nil ?_) | (refine Ex.blk_ne rfl ?_) | refine Wl.p rfl rfl rfl rfl ?_ | refine Wq.p rfl rfl rfl rfl ?_ | refine Wl.off rfl rfl rfl ?_ | refine Wq.off rfl rfl rfl ?_ | refine Wl.f rfl rfl rfl rfl rfl ?_ | refine Wq.f rfl rfl rfl rfl rfl ?_ | refine Wl.z rfl rfl rfl rfl rfl ?_ | refine Wq.z rfl rfl rfl rfl rfl ?_ | refine Wl.b rfl rfl rfl rfl rfl ?_ | refine Wl.a rfl rfl rfl rfl rfl ?_ | refine Wl.c rfl rfl rfl rfl rfl ?_ | refine Wq.c rfl rfl rfl rfl rfl ?_ | refine Wl.x rfl rfl rfl rfl rfl rfl (by omega) ?_ | refine Wq.x rfl rfl rfl rfl rfl rfl (by omega) ?_ | refine Wl.y rfl rfl rfl rfl rfl rfl (by omega) (by omega) ?_ | refine Wq.y rfl rfl rfl rfl rfl rfl (by omega) (by omega) ?_ | refine Wl.r rfl rfl rfl rfl rfl (by assumption) ?_ | refine Wq.r rfl rfl rfl rfl rfl (by assumption) ?_ | refine Wl.e rfl rfl rfl rfl rfl (by assumption) (by assumption) ?_ | refine Wq.e rfl rfl rfl rfl rfl (by assumption) (by assumption) ?_)
    refine fin1 (by first | exact .inl rfl | exact .inr rfl) rfl rfl fun U hd => ⟨?_, ((hK.trans (hK1.mono fun k hk => by omega)).trans hK2).then_dr hd⟩
    rw [← hu1]
    conv => rhs; unfold putV
    rw [dif_pos hlt]
  · refine Cw.cond_t (by rw [decide_eq_true (show (128 : Int) ≤ n by omega)]; rfl) ?_
    repeat (first | with_reducible (first | refine Cw.seq ?_ | refine Cw.block ?_ | refine Cw.region ?_ | refine Cw.skip ?_ | refine Cw.ret ?_ | refine Cw.exit ?_ | refine Ex.then_n ?_ | refine Ex.then_ret ?_ | refine Ex.then_exit ?_ | refine Ex.blk_n ?_ | refine Ex.blk_ret ?_ | refine Ex.blk_eq ?_ | refine Wl.nil ?_ | refine Wq.nil ?_) | (refine Ex.blk_ne rfl ?_) | refine Wl.p rfl rfl rfl rfl ?_ | refine Wq.p rfl rfl rfl rfl ?_ | refine Wl.off rfl rfl rfl ?_ | refine Wq.off rfl rfl rfl ?_ | refine Wl.f rfl rfl rfl rfl rfl ?_ | refine Wq.f rfl rfl rfl rfl rfl ?_ | refine Wl.z rfl rfl rfl rfl rfl ?_ | refine Wq.z rfl rfl rfl rfl rfl ?_ | refine Wl.b rfl rfl rfl rfl rfl ?_ | refine Wl.a rfl rfl rfl rfl rfl ?_ | refine Wl.c rfl rfl rfl rfl rfl ?_ | refine Wq.c rfl rfl rfl rfl rfl ?_ | refine Wl.x rfl rfl rfl rfl rfl rfl (by omega) ?_ | refine Wq.x rfl rfl rfl rfl rfl rfl (by omega) ?_ | refine Wl.y rfl rfl rfl rfl rfl rfl (by omega) (by omega) ?_ | refine Wq.y rfl rfl rfl rfl rfl rfl (by omega) (by omega) ?_ | refine Wl.r rfl rfl rfl rfl rfl (by assumption) ?_ | refine Wq.r rfl rfl rfl rfl rfl (by assumption) ?_ | refine Wl.e rfl rfl rfl rfl rfl (by assumption) (by assumption) ?_ | refine Wq.e rfl rfl rfl rfl rfl (by assumption) (by assumption) ?_)
    rw [or128]
    refine Wl.slice1 rfl rfl rfl rfl rfl rfl rfl ?_
    intro c w1 hc hR hK1 hs1
    have hO1 := hO.kept (W' := w1) fun k hk => hK1.block k (by have := hO.lt k hk; omega)
    refine Wl.append rfl rfl rfl rfl (by decide) (by decide) rfl rfl hO1 (news := u8v [UInt8.ofNat (n % 128 + 128)]) rfl (fun j u hj => hR.cell (by rw [← hj]; unfold u8v; rw [List.map_cons, u8_of _ (by omega)]; rfl)) (u8v_one _) (by omega) (fun k hk => by omega) ?_
    intro v' w2 hO2 hK2 _ _
    rw [← u8v_append] at hO2
    have hun : putV n = UInt8.ofNat (n % 128 + 128) :: putV (n / 128) := by conv => lhs; unfold putV
                                                                            rw [dif_neg hlt]
    have hpp := putV_pos (n / 128)
    repeat (first | with_reducible (first | refine Cw.seq ?_ | refine Cw.block ?_ | refine Cw.region ?_ | refine Cw.skip ?_ | refine Cw.ret ?_ | refine Cw.exit ?_ | refine Ex.then_n ?_ | refine Ex.then_ret ?_ | refine Ex.then_exit ?_ | refine Ex.blk_n ?_ | refine Ex.blk_ret ?_ | refine Ex.blk_eq ?_ | refine Wl.nil ?_ | refine Wq.nil ?_) | (refine Ex.blk_ne rfl ?_) | refine Wl.p rfl rfl rfl rfl ?_ | refine Wq.p rfl rfl rfl rfl ?_ | refine Wl.off rfl rfl rfl ?_ | refine Wq.off rfl rfl rfl ?_ | refine Wl.f rfl rfl rfl rfl rfl ?_ | refine Wq.f rfl rfl rfl rfl rfl ?_ | refine Wl.z rfl rfl rfl rfl rfl ?_ | refine Wq.z rfl rfl rfl rfl rfl ?_ | refine Wl.b rfl rfl rfl rfl rfl ?_ | refine Wl.a rfl rfl rfl rfl rfl ?_ | refine Wl.c rfl rfl rfl rfl rfl ?_ | refine Wq.c rfl rfl rfl rfl rfl ?_ | refine Wl.x rfl rfl rfl rfl rfl rfl (by omega) ?_ | refine Wq.x rfl rfl rfl rfl rfl rfl (by omega) ?_ | refine Wl.y rfl rfl rfl rfl rfl rfl (by omega) (by omega) ?_ | refine Wq.y rfl rfl rfl rfl rfl rfl (by omega) (by omega) ?_ | refine Wl.r rfl rfl rfl rfl rfl (by assumption) ?_ | refine Wq.r rfl rfl rfl rfl rfl (by assumption) ?_ | refine Wl.e rfl rfl rfl rfl rfl (by assumption) (by assumption) ?_ | refine Wq.e rfl rfl rfl rfl rfl (by assumption) (by assumption) ?_)
    rw [shr7]
    refine Ex.next (n / 128, b ++ [UInt8.ofNat (n % 128 + 128)], v') (by show n / 128 < n; omega) ⟨rfl, rfl, trivial⟩ ⟨?_, by show n / 128 ≤ u; omega, by show Own w2 _ _ 1 v' (b ++ [UInt8.ofNat (n % 128 + 128)]).length _; rw [List.length_append]; exact hO2, by show (b ++ [UInt8.ofNat (n % 128 + 128)]).length ≤ 100; rw [List.length_append]; simp only [List.length_cons, List.length_nil]; omega, (hK.trans (hK1.mono fun k hk => by omega)).trans hK2⟩
    show (b ++ [UInt8.ofNat (n % 128 + 128)]) ++ putV (n / 128) = putV u
    rw [← hu1, hun, List.append_assoc]; rfl
end Go.Proofs.Ytbjcdgcdnbnknaa.Norm
