/- hist.Parts, Values, Of; SameInts. -/
import Derived.Test.YtdakocdfpdglfaaZig
namespace Go.Proofs.Ytdakocdfpdglfaa.Parts
open Go.RowKit Go.Proofs.Ytdakocdfpdglfaa.Sx Go.Proofs.Ytdakocdfpdglfaa.Zig
set_option maxRecDepth 20000
def pts (ps : List (Int × Int)) : List Value := ps.flatMap fun p => [.int .i64 p.1, .int .u64 p.2]
theorem pts_len (ps : List (Int × Int)) : (pts ps).length = ps.length * 2 := by
  induction ps with
  | nil => rfl
  | cons p r ih => simp only [pts, List.flatMap_cons, List.length_append, List.length_cons, List.length_nil] at *; omega
theorem pts_get0 : ∀ (ps : List (Int × Int)) (i : Nat) (h : i < ps.length), (pts ps)[i * 2]? = some (.int .i64 ps[i].1)
  | p :: r, 0, _ => rfl
  | p :: r, i + 1, h => by
    have := pts_get0 r i (by simpa using h)
    simp only [pts, List.flatMap_cons] at *
    rw [show (i + 1) * 2 = i * 2 + 2 from by omega]
    simpa using this
theorem pts_get1 : ∀ (ps : List (Int × Int)) (i : Nat) (h : i < ps.length), (pts ps)[i * 2 + 1]? = some (.int .u64 ps[i].2)
  | p :: r, 0, _ => rfl
  | p :: r, i + 1, h => by
    have := pts_get1 r i (by simpa using h)
    simp only [pts, List.flatMap_cons] at *
    rw [show (i + 1) * 2 + 1 = i * 2 + 1 + 2 from by omega]
    simpa using this
theorem pts_append (ps qs : List (Int × Int)) : pts (ps ++ qs) = pts ps ++ pts qs := by simp [pts]
theorem pts_one (ps : List (Int × Int)) : ∀ u ∈ pts ps, u.oneCell' = true := by
  intro u hu; simp only [pts, List.mem_flatMap] at hu
  obtain ⟨p, _, h⟩ := hu
  simp at h; rcases h with rfl | rfl <;> rfl
theorem pts_take (ps : List (Int × Int)) (k : Nat) : (pts ps).take (k * 2) = pts (ps.take k) := by
  induction ps generalizing k with
  | nil => simp [pts]
  | cons p r ih =>
    cases k with
    | zero => simp [pts]
    | succ k =>
      have := ih k
      simp only [pts, List.flatMap_cons, List.take_succ_cons] at *
      rw [show (k + 1) * 2 = k * 2 + 2 from by omega]
      simp [this]
theorem pts_drop (ps : List (Int × Int)) (k : Nat) : (pts ps).drop (k * 2) = pts (ps.drop k) := by
  induction ps generalizing k with
  | nil => simp [pts]
  | cons p r ih =>
    cases k with
    | zero => simp [pts]
    | succ k =>
      have := ih k
      simp only [pts, List.flatMap_cons, List.drop_succ_cons] at *
      rw [show (k + 1) * 2 = k * 2 + 2 from by omega]
      simp [this]
def i64s (zs : List Int) : Prop := ∀ z ∈ zs, -9223372036854775808 ≤ z ∧ z ≤ 9223372036854775807
theorem succ_eq {i : Nat} (h : i < 9000000000000) : wrap64 ((i : Int) + 1) = ((i + 1 : Nat) : Int) := by
  rw [Go.IntWalk.wrap64_in _ (by omega)]; omega
theorem parts {W : World} {X : Nat → Prop} {A : Option Addr} {cap : Nat} {zs : List Int} (hF : Rd W X A zs.length (ints zs)) (hX : ∀ k, X k → k < W.heap.size) (hz : i64s zs) (hl : zs.length < 800000) :
    Ctr Try.prog 19 [.slice A zs.length cap] W fun y V => Own V X 41 2 y zs.length (pts (zs.map splitP)) ∧ Keep X W V := by
  refine ctr Try.func19 rfl Try.ntmps19 rfl ?_
  repeat (first | with_reducible (first | refine Cw.seq ?_ | refine Cw.block ?_ | refine Cw.region ?_ | refine Cw.skip ?_ | refine Cw.ret ?_ | refine Cw.exit ?_ | refine Ex.then_n ?_ | refine Ex.then_ret ?_ | refine Ex.then_exit ?_ | refine Ex.blk_n ?_ | refine Ex.blk_ret ?_ | refine Ex.blk_eq ?_ | refine Wl.nil ?_ | refine Wq.nil ?_) | (refine Ex.blk_ne rfl ?_) | refine Wl.p rfl rfl rfl rfl ?_ | refine Wq.p rfl rfl rfl rfl ?_ | refine Wl.off rfl rfl rfl ?_ | refine Wq.off rfl rfl rfl ?_ | refine Wl.f rfl rfl rfl rfl rfl ?_ | refine Wq.f rfl rfl rfl rfl rfl ?_ | refine Wl.z rfl rfl rfl rfl rfl ?_ | refine Wq.z rfl rfl rfl rfl rfl ?_ | refine Wl.b rfl rfl rfl rfl rfl ?_ | refine Wl.a rfl rfl rfl rfl rfl ?_ | refine Wl.c rfl rfl rfl rfl rfl ?_ | refine Wq.c rfl rfl rfl rfl rfl ?_ | refine Wl.x rfl rfl rfl rfl rfl rfl (by omega) ?_ | refine Wq.x rfl rfl rfl rfl rfl rfl (by omega) ?_ | refine Wl.y rfl rfl rfl rfl rfl rfl (by omega) (by omega) ?_ | refine Wq.y rfl rfl rfl rfl rfl rfl (by omega) (by omega) ?_ | refine Wl.r rfl rfl rfl rfl rfl (by assumption) ?_ | refine Wq.r rfl rfl rfl rfl rfl (by assumption) ?_ | refine Wl.e rfl rfl rfl rfl rfl (by assumption) (by assumption) ?_ | refine Wq.e rfl rfl rfl rfl rfl (by assumption) (by assumption) ?_)
  refine Cw.loop (σ := Nat × Value) (fun s => [(3, s.2), (6, .slice A zs.length cap), (7, .int .i64 zs.length), (8, .int .i64 s.1)]) (fun s V => Own V X 41 2 s.2 s.1 (pts ((zs.take s.1).map splitP)) ∧ s.1 ≤ zs.length ∧ Keep X W V) (fun s => zs.length - s.1) (0, .slice none 0 0) ⟨rfl, rfl, rfl, rfl, trivial⟩ ⟨Own.nil .., Nat.zero_le _, Keep.refl X W⟩ ?_
  rintro ⟨i, vo⟩ V ⟨hO, hi, hK⟩
  simp only at hO hi ⊢
  repeat (first | with_reducible (first | refine Cw.seq ?_ | refine Cw.block ?_ | refine Cw.region ?_ | refine Cw.skip ?_ | refine Cw.ret ?_ | refine Cw.exit ?_ | refine Ex.then_n ?_ | refine Ex.then_ret ?_ | refine Ex.then_exit ?_ | refine Ex.blk_n ?_ | refine Ex.blk_ret ?_ | refine Ex.blk_eq ?_ | refine Wl.nil ?_ | refine Wq.nil ?_) | (refine Ex.blk_ne rfl ?_) | refine Wl.p rfl rfl rfl rfl ?_ | refine Wq.p rfl rfl rfl rfl ?_ | refine Wl.off rfl rfl rfl ?_ | refine Wq.off rfl rfl rfl ?_ | refine Wl.f rfl rfl rfl rfl rfl ?_ | refine Wq.f rfl rfl rfl rfl rfl ?_ | refine Wl.z rfl rfl rfl rfl rfl ?_ | refine Wq.z rfl rfl rfl rfl rfl ?_ | refine Wl.b rfl rfl rfl rfl rfl ?_ | refine Wl.a rfl rfl rfl rfl rfl ?_ | refine Wl.c rfl rfl rfl rfl rfl ?_ | refine Wq.c rfl rfl rfl rfl rfl ?_ | refine Wl.x rfl rfl rfl rfl rfl rfl (by omega) ?_ | refine Wq.x rfl rfl rfl rfl rfl rfl (by omega) ?_ | refine Wl.y rfl rfl rfl rfl rfl rfl (by omega) (by omega) ?_ | refine Wq.y rfl rfl rfl rfl rfl rfl (by omega) (by omega) ?_ | refine Wl.r rfl rfl rfl rfl rfl (by assumption) ?_ | refine Wq.r rfl rfl rfl rfl rfl (by assumption) ?_ | refine Wl.e rfl rfl rfl rfl rfl (by assumption) (by assumption) ?_ | refine Wq.e rfl rfl rfl rfl rfl (by assumption) (by assumption) ?_)
  by_cases hlt : i < zs.length
  · refine Cw.cond_t (by rw [decide_eq_true (show (i : Int) < zs.length by omega)]; rfl) ?_
    have hFV := hF.keep hK
    obtain ⟨ag, off, rfl, _, hcell⟩ := hFV.at_ (ints_get hlt)
    have hc : V.cell? ⟨ag, off + i * 1, none⟩ = some (.int .i64 zs[i]) := by rw [Nat.mul_one]; exact hcell i _ (ints_get hlt)
    repeat (first | with_reducible (first | refine Cw.seq ?_ | refine Cw.block ?_ | refine Cw.region ?_ | refine Cw.skip ?_ | refine Cw.ret ?_ | refine Cw.exit ?_ | refine Ex.then_n ?_ | refine Ex.then_ret ?_ | refine Ex.then_exit ?_ | refine Ex.blk_n ?_ | refine Ex.blk_ret ?_ | refine Ex.blk_eq ?_ | refine Wl.nil ?_ | refine Wq.nil ?_) | (refine Ex.blk_ne rfl ?_) | refine Wl.p rfl rfl rfl rfl ?_ | refine Wq.p rfl rfl rfl rfl ?_ | refine Wl.off rfl rfl rfl ?_ | refine Wq.off rfl rfl rfl ?_ | refine Wl.f rfl rfl rfl rfl rfl ?_ | refine Wq.f rfl rfl rfl rfl rfl ?_ | refine Wl.z rfl rfl rfl rfl rfl ?_ | refine Wq.z rfl rfl rfl rfl rfl ?_ | refine Wl.b rfl rfl rfl rfl rfl ?_ | refine Wl.a rfl rfl rfl rfl rfl ?_ | refine Wl.c rfl rfl rfl rfl rfl ?_ | refine Wq.c rfl rfl rfl rfl rfl ?_ | refine Wl.x rfl rfl rfl rfl rfl rfl (by omega) ?_ | refine Wq.x rfl rfl rfl rfl rfl rfl (by omega) ?_ | refine Wl.y rfl rfl rfl rfl rfl rfl (by omega) (by omega) ?_ | refine Wq.y rfl rfl rfl rfl rfl rfl (by omega) (by omega) ?_ | refine Wl.r rfl rfl rfl rfl rfl (by assumption) ?_ | refine Wq.r rfl rfl rfl rfl rfl (by assumption) ?_ | refine Wl.e rfl rfl rfl rfl rfl (by assumption) (by assumption) ?_ | refine Wq.e rfl rfl rfl rfl rfl (by assumption) (by assumption) ?_)
    have hzi := hz zs[i] (List.getElem_mem hlt)
    refine Wl.call rfl rfl rfl (by exact goes_func rfl rfl) (split_ hzi.1 hzi.2) ?_
    rintro x w1 ⟨rfl, hK1⟩
    refine Wl.slice2 rfl rfl rfl rfl rfl ?_
    intro c w2 hcc hRc hK2 hs2
    have hVX : ∀ k, X k → k < V.heap.size := fun k hk => Nat.lt_of_lt_of_le (hX k hk) hK.size
    have hs1 := hK1.size
    have hO2 : Own w2 X _ 2 vo i (pts ((zs.take i).map splitP)) := (hO.kept (W' := w1) fun k hk => hK1.block k (hO.lt k hk)).kept fun k hk => hK2.block k (by have := hO.lt k hk; omega)
    refine Wl.append rfl rfl rfl rfl (by decide) (by decide) rfl rfl hO2 (news := pts [splitP zs[i]]) rfl (fun j u hj => hRc.cell hj) (pts_one _) (by omega) (fun k hk => by have := hVX k hk; omega) ?_
    intro v' w3 hO3 hK3 _ _
    rw [← pts_append, ← List.map_singleton, ← List.map_append, List.take_append_getElem] at hO3
    repeat (first | with_reducible (first | refine Cw.seq ?_ | refine Cw.block ?_ | refine Cw.region ?_ | refine Cw.skip ?_ | refine Cw.ret ?_ | refine Cw.exit ?_ | refine Ex.then_n ?_ | refine Ex.then_ret ?_ | refine Ex.then_exit ?_ | refine Ex.blk_n ?_ | refine Ex.blk_ret ?_ | refine Ex.blk_eq ?_ | refine Wl.nil ?_ | refine Wq.nil ?_) | (refine Ex.blk_ne rfl ?_) | refine Wl.p rfl rfl rfl rfl ?_ | refine Wq.p rfl rfl rfl rfl ?_ | refine Wl.off rfl rfl rfl ?_ | refine Wq.off rfl rfl rfl ?_ | refine Wl.f rfl rfl rfl rfl rfl ?_ | refine Wq.f rfl rfl rfl rfl rfl ?_ | refine Wl.z rfl rfl rfl rfl rfl ?_ | refine Wq.z rfl rfl rfl rfl rfl ?_ | refine Wl.b rfl rfl rfl rfl rfl ?_ | refine Wl.a rfl rfl rfl rfl rfl ?_ | refine Wl.c rfl rfl rfl rfl rfl ?_ | refine Wq.c rfl rfl rfl rfl rfl ?_ | refine Wl.x rfl rfl rfl rfl rfl rfl (by omega) ?_ | refine Wq.x rfl rfl rfl rfl rfl rfl (by omega) ?_ | refine Wl.y rfl rfl rfl rfl rfl rfl (by omega) (by omega) ?_ | refine Wq.y rfl rfl rfl rfl rfl rfl (by omega) (by omega) ?_ | refine Wl.r rfl rfl rfl rfl rfl (by assumption) ?_ | refine Wq.r rfl rfl rfl rfl rfl (by assumption) ?_ | refine Wl.e rfl rfl rfl rfl rfl (by assumption) (by assumption) ?_ | refine Wq.e rfl rfl rfl rfl rfl (by assumption) (by assumption) ?_)
    rw [succ_eq (by omega)]
    exact Ex.next (i + 1, v') (by show zs.length - (i + 1) < zs.length - i; omega) ⟨rfl, rfl, rfl, rfl, trivial⟩ ⟨hO3, hlt, ((hK.trans (hK1.mono fun k hk => hVX k hk)).trans (hK2.mono fun k hk => by have := hVX k hk; omega)).trans hK3⟩
  · refine Cw.cond_f (by rw [decide_eq_false (show ¬ (i : Int) < zs.length by omega)]; rfl) ?_
    have hie : i = zs.length := by omega
    subst hie
    rw [List.take_length] at hO
    repeat (first | with_reducible (first | refine Cw.seq ?_ | refine Cw.block ?_ | refine Cw.region ?_ | refine Cw.skip ?_ | refine Cw.ret ?_ | refine Cw.exit ?_ | refine Ex.then_n ?_ | refine Ex.then_ret ?_ | refine Ex.then_exit ?_ | refine Ex.blk_n ?_ | refine Ex.blk_ret ?_ | refine Ex.blk_eq ?_ | refine Wl.nil ?_ | refine Wq.nil ?_) | (refine Ex.blk_ne rfl ?_) | refine Wl.p rfl rfl rfl rfl ?_ | refine Wq.p rfl rfl rfl rfl ?_ | refine Wl.off rfl rfl rfl ?_ | refine Wq.off rfl rfl rfl ?_ | refine Wl.f rfl rfl rfl rfl rfl ?_ | refine Wq.f rfl rfl rfl rfl rfl ?_ | refine Wl.z rfl rfl rfl rfl rfl ?_ | refine Wq.z rfl rfl rfl rfl rfl ?_ | refine Wl.b rfl rfl rfl rfl rfl ?_ | refine Wl.a rfl rfl rfl rfl rfl ?_ | refine Wl.c rfl rfl rfl rfl rfl ?_ | refine Wq.c rfl rfl rfl rfl rfl ?_ | refine Wl.x rfl rfl rfl rfl rfl rfl (by omega) ?_ | refine Wq.x rfl rfl rfl rfl rfl rfl (by omega) ?_ | refine Wl.y rfl rfl rfl rfl rfl rfl (by omega) (by omega) ?_ | refine Wq.y rfl rfl rfl rfl rfl rfl (by omega) (by omega) ?_ | refine Wl.r rfl rfl rfl rfl rfl (by assumption) ?_ | refine Wq.r rfl rfl rfl rfl rfl (by assumption) ?_ | refine Wl.e rfl rfl rfl rfl rfl (by assumption) (by assumption) ?_ | refine Wq.e rfl rfl rfl rfl rfl (by assumption) (by assumption) ?_)
    exact fin1 (by first | exact .inl rfl | exact .inr rfl) rfl rfl fun U hd => ⟨hO.dr hd, hK.then_dr hd⟩
/-- Parts whose numbers fit. -/
def fit (ps : List (Int × Int)) : Prop := ∀ p ∈ ps, (-9223372036854775808 ≤ p.1 ∧ p.1 ≤ 9223372036854775807) ∧ 0 ≤ p.2 ∧ p.2 < 18446744073709551616
theorem values {W : World} {X : Nat → Prop} {A : Option Addr} {cap : Nat} {ps : List (Int × Int)} (hF : Rd W X A ps.length (pts ps)) (hX : ∀ k, X k → k < W.heap.size) (hz : fit ps) (hl : ps.length < 800000) :
    Ctr Try.prog 20 [.slice A ps.length cap] W fun y V => (∃ v, y = .tuple #[v, .bool (ps.all fun p => mayP p.1 p.2)] ∧ (if ps.all (fun p => mayP p.1 p.2) then Own V X 2 1 v ps.length (ints (ps.map fun p => joinP p.1 p.2)) else v = .slice none 0 0)) ∧ Keep X W V := by
  refine ctr Try.func20 rfl Try.ntmps20 rfl ?_
  repeat (first | with_reducible (first | refine Cw.seq ?_ | refine Cw.block ?_ | refine Cw.region ?_ | refine Cw.skip ?_ | refine Cw.ret ?_ | refine Cw.exit ?_ | refine Ex.then_n ?_ | refine Ex.then_ret ?_ | refine Ex.then_exit ?_ | refine Ex.blk_n ?_ | refine Ex.blk_ret ?_ | refine Ex.blk_eq ?_ | refine Wl.nil ?_ | refine Wq.nil ?_) | (refine Ex.blk_ne rfl ?_) | refine Wl.p rfl rfl rfl rfl ?_ | refine Wq.p rfl rfl rfl rfl ?_ | refine Wl.off rfl rfl rfl ?_ | refine Wq.off rfl rfl rfl ?_ | refine Wl.f rfl rfl rfl rfl rfl ?_ | refine Wq.f rfl rfl rfl rfl rfl ?_ | refine Wl.z rfl rfl rfl rfl rfl ?_ | refine Wq.z rfl rfl rfl rfl rfl ?_ | refine Wl.b rfl rfl rfl rfl rfl ?_ | refine Wl.a rfl rfl rfl rfl rfl ?_ | refine Wl.c rfl rfl rfl rfl rfl ?_ | refine Wq.c rfl rfl rfl rfl rfl ?_ | refine Wl.x rfl rfl rfl rfl rfl rfl (by omega) ?_ | refine Wq.x rfl rfl rfl rfl rfl rfl (by omega) ?_ | refine Wl.y rfl rfl rfl rfl rfl rfl (by omega) (by omega) ?_ | refine Wq.y rfl rfl rfl rfl rfl rfl (by omega) (by omega) ?_ | refine Wl.r rfl rfl rfl rfl rfl (by assumption) ?_ | refine Wq.r rfl rfl rfl rfl rfl (by assumption) ?_ | refine Wl.e rfl rfl rfl rfl rfl (by assumption) (by assumption) ?_ | refine Wq.e rfl rfl rfl rfl rfl (by assumption) (by assumption) ?_)
  refine Cw.loop (σ := Nat × Value) (fun s => [(4, s.2), (9, .slice A ps.length cap), (10, .int .i64 ps.length), (11, .int .i64 s.1)]) (fun s V => Own V X 2 1 s.2 s.1 (ints ((ps.take s.1).map fun p => joinP p.1 p.2)) ∧ (ps.take s.1).all (fun p => mayP p.1 p.2) = true ∧ s.1 ≤ ps.length ∧ Keep X W V) (fun s => ps.length - s.1) (0, .slice none 0 0) ⟨rfl, rfl, rfl, rfl, trivial⟩ ⟨Own.nil .., rfl, Nat.zero_le _, Keep.refl X W⟩ ?_
  rintro ⟨i, vo⟩ V ⟨hO, hall, hi, hK⟩
  simp only at hO hall hi ⊢
  repeat (first | with_reducible (first | refine Cw.seq ?_ | refine Cw.block ?_ | refine Cw.region ?_ | refine Cw.skip ?_ | refine Cw.ret ?_ | refine Cw.exit ?_ | refine Ex.then_n ?_ | refine Ex.then_ret ?_ | refine Ex.then_exit ?_ | refine Ex.blk_n ?_ | refine Ex.blk_ret ?_ | refine Ex.blk_eq ?_ | refine Wl.nil ?_ | refine Wq.nil ?_) | (refine Ex.blk_ne rfl ?_) | refine Wl.p rfl rfl rfl rfl ?_ | refine Wq.p rfl rfl rfl rfl ?_ | refine Wl.off rfl rfl rfl ?_ | refine Wq.off rfl rfl rfl ?_ | refine Wl.f rfl rfl rfl rfl rfl ?_ | refine Wq.f rfl rfl rfl rfl rfl ?_ | refine Wl.z rfl rfl rfl rfl rfl ?_ | refine Wq.z rfl rfl rfl rfl rfl ?_ | refine Wl.b rfl rfl rfl rfl rfl ?_ | refine Wl.a rfl rfl rfl rfl rfl ?_ | refine Wl.c rfl rfl rfl rfl rfl ?_ | refine Wq.c rfl rfl rfl rfl rfl ?_ | refine Wl.x rfl rfl rfl rfl rfl rfl (by omega) ?_ | refine Wq.x rfl rfl rfl rfl rfl rfl (by omega) ?_ | refine Wl.y rfl rfl rfl rfl rfl rfl (by omega) (by omega) ?_ | refine Wq.y rfl rfl rfl rfl rfl rfl (by omega) (by omega) ?_ | refine Wl.r rfl rfl rfl rfl rfl (by assumption) ?_ | refine Wq.r rfl rfl rfl rfl rfl (by assumption) ?_ | refine Wl.e rfl rfl rfl rfl rfl (by assumption) (by assumption) ?_ | refine Wq.e rfl rfl rfl rfl rfl (by assumption) (by assumption) ?_)
  by_cases hlt : i < ps.length
  · refine Cw.cond_t (by rw [decide_eq_true (show (i : Int) < ps.length by omega)]; rfl) ?_
    have hFV := hF.keep hK
    obtain ⟨ag, off, rfl, _, hcell⟩ := hFV.at_ (pts_get0 ps i hlt)
    have hc : V.cell? ⟨ag, off + i * 2, none⟩ = some (.int .i64 ps[i].1) := hcell _ _ (pts_get0 ps i hlt)
    have hc1 : V.cell? ⟨ag, off + i * 2 + 1, none⟩ = some (.int .u64 ps[i].2) := by rw [Nat.add_assoc]; exact hcell _ _ (pts_get1 ps i hlt)
    have hVX : ∀ k, X k → k < V.heap.size := fun k hk => Nat.lt_of_lt_of_le (hX k hk) hK.size
    repeat (first | with_reducible (first | refine Cw.seq ?_ | refine Cw.block ?_ | refine Cw.region ?_ | refine Cw.skip ?_ | refine Cw.ret ?_ | refine Cw.exit ?_ | refine Ex.then_n ?_ | refine Ex.then_ret ?_ | refine Ex.then_exit ?_ | refine Ex.blk_n ?_ | refine Ex.blk_ret ?_ | refine Ex.blk_eq ?_ | refine Wl.nil ?_ | refine Wq.nil ?_) | (refine Ex.blk_ne rfl ?_) | refine Wl.p rfl rfl rfl rfl ?_ | refine Wq.p rfl rfl rfl rfl ?_ | refine Wl.off rfl rfl rfl ?_ | refine Wq.off rfl rfl rfl ?_ | refine Wl.f rfl rfl rfl rfl rfl ?_ | refine Wq.f rfl rfl rfl rfl rfl ?_ | refine Wl.z rfl rfl rfl rfl rfl ?_ | refine Wq.z rfl rfl rfl rfl rfl ?_ | refine Wl.b rfl rfl rfl rfl rfl ?_ | refine Wl.a rfl rfl rfl rfl rfl ?_ | refine Wl.c rfl rfl rfl rfl rfl ?_ | refine Wq.c rfl rfl rfl rfl rfl ?_ | refine Wl.x rfl rfl rfl rfl rfl rfl (by omega) ?_ | refine Wq.x rfl rfl rfl rfl rfl rfl (by omega) ?_ | refine Wl.y rfl rfl rfl rfl rfl rfl (by omega) (by omega) ?_ | refine Wq.y rfl rfl rfl rfl rfl rfl (by omega) (by omega) ?_ | refine Wl.r rfl rfl rfl rfl rfl (by assumption) ?_ | refine Wq.r rfl rfl rfl rfl rfl (by assumption) ?_ | refine Wl.e rfl rfl rfl rfl rfl (by assumption) (by assumption) ?_ | refine Wq.e rfl rfl rfl rfl rfl (by assumption) (by assumption) ?_)
    refine Wl.alloc [.int .i64 0, .int .u64 0] rfl rfl rfl rfl rfl ?_
    intro b w1 hb hRb hK1 hs1
    refine Wl.putAll (us := [.int .i64 ps[i].1, .int .u64 ps[i].2]) hRb rfl rfl rfl rfl rfl rfl rfl (by simp [Value.oneCell']) ?_
    intro w2 hRb2 hK2 hs2
    have hb0 : w2.cell? ⟨b, 0, none⟩ = some (.int .i64 ps[i].1) := hRb2.cell rfl
    have hb1 : w2.cell? ⟨b, 0 + 1, none⟩ = some (.int .u64 ps[i].2) := hRb2.cell rfl
    repeat (first | with_reducible (first | refine Cw.seq ?_ | refine Cw.block ?_ | refine Cw.region ?_ | refine Cw.skip ?_ | refine Cw.ret ?_ | refine Cw.exit ?_ | refine Ex.then_n ?_ | refine Ex.then_ret ?_ | refine Ex.then_exit ?_ | refine Ex.blk_n ?_ | refine Ex.blk_ret ?_ | refine Ex.blk_eq ?_ | refine Wl.nil ?_ | refine Wq.nil ?_) | (refine Ex.blk_ne rfl ?_) | refine Wl.p rfl rfl rfl rfl ?_ | refine Wq.p rfl rfl rfl rfl ?_ | refine Wl.off rfl rfl rfl ?_ | refine Wq.off rfl rfl rfl ?_ | refine Wl.f rfl rfl rfl rfl rfl ?_ | refine Wq.f rfl rfl rfl rfl rfl ?_ | refine Wl.z rfl rfl rfl rfl rfl ?_ | refine Wq.z rfl rfl rfl rfl rfl ?_ | refine Wl.b rfl rfl rfl rfl rfl ?_ | refine Wl.a rfl rfl rfl rfl rfl ?_ | refine Wl.c rfl rfl rfl rfl rfl ?_ | refine Wq.c rfl rfl rfl rfl rfl ?_ | refine Wl.x rfl rfl rfl rfl rfl rfl (by omega) ?_ | refine Wq.x rfl rfl rfl rfl rfl rfl (by omega) ?_ | refine Wl.y rfl rfl rfl rfl rfl rfl (by omega) (by omega) ?_ | refine Wq.y rfl rfl rfl rfl rfl rfl (by omega) (by omega) ?_ | refine Wl.r rfl rfl rfl rfl rfl (by assumption) ?_ | refine Wq.r rfl rfl rfl rfl rfl (by assumption) ?_ | refine Wl.e rfl rfl rfl rfl rfl (by assumption) (by assumption) ?_ | refine Wq.e rfl rfl rfl rfl rfl (by assumption) (by assumption) ?_)
    have hp := hz ps[i] (List.getElem_mem hlt)
    refine Wl.call rfl rfl rfl (by exact goes_func rfl rfl) (join hp.2.1 hp.2.2 hp.1.1 hp.1.2) ?_
    rintro x w3 ⟨rfl, hK3⟩
    repeat (first | with_reducible (first | refine Cw.seq ?_ | refine Cw.block ?_ | refine Cw.region ?_ | refine Cw.skip ?_ | refine Cw.ret ?_ | refine Cw.exit ?_ | refine Ex.then_n ?_ | refine Ex.then_ret ?_ | refine Ex.then_exit ?_ | refine Ex.blk_n ?_ | refine Ex.blk_ret ?_ | refine Ex.blk_eq ?_ | refine Wl.nil ?_ | refine Wq.nil ?_) | (refine Ex.blk_ne rfl ?_) | refine Wl.p rfl rfl rfl rfl ?_ | refine Wq.p rfl rfl rfl rfl ?_ | refine Wl.off rfl rfl rfl ?_ | refine Wq.off rfl rfl rfl ?_ | refine Wl.f rfl rfl rfl rfl rfl ?_ | refine Wq.f rfl rfl rfl rfl rfl ?_ | refine Wl.z rfl rfl rfl rfl rfl ?_ | refine Wq.z rfl rfl rfl rfl rfl ?_ | refine Wl.b rfl rfl rfl rfl rfl ?_ | refine Wl.a rfl rfl rfl rfl rfl ?_ | refine Wl.c rfl rfl rfl rfl rfl ?_ | refine Wq.c rfl rfl rfl rfl rfl ?_ | refine Wl.x rfl rfl rfl rfl rfl rfl (by omega) ?_ | refine Wq.x rfl rfl rfl rfl rfl rfl (by omega) ?_ | refine Wl.y rfl rfl rfl rfl rfl rfl (by omega) (by omega) ?_ | refine Wq.y rfl rfl rfl rfl rfl rfl (by omega) (by omega) ?_ | refine Wl.r rfl rfl rfl rfl rfl (by assumption) ?_ | refine Wq.r rfl rfl rfl rfl rfl (by assumption) ?_ | refine Wl.e rfl rfl rfl rfl rfl (by assumption) (by assumption) ?_ | refine Wq.e rfl rfl rfl rfl rfl (by assumption) (by assumption) ?_)
    have k3 : Keep X V w3 := ((hK1.mono fun k hk => by have := hVX k hk; omega).trans (hK2.mono fun k hk => by have := hVX k hk; omega)).trans (hK3.mono fun k hk => by have := hVX k hk; omega)
    cases hm : mayP ps[i].1 ps[i].2 with
    | false =>
      refine Cw.cond_t rfl ?_
      repeat (first | with_reducible (first | refine Cw.seq ?_ | refine Cw.block ?_ | refine Cw.region ?_ | refine Cw.skip ?_ | refine Cw.ret ?_ | refine Cw.exit ?_ | refine Ex.then_n ?_ | refine Ex.then_ret ?_ | refine Ex.then_exit ?_ | refine Ex.blk_n ?_ | refine Ex.blk_ret ?_ | refine Ex.blk_eq ?_ | refine Wl.nil ?_ | refine Wq.nil ?_) | (refine Ex.blk_ne rfl ?_) | refine Wl.p rfl rfl rfl rfl ?_ | refine Wq.p rfl rfl rfl rfl ?_ | refine Wl.off rfl rfl rfl ?_ | refine Wq.off rfl rfl rfl ?_ | refine Wl.f rfl rfl rfl rfl rfl ?_ | refine Wq.f rfl rfl rfl rfl rfl ?_ | refine Wl.z rfl rfl rfl rfl rfl ?_ | refine Wq.z rfl rfl rfl rfl rfl ?_ | refine Wl.b rfl rfl rfl rfl rfl ?_ | refine Wl.a rfl rfl rfl rfl rfl ?_ | refine Wl.c rfl rfl rfl rfl rfl ?_ | refine Wq.c rfl rfl rfl rfl rfl ?_ | refine Wl.x rfl rfl rfl rfl rfl rfl (by omega) ?_ | refine Wq.x rfl rfl rfl rfl rfl rfl (by omega) ?_ | refine Wl.y rfl rfl rfl rfl rfl rfl (by omega) (by omega) ?_ | refine Wq.y rfl rfl rfl rfl rfl rfl (by omega) (by omega) ?_ | refine Wl.r rfl rfl rfl rfl rfl (by assumption) ?_ | refine Wq.r rfl rfl rfl rfl rfl (by assumption) ?_ | refine Wl.e rfl rfl rfl rfl rfl (by assumption) (by assumption) ?_ | refine Wq.e rfl rfl rfl rfl rfl (by assumption) (by assumption) ?_)
      have hf : (ps.all fun p => mayP p.1 p.2) = false := by
        cases h : ps.all (fun p => mayP p.1 p.2) with
        | false => rfl
        | true => have := List.all_eq_true.1 h ps[i] (List.getElem_mem hlt); rw [hm] at this; cases this
      exact fin2 (by first | exact .inl rfl | exact .inr rfl) rfl rfl rfl fun U hd => ⟨⟨.slice none 0 0, by rw [hf], by rw [hf, if_neg (by simp)]⟩, (hK.trans k3).then_dr hd⟩
    | true =>
      refine Cw.cond_f rfl ?_
      repeat (first | with_reducible (first | refine Cw.seq ?_ | refine Cw.block ?_ | refine Cw.region ?_ | refine Cw.skip ?_ | refine Cw.ret ?_ | refine Cw.exit ?_ | refine Ex.then_n ?_ | refine Ex.then_ret ?_ | refine Ex.then_exit ?_ | refine Ex.blk_n ?_ | refine Ex.blk_ret ?_ | refine Ex.blk_eq ?_ | refine Wl.nil ?_ | refine Wq.nil ?_) | (refine Ex.blk_ne rfl ?_) | refine Wl.p rfl rfl rfl rfl ?_ | refine Wq.p rfl rfl rfl rfl ?_ | refine Wl.off rfl rfl rfl ?_ | refine Wq.off rfl rfl rfl ?_ | refine Wl.f rfl rfl rfl rfl rfl ?_ | refine Wq.f rfl rfl rfl rfl rfl ?_ | refine Wl.z rfl rfl rfl rfl rfl ?_ | refine Wq.z rfl rfl rfl rfl rfl ?_ | refine Wl.b rfl rfl rfl rfl rfl ?_ | refine Wl.a rfl rfl rfl rfl rfl ?_ | refine Wl.c rfl rfl rfl rfl rfl ?_ | refine Wq.c rfl rfl rfl rfl rfl ?_ | refine Wl.x rfl rfl rfl rfl rfl rfl (by omega) ?_ | refine Wq.x rfl rfl rfl rfl rfl rfl (by omega) ?_ | refine Wl.y rfl rfl rfl rfl rfl rfl (by omega) (by omega) ?_ | refine Wq.y rfl rfl rfl rfl rfl rfl (by omega) (by omega) ?_ | refine Wl.r rfl rfl rfl rfl rfl (by assumption) ?_ | refine Wq.r rfl rfl rfl rfl rfl (by assumption) ?_ | refine Wl.e rfl rfl rfl rfl rfl (by assumption) (by assumption) ?_ | refine Wq.e rfl rfl rfl rfl rfl (by assumption) (by assumption) ?_)
      refine Wl.slice1 rfl rfl rfl rfl rfl rfl rfl ?_
      intro c w4 hcc hRc hK4 hs4
      have hs3 := hK3.size
      have hO4 : Own w4 X _ 1 vo i (ints ((ps.take i).map fun p => joinP p.1 p.2)) := (((hO.kept (W' := w1) fun k hk => hK1.block k (by have := hO.lt k hk; omega)).kept (W' := w2) fun k hk => hK2.block k (by have := hO.lt k hk; omega)).kept (W' := w3) fun k hk => hK3.block k (by have := hO.lt k hk; omega)).kept fun k hk => hK4.block k (by have := hO.lt k hk; omega)
      refine Wl.append rfl rfl rfl rfl (by decide) (by decide) rfl rfl hO4 (news := ints [joinP ps[i].1 ps[i].2]) rfl (fun j u hj => hRc.cell hj) (ints_one _) (by omega) (fun k hk => by have := hVX k hk; omega) ?_
      intro v' w5 hO5 hK5 _ _
      have et : (ps.take i).map (fun p => joinP p.1 p.2) ++ [joinP ps[i].1 ps[i].2] = (ps.take (i + 1)).map fun p => joinP p.1 p.2 := by
        rw [← List.take_append_getElem hlt, List.map_append]; rfl
      rw [← ints_append, et] at hO5
      repeat (first | with_reducible (first | refine Cw.seq ?_ | refine Cw.block ?_ | refine Cw.region ?_ | refine Cw.skip ?_ | refine Cw.ret ?_ | refine Cw.exit ?_ | refine Ex.then_n ?_ | refine Ex.then_ret ?_ | refine Ex.then_exit ?_ | refine Ex.blk_n ?_ | refine Ex.blk_ret ?_ | refine Ex.blk_eq ?_ | refine Wl.nil ?_ | refine Wq.nil ?_) | (refine Ex.blk_ne rfl ?_) | refine Wl.p rfl rfl rfl rfl ?_ | refine Wq.p rfl rfl rfl rfl ?_ | refine Wl.off rfl rfl rfl ?_ | refine Wq.off rfl rfl rfl ?_ | refine Wl.f rfl rfl rfl rfl rfl ?_ | refine Wq.f rfl rfl rfl rfl rfl ?_ | refine Wl.z rfl rfl rfl rfl rfl ?_ | refine Wq.z rfl rfl rfl rfl rfl ?_ | refine Wl.b rfl rfl rfl rfl rfl ?_ | refine Wl.a rfl rfl rfl rfl rfl ?_ | refine Wl.c rfl rfl rfl rfl rfl ?_ | refine Wq.c rfl rfl rfl rfl rfl ?_ | refine Wl.x rfl rfl rfl rfl rfl rfl (by omega) ?_ | refine Wq.x rfl rfl rfl rfl rfl rfl (by omega) ?_ | refine Wl.y rfl rfl rfl rfl rfl rfl (by omega) (by omega) ?_ | refine Wq.y rfl rfl rfl rfl rfl rfl (by omega) (by omega) ?_ | refine Wl.r rfl rfl rfl rfl rfl (by assumption) ?_ | refine Wq.r rfl rfl rfl rfl rfl (by assumption) ?_ | refine Wl.e rfl rfl rfl rfl rfl (by assumption) (by assumption) ?_ | refine Wq.e rfl rfl rfl rfl rfl (by assumption) (by assumption) ?_)
      rw [succ_eq (by omega)]
      refine Ex.next (i + 1, v') (by show ps.length - (i + 1) < ps.length - i; omega) ⟨rfl, rfl, rfl, rfl, trivial⟩ ⟨hO5, ?_, hlt, ((hK.trans k3).trans (hK4.mono fun k hk => by have := hVX k hk; omega)).trans hK5⟩
      show (ps.take (i + 1)).all _ = true
      rw [← List.take_append_getElem hlt, List.all_append, hall]; simp [hm]
  · refine Cw.cond_f (by rw [decide_eq_false (show ¬ (i : Int) < ps.length by omega)]; rfl) ?_
    have hie : i = ps.length := by omega
    subst hie
    rw [List.take_length] at hO hall
    repeat (first | with_reducible (first | refine Cw.seq ?_ | refine Cw.block ?_ | refine Cw.region ?_ | refine Cw.skip ?_ | refine Cw.ret ?_ | refine Cw.exit ?_ | refine Ex.then_n ?_ | refine Ex.then_ret ?_ | refine Ex.then_exit ?_ | refine Ex.blk_n ?_ | refine Ex.blk_ret ?_ | refine Ex.blk_eq ?_ | refine Wl.nil ?_ | refine Wq.nil ?_) | (refine Ex.blk_ne rfl ?_) | refine Wl.p rfl rfl rfl rfl ?_ | refine Wq.p rfl rfl rfl rfl ?_ | refine Wl.off rfl rfl rfl ?_ | refine Wq.off rfl rfl rfl ?_ | refine Wl.f rfl rfl rfl rfl rfl ?_ | refine Wq.f rfl rfl rfl rfl rfl ?_ | refine Wl.z rfl rfl rfl rfl rfl ?_ | refine Wq.z rfl rfl rfl rfl rfl ?_ | refine Wl.b rfl rfl rfl rfl rfl ?_ | refine Wl.a rfl rfl rfl rfl rfl ?_ | refine Wl.c rfl rfl rfl rfl rfl ?_ | refine Wq.c rfl rfl rfl rfl rfl ?_ | refine Wl.x rfl rfl rfl rfl rfl rfl (by omega) ?_ | refine Wq.x rfl rfl rfl rfl rfl rfl (by omega) ?_ | refine Wl.y rfl rfl rfl rfl rfl rfl (by omega) (by omega) ?_ | refine Wq.y rfl rfl rfl rfl rfl rfl (by omega) (by omega) ?_ | refine Wl.r rfl rfl rfl rfl rfl (by assumption) ?_ | refine Wq.r rfl rfl rfl rfl rfl (by assumption) ?_ | refine Wl.e rfl rfl rfl rfl rfl (by assumption) (by assumption) ?_ | refine Wq.e rfl rfl rfl rfl rfl (by assumption) (by assumption) ?_)
    exact fin2 (by first | exact .inl rfl | exact .inr rfl) rfl rfl rfl fun U hd => ⟨⟨vo, by rw [hall], by rw [hall, if_pos rfl]; exact hO.dr hd⟩, hK.then_dr hd⟩
end Go.Proofs.Ytdakocdfpdglfaa.Parts
