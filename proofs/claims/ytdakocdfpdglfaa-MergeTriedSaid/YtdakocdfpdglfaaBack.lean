/- slices.Backward over whole numbers. -/
import Derived.Test.YtdakocdfpdglfaaRange
import Derived.Test.YtdakocdfpdglfaaLen
namespace Go.Proofs.Ytdakocdfpdglfaa.Merge
open Go.RowKit Go.Proofs.Ytdakocdfpdglfaa.Sx Go.Proofs.Ytdakocdfpdglfaa.Parts
set_option maxRecDepth 20000
theorem backward {W : World} {A : Option Addr} {len cap : Nat} : Ctr Try.prog 37 [.slice A len cap] W fun y V => ∃ bx, y = .func (.func 49) #[] #[.pointer (some ⟨bx, 0, none⟩)] ∧ bx = W.heap.size ∧ Row V bx 24 [.slice A len cap] ∧ Keep (fun k => k < W.heap.size) W V := by
  refine ctr Try.func37 rfl Try.ntmps37 rfl ?_
  repeat (first | with_reducible (first | refine Cw.seq ?_ | refine Cw.block ?_ | refine Cw.region ?_ | refine Cw.skip ?_ | refine Cw.ret ?_ | refine Cw.exit ?_ | refine Ex.then_n ?_ | refine Ex.then_ret ?_ | refine Ex.then_exit ?_ | refine Ex.blk_n ?_ | refine Ex.blk_ret ?_ | refine Ex.blk_eq ?_ | refine Wl.nil ?_ | refine Wq.nil ?_) | (refine Ex.blk_ne rfl ?_) | refine Wl.p rfl rfl rfl rfl ?_ | refine Wq.p rfl rfl rfl rfl ?_ | refine Wl.off rfl rfl rfl ?_ | refine Wq.off rfl rfl rfl ?_ | refine Wl.f rfl rfl rfl rfl rfl ?_ | refine Wq.f rfl rfl rfl rfl rfl ?_ | refine Wl.z rfl rfl rfl rfl rfl ?_ | refine Wq.z rfl rfl rfl rfl rfl ?_ | refine Wl.b rfl rfl rfl rfl rfl ?_ | refine Wl.a rfl rfl rfl rfl rfl ?_ | refine Wl.c rfl rfl rfl rfl rfl ?_ | refine Wq.c rfl rfl rfl rfl rfl ?_ | refine Wl.x rfl rfl rfl rfl rfl rfl (by omega) ?_ | refine Wq.x rfl rfl rfl rfl rfl rfl (by omega) ?_ | refine Wl.y rfl rfl rfl rfl rfl rfl (by omega) (by omega) ?_ | refine Wq.y rfl rfl rfl rfl rfl rfl (by omega) (by omega) ?_ | refine Wl.r rfl rfl rfl rfl rfl (by assumption) ?_ | refine Wq.r rfl rfl rfl rfl rfl (by assumption) ?_ | refine Wl.e rfl rfl rfl rfl rfl (by assumption) (by assumption) ?_ | refine Wq.e rfl rfl rfl rfl rfl (by assumption) (by assumption) ?_)
  refine Wl.box [.slice A len cap] rfl rfl rfl rfl rfl rfl ?_
  intro bx w1 hbx hR hK hs
  repeat (first | with_reducible (first | refine Cw.seq ?_ | refine Cw.block ?_ | refine Cw.region ?_ | refine Cw.skip ?_ | refine Cw.ret ?_ | refine Cw.exit ?_ | refine Ex.then_n ?_ | refine Ex.then_ret ?_ | refine Ex.then_exit ?_ | refine Ex.blk_n ?_ | refine Ex.blk_ret ?_ | refine Ex.blk_eq ?_ | refine Wl.nil ?_ | refine Wq.nil ?_) | (refine Ex.blk_ne rfl ?_) | refine Wl.p rfl rfl rfl rfl ?_ | refine Wq.p rfl rfl rfl rfl ?_ | refine Wl.off rfl rfl rfl ?_ | refine Wq.off rfl rfl rfl ?_ | refine Wl.f rfl rfl rfl rfl rfl ?_ | refine Wq.f rfl rfl rfl rfl rfl ?_ | refine Wl.z rfl rfl rfl rfl rfl ?_ | refine Wq.z rfl rfl rfl rfl rfl ?_ | refine Wl.b rfl rfl rfl rfl rfl ?_ | refine Wl.a rfl rfl rfl rfl rfl ?_ | refine Wl.c rfl rfl rfl rfl rfl ?_ | refine Wq.c rfl rfl rfl rfl rfl ?_ | refine Wl.x rfl rfl rfl rfl rfl rfl (by omega) ?_ | refine Wq.x rfl rfl rfl rfl rfl rfl (by omega) ?_ | refine Wl.y rfl rfl rfl rfl rfl rfl (by omega) (by omega) ?_ | refine Wq.y rfl rfl rfl rfl rfl rfl (by omega) (by omega) ?_ | refine Wl.r rfl rfl rfl rfl rfl (by assumption) ?_ | refine Wq.r rfl rfl rfl rfl rfl (by assumption) ?_ | refine Wl.e rfl rfl rfl rfl rfl (by assumption) (by assumption) ?_ | refine Wq.e rfl rfl rfl rfl rfl (by assumption) (by assumption) ?_)
  refine Wl.val rfl rfl rfl (val_funcC1 rfl rfl) ?_
  repeat (first | with_reducible (first | refine Cw.seq ?_ | refine Cw.block ?_ | refine Cw.region ?_ | refine Cw.skip ?_ | refine Cw.ret ?_ | refine Cw.exit ?_ | refine Ex.then_n ?_ | refine Ex.then_ret ?_ | refine Ex.then_exit ?_ | refine Ex.blk_n ?_ | refine Ex.blk_ret ?_ | refine Ex.blk_eq ?_ | refine Wl.nil ?_ | refine Wq.nil ?_) | (refine Ex.blk_ne rfl ?_) | refine Wl.p rfl rfl rfl rfl ?_ | refine Wq.p rfl rfl rfl rfl ?_ | refine Wl.off rfl rfl rfl ?_ | refine Wq.off rfl rfl rfl ?_ | refine Wl.f rfl rfl rfl rfl rfl ?_ | refine Wq.f rfl rfl rfl rfl rfl ?_ | refine Wl.z rfl rfl rfl rfl rfl ?_ | refine Wq.z rfl rfl rfl rfl rfl ?_ | refine Wl.b rfl rfl rfl rfl rfl ?_ | refine Wl.a rfl rfl rfl rfl rfl ?_ | refine Wl.c rfl rfl rfl rfl rfl ?_ | refine Wq.c rfl rfl rfl rfl rfl ?_ | refine Wl.x rfl rfl rfl rfl rfl rfl (by omega) ?_ | refine Wq.x rfl rfl rfl rfl rfl rfl (by omega) ?_ | refine Wl.y rfl rfl rfl rfl rfl rfl (by omega) (by omega) ?_ | refine Wq.y rfl rfl rfl rfl rfl rfl (by omega) (by omega) ?_ | refine Wl.r rfl rfl rfl rfl rfl (by assumption) ?_ | refine Wq.r rfl rfl rfl rfl rfl (by assumption) ?_ | refine Wl.e rfl rfl rfl rfl rfl (by assumption) (by assumption) ?_ | refine Wq.e rfl rfl rfl rfl rfl (by assumption) (by assumption) ?_)
  exact fin1 (by first | exact .inl rfl | exact .inr rfl) rfl rfl fun U hd => ⟨bx, rfl, hbx, hd.row hR, (hK.mono fun k hk => by omega).then_dr hd⟩
def encB (o : List Nat) (x : Fin o.length) : Array Value := #[.int .i64 (x.val : Int), .int .i64 (o[x] : Int)]
theorem fin_rev_get (L k : Nat) (h : k < L) : (List.finRange L).reverse.take (k + 1) = (List.finRange L).reverse.take k ++ [⟨L - k - 1, by omega⟩] := by
  have hl : k < (List.finRange L).reverse.length := by simpa using h
  rw [← List.take_append_getElem hl]
  congr 2
  rw [List.getElem_reverse]
  simp only [List.getElem_finRange, List.length_finRange]
  apply Fin.ext
  simp
  omega
set_option maxHeartbeats 1000000 in
theorem back_stops {w : World} {bx og cap : Nat} {o : List Nat} (hb : Row w bx 24 [.slice (some ⟨og, 0, none⟩) o.length cap]) (ho : Rd w (fun k => k = bx ∨ k = og) (some ⟨og, 0, none⟩) o.length (nats o)) (hog : og < w.heap.size) (hl : o.length < 1000000) :
    SeqStopsK Fence.wide 2 Try.prog 49 #[.pointer (some ⟨bx, 0, none⟩)] (encB o) (Keep (fun k => k = bx ∨ k = og)) (fun xs => xs = (List.finRange o.length).reverse) (fun _ => True) o.length w := by
  intro l J Jx W hW hJ hJx hY h0
  have hbl := hb.lt
  have hKw : Keep (fun k => k = bx ∨ k = og) w W := ⟨hW.os, hW.tape, hW.output, hW.size, fun k hk => hW.block k (by omega)⟩
  have hb0 := hKw.row hb (.inl rfl)
  have ho0 := ho.keep hKw
  refine callsIn_wide.2 (enter (vs := [.func (.yield l) #[] #[], .pointer (some ⟨bx, 0, none⟩)]) Try.func49 rfl (n := 19) Try.ntmps49 (by simp) ?_)
  have c0 : W.cell? ⟨bx, 0, none⟩ = some (.slice (some ⟨og, 0, none⟩) o.length cap) := hb0.cell rfl
  repeat (first | with_reducible (first | refine Cw.seq ?_ | refine Cw.block ?_ | refine Cw.region ?_ | refine Cw.skip ?_ | refine Cw.ret ?_ | refine Cw.exit ?_ | refine Ex.then_n ?_ | refine Ex.then_ret ?_ | refine Ex.then_exit ?_ | refine Ex.blk_n ?_ | refine Ex.blk_ret ?_ | refine Ex.blk_eq ?_ | refine Wl.nil ?_ | refine Wq.nil ?_) | (refine Ex.blk_ne rfl ?_) | refine Wl.p rfl rfl rfl rfl ?_ | refine Wq.p rfl rfl rfl rfl ?_ | refine Wl.off rfl rfl rfl ?_ | refine Wq.off rfl rfl rfl ?_ | refine Wl.f rfl rfl rfl rfl rfl ?_ | refine Wq.f rfl rfl rfl rfl rfl ?_ | refine Wl.z rfl rfl rfl rfl rfl ?_ | refine Wq.z rfl rfl rfl rfl rfl ?_ | refine Wl.b rfl rfl rfl rfl rfl ?_ | refine Wl.a rfl rfl rfl rfl rfl ?_ | refine Wl.c rfl rfl rfl rfl rfl ?_ | refine Wq.c rfl rfl rfl rfl rfl ?_ | refine Wl.x rfl rfl rfl rfl rfl rfl (by omega) ?_ | refine Wq.x rfl rfl rfl rfl rfl rfl (by omega) ?_ | refine Wl.y rfl rfl rfl rfl rfl rfl (by omega) (by omega) ?_ | refine Wq.y rfl rfl rfl rfl rfl rfl (by omega) (by omega) ?_ | refine Wl.r rfl rfl rfl rfl rfl (by assumption) ?_ | refine Wq.r rfl rfl rfl rfl rfl (by assumption) ?_ | refine Wl.e rfl rfl rfl rfl rfl (by assumption) (by assumption) ?_ | refine Wq.e rfl rfl rfl rfl rfl (by assumption) (by assumption) ?_)
  rw [Go.IntWalk.wrap64_in ((o.length : Int) - 1) (by omega)]
  repeat (first | with_reducible (first | refine Cw.seq ?_ | refine Cw.block ?_ | refine Cw.region ?_ | refine Cw.skip ?_ | refine Cw.ret ?_ | refine Cw.exit ?_ | refine Ex.then_n ?_ | refine Ex.then_ret ?_ | refine Ex.then_exit ?_ | refine Ex.blk_n ?_ | refine Ex.blk_ret ?_ | refine Ex.blk_eq ?_ | refine Wl.nil ?_ | refine Wq.nil ?_) | (refine Ex.blk_ne rfl ?_) | refine Wl.p rfl rfl rfl rfl ?_ | refine Wq.p rfl rfl rfl rfl ?_ | refine Wl.off rfl rfl rfl ?_ | refine Wq.off rfl rfl rfl ?_ | refine Wl.f rfl rfl rfl rfl rfl ?_ | refine Wq.f rfl rfl rfl rfl rfl ?_ | refine Wl.z rfl rfl rfl rfl rfl ?_ | refine Wq.z rfl rfl rfl rfl rfl ?_ | refine Wl.b rfl rfl rfl rfl rfl ?_ | refine Wl.a rfl rfl rfl rfl rfl ?_ | refine Wl.c rfl rfl rfl rfl rfl ?_ | refine Wq.c rfl rfl rfl rfl rfl ?_ | refine Wl.x rfl rfl rfl rfl rfl rfl (by omega) ?_ | refine Wq.x rfl rfl rfl rfl rfl rfl (by omega) ?_ | refine Wl.y rfl rfl rfl rfl rfl rfl (by omega) (by omega) ?_ | refine Wq.y rfl rfl rfl rfl rfl rfl (by omega) (by omega) ?_ | refine Wl.r rfl rfl rfl rfl rfl (by assumption) ?_ | refine Wq.r rfl rfl rfl rfl rfl (by assumption) ?_ | refine Wl.e rfl rfl rfl rfl rfl (by assumption) (by assumption) ?_ | refine Wq.e rfl rfl rfl rfl rfl (by assumption) (by assumption) ?_)
  refine Cw.loop (σ := Nat) (fun k => [(0, .func (.yield l) #[] #[]), (1, .pointer (some ⟨bx, 0, none⟩)), (3, .int .i64 (((o.length - k : Nat) : Int) - 1))]) (fun k V => J ((List.finRange o.length).reverse.take k) V ∧ k ≤ o.length ∧ Keep (fun k => k = bx ∨ k = og) W V) (fun k => o.length - k) 0 ⟨rfl, rfl, rfl, trivial⟩ ⟨h0, Nat.zero_le _, Keep.refl _ _⟩ ?_
  clear c0
  rintro k V ⟨hj, hk, hK⟩
  repeat (first | with_reducible (first | refine Cw.seq ?_ | refine Cw.block ?_ | refine Cw.region ?_ | refine Cw.skip ?_ | refine Cw.ret ?_ | refine Cw.exit ?_ | refine Ex.then_n ?_ | refine Ex.then_ret ?_ | refine Ex.then_exit ?_ | refine Ex.blk_n ?_ | refine Ex.blk_ret ?_ | refine Ex.blk_eq ?_ | refine Wl.nil ?_ | refine Wq.nil ?_) | (refine Ex.blk_ne rfl ?_) | refine Wl.p rfl rfl rfl rfl ?_ | refine Wq.p rfl rfl rfl rfl ?_ | refine Wl.off rfl rfl rfl ?_ | refine Wq.off rfl rfl rfl ?_ | refine Wl.f rfl rfl rfl rfl rfl ?_ | refine Wq.f rfl rfl rfl rfl rfl ?_ | refine Wl.z rfl rfl rfl rfl rfl ?_ | refine Wq.z rfl rfl rfl rfl rfl ?_ | refine Wl.b rfl rfl rfl rfl rfl ?_ | refine Wl.a rfl rfl rfl rfl rfl ?_ | refine Wl.c rfl rfl rfl rfl rfl ?_ | refine Wq.c rfl rfl rfl rfl rfl ?_ | refine Wl.x rfl rfl rfl rfl rfl rfl (by omega) ?_ | refine Wq.x rfl rfl rfl rfl rfl rfl (by omega) ?_ | refine Wl.y rfl rfl rfl rfl rfl rfl (by omega) (by omega) ?_ | refine Wq.y rfl rfl rfl rfl rfl rfl (by omega) (by omega) ?_ | refine Wl.r rfl rfl rfl rfl rfl (by assumption) ?_ | refine Wq.r rfl rfl rfl rfl rfl (by assumption) ?_ | refine Wl.e rfl rfl rfl rfl rfl (by assumption) (by assumption) ?_ | refine Wq.e rfl rfl rfl rfl rfl (by assumption) (by assumption) ?_)
  by_cases hlt : k < o.length
  · obtain ⟨j, hj0⟩ : ∃ j, j = o.length - k - 1 := ⟨_, rfl⟩
    have hjl : j < o.length := by omega
    have ej : ((o.length - k : Nat) : Int) - 1 = (j : Int) := by omega
    rw [ej]
    refine Cw.cond_t (by rw [decide_eq_true (show (0 : Int) ≤ (j : Int) by omega)]; rfl) ?_
    have c0 : V.cell? ⟨bx, 0, none⟩ = some (.slice (some ⟨og, 0, none⟩) o.length cap) := (hK.row hb0 (.inl rfl)).cell rfl
    have c1 : V.cell? ⟨og, 0 + j * 1, none⟩ = some (.int .i64 (o[j] : Int)) := by
      obtain ⟨g, off, e, _, h, _⟩ := (ho0.keep hK) j _ (nats_get hjl)
      simp only [Option.some.injEq, Addr.mk.injEq] at e
      obtain ⟨rfl, rfl, _⟩ := e
      rw [Nat.mul_one]; exact h
    repeat (first | with_reducible (first | refine Cw.region ?_ | refine Cw.skip ?_ | refine Cw.ret ?_ | refine Cw.exit ?_ | refine Ex.then_n ?_ | refine Ex.then_ret ?_ | refine Ex.then_exit ?_ | refine Ex.blk_n ?_ | refine Ex.blk_ret ?_ | refine Ex.blk_eq ?_ | refine Wl.nil ?_ | refine Wq.nil ?_) | (refine Ex.blk_ne rfl ?_) | refine Wl.p rfl rfl rfl rfl ?_ | refine Wq.p rfl rfl rfl rfl ?_ | refine Wl.off rfl rfl rfl ?_ | refine Wq.off rfl rfl rfl ?_ | refine Wl.f rfl rfl rfl rfl rfl ?_ | refine Wq.f rfl rfl rfl rfl rfl ?_ | refine Wl.z rfl rfl rfl rfl rfl ?_ | refine Wq.z rfl rfl rfl rfl rfl ?_ | refine Wl.b rfl rfl rfl rfl rfl ?_ | refine Wl.a rfl rfl rfl rfl rfl ?_ | refine Wl.c rfl rfl rfl rfl rfl ?_ | refine Wq.c rfl rfl rfl rfl rfl ?_ | refine Wl.x rfl rfl rfl rfl rfl rfl (by omega) ?_ | refine Wq.x rfl rfl rfl rfl rfl rfl (by omega) ?_ | refine Wl.y rfl rfl rfl rfl rfl rfl (by omega) (by omega) ?_ | refine Wq.y rfl rfl rfl rfl rfl rfl (by omega) (by omega) ?_ | refine Wl.r rfl rfl rfl rfl rfl (by assumption) ?_ | refine Wq.r rfl rfl rfl rfl rfl (by assumption) ?_ | refine Wl.e rfl rfl rfl rfl rfl (by assumption) (by assumption) ?_ | refine Wq.e rfl rfl rfl rfl rfl (by assumption) (by assumption) ?_)
    refine Cw.seq ?_
    refine Cw.block ?_
    refine Cw.seq ?_
    refine Cw.regionI ?_
    refine WlI.val rfl rfl rfl (val_pure rfl) ?_
    refine WlI.val rfl rfl rfl (val_pure rfl) ?_
    refine WlI.val rfl rfl rfl (val_load1 rfl rfl c0) ?_
    refine WlI.val rfl rfl rfl (val_pure rfl) ?_
    refine WlI.val rfl rfl rfl (val_indexAddrN rfl rfl rfl (by omega)) ?_
    refine WlI.val rfl rfl rfl (val_load1 rfl rfl c1) ?_
    have htk := fin_rev_get o.length k hlt
    refine WlI.yield (lp := l) (vs := [.int .i64 (j : Int), .int .i64 (o[j] : Int)]) (A := fun W' => J ((List.finRange o.length).reverse.take (k + 1)) W' ∧ Keep (fun k => k = bx ∨ k = og) V W') (B := fun W' => Jx ((List.finRange o.length).reverse.take (k + 1)) W') rfl rfl rfl rfl rfl rfl (fun v hd => ?_) ?_ ?_
    · have hjv : J ((List.finRange o.length).reverse.take k) v := hJ _ _ _ none hj hd.grown (fun _ e => by cases e)
      have := hY ((List.finRange o.length).reverse.take k) ⟨j, hjl⟩ v hjv (by simp; omega)
      obtain ⟨fn, tmps, assign, body, hy, hR⟩ := this
      refine ⟨fn, tmps, assign, body, hy, hR.mono ?_⟩
      subst hj0
      rintro e W' (⟨rfl, h1, h2⟩ | ⟨rfl, h1⟩)
      · exact .inl ⟨rfl, by rw [htk]; exact h1, Keep.of_dr hd h2⟩
      · exact .inr ⟨rfl, by rw [htk]; exact h1⟩
    · rintro V2 ⟨hj2, hK2⟩
      refine WlI.val rfl rfl rfl (val_pure rfl) ?_
      refine WlI.nil ?_
      repeat (first | with_reducible (first | refine Cw.seq ?_ | refine Cw.block ?_ | refine Cw.region ?_ | refine Cw.skip ?_ | refine Cw.ret ?_ | refine Cw.exit ?_ | refine Ex.then_n ?_ | refine Ex.then_ret ?_ | refine Ex.then_exit ?_ | refine Ex.blk_n ?_ | refine Ex.blk_ret ?_ | refine Ex.blk_eq ?_ | refine Wl.nil ?_ | refine Wq.nil ?_) | (refine Ex.blk_ne rfl ?_) | refine Wl.p rfl rfl rfl rfl ?_ | refine Wq.p rfl rfl rfl rfl ?_ | refine Wl.off rfl rfl rfl ?_ | refine Wq.off rfl rfl rfl ?_ | refine Wl.f rfl rfl rfl rfl rfl ?_ | refine Wq.f rfl rfl rfl rfl rfl ?_ | refine Wl.z rfl rfl rfl rfl rfl ?_ | refine Wq.z rfl rfl rfl rfl rfl ?_ | refine Wl.b rfl rfl rfl rfl rfl ?_ | refine Wl.a rfl rfl rfl rfl rfl ?_ | refine Wl.c rfl rfl rfl rfl rfl ?_ | refine Wq.c rfl rfl rfl rfl rfl ?_ | refine Wl.x rfl rfl rfl rfl rfl rfl (by omega) ?_ | refine Wq.x rfl rfl rfl rfl rfl rfl (by omega) ?_ | refine Wl.y rfl rfl rfl rfl rfl rfl (by omega) (by omega) ?_ | refine Wq.y rfl rfl rfl rfl rfl rfl (by omega) (by omega) ?_ | refine Wl.r rfl rfl rfl rfl rfl (by assumption) ?_ | refine Wq.r rfl rfl rfl rfl rfl (by assumption) ?_ | refine Wl.e rfl rfl rfl rfl rfl (by assumption) (by assumption) ?_ | refine Wq.e rfl rfl rfl rfl rfl (by assumption) (by assumption) ?_)
      refine Cw.cond_f rfl ?_
      repeat (first | with_reducible (first | refine Cw.seq ?_ | refine Cw.block ?_ | refine Cw.region ?_ | refine Cw.skip ?_ | refine Cw.ret ?_ | refine Cw.exit ?_ | refine Ex.then_n ?_ | refine Ex.then_ret ?_ | refine Ex.then_exit ?_ | refine Ex.blk_n ?_ | refine Ex.blk_ret ?_ | refine Ex.blk_eq ?_ | refine Wl.nil ?_ | refine Wq.nil ?_) | (refine Ex.blk_ne rfl ?_) | refine Wl.p rfl rfl rfl rfl ?_ | refine Wq.p rfl rfl rfl rfl ?_ | refine Wl.off rfl rfl rfl ?_ | refine Wq.off rfl rfl rfl ?_ | refine Wl.f rfl rfl rfl rfl rfl ?_ | refine Wq.f rfl rfl rfl rfl rfl ?_ | refine Wl.z rfl rfl rfl rfl rfl ?_ | refine Wq.z rfl rfl rfl rfl rfl ?_ | refine Wl.b rfl rfl rfl rfl rfl ?_ | refine Wl.a rfl rfl rfl rfl rfl ?_ | refine Wl.c rfl rfl rfl rfl rfl ?_ | refine Wq.c rfl rfl rfl rfl rfl ?_ | refine Wl.x rfl rfl rfl rfl rfl rfl (by omega) ?_ | refine Wq.x rfl rfl rfl rfl rfl rfl (by omega) ?_ | refine Wl.y rfl rfl rfl rfl rfl rfl (by omega) (by omega) ?_ | refine Wq.y rfl rfl rfl rfl rfl rfl (by omega) (by omega) ?_ | refine Wl.r rfl rfl rfl rfl rfl (by assumption) ?_ | refine Wq.r rfl rfl rfl rfl rfl (by assumption) ?_ | refine Wl.e rfl rfl rfl rfl rfl (by assumption) (by assumption) ?_ | refine Wq.e rfl rfl rfl rfl rfl (by assumption) (by assumption) ?_)
      rw [Go.IntWalk.wrap64_in ((j : Int) - 1) (by omega)]
      refine Ex.next (k + 1) (by show o.length - (k + 1) < o.length - k; omega) ⟨rfl, rfl, ?_, trivial⟩ ⟨hj2, hlt, hK.trans hK2⟩
      show some (Value.int .i64 ((j : Int) - 1)) = some (Value.int .i64 (((o.length - (k + 1) : Nat) : Int) - 1))
      rw [show o.length - (k + 1) = j from by omega]
    · intro V2 hj2
      refine WlI.val rfl rfl rfl (val_pure rfl) ?_
      refine WlI.nil ?_
      repeat (first | with_reducible (first | refine Cw.seq ?_ | refine Cw.block ?_ | refine Cw.region ?_ | refine Cw.skip ?_ | refine Cw.ret ?_ | refine Cw.exit ?_ | refine Ex.then_n ?_ | refine Ex.then_ret ?_ | refine Ex.then_exit ?_ | refine Ex.blk_n ?_ | refine Ex.blk_ret ?_ | refine Ex.blk_eq ?_ | refine Wl.nil ?_ | refine Wq.nil ?_) | (refine Ex.blk_ne rfl ?_) | refine Wl.p rfl rfl rfl rfl ?_ | refine Wq.p rfl rfl rfl rfl ?_ | refine Wl.off rfl rfl rfl ?_ | refine Wq.off rfl rfl rfl ?_ | refine Wl.f rfl rfl rfl rfl rfl ?_ | refine Wq.f rfl rfl rfl rfl rfl ?_ | refine Wl.z rfl rfl rfl rfl rfl ?_ | refine Wq.z rfl rfl rfl rfl rfl ?_ | refine Wl.b rfl rfl rfl rfl rfl ?_ | refine Wl.a rfl rfl rfl rfl rfl ?_ | refine Wl.c rfl rfl rfl rfl rfl ?_ | refine Wq.c rfl rfl rfl rfl rfl ?_ | refine Wl.x rfl rfl rfl rfl rfl rfl (by omega) ?_ | refine Wq.x rfl rfl rfl rfl rfl rfl (by omega) ?_ | refine Wl.y rfl rfl rfl rfl rfl rfl (by omega) (by omega) ?_ | refine Wq.y rfl rfl rfl rfl rfl rfl (by omega) (by omega) ?_ | refine Wl.r rfl rfl rfl rfl rfl (by assumption) ?_ | refine Wq.r rfl rfl rfl rfl rfl (by assumption) ?_ | refine Wl.e rfl rfl rfl rfl rfl (by assumption) (by assumption) ?_ | refine Wq.e rfl rfl rfl rfl rfl (by assumption) (by assumption) ?_)
      refine Cw.cond_t rfl ?_
      repeat (first | with_reducible (first | refine Cw.seq ?_ | refine Cw.block ?_ | refine Cw.region ?_ | refine Cw.skip ?_ | refine Cw.ret ?_ | refine Cw.exit ?_ | refine Ex.then_n ?_ | refine Ex.then_ret ?_ | refine Ex.then_exit ?_ | refine Ex.blk_n ?_ | refine Ex.blk_ret ?_ | refine Ex.blk_eq ?_ | refine Wl.nil ?_ | refine Wq.nil ?_) | (refine Ex.blk_ne rfl ?_) | refine Wl.p rfl rfl rfl rfl ?_ | refine Wq.p rfl rfl rfl rfl ?_ | refine Wl.off rfl rfl rfl ?_ | refine Wq.off rfl rfl rfl ?_ | refine Wl.f rfl rfl rfl rfl rfl ?_ | refine Wq.f rfl rfl rfl rfl rfl ?_ | refine Wl.z rfl rfl rfl rfl rfl ?_ | refine Wq.z rfl rfl rfl rfl rfl ?_ | refine Wl.b rfl rfl rfl rfl rfl ?_ | refine Wl.a rfl rfl rfl rfl rfl ?_ | refine Wl.c rfl rfl rfl rfl rfl ?_ | refine Wq.c rfl rfl rfl rfl rfl ?_ | refine Wl.x rfl rfl rfl rfl rfl rfl (by omega) ?_ | refine Wq.x rfl rfl rfl rfl rfl rfl (by omega) ?_ | refine Wl.y rfl rfl rfl rfl rfl rfl (by omega) (by omega) ?_ | refine Wq.y rfl rfl rfl rfl rfl rfl (by omega) (by omega) ?_ | refine Wl.r rfl rfl rfl rfl rfl (by assumption) ?_ | refine Wq.r rfl rfl rfl rfl rfl (by assumption) ?_ | refine Wl.e rfl rfl rfl rfl rfl (by assumption) (by assumption) ?_ | refine Wq.e rfl rfl rfl rfl rfl (by assumption) (by assumption) ?_)
      refine ret0 (by first | exact .inl rfl | exact .inr rfl) rfl fun U hd => ⟨⟨_, rfl⟩, .inr ⟨_, trivial, hJx _ _ _ none hj2 hd.grown (fun _ e => by cases e)⟩⟩
  · obtain rfl : k = o.length := by omega
    refine Cw.cond_f (by rw [Nat.sub_self, decide_eq_false (show ¬ (0 : Int) ≤ ((0 : Nat) : Int) - 1 by omega)]; rfl) ?_
    rw [List.take_of_length_le (by simp)] at hj
    repeat (first | with_reducible (first | refine Cw.seq ?_ | refine Cw.block ?_ | refine Cw.region ?_ | refine Cw.skip ?_ | refine Cw.ret ?_ | refine Cw.exit ?_ | refine Ex.then_n ?_ | refine Ex.then_ret ?_ | refine Ex.then_exit ?_ | refine Ex.blk_n ?_ | refine Ex.blk_ret ?_ | refine Ex.blk_eq ?_ | refine Wl.nil ?_ | refine Wq.nil ?_) | (refine Ex.blk_ne rfl ?_) | refine Wl.p rfl rfl rfl rfl ?_ | refine Wq.p rfl rfl rfl rfl ?_ | refine Wl.off rfl rfl rfl ?_ | refine Wq.off rfl rfl rfl ?_ | refine Wl.f rfl rfl rfl rfl rfl ?_ | refine Wq.f rfl rfl rfl rfl rfl ?_ | refine Wl.z rfl rfl rfl rfl rfl ?_ | refine Wq.z rfl rfl rfl rfl rfl ?_ | refine Wl.b rfl rfl rfl rfl rfl ?_ | refine Wl.a rfl rfl rfl rfl rfl ?_ | refine Wl.c rfl rfl rfl rfl rfl ?_ | refine Wq.c rfl rfl rfl rfl rfl ?_ | refine Wl.x rfl rfl rfl rfl rfl rfl (by omega) ?_ | refine Wq.x rfl rfl rfl rfl rfl rfl (by omega) ?_ | refine Wl.y rfl rfl rfl rfl rfl rfl (by omega) (by omega) ?_ | refine Wq.y rfl rfl rfl rfl rfl rfl (by omega) (by omega) ?_ | refine Wl.r rfl rfl rfl rfl rfl (by assumption) ?_ | refine Wq.r rfl rfl rfl rfl rfl (by assumption) ?_ | refine Wl.e rfl rfl rfl rfl rfl (by assumption) (by assumption) ?_ | refine Wq.e rfl rfl rfl rfl rfl (by assumption) (by assumption) ?_)
    refine ret0 (by first | exact .inl rfl | exact .inr rfl) rfl fun U hd => ⟨⟨_, rfl⟩, .inl ⟨_, rfl, hJ _ _ _ none hj hd.grown (fun _ e => by cases e)⟩⟩
/-- What the loop over all puts into the sums. -/
def stepB (fs : List Int) (o : List Nat) (T : List Int) (x : Fin o.length) : List Int := T.set x.val (wrap64 (T.getD (x.val + 1) 0 + fs.getD o[x] 0))
theorem foldB_len (fs : List Int) (o : List Nat) : ∀ (xs : List (Fin o.length)) (T : List Int), (xs.foldl (stepB fs o) T).length = T.length
  | [], _ => rfl
  | x :: r, T => by rw [List.foldl_cons, foldB_len fs o r, stepB, List.length_set]
theorem foldB_sums {fs : List Int} {o : List Nat} {B : Int} (hS : OkS (sumsF (freqO fs o)) o.length B) : (List.finRange o.length).reverse.foldl (stepB fs o) (List.replicate (o.length + 1) 0) = sumsF (freqO fs o) := by
  have hF : (freqO fs o).length = o.length := by simp [freqO]
  have key : ∀ k, k ≤ o.length → ∀ i, o.length - k ≤ i → (((List.finRange o.length).reverse.take k).foldl (stepB fs o) (List.replicate (o.length + 1) 0)).getD i 0 = (sumsF (freqO fs o)).getD i 0 := by
    intro k
    induction k with
    | zero =>
      intro _ i hi
      have hz : (List.replicate (o.length + 1) (0 : Int)).getD i 0 = 0 := by
        rw [List.getD_eq_getElem?_getD, List.getElem?_replicate]; split <;> rfl
      rw [List.take_zero, List.foldl_nil, hz, sumsF_sum, List.drop_eq_nil_of_le (by omega)]; rfl
    | succ k ih =>
      intro hk i hi
      rw [fin_rev_get o.length k (by omega), List.foldl_append]
      simp only [List.foldl_cons, List.foldl_nil]
      have ih := ih (by omega)
      have hl := foldB_len fs o ((List.finRange o.length).reverse.take k) (List.replicate (o.length + 1) 0)
      generalize ((List.finRange o.length).reverse.take k).foldl (stepB fs o) (List.replicate (o.length + 1) 0) = T at ih hl
      rw [List.length_replicate] at hl
      unfold stepB
      by_cases e : i = o.length - k - 1
      · subst e
        rw [List.getD_eq_getElem?_getD, List.getElem?_set_self (by simp; omega), Option.getD_some]
        simp only
        rw [ih (o.length - k - 1 + 1) (by omega)]
        have hg := sumsF_get (freqO fs o) (o.length - k - 1) (by omega)
        have ef : (freqO fs o).getD (o.length - k - 1) 0 = fs.getD o[o.length - k - 1] 0 := by
          rw [List.getD_eq_getElem?_getD, List.getElem?_eq_getElem (by omega), Option.getD_some]; simp [freqO]
        rw [ef] at hg
        have hp := hS.pos (o.length - k - 1)
        have hle := hS.le (o.length - k - 1)
        have hsm := hS.small
        show wrap64 ((sumsF (freqO fs o)).getD (o.length - k - 1 + 1) 0 + fs.getD o[o.length - k - 1] 0) = _
        rw [Go.IntWalk.wrap64_in _ (by omega), hg]; omega
      · rw [List.getD_eq_getElem?_getD, List.getElem?_set_ne (by simp; omega), ← List.getD_eq_getElem?_getD]
        exact ih i (by omega)
  have := key o.length (Nat.le_refl _)
  rw [List.take_of_length_le (by simp)] at this
  apply List.ext_getElem
  · rw [foldB_len, List.length_replicate, sumsF_len, hF]
  · intro i h1 h2
    have := this i (by omega)
    rwa [List.getD_eq_getElem?_getD, List.getElem?_eq_getElem h1, List.getD_eq_getElem?_getD, List.getElem?_eq_getElem h2] at this
end Go.Proofs.Ytdakocdfpdglfaa.Merge
