/- Frequencies by numbers. -/
import Derived.Test.YtbjcdgcdnbnknaaOrdP
namespace Go.Proofs.Ytbjcdgcdnbnknaa.Merge
open Go.RowKit Go.Proofs.Ytbjcdgcdnbnknaa.Sx Go.Proofs.Ytbjcdgcdnbnknaa.Parts
set_option maxRecDepth 20000
def u16s (zs : List Int) : List Value := zs.map (Value.int .u16)
theorem u16s_get {zs : List Int} {i : Nat} (h : i < zs.length) : (u16s zs)[i]? = some (.int .u16 zs[i]) := by simp [u16s, h]
def freqStep (f : List Int) (a b : Int) : List Int := f.set (a.toNat % 65) ((b.toNat / 2 ^ (a.toNat / 65 % 16) : Nat) : Int)
def freqG : List Int → List Int → List Int
  | a :: b :: r, f => freqG r (freqStep f a b)
  | _, f => f
def freqF (ns : List Int) : List Int := freqG ns (List.replicate 65 0)
theorem freqStep_len (f : List Int) (a b : Int) : (freqStep f a b).length = f.length := by simp [freqStep]
theorem shr_i (u k : Nat) (hk : k ≤ 64) : shrK .i64 (u : Int) k = ((u / 2 ^ k : Nat) : Int) := by
  unfold shrK
  rw [show IntKind.i64.bits = 64 from rfl, Nat.min_eq_left hk]
  rw [show ((2 : Int) ^ k) = ((2 ^ k : Nat) : Int) from by rw [Int.natCast_pow]; rfl]
  rw [Int.fdiv_eq_ediv_of_nonneg _ (Int.natCast_nonneg _)]
  norm_cast
theorem freq {W : World} {X : Nat → Prop} {A : Option Addr} {cap : Nat} {ns : List Int} (hF : Rd W X A ns.length (u16s ns)) (hX : ∀ k, X k → k < W.heap.size) (hn : ∀ z ∈ ns, 0 ≤ z ∧ z < 65536) (hl : ns.length < 800000) :
    Ctr Try.prog 10 [.slice A ns.length cap] W fun y V => Own V X 3 1 y 65 (ints (freqF ns)) ∧ Keep X W V := by
  refine ctr Try.func10 rfl Try.ntmps10 rfl ?_
  repeat (first | with_reducible (first | refine Cw.seq ?_ | refine Cw.block ?_ | refine Cw.region ?_ | refine Cw.skip ?_ | refine Cw.ret ?_ | refine Cw.exit ?_ | refine Ex.then_n ?_ | refine Ex.then_ret ?_ | refine Ex.then_exit ?_ | refine Ex.blk_n ?_ | refine Ex.blk_ret ?_ | refine Ex.blk_eq ?_ | refine Wl.nil ?_ | refine Wq.nil ?_) | (refine Ex.blk_ne rfl ?_) | refine Wl.p rfl rfl rfl rfl ?_ | refine Wq.p rfl rfl rfl rfl ?_ | refine Wl.off rfl rfl rfl ?_ | refine Wq.off rfl rfl rfl ?_ | refine Wl.f rfl rfl rfl rfl rfl ?_ | refine Wq.f rfl rfl rfl rfl rfl ?_ | refine Wl.z rfl rfl rfl rfl rfl ?_ | refine Wq.z rfl rfl rfl rfl rfl ?_ | refine Wl.b rfl rfl rfl rfl rfl ?_ | refine Wl.a rfl rfl rfl rfl rfl ?_ | refine Wl.c rfl rfl rfl rfl rfl ?_ | refine Wq.c rfl rfl rfl rfl rfl ?_ | refine Wl.x rfl rfl rfl rfl rfl rfl (by omega) ?_ | refine Wq.x rfl rfl rfl rfl rfl rfl (by omega) ?_ | refine Wl.y rfl rfl rfl rfl rfl rfl (by omega) (by omega) ?_ | refine Wq.y rfl rfl rfl rfl rfl rfl (by omega) (by omega) ?_ | refine Wl.r rfl rfl rfl rfl rfl (by assumption) ?_ | refine Wq.r rfl rfl rfl rfl rfl (by assumption) ?_ | refine Wl.e rfl rfl rfl rfl rfl (by assumption) (by assumption) ?_ | refine Wq.e rfl rfl rfl rfl rfl (by assumption) (by assumption) ?_)
  refine Wl.make (k := 65) [.int .i64 0] rfl rfl rfl rfl rfl rfl rfl rfl (by decide) (by decide) (by decide) ?_
  intro g w1 hg hRg hK1 hs1
  rw [reps_ints] at hRg
  have hO1 : Own w1 X 3 1 (.slice (some ⟨g, 0, none⟩) 65 65) 65 (ints (List.replicate 65 0)) := Own.of_row hRg (by simp [ints]) (fun h => by have := hX g h; omega) (by decide)
  have k1 : Keep X W w1 := hK1.mono fun k hk => by have := hX k hk; omega
  repeat (first | with_reducible (first | refine Cw.seq ?_ | refine Cw.block ?_ | refine Cw.region ?_ | refine Cw.skip ?_ | refine Cw.ret ?_ | refine Cw.exit ?_ | refine Ex.then_n ?_ | refine Ex.then_ret ?_ | refine Ex.then_exit ?_ | refine Ex.blk_n ?_ | refine Ex.blk_ret ?_ | refine Ex.blk_eq ?_ | refine Wl.nil ?_ | refine Wq.nil ?_) | (refine Ex.blk_ne rfl ?_) | refine Wl.p rfl rfl rfl rfl ?_ | refine Wq.p rfl rfl rfl rfl ?_ | refine Wl.off rfl rfl rfl ?_ | refine Wq.off rfl rfl rfl ?_ | refine Wl.f rfl rfl rfl rfl rfl ?_ | refine Wq.f rfl rfl rfl rfl rfl ?_ | refine Wl.z rfl rfl rfl rfl rfl ?_ | refine Wq.z rfl rfl rfl rfl rfl ?_ | refine Wl.b rfl rfl rfl rfl rfl ?_ | refine Wl.a rfl rfl rfl rfl rfl ?_ | refine Wl.c rfl rfl rfl rfl rfl ?_ | refine Wq.c rfl rfl rfl rfl rfl ?_ | refine Wl.x rfl rfl rfl rfl rfl rfl (by omega) ?_ | refine Wq.x rfl rfl rfl rfl rfl rfl (by omega) ?_ | refine Wl.y rfl rfl rfl rfl rfl rfl (by omega) (by omega) ?_ | refine Wq.y rfl rfl rfl rfl rfl rfl (by omega) (by omega) ?_ | refine Wl.r rfl rfl rfl rfl rfl (by assumption) ?_ | refine Wq.r rfl rfl rfl rfl rfl (by assumption) ?_ | refine Wl.e rfl rfl rfl rfl rfl (by assumption) (by assumption) ?_ | refine Wq.e rfl rfl rfl rfl rfl (by assumption) (by assumption) ?_)
  refine Cw.loop (σ := Nat × List Int) (fun s => [(0, .slice A ns.length cap), (3, .slice (some ⟨g, 0, none⟩) 65 65), (4, .int .i64 s.1)]) (fun s V => Own V X 3 1 (.slice (some ⟨g, 0, none⟩) 65 65) 65 (ints s.2) ∧ s.2.length = 65 ∧ freqG (ns.drop s.1) s.2 = freqF ns ∧ s.1 ≤ ns.length ∧ Keep X W V) (fun s => ns.length - s.1) (0, List.replicate 65 0) ⟨rfl, rfl, rfl, trivial⟩ ⟨hO1, rfl, rfl, Nat.zero_le _, k1⟩ ?_
  rintro ⟨i, f⟩ V ⟨hO, hfl, hu, hi, hK⟩
  simp only at hO hfl hu hi ⊢
  repeat (first | with_reducible (first | refine Cw.seq ?_ | refine Cw.block ?_ | refine Cw.region ?_ | refine Cw.skip ?_ | refine Cw.ret ?_ | refine Cw.exit ?_ | refine Ex.then_n ?_ | refine Ex.then_ret ?_ | refine Ex.then_exit ?_ | refine Ex.blk_n ?_ | refine Ex.blk_ret ?_ | refine Ex.blk_eq ?_ | refine Wl.nil ?_ | refine Wq.nil ?_) | (refine Ex.blk_ne rfl ?_) | refine Wl.p rfl rfl rfl rfl ?_ | refine Wq.p rfl rfl rfl rfl ?_ | refine Wl.off rfl rfl rfl ?_ | refine Wq.off rfl rfl rfl ?_ | refine Wl.f rfl rfl rfl rfl rfl ?_ | refine Wq.f rfl rfl rfl rfl rfl ?_ | refine Wl.z rfl rfl rfl rfl rfl ?_ | refine Wq.z rfl rfl rfl rfl rfl ?_ | refine Wl.b rfl rfl rfl rfl rfl ?_ | refine Wl.a rfl rfl rfl rfl rfl ?_ | refine Wl.c rfl rfl rfl rfl rfl ?_ | refine Wq.c rfl rfl rfl rfl rfl ?_ | refine Wl.x rfl rfl rfl rfl rfl rfl (by omega) ?_ | refine Wq.x rfl rfl rfl rfl rfl rfl (by omega) ?_ | refine Wl.y rfl rfl rfl rfl rfl rfl (by omega) (by omega) ?_ | refine Wq.y rfl rfl rfl rfl rfl rfl (by omega) (by omega) ?_ | refine Wl.r rfl rfl rfl rfl rfl (by assumption) ?_ | refine Wq.r rfl rfl rfl rfl rfl (by assumption) ?_ | refine Wl.e rfl rfl rfl rfl rfl (by assumption) (by assumption) ?_ | refine Wq.e rfl rfl rfl rfl rfl (by assumption) (by assumption) ?_)
  rw [Parts.succ_eq (by omega)]
  by_cases hlt : i + 1 < ns.length
  · refine Cw.cond_t (by rw [decide_eq_true (show ((i + 1 : Nat) : Int) < ns.length by omega)]; rfl) ?_
    have hFV := hF.keep hK
    have hi1 : i < ns.length := by omega
    obtain ⟨ag, off, rfl, hXa, hcell⟩ := hFV.at_ (u16s_get hi1)
    have hc : V.cell? ⟨ag, off + i * 1, none⟩ = some (.int .u16 ns[i]) := by rw [Nat.mul_one]; exact hcell i _ (u16s_get hi1)
    have hc1 : V.cell? ⟨ag, off + (i + 1) * 1, none⟩ = some (.int .u16 ns[i + 1]) := by rw [Nat.mul_one]; exact hcell (i + 1) _ (u16s_get hlt)
    have ha := hn ns[i] (List.getElem_mem hi1)
    have hb := hn ns[i + 1] (List.getElem_mem hlt)
    rw [List.drop_eq_getElem_cons hi1, List.drop_eq_getElem_cons hlt] at hu
    simp only [freqG] at hu
    generalize ns[i] = a at hc ha hu
    generalize ns[i + 1] = b at hc1 hb hu
    obtain ⟨a, rfl⟩ := Int.eq_ofNat_of_zero_le ha.1
    obtain ⟨b, rfl⟩ := Int.eq_ofNat_of_zero_le hb.1
    repeat (first | with_reducible (first | refine Cw.seq ?_ | refine Cw.block ?_ | refine Cw.region ?_ | refine Cw.skip ?_ | refine Cw.ret ?_ | refine Cw.exit ?_ | refine Ex.then_n ?_ | refine Ex.then_ret ?_ | refine Ex.then_exit ?_ | refine Ex.blk_n ?_ | refine Ex.blk_ret ?_ | refine Ex.blk_eq ?_ | refine Wl.nil ?_ | refine Wq.nil ?_) | (refine Ex.blk_ne rfl ?_) | refine Wl.p rfl rfl rfl rfl ?_ | refine Wq.p rfl rfl rfl rfl ?_ | refine Wl.off rfl rfl rfl ?_ | refine Wq.off rfl rfl rfl ?_ | refine Wl.f rfl rfl rfl rfl rfl ?_ | refine Wq.f rfl rfl rfl rfl rfl ?_ | refine Wl.z rfl rfl rfl rfl rfl ?_ | refine Wq.z rfl rfl rfl rfl rfl ?_ | refine Wl.b rfl rfl rfl rfl rfl ?_ | refine Wl.a rfl rfl rfl rfl rfl ?_ | refine Wl.c rfl rfl rfl rfl rfl ?_ | refine Wq.c rfl rfl rfl rfl rfl ?_ | refine Wl.x rfl rfl rfl rfl rfl rfl (by omega) ?_ | refine Wq.x rfl rfl rfl rfl rfl rfl (by omega) ?_ | refine Wl.y rfl rfl rfl rfl rfl rfl (by omega) (by omega) ?_ | refine Wq.y rfl rfl rfl rfl rfl rfl (by omega) (by omega) ?_ | refine Wl.r rfl rfl rfl rfl rfl (by assumption) ?_ | refine Wq.r rfl rfl rfl rfl rfl (by assumption) ?_ | refine Wl.e rfl rfl rfl rfl rfl (by assumption) (by assumption) ?_ | refine Wq.e rfl rfl rfl rfl rfl (by assumption) (by assumption) ?_)
    refine Cw.draw (Same [ag] V) (fun _ => false) mixed (by kernel_rfl) Same.start ?_
    repeat (first | with_reducible refine Wd.nil ?_ | refine Wd.p rfl rfl rfl rfl rfl ?_ | refine Wd.f rfl rfl rfl rfl rfl rfl ?_ | refine Wd.x rfl rfl rfl rfl rfl rfl rfl (by omega) ?_ | refine Wd.y rfl rfl rfl rfl rfl rfl rfl (by omega) (by omega) ?_ | refine Wd.z rfl rfl rfl rfl rfl rfl ?_ | refine Wd.r rfl rfl rfl rfl rfl rfl (by assumption) (by simp) ?_ | refine Wd.e rfl rfl rfl rfl rfl rfl (by assumption) (by assumption) (by simp) ?_ | refine Wd.off rfl rfl rfl ?_)
    refine Wd.pure rfl rfl rfl rfl (fun _ => val_convert rfl rfl) ?_
    rw [Zig.wi64 (m := a) (by omega)]
    repeat (first | with_reducible refine Wd.nil ?_ | refine Wd.p rfl rfl rfl rfl rfl ?_ | refine Wd.f rfl rfl rfl rfl rfl rfl ?_ | refine Wd.x rfl rfl rfl rfl rfl rfl rfl (by omega) ?_ | refine Wd.y rfl rfl rfl rfl rfl rfl rfl (by omega) (by omega) ?_ | refine Wd.z rfl rfl rfl rfl rfl rfl ?_ | refine Wd.r rfl rfl rfl rfl rfl rfl (by assumption) (by simp) ?_ | refine Wd.e rfl rfl rfl rfl rfl rfl (by assumption) (by assumption) (by simp) ?_ | refine Wd.off rfl rfl rfl ?_)
    rw [show (a : Int).tmod 65 = ((a % 65 : Nat) : Int) from rfl, Parts.succ_eq (by omega)]
    repeat (first | with_reducible refine Wd.nil ?_ | refine Wd.p rfl rfl rfl rfl rfl ?_ | refine Wd.f rfl rfl rfl rfl rfl rfl ?_ | refine Wd.x rfl rfl rfl rfl rfl rfl rfl (by omega) ?_ | refine Wd.y rfl rfl rfl rfl rfl rfl rfl (by omega) (by omega) ?_ | refine Wd.z rfl rfl rfl rfl rfl rfl ?_ | refine Wd.r rfl rfl rfl rfl rfl rfl (by assumption) (by simp) ?_ | refine Wd.e rfl rfl rfl rfl rfl rfl (by assumption) (by assumption) (by simp) ?_ | refine Wd.off rfl rfl rfl ?_)
    refine Wd.pure rfl rfl rfl rfl (fun _ => val_convert rfl rfl) ?_
    rw [Zig.wi64 (m := b) (by omega)]
    repeat (first | with_reducible refine Wd.nil ?_ | refine Wd.p rfl rfl rfl rfl rfl ?_ | refine Wd.f rfl rfl rfl rfl rfl rfl ?_ | refine Wd.x rfl rfl rfl rfl rfl rfl rfl (by omega) ?_ | refine Wd.y rfl rfl rfl rfl rfl rfl rfl (by omega) (by omega) ?_ | refine Wd.z rfl rfl rfl rfl rfl rfl ?_ | refine Wd.r rfl rfl rfl rfl rfl rfl (by assumption) (by simp) ?_ | refine Wd.e rfl rfl rfl rfl rfl rfl (by assumption) (by assumption) (by simp) ?_ | refine Wd.off rfl rfl rfl ?_)
    rw [show (a : Int).tdiv 65 = ((a / 65 : Nat) : Int) from rfl, show IntKind.u16.wrap ((a / 65 : Nat) : Int) = ((a / 65 : Nat) : Int) from by rw [IntKind.wrap_u16]; omega, show ((a / 65 : Nat) : Int).tmod 16 = ((a / 65 % 16 : Nat) : Int) from rfl]
    have e16 : ∀ x : Nat, x < 65536 → x % ((2 : Int) ^ IntKind.u16.bits).natAbs = x := fun x h => by rw [show ((2 : Int) ^ IntKind.u16.bits).natAbs = 65536 from rfl]; omega
    rw [e16 (a / 65) (by omega), shr_i b (a / 65 % 16) (by omega)]
    have hkl : a % 65 < f.length := by omega
    refine Wd.putO hO rfl rfl rfl rfl rfl rfl rfl (u0 := .int .i64 f[a % 65]) (by rw [Nat.zero_add, Nat.mul_one]; exact ints_get hkl) (fun h => absurd h (by decide)) ?_
    intro V2 hO2 hK2 hs2
    rw [Nat.zero_add, Nat.mul_one, ints_set] at hO2
    refine Wd.nil ?_
    repeat (first | with_reducible (first | refine Cw.seq ?_ | refine Cw.block ?_ | refine Cw.region ?_ | refine Cw.skip ?_ | refine Cw.ret ?_ | refine Cw.exit ?_ | refine Ex.then_n ?_ | refine Ex.then_ret ?_ | refine Ex.then_exit ?_ | refine Ex.blk_n ?_ | refine Ex.blk_ret ?_ | refine Ex.blk_eq ?_ | refine Wl.nil ?_ | refine Wq.nil ?_) | (refine Ex.blk_ne rfl ?_) | refine Wl.p rfl rfl rfl rfl ?_ | refine Wq.p rfl rfl rfl rfl ?_ | refine Wl.off rfl rfl rfl ?_ | refine Wq.off rfl rfl rfl ?_ | refine Wl.f rfl rfl rfl rfl rfl ?_ | refine Wq.f rfl rfl rfl rfl rfl ?_ | refine Wl.z rfl rfl rfl rfl rfl ?_ | refine Wq.z rfl rfl rfl rfl rfl ?_ | refine Wl.b rfl rfl rfl rfl rfl ?_ | refine Wl.a rfl rfl rfl rfl rfl ?_ | refine Wl.c rfl rfl rfl rfl rfl ?_ | refine Wq.c rfl rfl rfl rfl rfl ?_ | refine Wl.x rfl rfl rfl rfl rfl rfl (by omega) ?_ | refine Wq.x rfl rfl rfl rfl rfl rfl (by omega) ?_ | refine Wl.y rfl rfl rfl rfl rfl rfl (by omega) (by omega) ?_ | refine Wq.y rfl rfl rfl rfl rfl rfl (by omega) (by omega) ?_ | refine Wl.r rfl rfl rfl rfl rfl (by assumption) ?_ | refine Wq.r rfl rfl rfl rfl rfl (by assumption) ?_ | refine Wl.e rfl rfl rfl rfl rfl (by assumption) (by assumption) ?_ | refine Wq.e rfl rfl rfl rfl rfl (by assumption) (by assumption) ?_)
    rw [w64n (x := (i : Int) + 2) (i + 2) (by omega) (by omega)]
    exact Ex.next (i + 2, freqStep f a b) (by show ns.length - (i + 2) < ns.length - i; omega) ⟨rfl, rfl, rfl, trivial⟩ ⟨hO2, by rw [freqStep_len]; exact hfl, hu, by show i + 2 ≤ _; omega, hK.trans (hK2.mono fun k hk e => hO.2 g rfl (e ▸ hk))⟩
  · refine Cw.cond_f (by rw [decide_eq_false (show ¬ ((i + 1 : Nat) : Int) < ns.length by omega)]; rfl) ?_
    have e : freqG (ns.drop i) f = f := by
      match h : ns.drop i with
      | [] => rfl
      | [_] => rfl
      | _ :: _ :: _ => have := congrArg List.length h; simp at this; omega
    rw [e] at hu
    subst hu
    repeat (first | with_reducible (first | refine Cw.seq ?_ | refine Cw.block ?_ | refine Cw.region ?_ | refine Cw.skip ?_ | refine Cw.ret ?_ | refine Cw.exit ?_ | refine Ex.then_n ?_ | refine Ex.then_ret ?_ | refine Ex.then_exit ?_ | refine Ex.blk_n ?_ | refine Ex.blk_ret ?_ | refine Ex.blk_eq ?_ | refine Wl.nil ?_ | refine Wq.nil ?_) | (refine Ex.blk_ne rfl ?_) | refine Wl.p rfl rfl rfl rfl ?_ | refine Wq.p rfl rfl rfl rfl ?_ | refine Wl.off rfl rfl rfl ?_ | refine Wq.off rfl rfl rfl ?_ | refine Wl.f rfl rfl rfl rfl rfl ?_ | refine Wq.f rfl rfl rfl rfl rfl ?_ | refine Wl.z rfl rfl rfl rfl rfl ?_ | refine Wq.z rfl rfl rfl rfl rfl ?_ | refine Wl.b rfl rfl rfl rfl rfl ?_ | refine Wl.a rfl rfl rfl rfl rfl ?_ | refine Wl.c rfl rfl rfl rfl rfl ?_ | refine Wq.c rfl rfl rfl rfl rfl ?_ | refine Wl.x rfl rfl rfl rfl rfl rfl (by omega) ?_ | refine Wq.x rfl rfl rfl rfl rfl rfl (by omega) ?_ | refine Wl.y rfl rfl rfl rfl rfl rfl (by omega) (by omega) ?_ | refine Wq.y rfl rfl rfl rfl rfl rfl (by omega) (by omega) ?_ | refine Wl.r rfl rfl rfl rfl rfl (by assumption) ?_ | refine Wq.r rfl rfl rfl rfl rfl (by assumption) ?_ | refine Wl.e rfl rfl rfl rfl rfl (by assumption) (by assumption) ?_ | refine Wq.e rfl rfl rfl rfl rfl (by assumption) (by assumption) ?_)
    exact fin1 (by first | exact .inl rfl | exact .inr rfl) rfl rfl fun U hd => ⟨hO.dr hd, hK.then_dr hd⟩
theorem freqG_len : ∀ (ns f : List Int), (freqG ns f).length = f.length
  | a :: b :: r, f => by simp only [freqG]; rw [freqG_len r]; exact freqStep_len f a b
  | [], _ => rfl
  | [_], _ => rfl
theorem freqF_len (ns : List Int) : (freqF ns).length = 65 := by unfold freqF; rw [freqG_len]; simp
theorem freqG_bd : ∀ (ns f : List Int), (∀ z ∈ ns, 0 ≤ z ∧ z < 65536) → (∀ z ∈ f, 0 ≤ z ∧ z < 65536) → ∀ z ∈ freqG ns f, 0 ≤ z ∧ z < 65536
  | a :: b :: r, f, hn, hf => by
    simp only [freqG]
    refine freqG_bd r _ (fun z hz => hn z (by simp [hz])) fun z hz => ?_
    unfold freqStep at hz
    rcases List.mem_or_eq_of_mem_set hz with h | h
    · exact hf z h
    · have hb := hn b (by simp)
      obtain ⟨b, rfl⟩ := Int.eq_ofNat_of_zero_le hb.1
      have : b / 2 ^ (a.toNat / 65 % 16) ≤ b := Nat.div_le_self _ _
      rw [Int.toNat_natCast] at h
      generalize b / 2 ^ (a.toNat / 65 % 16) = q at h this
      omega
  | [], _, _, hf => hf
  | [_], _, _, hf => hf
theorem freqF_bd {ns : List Int} (hn : ∀ z ∈ ns, 0 ≤ z ∧ z < 65536) : ∀ z ∈ freqF ns, 0 ≤ z ∧ z < 65536 :=
  freqG_bd ns _ hn fun z hz => by have := List.eq_of_mem_replicate hz; omega
end Go.Proofs.Ytbjcdgcdnbnknaa.Merge
