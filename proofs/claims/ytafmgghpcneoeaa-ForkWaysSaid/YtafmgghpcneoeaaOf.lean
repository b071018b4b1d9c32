/- Walks, printed by wip/tools/gen.py: what each function comes to. -/
import Derived.Test.YtafmgghpcneoeaaTyp
import Derived.Test.YtafmgghpcneoeaaProg
import Derived.KernelRfl

namespace Go.Proofs.Ytafmgghpcneoeaa
open Go Go.RowKit
set_option maxRecDepth 100000
set_option maxHeartbeats 2000000

theorem of_w (a : Nat) (w0 : World) : Calls Try.prog 108 #[.agg (wdC a).toArray] w0 (Ret fun v w => v = .agg (dC a).toArray ∧ Keep Non w0 w) := by
  go_enter Try.func108, Try.ntmps108
  change Code.wp _ _ _ (F [Value.agg (wdC a).toArray, undef, undef, undef, undef, undef, undef, undef, undef, undef, undef, undef, undef, undef, undef, undef, undef, undef, undef, undef, undef, undef, undef]) _
  have hst := St.start Non (has0 w0)
  refine E.seq (fun K1 hK1 => ?_)
  refine rg ?_
  refine TL.box (vs := wdC a) hst rfl rfl ?_
  intro w n1 hst
  refine ⟨trivial, ?_⟩
  refine TL.alloc hst zv182 rfl ?_
  intro w n2 hst
  refine ⟨trivial, ?_⟩
  refine TL.nil ?_
  refine hK1 _ _ ?_
  refine E.norm (by simp only [List.set_cons_succ, List.set_cons_zero]; rfl) ?_
  refine E.seq (fun K2 hK2 => ?_)
  refine rg ?_
  refine TL.buildA (ps := []) ar182 zv182 rfl (Fl.nil _) rfl ?_
  refine TL.alloc hst zv182 rfl ?_
  intro w n3 hst
  refine ⟨trivial, ?_⟩
  refine TL.st 0 n3 (0) (vs := dC 0) hst rfl (Put.all (by simp)) rfl (One.d _) tz182 rfl rfl ?_
  intro w hst
  refine ⟨trivial, ?_⟩
  refine TL.nil ?_
  refine hK2 _ _ ?_
  refine E.norm (by simp only [List.set_cons_succ, List.set_cons_zero]; rfl) ?_
  refine E.seq (fun K3 hK3 => ?_)
  refine E.seq (fun K4 hK4 => ?_)
  refine rg ?_
  refine TL.assign (Value.int .i64 0) rfl rfl ?_
  refine TL.nil ?_
  refine hK4 _ _ ?_
  refine E.norm (by simp only [List.set_cons_succ, List.set_cons_zero]; rfl) ?_
  refine wp_block ?_
  refine E.loop (fun m l w => ∃ (k : Nat), m = 32 - k ∧ Fits [some (Value.agg (wdC a).toArray), some (Value.pointer (some ⟨n1, 0, none⟩)), some (Value.pointer (some ⟨n2, 0, none⟩)), some (Value.pointer (some ⟨n3, 0, none⟩)), some (Value.int .i64 ((k : Int))), some (Value.agg (dC 0).toArray), none, none, none, none, none, none, none, none, none, none, none, none, none, none, none, none, some (undef)] l ∧ St Non w0 w g0 [(n3, .cells (dPre a k).toArray 182 (0, 0)), (n2, .cells (dC 0).toArray 182 (0, 0)), (n1, .cells (wdC a).toArray 31 (0, 0))] ∧ (k ≤ 32)) _ ⟨0, rfl, (by first | (simp only [List.set_cons_succ, List.set_cons_zero]; exact .s rfl (.s rfl (.s rfl (.s rfl (.s rfl (.s rfl (.n (.n (.n (.n (.n (.n (.n (.n (.n (.n (.n (.n (.n (.n (.n (.n (.s rfl (.z)))))))))))))))))))))))) | exact .s rfl (.s rfl (.s rfl (.s rfl (.s rfl (.s rfl (.n (.n (.n (.n (.n (.n (.n (.n (.n (.n (.n (.n (.n (.n (.n (.n (.s rfl (.z)))))))))))))))))))))))), hst, by omega⟩ ?_
  rintro _ _ w ⟨k, hm1, hfit, hst, hk⟩
  obtain ⟨j1, rfl⟩ := hfit.ex
  refine E.norm (l' := [Value.agg (wdC a).toArray, Value.pointer (some ⟨n1, 0, none⟩), Value.pointer (some ⟨n2, 0, none⟩), Value.pointer (some ⟨n3, 0, none⟩), Value.int .i64 ((k : Int)), Value.agg (dC 0).toArray, (j1 6), (j1 7), (j1 8), (j1 9), (j1 10), (j1 11), (j1 12), (j1 13), (j1 14), (j1 15), (j1 16), (j1 17), (j1 18), (j1 19), (j1 20), (j1 21), undef]) rfl ?_
  refine E.seq (fun K5 hK5 => ?_)
  refine E.seq (fun K6 hK6 => ?_)
  refine rg ?_
  refine TL.move (Value.int .i64 ((k : Int))) rfl rfl ?_
  refine TL.lss rfl rfl rfl ?_
  refine TL.nil ?_
  refine hK6 _ _ ?_
  refine E.norm (by simp only [List.set_cons_succ, List.set_cons_zero]; rfl) ?_
  refine E.cond rfl (fun hc1 => ?_) (fun hc1 => ?_)
  · replace hc1 := of_decide_eq_true hc1
    refine wp_skip ?_
    refine hK5 _ _ ?_
    refine E.seq (fun K7 hK7 => ?_)
    refine wp_block ?_
    refine rg ?_
    refine TL.move (Value.int .i64 ((k : Int))) rfl rfl ?_
    refine TL.move (Value.int .i64 ((k : Int))) rfl rfl ?_
    refine TL.quo (((k / 8 : Nat) : Int)) rfl rfl (by decide) (by refine ⟨by rw [Int.tdiv_eq_ediv_of_nonneg (by omega)]; omega, ?_⟩; dsimp only [inR]; omega) rfl ?_
    refine TL.norm (by simp only [List.set_cons_succ, List.set_cons_zero]; rfl) ?_
    refine TL.indexArr ar31 rfl rfl (by omega) (by omega) rfl ?_
    refine TL.ldL1 2 n1 (0 + (((k / 8 : Nat) : Int) : Int).toNat * 1) (.int .u64 (lb a (k / 8))) (fun _ h => h ▸ hst) rfl (wd_seg a (by omega) (by omega)) ts29 rfl rfl ?_
    refine TL.move (Value.int .i64 ((k : Int))) rfl rfl ?_
    refine TL.norm (by simp only [List.set_cons_succ, List.set_cons_zero]; rfl) ?_
    refine TL.rem (((k % 8 : Nat) : Int)) rfl rfl (by decide) (by rw [Int.tmod_eq_emod_of_nonneg (by omega)]; omega) rfl ?_
    refine TL.mul (((8 * (k % 8) : Nat) : Int)) rfl rfl (by dsimp only [inR]; omega) rfl ?_
    refine TL.shrN (((a / B64 ^ (k / 8) % B64 / 2 ^ (8 * (k % 8)) : Nat) : Int)) rfl rfl (show 8 * (k % 8) ≤ 64 by omega) (rfl) rfl ?_
    refine TL.norm (by simp only [List.set_cons_succ, List.set_cons_zero]; rfl) ?_
    refine TL.rem (dg a k) rfl rfl (by decide) (by rw [Int.tmod_eq_emod_of_nonneg (Int.natCast_nonneg _)]; unfold dg; rw [← limb_byte]; exact (Int.natCast_emod _ 256).symm) rfl ?_
    refine TL.conv (dg a k) Try.underlying29 Try.underlying3 rfl (⟨rfl, by have := dg_bd a k; dsimp only [inR]; omega⟩) rfl ?_
    refine TL.indexArr ar182 rfl rfl (by omega) (by omega) rfl ?_
    refine TL.norm (by simp only [List.set_cons_succ, List.set_cons_zero]; rfl) ?_
    refine TL.st 0 n3 (0 + ((k : Int) : Int).toNat * 1) (vs := [Value.int .i64 (dg a k)]) hst rfl (dPre_put a k (by omega)) rfl (One.one rfl) tz3 rfl rfl ?_
    intro w hst
    refine ⟨trivial, ?_⟩
    refine TL.nil ?_
    refine hK7 _ _ ?_
    refine rg ?_
    refine TL.move (Value.int .i64 ((k : Int))) rfl rfl ?_
    refine TL.add (((k : Int)) + 1) rfl rfl (by dsimp only [inR]; omega) rfl ?_
    refine TL.assign (Value.int .i64 (((k : Int)) + 1)) rfl rfl ?_
    refine TL.nil ?_
    refine ⟨_, _, ?_, rfl, k + 1, rfl, (by first | (simp only [List.set_cons_succ, List.set_cons_zero]; exact .s rfl (.s rfl (.s rfl (.s rfl (.s rfl (.s rfl (.n (.n (.n (.n (.n (.n (.n (.n (.n (.n (.n (.n (.n (.n (.n (.n (.s rfl (.z)))))))))))))))))))))))) | exact .s rfl (.s rfl (.s rfl (.s rfl (.s rfl (.s rfl (.n (.n (.n (.n (.n (.n (.n (.n (.n (.n (.n (.n (.n (.n (.n (.n (.s rfl (.z)))))))))))))))))))))))), hst, by omega⟩
    omega
  · replace hc1 := of_decide_eq_false hc1
    obtain rfl : k = 32 := by omega
    rw [dPre_all] at hst
    refine wp_exit ?_
    refine hK3 _ _ ?_
    refine E.seq (fun K8 hK8 => ?_)
    refine rg ?_
    refine TL.ldL 0 n3 (0) (dC a) (fun _ h => h ▸ hst) rfl (Seg.all _) ta182 rfl rfl ?_
    refine TL.norm (by simp only [List.set_cons_succ, List.set_cons_zero]; rfl) ?_
    refine TL.st 1 n2 (0) (vs := dC a) hst rfl (Put.all (by simp)) rfl (One.d _) tz182 rfl rfl ?_
    intro w hst
    refine ⟨trivial, ?_⟩
    refine TL.nil ?_
    refine hK8 _ _ ?_
    refine wp_ret ?_
    refine E.ret _ (Rs.c (dC a) rfl rfl ta182 (rangeAt_of_block (hst.mem (i := 1) rfl) (Seg.all _))) ?_
    exact ⟨rfl, hst.keep⟩

theorem cmp_d (a b : Nat) (ha : a < NW) (hb : b < NW) (w0 : World) : Calls Try.prog 109 #[.agg (dC a).toArray, .agg (dC b).toArray] w0 (Ret fun v w => v = .int .i64 (ncmp a b) ∧ Keep Non w0 w) := by
  go_enter Try.func109, Try.ntmps109
  change Code.wp _ _ _ (F [Value.agg (dC a).toArray, Value.agg (dC b).toArray, undef, undef, undef, undef, undef, undef, undef, undef, undef, undef, undef, undef, undef, undef, undef, undef, undef, undef, undef, undef, undef, undef]) _
  have hst := St.start Non (has0 w0)
  refine E.seq (fun K1 hK1 => ?_)
  refine rg ?_
  refine TL.box (vs := dC a) hst rfl rfl ?_
  intro w n1 hst
  refine ⟨trivial, ?_⟩
  refine TL.box (vs := dC b) hst rfl rfl ?_
  intro w n2 hst
  refine ⟨trivial, ?_⟩
  refine TL.assign (Value.int .i64 0) rfl rfl ?_
  refine TL.nil ?_
  refine hK1 _ _ ?_
  refine E.norm (by simp only [List.set_cons_succ, List.set_cons_zero]; rfl) ?_
  refine E.seq (fun K2 hK2 => ?_)
  refine E.seq (fun K3 hK3 => ?_)
  refine rg ?_
  refine TL.assign (Value.int .i64 31) rfl rfl ?_
  refine TL.nil ?_
  refine hK3 _ _ ?_
  refine E.norm (by simp only [List.set_cons_succ, List.set_cons_zero]; rfl) ?_
  refine wp_block ?_
  refine E.loop (fun m l w => ∃ (z : Int), m = (z + 1).toNat ∧ Fits [some (Value.agg (dC a).toArray), some (Value.agg (dC b).toArray), some (Value.pointer (some ⟨n1, 0, none⟩)), some (Value.pointer (some ⟨n2, 0, none⟩)), none, some (Value.int .i64 z), none, none, none, none, none, none, none, none, none, none, none, none, none, none, none, none, none, none] l ∧ St Non w0 w g0 [(n2, .cells (dC b).toArray 182 (0, 0)), (n1, .cells (dC a).toArray 182 (0, 0))] ∧ (-1 ≤ z ∧ z ≤ 31) ∧ (∀ i : Nat, z < i → i < 32 → dg a i = dg b i)) _ ⟨31, rfl, (by first | (simp only [List.set_cons_succ, List.set_cons_zero]; exact .s rfl (.s rfl (.s rfl (.s rfl (.n (.s rfl (.n (.n (.n (.n (.n (.n (.n (.n (.n (.n (.n (.n (.n (.n (.n (.n (.n (.n (.z))))))))))))))))))))))))) | exact .s rfl (.s rfl (.s rfl (.s rfl (.n (.s rfl (.n (.n (.n (.n (.n (.n (.n (.n (.n (.n (.n (.n (.n (.n (.n (.n (.n (.n (.z))))))))))))))))))))))))), hst, by omega, fun i h1 h2 => by omega⟩ ?_
  rintro _ _ w ⟨z, hm1, hfit, hst, hk, hsame⟩
  obtain ⟨j1, rfl⟩ := hfit.ex
  refine E.norm (l' := [Value.agg (dC a).toArray, Value.agg (dC b).toArray, Value.pointer (some ⟨n1, 0, none⟩), Value.pointer (some ⟨n2, 0, none⟩), (j1 4), Value.int .i64 z, (j1 6), (j1 7), (j1 8), (j1 9), (j1 10), (j1 11), (j1 12), (j1 13), (j1 14), (j1 15), (j1 16), (j1 17), (j1 18), (j1 19), (j1 20), (j1 21), (j1 22), (j1 23)]) rfl ?_
  refine E.seq (fun K4 hK4 => ?_)
  refine E.seq (fun K5 hK5 => ?_)
  refine rg ?_
  refine TL.move (Value.int .i64 z) rfl rfl ?_
  refine TL.geq rfl rfl rfl ?_
  refine TL.nil ?_
  refine hK5 _ _ ?_
  refine E.norm (by simp only [List.set_cons_succ, List.set_cons_zero]; rfl) ?_
  refine E.cond rfl (fun hc1 => ?_) (fun hc1 => ?_)
  · replace hc1 := of_decide_eq_true hc1
    obtain ⟨k, rfl⟩ := Int.eq_ofNat_of_zero_le hc1
    refine wp_skip ?_
    refine hK4 _ _ ?_
    refine E.seq (fun K6 hK6 => ?_)
    refine wp_block ?_
    refine E.seq (fun K7 hK7 => ?_)
    refine E.seq (fun K8 hK8 => ?_)
    refine rgD mixed #[0, 1, 3, 0, 8, 24, 63] (by kernel_rfl) ?_
    replace hst := hst.drew
    refine TL.move (Value.int .i64 ((k : Int))) rfl rfl ?_
    refine TL.indexArr ar182 rfl rfl (by omega) (by omega) rfl ?_
    refine TL.ldL1 1 n1 (0 + ((k : Int) : Int).toNat * 1) (.int .i64 (dg a k)) (fun _ h => h ▸ hst) rfl (d_seg a (by omega) (by omega)) ts3 rfl rfl ?_
    refine TL.norm (by simp only [List.set_cons_succ, List.set_cons_zero]; rfl) ?_
    refine TL.move (Value.int .i64 ((k : Int))) rfl rfl ?_
    refine TL.indexArr ar182 rfl rfl (by omega) (by omega) rfl ?_
    refine TL.ldL1 0 n2 (0 + ((k : Int) : Int).toNat * 1) (.int .i64 (dg b k)) (fun _ h => h ▸ hst) rfl (d_seg b (by omega) (by omega)) ts3 rfl rfl ?_
    refine TL.norm (by simp only [List.set_cons_succ, List.set_cons_zero]; rfl) ?_
    refine TL.lss rfl rfl rfl ?_
    refine TL.nil ?_
    refine hK8 _ _ ?_
    refine E.norm (by simp only [List.set_cons_succ, List.set_cons_zero]; rfl) ?_
    refine E.cond rfl (fun hc2 => ?_) (fun hc2 => ?_)
    · replace hc2 := of_decide_eq_true hc2
      refine E.seq (fun K9 hK9 => ?_)
      refine rg ?_
      refine TL.assign (Value.int .i64 ((-1))) rfl rfl ?_
      refine TL.nil ?_
      refine hK9 _ _ ?_
      refine E.norm (by simp only [List.set_cons_succ, List.set_cons_zero]; rfl) ?_
      refine wp_ret ?_
      refine E.ret _ (Rs.t (Value.int .i64 ((-1))) rfl rfl) ?_
      exact ⟨veq (dcmp_lt ha hb hk.2 hsame hc2), hst.keep⟩
    · replace hc2 := of_decide_eq_false hc2
      refine wp_skip ?_
      refine hK7 _ _ ?_
      refine E.seq (fun K10 hK10 => ?_)
      refine rgD mixed #[0, 1, 3, 0, 8, 24, 63] (by kernel_rfl) ?_
      replace hst := hst.drew
      refine TL.move (Value.int .i64 ((k : Int))) rfl rfl ?_
      refine TL.indexArr ar182 rfl rfl (by omega) (by omega) rfl ?_
      refine TL.ldL1 1 n1 (0 + ((k : Int) : Int).toNat * 1) (.int .i64 (dg a k)) (fun _ h => h ▸ hst) rfl (d_seg a (by omega) (by omega)) ts3 rfl rfl ?_
      refine TL.norm (by simp only [List.set_cons_succ, List.set_cons_zero]; rfl) ?_
      refine TL.move (Value.int .i64 ((k : Int))) rfl rfl ?_
      refine TL.indexArr ar182 rfl rfl (by omega) (by omega) rfl ?_
      refine TL.ldL1 0 n2 (0 + ((k : Int) : Int).toNat * 1) (.int .i64 (dg b k)) (fun _ h => h ▸ hst) rfl (d_seg b (by omega) (by omega)) ts3 rfl rfl ?_
      refine TL.norm (by simp only [List.set_cons_succ, List.set_cons_zero]; rfl) ?_
      refine TL.gtr rfl rfl rfl ?_
      refine TL.nil ?_
      refine hK10 _ _ ?_
      refine E.norm (by simp only [List.set_cons_succ, List.set_cons_zero]; rfl) ?_
      refine E.cond rfl (fun hc3 => ?_) (fun hc3 => ?_)
      · replace hc3 := of_decide_eq_true hc3
        refine E.seq (fun K11 hK11 => ?_)
        refine rg ?_
        refine TL.assign (Value.int .i64 1) rfl rfl ?_
        refine TL.nil ?_
        refine hK11 _ _ ?_
        refine E.norm (by simp only [List.set_cons_succ, List.set_cons_zero]; rfl) ?_
        refine wp_ret ?_
        refine E.ret _ (Rs.t (Value.int .i64 1) rfl rfl) ?_
        exact ⟨veq (dcmp_gt ha hb hk.2 hsame hc3), hst.keep⟩
      · replace hc3 := of_decide_eq_false hc3
        refine wp_skip ?_
        refine hK6 _ _ ?_
        refine rg ?_
        refine TL.move (Value.int .i64 ((k : Int))) rfl rfl ?_
        refine TL.sub (((k : Int)) - 1) rfl rfl (by dsimp only [inR]; omega) rfl ?_
        refine TL.assign (Value.int .i64 (((k : Int)) - 1)) rfl rfl ?_
        refine TL.nil ?_
        refine ⟨_, _, ?_, rfl, (k : Int) - 1, rfl, (by first | (simp only [List.set_cons_succ, List.set_cons_zero]; exact .s rfl (.s rfl (.s rfl (.s rfl (.n (.s rfl (.n (.n (.n (.n (.n (.n (.n (.n (.n (.n (.n (.n (.n (.n (.n (.n (.n (.n (.z))))))))))))))))))))))))) | exact .s rfl (.s rfl (.s rfl (.s rfl (.n (.s rfl (.n (.n (.n (.n (.n (.n (.n (.n (.n (.n (.n (.n (.n (.n (.n (.n (.n (.n (.z))))))))))))))))))))))))), hst, by omega, dcmp_next hsame hc2 hc3⟩
        omega
  · replace hc1 := of_decide_eq_false hc1
    refine wp_exit ?_
    refine hK2 _ _ ?_
    refine E.seq (fun K12 hK12 => ?_)
    refine rg ?_
    refine TL.assign (Value.int .i64 0) rfl rfl ?_
    refine TL.nil ?_
    refine hK12 _ _ ?_
    refine E.norm (by simp only [List.set_cons_succ, List.set_cons_zero]; rfl) ?_
    refine wp_ret ?_
    refine E.ret _ (Rs.t (Value.int .i64 0) rfl rfl) ?_
    exact ⟨veq (dcmp_eq ha hb hk.1 hsame hc1), hst.keep⟩
end Go.Proofs.Ytafmgghpcneoeaa
