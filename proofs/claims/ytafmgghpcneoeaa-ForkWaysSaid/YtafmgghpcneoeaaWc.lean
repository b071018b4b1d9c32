/- Walks, printed by wip/tools/gen.py: what each function comes to. -/
import Derived.Test.YtafmgghpcneoeaaTyp
import Derived.Test.YtafmgghpcneoeaaProg
import Derived.KernelRfl

namespace Go.Proofs.Ytafmgghpcneoeaa
open Go Go.RowKit
set_option maxRecDepth 100000
set_option maxHeartbeats 2000000

theorem f_wcmp (a b : Nat) (ha : a < NW) (hb : b < NW) (w0 : World) : Calls Try.prog 87 #[.agg (wdC a).toArray, .agg (wdC b).toArray] w0 (Ret fun v w => v = .int .i64 (ncmp a b) ∧ Keep Non w0 w) := by
  go_enter Try.func87, Try.ntmps87
  change Code.wp _ _ _ (F [Value.agg (wdC a).toArray, Value.agg (wdC b).toArray, undef, undef, undef, undef, undef, undef, undef, undef, undef, undef, undef, undef, undef, undef, undef, undef, undef, undef, undef, undef, undef, undef, undef]) _
  have hst := St.start Non (has0 w0)
  refine E.seq (fun K1 hK1 => ?_)
  refine rg ?_
  refine TL.box (vs := wdC a) hst rfl rfl ?_
  intro w n1 hst
  refine ⟨trivial, ?_⟩
  refine TL.box (vs := wdC b) hst rfl rfl ?_
  intro w n2 hst
  refine ⟨trivial, ?_⟩
  refine TL.assign (Value.int .i64 0) rfl rfl ?_
  refine TL.nil ?_
  refine hK1 _ _ ?_
  refine E.norm (by simp only [List.set_cons_succ, List.set_cons_zero]; rfl) ?_
  refine E.seq (fun K2 hK2 => ?_)
  refine E.seq (fun K3 hK3 => ?_)
  refine rg ?_
  refine TL.ldL 1 n1 (0) (wdC a) (fun _ h => h ▸ hst) rfl (Seg.all _) ta31 rfl rfl ?_
  refine TL.ldL 0 n2 (0) (wdC b) (fun _ h => h ▸ hst) rfl (Seg.all _) ta31 rfl rfl ?_
  refine TL.eqlA eq31 (a := a) (b := b) rfl rfl (ha) (hb) rfl ?_
  refine TL.nil ?_
  refine hK3 _ _ ?_
  refine E.norm (by simp only [List.set_cons_succ, List.set_cons_zero]; rfl) ?_
  refine E.cond rfl (fun hc1 => ?_) (fun hc1 => ?_)
  · replace hc1 := eq_of_beq hc1
    refine E.seq (fun K4 hK4 => ?_)
    refine rg ?_
    refine TL.assign (Value.int .i64 0) rfl rfl ?_
    refine TL.nil ?_
    refine hK4 _ _ ?_
    refine E.norm (by simp only [List.set_cons_succ, List.set_cons_zero]; rfl) ?_
    refine wp_ret ?_
    refine E.ret _ (Rs.t (Value.int .i64 0) rfl rfl) ?_
    exact ⟨veq (ncmp_eq hc1), hst.keep⟩
  · replace hc1 := ne_of_beq_false hc1
    refine wp_skip ?_
    refine hK2 _ _ ?_
    refine E.seq (fun K5 hK5 => ?_)
    refine rg ?_
    refine TL.assign (Value.int .i64 3) rfl rfl ?_
    refine TL.nil ?_
    refine hK5 _ _ ?_
    refine E.norm (by simp only [List.set_cons_succ, List.set_cons_zero]; rfl) ?_
    refine E.seq (fun K6 hK6 => ?_)
    refine wp_block ?_
    refine E.loop (fun m l w => ∃ (k : Nat), m = k ∧ Fits [some (Value.agg (wdC a).toArray), some (Value.agg (wdC b).toArray), some (Value.pointer (some ⟨n1, 0, none⟩)), some (Value.pointer (some ⟨n2, 0, none⟩)), some (Value.int .i64 0), some (Value.int .i64 (↑k)), some (Value.agg (wdC a).toArray), some (Value.agg (wdC b).toArray), some (Value.bool (a == b)), none, none, none, none, none, none, none, none, none, some (undef), some (undef), some (undef), some (undef), some (undef), some (undef), some (undef)] l ∧ St Non w0 w g0 [(n2, .cells (wdC b).toArray 31 (0, 0)), (n1, .cells (wdC a).toArray 31 (0, 0))] ∧ (k ≤ 3) ∧ (∀ i, k < i → i < 4 → lb a i = lb b i)) _ ⟨3, rfl, (by first | (simp only [List.set_cons_succ, List.set_cons_zero]; exact .s rfl (.s rfl (.s rfl (.s rfl (.s rfl (.s rfl (.s rfl (.s rfl (.s rfl (.n (.n (.n (.n (.n (.n (.n (.n (.n (.s rfl (.s rfl (.s rfl (.s rfl (.s rfl (.s rfl (.s rfl (.z)))))))))))))))))))))))))) | exact .s rfl (.s rfl (.s rfl (.s rfl (.s rfl (.s rfl (.s rfl (.s rfl (.s rfl (.n (.n (.n (.n (.n (.n (.n (.n (.n (.s rfl (.s rfl (.s rfl (.s rfl (.s rfl (.s rfl (.s rfl (.z)))))))))))))))))))))))))), hst, by omega, fun i h1 h2 => by omega⟩ ?_
    rintro _ _ w ⟨k, hm1, hfit, hst, hk, hsame⟩
    obtain ⟨j1, rfl⟩ := hfit.ex
    refine E.norm (l' := [Value.agg (wdC a).toArray, Value.agg (wdC b).toArray, Value.pointer (some ⟨n1, 0, none⟩), Value.pointer (some ⟨n2, 0, none⟩), Value.int .i64 0, Value.int .i64 (↑k), Value.agg (wdC a).toArray, Value.agg (wdC b).toArray, Value.bool (a == b), (j1 9), (j1 10), (j1 11), (j1 12), (j1 13), (j1 14), (j1 15), (j1 16), (j1 17), undef, undef, undef, undef, undef, undef, undef]) rfl ?_
    have hkk : (0 : Int) ≤ (k : Int) ∧ (k : Int) < 4 := by omega
    refine E.seq (fun K7 hK7 => ?_)
    refine E.seq (fun K8 hK8 => ?_)
    refine rgD mixed #[0, 1, 3, 0, 8, 24, 63] (by kernel_rfl) ?_
    replace hst := hst.drew
    refine TL.move (Value.int .i64 (↑k)) rfl rfl ?_
    refine TL.indexArr ar31 rfl rfl (by omega) (by omega) rfl ?_
    refine TL.ldL1 1 n1 (0 + (↑k : Int).toNat * 1) (.int .u64 (lb a k)) (fun _ h => h ▸ hst) rfl (wd_seg a (by omega) (by omega)) ts29 rfl rfl ?_
    refine TL.norm (by simp only [List.set_cons_succ, List.set_cons_zero]; rfl) ?_
    refine TL.move (Value.int .i64 (↑k)) rfl rfl ?_
    refine TL.indexArr ar31 rfl rfl (by omega) (by omega) rfl ?_
    refine TL.ldL1 0 n2 (0 + (↑k : Int).toNat * 1) (.int .u64 (lb b k)) (fun _ h => h ▸ hst) rfl (wd_seg b (by omega) (by omega)) ts29 rfl rfl ?_
    refine TL.norm (by simp only [List.set_cons_succ, List.set_cons_zero]; rfl) ?_
    refine TL.eqlI rfl rfl rfl ?_
    refine TL.nil ?_
    refine hK8 _ _ ?_
    refine E.norm (by simp only [List.set_cons_succ, List.set_cons_zero]; rfl) ?_
    refine E.cond rfl (fun hc2 => ?_) (fun hc2 => ?_)
    · replace hc2 := eq_of_beq hc2
      refine wp_skip ?_
      refine hK7 _ _ ?_
      refine wp_block ?_
      refine rg ?_
      refine TL.move (Value.int .i64 (↑k)) rfl rfl ?_
      refine TL.sub ((↑k) - 1) rfl rfl (by dsimp only [inR]; omega) rfl ?_
      refine TL.assign (Value.int .i64 ((↑k) - 1)) rfl rfl ?_
      refine TL.nil ?_
      have h0 := wcmp_pos ha hb hsame hc2 hc1
      have hcast : ((k : Nat) : Int) - 1 = ((k - 1 : Nat) : Int) := by omega
      refine ⟨_, _, ?_, rfl, k - 1, rfl, (by first | (simp only [List.set_cons_succ, List.set_cons_zero]; exact .s rfl (.s rfl (.s rfl (.s rfl (.s rfl (.s (by rw [hcast]) (.s rfl (.s rfl (.s rfl (.n (.n (.n (.n (.n (.n (.n (.n (.n (.s rfl (.s rfl (.s rfl (.s rfl (.s rfl (.s rfl (.s rfl (.z)))))))))))))))))))))))))) | exact .s rfl (.s rfl (.s rfl (.s rfl (.s rfl (.s (by rw [hcast]) (.s rfl (.s rfl (.s rfl (.n (.n (.n (.n (.n (.n (.n (.n (.n (.s rfl (.s rfl (.s rfl (.s rfl (.s rfl (.s rfl (.s rfl (.z)))))))))))))))))))))))))), hst, by omega, wcmp_next hsame hc2⟩
      omega
    · replace hc2 := ne_of_beq_false hc2
      refine wp_exit ?_
      refine hK6 _ _ ?_
      refine E.seq (fun K9 hK9 => ?_)
      refine E.seq (fun K10 hK10 => ?_)
      refine rgD mixed #[0, 1, 3, 0, 8, 24, 63] (by kernel_rfl) ?_
      replace hst := hst.drew
      refine TL.move (Value.int .i64 (↑k)) rfl rfl ?_
      refine TL.norm (by simp only [List.set_cons_succ, List.set_cons_zero]; rfl) ?_
      refine TL.indexArr ar31 rfl rfl (by omega) (by omega) rfl ?_
      refine TL.ldL1 1 n1 (0 + (↑k : Int).toNat * 1) (.int .u64 (lb a k)) (fun _ h => h ▸ hst) rfl (wd_seg a (by omega) (by omega)) ts29 rfl rfl ?_
      refine TL.move (Value.int .i64 (↑k)) rfl rfl ?_
      refine TL.norm (by simp only [List.set_cons_succ, List.set_cons_zero]; rfl) ?_
      refine TL.indexArr ar31 rfl rfl (by omega) (by omega) rfl ?_
      refine TL.ldL1 0 n2 (0 + (↑k : Int).toNat * 1) (.int .u64 (lb b k)) (fun _ h => h ▸ hst) rfl (wd_seg b (by omega) (by omega)) ts29 rfl rfl ?_
      refine TL.lss rfl rfl rfl ?_
      refine TL.nil ?_
      refine hK10 _ _ ?_
      refine E.norm (by simp only [List.set_cons_succ, List.set_cons_zero]; rfl) ?_
      refine E.cond rfl (fun hc3 => ?_) (fun hc3 => ?_)
      · replace hc3 := of_decide_eq_true hc3
        refine E.seq (fun K11 hK11 => ?_)
        refine rg ?_
        refine TL.assign (Value.int .i64 ((-1))) rfl rfl ?_
        refine TL.nil ?_
        refine hK11 _ _ ?_
        refine E.norm (by simp only [List.set_cons_succ, List.set_cons_zero]; rfl) ?_
        refine wp_ret ?_
        refine E.ret _ (Rs.t (Value.int .i64 ((-1))) rfl rfl) ?_
        exact ⟨veq (wcmp_lt ha hb hk hsame hc3), hst.keep⟩
      · replace hc3 := of_decide_eq_false hc3
        refine wp_skip ?_
        refine hK9 _ _ ?_
        refine E.seq (fun K12 hK12 => ?_)
        refine rg ?_
        refine TL.assign (Value.int .i64 1) rfl rfl ?_
        refine TL.nil ?_
        refine hK12 _ _ ?_
        refine E.norm (by simp only [List.set_cons_succ, List.set_cons_zero]; rfl) ?_
        refine wp_ret ?_
        refine E.ret _ (Rs.t (Value.int .i64 1) rfl rfl) ?_
        exact ⟨veq (wcmp_gt ha hb hk hsame hc2 hc3), hst.keep⟩
end Go.Proofs.Ytafmgghpcneoeaa
