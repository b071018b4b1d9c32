/- Walks, printed by wip/tools/gen.py: what each function comes to. -/
import Derived.Test.YtafmgghpcneoeaaTyp
import Derived.Test.YtafmgghpcneoeaaProg
import Derived.KernelRfl
import Derived.Test.YtafmgghpcneoeaaFk
namespace Go.Proofs.Ytafmgghpcneoeaa
open Go Go.RowKit
set_option maxRecDepth 100000
set_option maxHeartbeats 2000000

theorem fork_fixed (w0 : World) : Calls Try.prog 14 #[] w0 (Ret fun v w => v = .bool true ∧ Keep Non w0 w) := by
  go_enter Try.func14, Try.ntmps14
  change Code.wp _ _ _ (F [undef, undef, undef, undef, undef, undef, undef, undef, undef, undef, undef, undef, undef, undef, undef, undef, undef, undef, undef, undef, undef, undef, undef, undef, undef, undef, undef, undef, undef, undef, undef, undef, undef, undef, undef, undef, undef, undef]) _
  have hst := St.start Non (has0 w0)
  refine E.seq (fun K1 hK1 => ?_)
  refine rg ?_
  refine TL.assign (Value.bool false) rfl rfl ?_
  refine TL.nil ?_
  refine hK1 _ _ ?_
  refine E.norm (by simp only [List.set_cons_succ, List.set_cons_zero]; rfl) ?_
  refine E.seq (fun K2 hK2 => ?_)
  refine rg ?_
  refine TL.callS #[] co16 rfl (fork_new _) rfl ?_
  rintro _ w ⟨p, bk, bt, qk, qt, rfl, hqk, hqt, hst2⟩
  have hst : St Non w0 w g0 [(p, .cells ([Value.map (some bk)] ++ ([Value.map (some bt)])).toArray 136 (0, 0)), (bk, qk), (bt, qt)] := hst.join0 hst2
  refine ⟨trivial, ?_⟩
  refine TL.assign (Value.pointer (some ⟨p, 0, none⟩)) rfl rfl ?_
  refine TL.nil ?_
  refine hK2 _ _ ?_
  refine E.norm (by simp only [List.set_cons_succ, List.set_cons_zero]; rfl) ?_
  refine E.seq (fun K3 hK3 => ?_)
  refine rg ?_
  refine TL.buildA (ps := [(19, Value.int .u8 1)]) ar28 zv28 rfl (Fl.cons (vs := [Value.int .u8 1]) rfl rfl (adr_put1) (Fl.nil _)) rfl ?_
  refine TL.alloc hst zv28 rfl ?_
  intro w n1 hst
  refine ⟨trivial, ?_⟩
  refine TL.st 0 n1 (0) (vs := adrC 1) hst rfl (Put.all (by simp)) rfl (One.adr _) tz28 rfl rfl ?_
  intro w hst
  refine ⟨trivial, ?_⟩
  refine TL.nil ?_
  refine hK3 _ _ ?_
  refine E.norm (by simp only [List.set_cons_succ, List.set_cons_zero]; rfl) ?_
  refine E.seq (fun K4 hK4 => ?_)
  refine rgS (fun w' => St Non w0 w' g0 [(n1, .cells (adrC 1).toArray 28 (0, 0)), (p, .cells ([Value.map (some bk)] ++ ([Value.map (some bt)])).toArray 136 (0, 0))]) mixed #[0, 0, 3, 0, 0, 31, 63, 127] (by kernel_rfl) (hst.drew.sub (.cons_cons _ (.cons_cons _ (.cons _ (.cons _ (List.Sublist.refl _)))))) ?_
  replace hst := hst.drew
  refine TL.move (Value.pointer (some ⟨p, 0, none⟩)) rfl rfl ?_
  refine TL.ldL 0 n1 (0) (adrC 1) (fun _ h => h) rfl (Seg.all _) ta28 rfl rfl ?_
  refine TL.callS #[Value.pointer (some ⟨p, 0, none⟩), Value.agg (adrC 1).toArray] co18 rfl (want_new p bk bt qk qt ([]) ([]) hqk hqt 1 (by decide) g0 _ (hst.enter [1, 2, 3] rfl (by decide)) rfl rfl) rfl ?_
  rintro _ w ⟨rfl, q2, q3, hmq2, hmq3, hst2⟩
  have hst : St Non w0 w g0 [(n1, .cells (adrC 1).toArray 28 (0, 0)), (p, .cells ([Value.map (some bk)] ++ ([Value.map (some bt)])).toArray 136 (0, 0)), (bk, q2), (bt, q3)] := hst.leave [1, 2, 3] rfl (by decide) hst2 rfl (GNew.refl _ _)
  have hmq3 : MO adrC NA ([(1, Value.int .i64 0)]) q3 := hmq3
  refine ⟨(hst).sub (.cons_cons _ (.cons_cons _ (.cons _ (.cons _ (List.Sublist.refl _))))), ?_⟩
  refine TL.norm (by simp only [List.set_cons_succ, List.set_cons_zero]; rfl) ?_
  refine TL.move (Value.pointer (some ⟨p, 0, none⟩)) rfl rfl ?_
  refine TL.ldL 0 n1 (0) (adrC 1) (fun _ h => h) rfl (Seg.all _) ta28 rfl rfl ?_
  refine TL.callS #[Value.pointer (some ⟨p, 0, none⟩), Value.agg (adrC 1).toArray] co18 rfl (want_asked p bk bt q2 q3 ([]) ([(1, Value.int .i64 0)]) hmq2 hmq3 1 (by decide) g0 _ (hst.enter [1, 2, 3] rfl (by decide)) 0 rfl rfl) rfl ?_
  rintro _ w ⟨rfl, q4, q5, hmq4, hmq5, hst2⟩
  have hst : St Non w0 w g0 [(n1, .cells (adrC 1).toArray 28 (0, 0)), (p, .cells ([Value.map (some bk)] ++ ([Value.map (some bt)])).toArray 136 (0, 0)), (bk, q4), (bt, q5)] := hst.leave [1, 2, 3] rfl (by decide) hst2 rfl (GNew.refl _ _)
  refine ⟨(hst).sub (.cons_cons _ (.cons_cons _ (.cons _ (.cons _ (List.Sublist.refl _))))), ?_⟩
  refine TL.norm (by simp only [List.set_cons_succ, List.set_cons_zero]; rfl) ?_
  refine TL.assign (Value.int .u8 3) rfl rfl ?_
  refine TL.assign (Value.int .u8 2) rfl rfl ?_
  refine TL.nil ?_
  refine hK4 _ _ ?_
  refine E.norm (by simp only [List.set_cons_succ, List.set_cons_zero]; rfl) ?_
  refine E.seq (fun K5 hK5 => ?_)
  refine E.seq (fun K6 hK6 => ?_)
  refine rg ?_
  refine TL.move (Value.int .i64 0) rfl rfl ?_
  refine TL.nil ?_
  refine hK6 _ _ ?_
  refine E.norm (by simp only [List.set_cons_succ, List.set_cons_zero]; rfl) ?_
  refine wp_block ?_
  refine E.loop (fun m l w => ∃ (k : Nat) (qk qt : Obj), m = 7 - k ∧ Fits [none, some (Value.pointer (some ⟨p, 0, none⟩)), some (Value.pointer (some ⟨n1, 0, none⟩)), some (Value.int .u8 3), some (Value.int .u8 2), some (Value.pointer (some ⟨p, 0, none⟩)), some (Value.agg (adrC 1).toArray), some (Value.pointer (some ⟨p, 0, none⟩)), some (Value.agg (adrC 1).toArray), some (Value.int .u8 3), some (Value.pointer (some ⟨p, 0, none⟩)), some (Value.agg (adrC 1).toArray), some (Value.int .u8 2), some (Value.int .i64 ((k : Int))), none, none, none, none, none, none, some (undef), some (undef), some (undef), some (undef), some (undef), some (undef), some (undef), some (undef), some (undef), some (undef), some (undef), some (undef), some (undef), some (undef), some (undef), some (undef), some (undef), some (undef)] l ∧ St Non w0 w g0 [(n1, .cells (adrC 1).toArray 28 (0, 0)), (p, .cells ([Value.map (some bk)] ++ ([Value.map (some bt)])).toArray 136 (0, 0)), (bk, qk), (bt, qt)] ∧ (k ≤ 7) ∧ (MO adrC NA [] qk) ∧ (MO adrC NA [(1, Value.int .i64 (k : Int))] qt)) _ ⟨0, _, _, rfl, (by first | (simp only [List.set_cons_succ, List.set_cons_zero]; exact .n (.s rfl (.s rfl (.s rfl (.s rfl (.s rfl (.s rfl (.s rfl (.s rfl (.s rfl (.s rfl (.s rfl (.s rfl (.s rfl (.n (.n (.n (.n (.n (.n (.s rfl (.s rfl (.s rfl (.s rfl (.s rfl (.s rfl (.s rfl (.s rfl (.s rfl (.s rfl (.s rfl (.s rfl (.s rfl (.s rfl (.s rfl (.s rfl (.s rfl (.s rfl (.z))))))))))))))))))))))))))))))))))))))) | exact .n (.s rfl (.s rfl (.s rfl (.s rfl (.s rfl (.s rfl (.s rfl (.s rfl (.s rfl (.s rfl (.s rfl (.s rfl (.s rfl (.n (.n (.n (.n (.n (.n (.s rfl (.s rfl (.s rfl (.s rfl (.s rfl (.s rfl (.s rfl (.s rfl (.s rfl (.s rfl (.s rfl (.s rfl (.s rfl (.s rfl (.s rfl (.s rfl (.s rfl (.s rfl (.z))))))))))))))))))))))))))))))))))))))), hst, by omega, hmq4, hmq5⟩ ?_
  rintro _ _ w ⟨k, qk, qt, hm1, hfit, hst, hk7, hqk, hqt⟩
  obtain ⟨j1, rfl⟩ := hfit.ex
  refine E.norm (l' := [(j1 0), Value.pointer (some ⟨p, 0, none⟩), Value.pointer (some ⟨n1, 0, none⟩), Value.int .u8 3, Value.int .u8 2, Value.pointer (some ⟨p, 0, none⟩), Value.agg (adrC 1).toArray, Value.pointer (some ⟨p, 0, none⟩), Value.agg (adrC 1).toArray, Value.int .u8 3, Value.pointer (some ⟨p, 0, none⟩), Value.agg (adrC 1).toArray, Value.int .u8 2, Value.int .i64 ((k : Int)), (j1 14), (j1 15), (j1 16), (j1 17), (j1 18), (j1 19), undef, undef, undef, undef, undef, undef, undef, undef, undef, undef, undef, undef, undef, undef, undef, undef, undef, undef]) rfl ?_
  refine E.seq (fun K7 hK7 => ?_)
  refine rg ?_
  refine TL.lss rfl rfl rfl ?_
  refine TL.nil ?_
  refine hK7 _ _ ?_
  refine E.norm (by simp only [List.set_cons_succ, List.set_cons_zero]; rfl) ?_
  refine E.seq (fun K8 hK8 => ?_)
  refine E.cond rfl (fun hc1 => ?_) (fun hc1 => ?_)
  · replace hc1 := of_decide_eq_true hc1
    refine wp_skip ?_
    refine hK8 _ _ ?_
    refine E.seq (fun K9 hK9 => ?_)
    refine wp_block ?_
    refine E.seq (fun K10 hK10 => ?_)
    refine rg ?_
    refine TL.move (Value.pointer (some ⟨p, 0, none⟩)) rfl rfl ?_
    refine TL.ldL 0 n1 (0) (adrC 1) (fun _ h => h ▸ hst) rfl (Seg.all _) ta28 rfl rfl ?_
    refine TL.callS #[Value.pointer (some ⟨p, 0, none⟩), Value.agg (adrC 1).toArray] co19 rfl (fail_more p bk bt qk qt ([]) ([(1, Value.int .i64 (k : Int))]) hqk hqt 1 (by decide) g0 _ (hst.enter [1, 2, 3] rfl (by decide)) (k : Int) (by omega) (by omega) rfl) rfl ?_
    rintro _ w ⟨rfl, q6, q7, hmq6, hmq7, hst2⟩
    have hst : St Non w0 w g0 [(n1, .cells (adrC 1).toArray 28 (0, 0)), (p, .cells ([Value.map (some bk)] ++ ([Value.map (some bt)])).toArray 136 (0, 0)), (bk, q6), (bt, q7)] := hst.leave [1, 2, 3] rfl (by decide) hst2 rfl (GNew.refl _ _)
    have hmq7 : MO adrC NA ([(1, Value.int .i64 ((k : Int) + 1))]) q7 := hmq7
    refine ⟨trivial, ?_⟩
    refine TL.norm (by simp only [List.set_cons_succ, List.set_cons_zero]; rfl) ?_
    refine TL.neqI rfl rfl rfl ?_
    refine TL.nil ?_
    refine hK10 _ _ ?_
    refine E.norm (by simp only [List.set_cons_succ, List.set_cons_zero]; rfl) ?_
    refine E.condF rfl ?_
    refine wp_skip ?_
    refine hK9 _ _ ?_
    refine rg ?_
    refine TL.add (((k : Int)) + 1) rfl rfl (by dsimp only [inR]; omega) rfl ?_
    refine TL.move (Value.int .i64 (((k : Int)) + 1)) rfl rfl ?_
    refine TL.nil ?_
    refine ⟨_, _, ?_, rfl, k + 1, _, _, rfl, (by first | (simp only [List.set_cons_succ, List.set_cons_zero]; exact .n (.s rfl (.s rfl (.s rfl (.s rfl (.s rfl (.s rfl (.s rfl (.s rfl (.s rfl (.s rfl (.s rfl (.s rfl (.s rfl (.n (.n (.n (.n (.n (.n (.s rfl (.s rfl (.s rfl (.s rfl (.s rfl (.s rfl (.s rfl (.s rfl (.s rfl (.s rfl (.s rfl (.s rfl (.s rfl (.s rfl (.s rfl (.s rfl (.s rfl (.s rfl (.z))))))))))))))))))))))))))))))))))))))) | exact .n (.s rfl (.s rfl (.s rfl (.s rfl (.s rfl (.s rfl (.s rfl (.s rfl (.s rfl (.s rfl (.s rfl (.s rfl (.s rfl (.n (.n (.n (.n (.n (.n (.s rfl (.s rfl (.s rfl (.s rfl (.s rfl (.s rfl (.s rfl (.s rfl (.s rfl (.s rfl (.s rfl (.s rfl (.s rfl (.s rfl (.s rfl (.s rfl (.s rfl (.s rfl (.z))))))))))))))))))))))))))))))))))))))), hst, by omega, hmq6, hmq7⟩
    omega
  · replace hc1 := of_decide_eq_false hc1
    obtain rfl : k = 7 := by omega
    refine wp_exit ?_
    refine hK5 _ _ ?_
    refine E.seq (fun K11 hK11 => ?_)
    refine rg ?_
    refine TL.move (Value.int .u8 3) rfl rfl ?_
    refine TL.norm (by simp only [List.set_cons_succ, List.set_cons_zero]; rfl) ?_
    refine TL.eqlI rfl rfl rfl ?_
    refine TL.move (Value.bool true) rfl rfl ?_
    refine TL.move (Value.int .u8 2) rfl rfl ?_
    refine TL.norm (by simp only [List.set_cons_succ, List.set_cons_zero]; rfl) ?_
    refine TL.eqlI rfl rfl rfl ?_
    refine TL.pick (Value.bool true) rfl rfl rfl ?_
    refine TL.move (Value.bool true) rfl rfl ?_
    refine TL.norm (by simp only [List.set_cons_succ, List.set_cons_zero]; rfl) ?_
    refine TL.move (Value.pointer (some ⟨p, 0, none⟩)) rfl rfl ?_
    refine TL.ldL 0 n1 (0) (adrC 1) (fun _ h => h ▸ hst) rfl (Seg.all _) ta28 rfl rfl ?_
    refine TL.callS #[Value.pointer (some ⟨p, 0, none⟩), Value.agg (adrC 1).toArray] co19 rfl (fail_last p bk bt qk qt ([]) ([(1, Value.int .i64 ((7 : Nat) : Int))]) hqk hqt 1 (by decide) g0 _ (hst.enter [1, 2, 3] rfl (by decide)) rfl) rfl ?_
    rintro _ w ⟨rfl, q8, q9, hmq8, hmq9, hst2⟩
    have hst : St Non w0 w g0 [(n1, .cells (adrC 1).toArray 28 (0, 0)), (p, .cells ([Value.map (some bk)] ++ ([Value.map (some bt)])).toArray 136 (0, 0)), (bk, q8), (bt, q9)] := hst.leave [1, 2, 3] rfl (by decide) hst2 rfl (GNew.refl _ _)
    have hmq9 : MO adrC NA ([]) q9 := hmq9
    refine ⟨trivial, ?_⟩
    refine TL.norm (by simp only [List.set_cons_succ, List.set_cons_zero]; rfl) ?_
    refine TL.eqlI rfl rfl rfl ?_
    refine TL.pick (Value.bool true) rfl rfl rfl ?_
    refine TL.move (Value.bool true) rfl rfl ?_
    refine TL.norm (by simp only [List.set_cons_succ, List.set_cons_zero]; rfl) ?_
    refine TL.move (Value.pointer (some ⟨p, 0, none⟩)) rfl rfl ?_
    refine TL.ldL 0 n1 (0) (adrC 1) (fun _ h => h ▸ hst) rfl (Seg.all _) ta28 rfl rfl ?_
    refine TL.callS #[Value.pointer (some ⟨p, 0, none⟩), Value.agg (adrC 1).toArray] co18 rfl (want_new p bk bt q8 q9 ([]) ([]) hmq8 hmq9 1 (by decide) g0 _ (hst.enter [1, 2, 3] rfl (by decide)) rfl rfl) rfl ?_
    rintro _ w ⟨rfl, q10, q11, hmq10, hmq11, hst2⟩
    have hst : St Non w0 w g0 [(n1, .cells (adrC 1).toArray 28 (0, 0)), (p, .cells ([Value.map (some bk)] ++ ([Value.map (some bt)])).toArray 136 (0, 0)), (bk, q10), (bt, q11)] := hst.leave [1, 2, 3] rfl (by decide) hst2 rfl (GNew.refl _ _)
    have hmq11 : MO adrC NA ([(1, Value.int .i64 0)]) q11 := hmq11
    refine ⟨trivial, ?_⟩
    refine TL.norm (by simp only [List.set_cons_succ, List.set_cons_zero]; rfl) ?_
    refine TL.eqlI rfl rfl rfl ?_
    refine TL.pick (Value.bool true) rfl rfl rfl ?_
    refine TL.assign (Value.bool true) rfl rfl ?_
    refine TL.nil ?_
    refine hK11 _ _ ?_
    refine E.norm (by simp only [List.set_cons_succ, List.set_cons_zero]; rfl) ?_
    refine wp_ret ?_
    refine E.ret _ (Rs.t (Value.bool true) rfl rfl) ?_
    exact ⟨rfl, hst.keep⟩
end Go.Proofs.Ytafmgghpcneoeaa
