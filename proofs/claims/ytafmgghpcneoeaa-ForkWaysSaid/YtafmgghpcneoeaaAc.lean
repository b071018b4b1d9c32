/- Walks, printed by wip/tools/gen.py: what each function comes to. -/
import Derived.Test.YtafmgghpcneoeaaTyp
import Derived.Test.YtafmgghpcneoeaaProg
import Derived.KernelRfl

namespace Go.Proofs.Ytafmgghpcneoeaa
open Go Go.RowKit
set_option maxRecDepth 100000
set_option maxHeartbeats 2000000

theorem great_any (xs : List AV) (v : Value) (g : Gh) (w0 : World) (hg : Has w0 g) (hv : SlAt g 27 (avRows xs) v) (hok : ∀ x ∈ xs, AOk g x) : Calls Try.prog 13 #[v] w0 (Ret fun u w => u = .bool (great xs) ∧ Keep Non w0 w) := by
  go_enter Try.func13, Try.ntmps13
  change Code.wp _ _ _ (F [v, undef, undef, undef, undef, undef, undef, undef, undef, undef, undef, undef, undef, undef, undef, undef, undef, undef, undef, undef, undef, undef, undef, undef, undef, undef, undef, undef, undef]) _
  have hst := St.start Non hg
  refine E.seq (fun K1 hK1 => ?_)
  refine rg ?_
  refine TL.assign (Value.bool false) rfl rfl ?_
  refine TL.nil ?_
  refine hK1 _ _ ?_
  refine E.norm (by simp only [List.set_cons_succ, List.set_cons_zero]; rfl) ?_
  refine E.seq (fun K2 hK2 => ?_)
  refine E.seq (fun K3 hK3 => ?_)
  refine rg ?_
  refine TL.move (v) rfl rfl ?_
  refine TL.lenR (n := xs.length) (hv) (by simp) Try.underlying22 rfl rfl ?_
  refine TL.gtr rfl rfl rfl ?_
  refine TL.nil ?_
  refine hK3 _ _ ?_
  refine E.norm (by simp only [List.set_cons_succ, List.set_cons_zero]; rfl) ?_
  refine E.cond rfl (fun hc1 => ?_) (fun hc1 => ?_)
  · replace hc1 := of_decide_eq_true hc1
    refine E.seq (fun K4 hK4 => ?_)
    refine rg ?_
    refine TL.assign (Value.bool true) rfl rfl ?_
    refine TL.nil ?_
    refine hK4 _ _ ?_
    refine E.norm (by simp only [List.set_cons_succ, List.set_cons_zero]; rfl) ?_
    refine wp_ret ?_
    refine E.ret _ (Rs.t (Value.bool true) rfl rfl) ?_
    exact ⟨vbq (great_len hc1), hst.keep⟩
  · replace hc1 := of_decide_eq_false hc1
    refine wp_skip ?_
    refine hK2 _ _ ?_
    refine E.seq (fun K5 hK5 => ?_)
    refine E.seq (fun K6 hK6 => ?_)
    refine rg ?_
    refine TL.move (v) rfl rfl ?_
    refine TL.lenR (n := xs.length) (hv) (by simp) Try.underlying22 rfl rfl ?_
    refine TL.move (Value.int .i64 0) rfl rfl ?_
    refine TL.nil ?_
    refine hK6 _ _ ?_
    refine E.norm (by simp only [List.set_cons_succ, List.set_cons_zero]; rfl) ?_
    refine wp_block ?_
    refine E.loop (fun m l w => ∃ (k : Nat), m = xs.length - k ∧ Fits [some (v), some (undef), none, none, some (v), some (Value.int .i64 ((xs.length : Int))), some (Value.bool (decide (50 < (xs.length : Int)))), some (v), some (Value.int .i64 ((xs.length : Int))), some (Value.int .i64 ((k : Int))), none, none, none, none, none, none, none, none, none, none, none, none, none, none, none, none, none, none, none] l ∧ St Non w0 w g [] ∧ (k ≤ xs.length) ∧ (∀ i, (hi : i < xs.length) → i < k → bigA xs[i] = false)) _ ⟨0, rfl, (by first | (simp only [List.set_cons_succ, List.set_cons_zero]; exact .s rfl (.s rfl (.n (.n (.s rfl (.s rfl (.s rfl (.s rfl (.s rfl (.s rfl (.n (.n (.n (.n (.n (.n (.n (.n (.n (.n (.n (.n (.n (.n (.n (.n (.n (.n (.n (.z)))))))))))))))))))))))))))))) | exact .s rfl (.s rfl (.n (.n (.s rfl (.s rfl (.s rfl (.s rfl (.s rfl (.s rfl (.n (.n (.n (.n (.n (.n (.n (.n (.n (.n (.n (.n (.n (.n (.n (.n (.n (.n (.n (.z)))))))))))))))))))))))))))))), hst, by omega, fun i _ h => by omega⟩ ?_
    rintro _ _ w ⟨k, hm1, hfit, hst, hk, hall⟩
    obtain ⟨j1, rfl⟩ := hfit.ex
    refine E.norm (l' := [v, undef, (j1 2), (j1 3), v, Value.int .i64 ((xs.length : Int)), Value.bool (decide (50 < (xs.length : Int))), v, Value.int .i64 ((xs.length : Int)), Value.int .i64 ((k : Int)), (j1 10), (j1 11), (j1 12), (j1 13), (j1 14), (j1 15), (j1 16), (j1 17), (j1 18), (j1 19), (j1 20), (j1 21), (j1 22), (j1 23), (j1 24), (j1 25), (j1 26), (j1 27), (j1 28)]) rfl ?_
    refine E.seq (fun K7 hK7 => ?_)
    refine rg ?_
    refine TL.lss rfl rfl rfl ?_
    refine TL.nil ?_
    refine hK7 _ _ ?_
    refine E.norm (by simp only [List.set_cons_succ, List.set_cons_zero]; rfl) ?_
    refine E.seq (fun K8 hK8 => ?_)
    refine E.cond rfl (fun hc2 => ?_) (fun hc2 => ?_)
    · replace hc2 := of_decide_eq_true hc2
      have hlt : k < xs.length := by omega
      refine wp_skip ?_
      refine hK8 _ _ ?_
      refine E.seq (fun K9 hK9 => ?_)
      refine wp_block ?_
      refine E.seq (fun K10 hK10 => ?_)
      refine rg ?_
      refine TL.move (Value.int .i64 ((k : Int))) rfl rfl ?_
      refine TL.assign (Value.int .i64 ((k : Int))) rfl rfl ?_
      refine TL.nil ?_
      refine hK10 _ _ ?_
      refine E.norm (by simp only [List.set_cons_succ, List.set_cons_zero]; rfl) ?_
      refine E.seq (fun K11 hK11 => ?_)
      refine rg ?_
      refine TL.move (v) rfl rfl ?_
      refine TL.move (Value.int .i64 ((k : Int))) rfl rfl ?_
      refine TL.indexR (hv) sl22 rfl rfl (by omega) (by simp only [avRows_length, slotRows_length, byteRows_length]; omega) rfl ?_
      intro b1 o2 hr3
      refine TL.norm (by simp only [List.set_cons_succ, List.set_cons_zero]; rfl) ?_
      refine TL.fieldAddr fa34_3 rfl rfl ?_
      refine TL.ldG1 b1 (o2 + ((k : Int) : Int).toNat * 27 + (20 + (1 + (4 + (0))))) (xs[k].code) (fun _ h => h ▸ hst) ((hr3 _ _ (avRows_get hlt)).sub (Seg.skip (m := 20) (by simp) (Seg.skip (m := 1) (by simp) (Seg.skip (m := 4) (by simp) (Seg.here _ _))))) ts24 rfl rfl ?_
      refine TL.lenR (n := xs[k].cb.length) ((hok _ (List.getElem_mem hlt)).code) (by simp) Try.underlying24 rfl rfl ?_
      refine TL.norm (by simp only [List.set_cons_succ, List.set_cons_zero]; rfl) ?_
      refine TL.gtr rfl rfl rfl ?_
      refine TL.move (Value.bool (decide (3000 < (xs[k].cb.length : Int)))) rfl rfl ?_
      refine TL.case 19 (decide (3000 < (xs[k].cb.length : Int))) rfl (fun hc3 => ?_) (fun hc3 => ?_)
      · replace hc3 := of_decide_eq_true hc3
        refine TL.norm (by simp only [List.set_cons_succ, List.set_cons_zero]; rfl) ?_
        refine TL.noF trivial rfl ?_
        refine TL.noF trivial rfl ?_
        refine TL.noF trivial rfl ?_
        refine TL.norm (by simp only [List.set_cons_succ, List.set_cons_zero]; rfl) ?_
        refine TL.noF trivial rfl ?_
        refine TL.noF trivial rfl ?_
        refine TL.noF trivial rfl ?_
        refine TL.norm (by simp only [List.set_cons_succ, List.set_cons_zero]; rfl) ?_
        refine TL.noF trivial rfl ?_
        refine TL.pick (Value.bool true) rfl rfl rfl ?_
        refine TL.nil ?_
        refine hK11 _ _ ?_
        refine E.norm (by simp only [List.set_cons_succ, List.set_cons_zero]; rfl) ?_
        refine E.condT rfl ?_
        refine E.seq (fun K12 hK12 => ?_)
        refine rg ?_
        refine TL.assign (Value.bool true) rfl rfl ?_
        refine TL.nil ?_
        refine hK12 _ _ ?_
        refine E.norm (by simp only [List.set_cons_succ, List.set_cons_zero]; rfl) ?_
        refine wp_ret ?_
        refine E.ret _ (Rs.t (Value.bool true) rfl rfl) ?_
        exact ⟨vbq (great_at hlt (.inl hc3)), hst.keep⟩
      · replace hc3 := of_decide_eq_false hc3
        refine TL.norm (by simp only [List.set_cons_succ, List.set_cons_zero]; rfl) ?_
        refine TL.move (v) rfl rfl ?_
        refine TL.move (Value.int .i64 ((k : Int))) rfl rfl ?_
        refine TL.indexR (hv) sl22 rfl rfl (by omega) (by simp only [avRows_length, slotRows_length, byteRows_length]; omega) rfl ?_
        intro b4 o5 hr6
        refine TL.norm (by simp only [List.set_cons_succ, List.set_cons_zero]; rfl) ?_
        refine TL.fieldAddr fa34_4 rfl rfl ?_
        refine TL.ldG1 b4 (o5 + ((k : Int) : Int).toNat * 27 + (20 + (1 + (4 + (1 + (0)))))) (xs[k].stor) (fun _ h => h ▸ hst) ((hr6 _ _ (avRows_get hlt)).sub (Seg.skip (m := 20) (by simp) (Seg.skip (m := 1) (by simp) (Seg.skip (m := 4) (by simp) (Seg.skip (m := 1) (by simp) (Seg.all _)))))) ts32 rfl rfl ?_
        refine TL.lenR (n := xs[k].ss.length) ((hok _ (List.getElem_mem hlt)).stor) (by simp) Try.underlying32 rfl rfl ?_
        refine TL.norm (by simp only [List.set_cons_succ, List.set_cons_zero]; rfl) ?_
        refine TL.gtr rfl rfl rfl ?_
        refine TL.pick (Value.bool (decide (100 < (xs[k].ss.length : Int)))) rfl rfl rfl ?_
        refine TL.nil ?_
        refine hK11 _ _ ?_
        refine E.norm (by simp only [List.set_cons_succ, List.set_cons_zero]; rfl) ?_
        refine E.cond rfl (fun hc4 => ?_) (fun hc4 => ?_)
        · replace hc4 := of_decide_eq_true hc4
          refine E.seq (fun K13 hK13 => ?_)
          refine rg ?_
          refine TL.assign (Value.bool true) rfl rfl ?_
          refine TL.nil ?_
          refine hK13 _ _ ?_
          refine E.norm (by simp only [List.set_cons_succ, List.set_cons_zero]; rfl) ?_
          refine wp_ret ?_
          refine E.ret _ (Rs.t (Value.bool true) rfl rfl) ?_
          exact ⟨vbq (great_at hlt (.inr hc4)), hst.keep⟩
        · replace hc4 := of_decide_eq_false hc4
          refine wp_skip ?_
          refine hK9 _ _ ?_
          refine rg ?_
          refine TL.add (((k : Int)) + 1) rfl rfl (by dsimp only [inR]; omega) rfl ?_
          refine TL.move (Value.int .i64 (((k : Int)) + 1)) rfl rfl ?_
          refine TL.nil ?_
          refine ⟨_, _, ?_, rfl, k + 1, rfl, (by first | (simp only [List.set_cons_succ, List.set_cons_zero]; exact .s rfl (.s rfl (.n (.n (.s rfl (.s rfl (.s rfl (.s rfl (.s rfl (.s rfl (.n (.n (.n (.n (.n (.n (.n (.n (.n (.n (.n (.n (.n (.n (.n (.n (.n (.n (.n (.z)))))))))))))))))))))))))))))) | exact .s rfl (.s rfl (.n (.n (.s rfl (.s rfl (.s rfl (.s rfl (.s rfl (.s rfl (.n (.n (.n (.n (.n (.n (.n (.n (.n (.n (.n (.n (.n (.n (.n (.n (.n (.n (.n (.z)))))))))))))))))))))))))))))), hst, by omega, great_step hlt hall hc3 hc4⟩
          omega
    · replace hc2 := of_decide_eq_false hc2
      refine wp_exit ?_
      refine hK5 _ _ ?_
      refine E.seq (fun K14 hK14 => ?_)
      refine rg ?_
      refine TL.assign (Value.bool false) rfl rfl ?_
      refine TL.nil ?_
      refine hK14 _ _ ?_
      refine E.norm (by simp only [List.set_cons_succ, List.set_cons_zero]; rfl) ?_
      refine wp_ret ?_
      refine E.ret _ (Rs.t (Value.bool false) rfl rfl) ?_
      exact ⟨vbq (great_no hc1 hc2 hall), hst.keep⟩

theorem same_any (x y : AV) (g : Gh) (w0 : World) (hg : Has w0 g) (hx : AOk g x) (hy : AOk g y) : Calls Try.prog 22 #[.agg (avC x).toArray, .agg (avC y).toArray] w0 (Ret fun u w => u = .bool (sameA x y) ∧ Keep Non w0 w) := by
  go_enter Try.func22, Try.ntmps22
  change Code.wp _ _ _ (F [Value.agg (adrC x.addr ++ ([Value.int .u64 x.nonce] ++ (wdC x.bal ++ ([x.code] ++ ([x.stor]))))).toArray, Value.agg (adrC y.addr ++ ([Value.int .u64 y.nonce] ++ (wdC y.bal ++ ([y.code] ++ ([y.stor]))))).toArray, undef, undef, undef, undef, undef, undef, undef, undef, undef, undef, undef, undef, undef, undef, undef, undef, undef, undef, undef, undef, undef, undef, undef, undef, undef, undef, undef, undef, undef, undef, undef, undef, undef, undef, undef, undef, undef, undef, undef, undef, undef, undef, undef, undef, undef, undef, undef, undef, undef, undef, undef, undef, undef, undef, undef, undef, undef, undef, undef]) _
  have hst := St.start Non hg
  refine E.seq (fun K1 hK1 => ?_)
  refine rg ?_
  refine TL.box (vs := adrC x.addr ++ ([Value.int .u64 x.nonce] ++ (wdC x.bal ++ ([x.code] ++ ([x.stor]))))) hst rfl rfl ?_
  intro w n1 hst
  refine ⟨trivial, ?_⟩
  refine TL.box (vs := adrC y.addr ++ ([Value.int .u64 y.nonce] ++ (wdC y.bal ++ ([y.code] ++ ([y.stor]))))) hst rfl rfl ?_
  intro w n2 hst
  refine ⟨trivial, ?_⟩
  refine TL.assign (Value.bool false) rfl rfl ?_
  refine TL.nil ?_
  refine hK1 _ _ ?_
  refine E.norm (by simp only [List.set_cons_succ, List.set_cons_zero]; rfl) ?_
  refine E.seq (fun K2 hK2 => ?_)
  refine E.seq (fun K3 hK3 => ?_)
  refine rg ?_
  refine TL.fieldAddr fa34_0 rfl rfl ?_
  refine TL.ldL 1 n1 (0) (adrC x.addr) (fun _ h => h ▸ hst) rfl (Seg.here _ _) ta28 rfl rfl ?_
  refine TL.fieldAddr fa34_0 rfl rfl ?_
  refine TL.norm (by simp only [List.set_cons_succ, List.set_cons_zero]; rfl) ?_
  refine TL.ldL 0 n2 (0) (adrC y.addr) (fun _ h => h ▸ hst) rfl (Seg.here _ _) ta28 rfl rfl ?_
  refine TL.neqA eq28 (a := x.addr) (b := y.addr) rfl rfl (hx.addr) (hy.addr) rfl ?_
  refine TL.move (Value.bool (x.addr != y.addr)) rfl rfl ?_
  refine TL.norm (by simp only [List.set_cons_succ, List.set_cons_zero]; rfl) ?_
  refine TL.case 11 (x.addr != y.addr) rfl (fun hc1 => ?_) (fun hc1 => ?_)
  · replace hc1 := bne_iff_ne.1 hc1
    refine TL.norm (by simp only [List.set_cons_succ, List.set_cons_zero]; rfl) ?_
    refine TL.noU rfl trivial rfl ?_
    refine TL.noU rfl trivial rfl ?_
    refine TL.noU rfl trivial rfl ?_
    refine TL.noU rfl trivial rfl ?_
    refine TL.noU rfl trivial rfl ?_
    refine TL.pick (Value.bool true) rfl rfl rfl ?_
    refine TL.move (Value.bool true) rfl rfl ?_
    refine TL.noU rfl trivial rfl ?_
    refine TL.noU rfl trivial rfl ?_
    refine TL.noU rfl trivial rfl ?_
    refine TL.noU rfl trivial rfl ?_
    refine TL.noU rfl trivial rfl ?_
    refine TL.pick (Value.bool true) rfl rfl rfl ?_
    refine TL.norm (by simp only [List.set_cons_succ, List.set_cons_zero]; rfl) ?_
    refine TL.move (Value.bool true) rfl rfl ?_
    refine TL.noU rfl trivial rfl ?_
    refine TL.noU rfl trivial rfl ?_
    refine TL.noU rfl trivial rfl ?_
    refine TL.noU rfl trivial rfl ?_
    refine TL.noU rfl trivial rfl ?_
    refine TL.noU rfl trivial rfl ?_
    refine TL.noU rfl trivial rfl ?_
    refine TL.pick (Value.bool true) rfl rfl rfl ?_
    refine TL.move (Value.bool true) rfl rfl ?_
    refine TL.norm (by simp only [List.set_cons_succ, List.set_cons_zero]; rfl) ?_
    refine TL.noU rfl trivial rfl ?_
    refine TL.noU rfl trivial rfl ?_
    refine TL.noU rfl trivial rfl ?_
    refine TL.noU rfl trivial rfl ?_
    refine TL.noU rfl trivial rfl ?_
    refine TL.noU rfl trivial rfl ?_
    refine TL.noU rfl trivial rfl ?_
    refine TL.pick (Value.bool true) rfl rfl rfl ?_
    refine TL.nil ?_
    refine hK3 _ _ ?_
    refine E.norm (by simp only [List.set_cons_succ, List.set_cons_zero]; rfl) ?_
    refine E.condT rfl ?_
    refine E.seq (fun K4 hK4 => ?_)
    refine rg ?_
    refine TL.assign (Value.bool false) rfl rfl ?_
    refine TL.nil ?_
    refine hK4 _ _ ?_
    refine E.norm (by simp only [List.set_cons_succ, List.set_cons_zero]; rfl) ?_
    refine wp_ret ?_
    refine E.ret _ (Rs.t (Value.bool false) rfl rfl) ?_
    exact ⟨vbq (by simp [sameA, hc1]), hst.keep⟩
  · replace hc1 := bne_eq_false_iff_eq.1 hc1
    refine TL.norm (by simp only [List.set_cons_succ, List.set_cons_zero]; rfl) ?_
    refine TL.fieldAddr fa34_1 rfl rfl ?_
    refine TL.ldL1 1 n1 (20 + (0)) (Value.int .u64 x.nonce) (fun _ h => h ▸ hst) rfl (Seg.skip (m := 20) (by simp) (Seg.here _ _)) ts29 rfl rfl ?_
    refine TL.fieldAddr fa34_1 rfl rfl ?_
    refine TL.norm (by simp only [List.set_cons_succ, List.set_cons_zero]; rfl) ?_
    refine TL.ldL1 0 n2 (20 + (0)) (Value.int .u64 y.nonce) (fun _ h => h ▸ hst) rfl (Seg.skip (m := 20) (by simp) (Seg.here _ _)) ts29 rfl rfl ?_
    refine TL.neqI rfl rfl rfl ?_
    refine TL.pick (Value.bool (x.nonce != y.nonce)) rfl rfl rfl ?_
    refine TL.norm (by simp only [List.set_cons_succ, List.set_cons_zero]; rfl) ?_
    refine TL.move (Value.bool (x.nonce != y.nonce)) rfl rfl ?_
    refine TL.case 18 (x.nonce != y.nonce) rfl (fun hc2 => ?_) (fun hc2 => ?_)
    · replace hc2 := bne_iff_ne.1 hc2
      refine TL.norm (by simp only [List.set_cons_succ, List.set_cons_zero]; rfl) ?_
      refine TL.noU rfl trivial rfl ?_
      refine TL.noU rfl trivial rfl ?_
      refine TL.noU rfl trivial rfl ?_
      refine TL.noU rfl trivial rfl ?_
      refine TL.noU rfl trivial rfl ?_
      refine TL.pick (Value.bool true) rfl rfl rfl ?_
      refine TL.move (Value.bool true) rfl rfl ?_
      refine TL.noU rfl trivial rfl ?_
      refine TL.noU rfl trivial rfl ?_
      refine TL.noU rfl trivial rfl ?_
      refine TL.noU rfl trivial rfl ?_
      refine TL.noU rfl trivial rfl ?_
      refine TL.noU rfl trivial rfl ?_
      refine TL.noU rfl trivial rfl ?_
      refine TL.pick (Value.bool true) rfl rfl rfl ?_
      refine TL.norm (by simp only [List.set_cons_succ, List.set_cons_zero]; rfl) ?_
      refine TL.move (Value.bool true) rfl rfl ?_
      refine TL.noU rfl trivial rfl ?_
      refine TL.noU rfl trivial rfl ?_
      refine TL.noU rfl trivial rfl ?_
      refine TL.noU rfl trivial rfl ?_
      refine TL.noU rfl trivial rfl ?_
      refine TL.noU rfl trivial rfl ?_
      refine TL.noU rfl trivial rfl ?_
      refine TL.pick (Value.bool true) rfl rfl rfl ?_
      refine TL.nil ?_
      refine hK3 _ _ ?_
      refine E.norm (by simp only [List.set_cons_succ, List.set_cons_zero]; rfl) ?_
      refine E.condT rfl ?_
      refine E.seq (fun K5 hK5 => ?_)
      refine rg ?_
      refine TL.assign (Value.bool false) rfl rfl ?_
      refine TL.nil ?_
      refine hK5 _ _ ?_
      refine E.norm (by simp only [List.set_cons_succ, List.set_cons_zero]; rfl) ?_
      refine wp_ret ?_
      refine E.ret _ (Rs.t (Value.bool false) rfl rfl) ?_
      exact ⟨vbq (by simp [sameA, hc2]), hst.keep⟩
    · replace hc2 := bne_eq_false_iff_eq.1 hc2
      refine TL.norm (by simp only [List.set_cons_succ, List.set_cons_zero]; rfl) ?_
      refine TL.fieldAddr fa34_2 rfl rfl ?_
      refine TL.ldL 1 n1 (20 + (1 + (0))) (wdC x.bal) (fun _ h => h ▸ hst) rfl (Seg.skip (m := 20) (by simp) (Seg.skip (m := 1) (by simp) (Seg.here _ _))) ta31 rfl rfl ?_
      refine TL.fieldAddr fa34_2 rfl rfl ?_
      refine TL.norm (by simp only [List.set_cons_succ, List.set_cons_zero]; rfl) ?_
      refine TL.ldL 0 n2 (20 + (1 + (0))) (wdC y.bal) (fun _ h => h ▸ hst) rfl (Seg.skip (m := 20) (by simp) (Seg.skip (m := 1) (by simp) (Seg.here _ _))) ta31 rfl rfl ?_
      refine TL.neqA eq31 (a := x.bal) (b := y.bal) rfl rfl (hx.bal) (hy.bal) rfl ?_
      refine TL.pick (Value.bool (x.bal != y.bal)) rfl rfl rfl ?_
      refine TL.norm (by simp only [List.set_cons_succ, List.set_cons_zero]; rfl) ?_
      refine TL.move (Value.bool (x.bal != y.bal)) rfl rfl ?_
      refine TL.case 25 (x.bal != y.bal) rfl (fun hc3 => ?_) (fun hc3 => ?_)
      · replace hc3 := bne_iff_ne.1 hc3
        refine TL.norm (by simp only [List.set_cons_succ, List.set_cons_zero]; rfl) ?_
        refine TL.noU rfl trivial rfl ?_
        refine TL.noU rfl trivial rfl ?_
        refine TL.noU rfl trivial rfl ?_
        refine TL.noU rfl trivial rfl ?_
        refine TL.noU rfl trivial rfl ?_
        refine TL.noU rfl trivial rfl ?_
        refine TL.noU rfl trivial rfl ?_
        refine TL.pick (Value.bool true) rfl rfl rfl ?_
        refine TL.move (Value.bool true) rfl rfl ?_
        refine TL.noU rfl trivial rfl ?_
        refine TL.noU rfl trivial rfl ?_
        refine TL.noU rfl trivial rfl ?_
        refine TL.noU rfl trivial rfl ?_
        refine TL.noU rfl trivial rfl ?_
        refine TL.noU rfl trivial rfl ?_
        refine TL.noU rfl trivial rfl ?_
        refine TL.pick (Value.bool true) rfl rfl rfl ?_
        refine TL.nil ?_
        refine hK3 _ _ ?_
        refine E.norm (by simp only [List.set_cons_succ, List.set_cons_zero]; rfl) ?_
        refine E.condT rfl ?_
        refine E.seq (fun K6 hK6 => ?_)
        refine rg ?_
        refine TL.assign (Value.bool false) rfl rfl ?_
        refine TL.nil ?_
        refine hK6 _ _ ?_
        refine E.norm (by simp only [List.set_cons_succ, List.set_cons_zero]; rfl) ?_
        refine wp_ret ?_
        refine E.ret _ (Rs.t (Value.bool false) rfl rfl) ?_
        exact ⟨vbq (by simp [sameA, hc3]), hst.keep⟩
      · replace hc3 := bne_eq_false_iff_eq.1 hc3
        refine TL.norm (by simp only [List.set_cons_succ, List.set_cons_zero]; rfl) ?_
        refine TL.fieldAddr fa34_3 rfl rfl ?_
        refine TL.ldL1 1 n1 (20 + (1 + (4 + (0)))) (x.code) (fun _ h => h ▸ hst) rfl (Seg.skip (m := 20) (by simp) (Seg.skip (m := 1) (by simp) (Seg.skip (m := 4) (by simp) (Seg.here _ _)))) ts24 rfl rfl ?_
        refine TL.convS (fun _ h => h ▸ hst) ((hx).code) Try.underlying24 Try.underlying5 Try.underlying9 rfl rfl ?_
        refine TL.norm (by simp only [List.set_cons_succ, List.set_cons_zero]; rfl) ?_
        refine TL.fieldAddr fa34_3 rfl rfl ?_
        refine TL.ldL1 0 n2 (20 + (1 + (4 + (0)))) (y.code) (fun _ h => h ▸ hst) rfl (Seg.skip (m := 20) (by simp) (Seg.skip (m := 1) (by simp) (Seg.skip (m := 4) (by simp) (Seg.here _ _)))) ts24 rfl rfl ?_
        refine TL.convS (fun _ h => h ▸ hst) ((hy).code) Try.underlying24 Try.underlying5 Try.underlying9 rfl rfl ?_
        refine TL.norm (by simp only [List.set_cons_succ, List.set_cons_zero]; rfl) ?_
        refine TL.neqStr (a := x.cb) (b := y.cb) rfl rfl ((hx).bytes) ((hy).bytes) rfl ?_
        refine TL.pick (Value.bool (x.cb != y.cb)) rfl rfl rfl ?_
        refine TL.move (Value.bool (x.cb != y.cb)) rfl rfl ?_
        refine TL.norm (by simp only [List.set_cons_succ, List.set_cons_zero]; rfl) ?_
        refine TL.case 34 (x.cb != y.cb) rfl (fun hc4 => ?_) (fun hc4 => ?_)
        · replace hc4 := bne_iff_ne.1 hc4
          refine TL.norm (by simp only [List.set_cons_succ, List.set_cons_zero]; rfl) ?_
          refine TL.noU rfl trivial rfl ?_
          refine TL.noU rfl trivial rfl ?_
          refine TL.noU rfl trivial rfl ?_
          refine TL.noU rfl trivial rfl ?_
          refine TL.noU rfl trivial rfl ?_
          refine TL.noU rfl trivial rfl ?_
          refine TL.noU rfl trivial rfl ?_
          refine TL.pick (Value.bool true) rfl rfl rfl ?_
          refine TL.nil ?_
          refine hK3 _ _ ?_
          refine E.norm (by simp only [List.set_cons_succ, List.set_cons_zero]; rfl) ?_
          refine E.condT rfl ?_
          refine E.seq (fun K7 hK7 => ?_)
          refine rg ?_
          refine TL.assign (Value.bool false) rfl rfl ?_
          refine TL.nil ?_
          refine hK7 _ _ ?_
          refine E.norm (by simp only [List.set_cons_succ, List.set_cons_zero]; rfl) ?_
          refine wp_ret ?_
          refine E.ret _ (Rs.t (Value.bool false) rfl rfl) ?_
          exact ⟨vbq (by simp [sameA, hc4]), hst.keep⟩
        · replace hc4 := bne_eq_false_iff_eq.1 hc4
          refine TL.norm (by simp only [List.set_cons_succ, List.set_cons_zero]; rfl) ?_
          refine TL.fieldAddr fa34_4 rfl rfl ?_
          refine TL.ldL1 1 n1 (20 + (1 + (4 + (1 + (0))))) (x.stor) (fun _ h => h ▸ hst) rfl (Seg.skip (m := 20) (by simp) (Seg.skip (m := 1) (by simp) (Seg.skip (m := 4) (by simp) (Seg.skip (m := 1) (by simp) (Seg.all _))))) ts32 rfl rfl ?_
          refine TL.lenR (n := x.ss.length) ((hx).stor) (by simp) Try.underlying32 rfl rfl ?_
          refine TL.norm (by simp only [List.set_cons_succ, List.set_cons_zero]; rfl) ?_
          refine TL.fieldAddr fa34_4 rfl rfl ?_
          refine TL.ldL1 0 n2 (20 + (1 + (4 + (1 + (0))))) (y.stor) (fun _ h => h ▸ hst) rfl (Seg.skip (m := 20) (by simp) (Seg.skip (m := 1) (by simp) (Seg.skip (m := 4) (by simp) (Seg.skip (m := 1) (by simp) (Seg.all _))))) ts32 rfl rfl ?_
          refine TL.lenR (n := y.ss.length) ((hy).stor) (by simp) Try.underlying32 rfl rfl ?_
          refine TL.norm (by simp only [List.set_cons_succ, List.set_cons_zero]; rfl) ?_
          refine TL.neqI rfl rfl rfl ?_
          refine TL.pick (Value.bool (((x.ss.length : Int)) != ((y.ss.length : Int)))) rfl rfl rfl ?_
          refine TL.nil ?_
          refine hK3 _ _ ?_
          refine E.norm (by simp only [List.set_cons_succ, List.set_cons_zero]; rfl) ?_
          refine E.cond rfl (fun hc5 => ?_) (fun hc5 => ?_)
          · replace hc5 := bne_iff_ne.1 hc5
            refine E.seq (fun K8 hK8 => ?_)
            refine rg ?_
            refine TL.assign (Value.bool false) rfl rfl ?_
            refine TL.nil ?_
            refine hK8 _ _ ?_
            refine E.norm (by simp only [List.set_cons_succ, List.set_cons_zero]; rfl) ?_
            refine wp_ret ?_
            refine E.ret _ (Rs.t (Value.bool false) rfl rfl) ?_
            exact ⟨vbq (sameA_len hc5), hst.keep⟩
          · replace hc5 := bne_eq_false_iff_eq.1 hc5
            refine wp_skip ?_
            refine hK2 _ _ ?_
            refine E.seq (fun K9 hK9 => ?_)
            refine E.seq (fun K10 hK10 => ?_)
            refine rg ?_
            refine TL.fieldAddr fa34_4 rfl rfl ?_
            refine TL.ldL1 1 n1 (20 + (1 + (4 + (1 + (0))))) (x.stor) (fun _ h => h ▸ hst) rfl (Seg.skip (m := 20) (by simp) (Seg.skip (m := 1) (by simp) (Seg.skip (m := 4) (by simp) (Seg.skip (m := 1) (by simp) (Seg.all _))))) ts32 rfl rfl ?_
            refine TL.lenR (n := x.ss.length) ((hx).stor) (by simp) Try.underlying32 rfl rfl ?_
            refine TL.norm (by simp only [List.set_cons_succ, List.set_cons_zero]; rfl) ?_
            refine TL.move (Value.int .i64 0) rfl rfl ?_
            refine TL.nil ?_
            refine hK10 _ _ ?_
            refine E.norm (by simp only [List.set_cons_succ, List.set_cons_zero]; rfl) ?_
            refine wp_block ?_
            refine E.loop (fun m l w => ∃ (k : Nat), m = x.ss.length - k ∧ Fits [some (Value.agg (adrC x.addr ++ ([Value.int .u64 x.nonce] ++ (wdC x.bal ++ ([x.code] ++ ([x.stor]))))).toArray), some (Value.agg (adrC y.addr ++ ([Value.int .u64 y.nonce] ++ (wdC y.bal ++ ([y.code] ++ ([y.stor]))))).toArray), some (Value.pointer (some ⟨n1, 0, none⟩)), some (Value.pointer (some ⟨n2, 0, none⟩)), none, none, some (Value.pointer (some ⟨n1, 0 + 0, none⟩)), some (Value.agg (adrC x.addr).toArray), some (Value.pointer (some ⟨n2, 0 + 0, none⟩)), some (Value.agg (adrC y.addr).toArray), some (Value.bool (x.addr != y.addr)), some (Value.bool false), some (Value.pointer (some ⟨n1, 0 + 20, none⟩)), some (Value.int .u64 x.nonce), some (Value.pointer (some ⟨n2, 0 + 20, none⟩)), some (Value.int .u64 y.nonce), some (Value.bool (x.nonce != y.nonce)), some (Value.bool (x.nonce != y.nonce)), some (Value.bool false), some (Value.pointer (some ⟨n1, 0 + 21, none⟩)), some (Value.agg (wdC x.bal).toArray), some (Value.pointer (some ⟨n2, 0 + 21, none⟩)), some (Value.agg (wdC y.bal).toArray), some (Value.bool (x.bal != y.bal)), some (Value.bool (x.bal != y.bal)), some (Value.bool false), some (Value.pointer (some ⟨n1, 0 + 25, none⟩)), some (x.code), some (Value.string (bstr x.cb)), some (Value.pointer (some ⟨n2, 0 + 25, none⟩)), some (y.code), some (Value.string (bstr y.cb)), some (Value.bool (x.cb != y.cb)), some (Value.bool (x.cb != y.cb)), some (Value.bool false), some (Value.pointer (some ⟨n1, 0 + 26, none⟩)), some (x.stor), some (Value.int .i64 ((x.ss.length : Int))), some (Value.pointer (some ⟨n2, 0 + 26, none⟩)), some (y.stor), some (Value.int .i64 ((y.ss.length : Int))), some (Value.bool (((x.ss.length : Int)) != ((y.ss.length : Int)))), some (Value.bool (((x.ss.length : Int)) != ((y.ss.length : Int)))), some (Value.pointer (some ⟨n1, 0 + 26, none⟩)), some (x.stor), some (Value.int .i64 ((x.ss.length : Int))), some (Value.int .i64 ((k : Int))), none, none, none, none, none, none, none, none, none, none, none, none, none, none] l ∧ St Non w0 w g [(n2, .cells (adrC y.addr ++ ([Value.int .u64 y.nonce] ++ (wdC y.bal ++ ([y.code] ++ ([y.stor]))))).toArray 34 (0, 0)), (n1, .cells (adrC x.addr ++ ([Value.int .u64 x.nonce] ++ (wdC x.bal ++ ([x.code] ++ ([x.stor]))))).toArray 34 (0, 0))] ∧ (k ≤ x.ss.length) ∧ (∀ i, (hx : i < x.ss.length) → (hy : i < y.ss.length) → i < k → x.ss[i] = y.ss[i])) _ ⟨0, rfl, (by first | (simp only [List.set_cons_succ, List.set_cons_zero]; exact .s rfl (.s rfl (.s rfl (.s rfl (.n (.n (.s rfl (.s rfl (.s rfl (.s rfl (.s rfl (.s rfl (.s rfl (.s rfl (.s rfl (.s rfl (.s rfl (.s rfl (.s rfl (.s rfl (.s rfl (.s rfl (.s rfl (.s rfl (.s rfl (.s rfl (.s rfl (.s rfl (.s rfl (.s rfl (.s rfl (.s rfl (.s rfl (.s rfl (.s rfl (.s rfl (.s rfl (.s rfl (.s rfl (.s rfl (.s rfl (.s rfl (.s rfl (.s rfl (.s rfl (.s rfl (.s rfl (.n (.n (.n (.n (.n (.n (.n (.n (.n (.n (.n (.n (.n (.n (.z)))))))))))))))))))))))))))))))))))))))))))))))))))))))))))))) | exact .s rfl (.s rfl (.s rfl (.s rfl (.n (.n (.s rfl (.s rfl (.s rfl (.s rfl (.s rfl (.s rfl (.s rfl (.s rfl (.s rfl (.s rfl (.s rfl (.s rfl (.s rfl (.s rfl (.s rfl (.s rfl (.s rfl (.s rfl (.s rfl (.s rfl (.s rfl (.s rfl (.s rfl (.s rfl (.s rfl (.s rfl (.s rfl (.s rfl (.s rfl (.s rfl (.s rfl (.s rfl (.s rfl (.s rfl (.s rfl (.s rfl (.s rfl (.s rfl (.s rfl (.s rfl (.s rfl (.n (.n (.n (.n (.n (.n (.n (.n (.n (.n (.n (.n (.n (.n (.z)))))))))))))))))))))))))))))))))))))))))))))))))))))))))))))), hst, by omega, fun i _ _ h => by omega⟩ ?_
            rintro _ _ w ⟨k, hm1, hfit, hst, hk, hall⟩
            obtain ⟨j1, rfl⟩ := hfit.ex
            refine E.norm (l' := [Value.agg (adrC x.addr ++ ([Value.int .u64 x.nonce] ++ (wdC x.bal ++ ([x.code] ++ ([x.stor]))))).toArray, Value.agg (adrC y.addr ++ ([Value.int .u64 y.nonce] ++ (wdC y.bal ++ ([y.code] ++ ([y.stor]))))).toArray, Value.pointer (some ⟨n1, 0, none⟩), Value.pointer (some ⟨n2, 0, none⟩), (j1 4), (j1 5), Value.pointer (some ⟨n1, 0 + 0, none⟩), Value.agg (adrC x.addr).toArray, Value.pointer (some ⟨n2, 0 + 0, none⟩), Value.agg (adrC y.addr).toArray, Value.bool (x.addr != y.addr), Value.bool false, Value.pointer (some ⟨n1, 0 + 20, none⟩), Value.int .u64 x.nonce, Value.pointer (some ⟨n2, 0 + 20, none⟩), Value.int .u64 y.nonce, Value.bool (x.nonce != y.nonce), Value.bool (x.nonce != y.nonce), Value.bool false, Value.pointer (some ⟨n1, 0 + 21, none⟩), Value.agg (wdC x.bal).toArray, Value.pointer (some ⟨n2, 0 + 21, none⟩), Value.agg (wdC y.bal).toArray, Value.bool (x.bal != y.bal), Value.bool (x.bal != y.bal), Value.bool false, Value.pointer (some ⟨n1, 0 + 25, none⟩), x.code, Value.string (bstr x.cb), Value.pointer (some ⟨n2, 0 + 25, none⟩), y.code, Value.string (bstr y.cb), Value.bool (x.cb != y.cb), Value.bool (x.cb != y.cb), Value.bool false, Value.pointer (some ⟨n1, 0 + 26, none⟩), x.stor, Value.int .i64 ((x.ss.length : Int)), Value.pointer (some ⟨n2, 0 + 26, none⟩), y.stor, Value.int .i64 ((y.ss.length : Int)), Value.bool (((x.ss.length : Int)) != ((y.ss.length : Int))), Value.bool (((x.ss.length : Int)) != ((y.ss.length : Int))), Value.pointer (some ⟨n1, 0 + 26, none⟩), x.stor, Value.int .i64 ((x.ss.length : Int)), Value.int .i64 ((k : Int)), (j1 47), (j1 48), (j1 49), (j1 50), (j1 51), (j1 52), (j1 53), (j1 54), (j1 55), (j1 56), (j1 57), (j1 58), (j1 59), (j1 60)]) rfl ?_
            refine E.seq (fun K11 hK11 => ?_)
            refine rg ?_
            refine TL.lss rfl rfl rfl ?_
            refine TL.nil ?_
            refine hK11 _ _ ?_
            refine E.norm (by simp only [List.set_cons_succ, List.set_cons_zero]; rfl) ?_
            refine E.seq (fun K12 hK12 => ?_)
            refine E.cond rfl (fun hc6 => ?_) (fun hc6 => ?_)
            · replace hc6 := of_decide_eq_true hc6
              have hlx : k < x.ss.length := by omega
              have hly : k < y.ss.length := by omega
              refine wp_skip ?_
              refine hK12 _ _ ?_
              refine E.seq (fun K13 hK13 => ?_)
              refine wp_block ?_
              refine E.seq (fun K14 hK14 => ?_)
              refine rg ?_
              refine TL.move (Value.int .i64 ((k : Int))) rfl rfl ?_
              refine TL.assign (Value.int .i64 ((k : Int))) rfl rfl ?_
              refine TL.nil ?_
              refine hK14 _ _ ?_
              refine E.norm (by simp only [List.set_cons_succ, List.set_cons_zero]; rfl) ?_
              refine E.seq (fun K15 hK15 => ?_)
              refine rgD mixed #[0, 1, 0, 7, 15, 0, 32, 0, 224, 480, 1023] (by kernel_rfl) ?_
              replace hst := hst.drew
              refine TL.fieldAddr fa34_4 rfl rfl ?_
              refine TL.ldL1 1 n1 (20 + (1 + (4 + (1 + (0))))) (x.stor) (fun _ h => h ▸ hst) rfl (Seg.skip (m := 20) (by simp) (Seg.skip (m := 1) (by simp) (Seg.skip (m := 4) (by simp) (Seg.skip (m := 1) (by simp) (Seg.all _))))) ts32 rfl rfl ?_
              refine TL.move (Value.int .i64 ((k : Int))) rfl rfl ?_
              refine TL.norm (by simp only [List.set_cons_succ, List.set_cons_zero]; rfl) ?_
              refine TL.indexR ((hx).stor) sl32 rfl rfl (by omega) (by simp only [avRows_length, slotRows_length, byteRows_length]; omega) rfl ?_
              intro b3 o4 hr5
              refine TL.ldG b3 (o4 + ((k : Int) : Int).toNat * 8 + (0)) (wdC x.ss[k].1 ++ (wdC x.ss[k].2)) (fun _ h => h ▸ hst) ((hr5 _ _ (slotRows_get hlx)).sub (Seg.all _)) ta131 rfl rfl ?_
              refine TL.fieldAddr fa34_4 rfl rfl ?_
              refine TL.norm (by simp only [List.set_cons_succ, List.set_cons_zero]; rfl) ?_
              refine TL.ldL1 0 n2 (20 + (1 + (4 + (1 + (0))))) (y.stor) (fun _ h => h ▸ hst) rfl (Seg.skip (m := 20) (by simp) (Seg.skip (m := 1) (by simp) (Seg.skip (m := 4) (by simp) (Seg.skip (m := 1) (by simp) (Seg.all _))))) ts32 rfl rfl ?_
              refine TL.move (Value.int .i64 ((k : Int))) rfl rfl ?_
              refine TL.indexR ((hy).stor) sl32 rfl rfl (by omega) (by simp only [avRows_length, slotRows_length, byteRows_length]; omega) rfl ?_
              intro b6 o7 hr8
              refine TL.norm (by simp only [List.set_cons_succ, List.set_cons_zero]; rfl) ?_
              refine TL.ldG b6 (o7 + ((k : Int) : Int).toNat * 8 + (0)) (wdC y.ss[k].1 ++ (wdC y.ss[k].2)) (fun _ h => h ▸ hst) ((hr8 _ _ (slotRows_get hly)).sub (Seg.all _)) ta131 rfl rfl ?_
              refine TL.neqS eqs131 (a := x.ss[k]) (b := y.ss[k]) rfl rfl (hx.slots _ (List.getElem_mem hlx)) (hy.slots _ (List.getElem_mem hly)) rfl ?_
              refine TL.nil ?_
              refine hK15 _ _ ?_
              refine E.norm (by simp only [List.set_cons_succ, List.set_cons_zero]; rfl) ?_
              refine E.cond rfl (fun hc7 => ?_) (fun hc7 => ?_)
              · replace hc7 := bne_iff_ne.1 hc7
                refine E.seq (fun K16 hK16 => ?_)
                refine rg ?_
                refine TL.assign (Value.bool false) rfl rfl ?_
                refine TL.nil ?_
                refine hK16 _ _ ?_
                refine E.norm (by simp only [List.set_cons_succ, List.set_cons_zero]; rfl) ?_
                refine wp_ret ?_
                refine E.ret _ (Rs.t (Value.bool false) rfl rfl) ?_
                exact ⟨vbq (sameA_slot hlx hly hc7), hst.keep⟩
              · replace hc7 := bne_eq_false_iff_eq.1 hc7
                refine wp_skip ?_
                refine hK13 _ _ ?_
                refine rg ?_
                refine TL.add (((k : Int)) + 1) rfl rfl (by refine ⟨rfl, ?_⟩; have := hx.small; dsimp only [inR]; omega) rfl ?_
                refine TL.move (Value.int .i64 (((k : Int)) + 1)) rfl rfl ?_
                refine TL.nil ?_
                refine ⟨_, _, ?_, rfl, k + 1, rfl, (by first | (simp only [List.set_cons_succ, List.set_cons_zero]; exact .s rfl (.s rfl (.s rfl (.s rfl (.n (.n (.s rfl (.s rfl (.s rfl (.s rfl (.s rfl (.s rfl (.s rfl (.s rfl (.s rfl (.s rfl (.s rfl (.s rfl (.s rfl (.s rfl (.s rfl (.s rfl (.s rfl (.s rfl (.s rfl (.s rfl (.s rfl (.s rfl (.s rfl (.s rfl (.s rfl (.s rfl (.s rfl (.s rfl (.s rfl (.s rfl (.s rfl (.s rfl (.s rfl (.s rfl (.s rfl (.s rfl (.s rfl (.s rfl (.s rfl (.s rfl (.s rfl (.n (.n (.n (.n (.n (.n (.n (.n (.n (.n (.n (.n (.n (.n (.z)))))))))))))))))))))))))))))))))))))))))))))))))))))))))))))) | exact .s rfl (.s rfl (.s rfl (.s rfl (.n (.n (.s rfl (.s rfl (.s rfl (.s rfl (.s rfl (.s rfl (.s rfl (.s rfl (.s rfl (.s rfl (.s rfl (.s rfl (.s rfl (.s rfl (.s rfl (.s rfl (.s rfl (.s rfl (.s rfl (.s rfl (.s rfl (.s rfl (.s rfl (.s rfl (.s rfl (.s rfl (.s rfl (.s rfl (.s rfl (.s rfl (.s rfl (.s rfl (.s rfl (.s rfl (.s rfl (.s rfl (.s rfl (.s rfl (.s rfl (.s rfl (.s rfl (.n (.n (.n (.n (.n (.n (.n (.n (.n (.n (.n (.n (.n (.n (.z)))))))))))))))))))))))))))))))))))))))))))))))))))))))))))))), hst, by omega, sameA_step hall hlx hly hc7⟩
                omega
            · replace hc6 := of_decide_eq_false hc6
              refine wp_exit ?_
              refine hK9 _ _ ?_
              refine E.seq (fun K17 hK17 => ?_)
              refine rg ?_
              refine TL.assign (Value.bool true) rfl rfl ?_
              refine TL.nil ?_
              refine hK17 _ _ ?_
              refine E.norm (by simp only [List.set_cons_succ, List.set_cons_zero]; rfl) ?_
              refine wp_ret ?_
              refine E.ret _ (Rs.t (Value.bool true) rfl rfl) ?_
              exact ⟨vbq (sameA_yes hc1 hc2 hc3 hc4 hc5 hc6 hall), hst.keep⟩
end Go.Proofs.Ytafmgghpcneoeaa
