/- Walks, printed by wip/tools/gen.py: what each function comes to. -/
import Derived.Test.YtafmgghpcneoeaaTyp
import Derived.Test.YtafmgghpcneoeaaProg
import Derived.KernelRfl
import Derived.Test.YtafmgghpcneoeaaOf
import Derived.Test.YtafmgghpcneoeaaWc
namespace Go.Proofs.Ytafmgghpcneoeaa
open Go Go.RowKit
set_option maxRecDepth 100000
set_option maxHeartbeats 2000000

theorem less_w (a b : Nat) (ha : a < NW) (hb : b < NW) (w0 : World) : Calls Try.prog 70 #[.agg (wdC a).toArray, .agg (wdC b).toArray] w0 (Ret fun v w => v = .bool (decide (a < b)) ∧ Keep Non w0 w) := by
  go_enter Try.func70, Try.ntmps70
  change Code.wp _ _ _ (F [Value.agg (wdC a).toArray, Value.agg (wdC b).toArray, undef, undef, undef, undef, undef, undef, undef, undef, undef]) _
  have hst := St.start Non (has0 w0)
  refine E.seq (fun K1 hK1 => ?_)
  refine rg ?_
  refine TL.box (vs := wdC a) hst rfl rfl ?_
  intro w n1 hst
  refine ⟨trivial, ?_⟩
  refine TL.box (vs := wdC b) hst rfl rfl ?_
  intro w n2 hst
  refine ⟨trivial, ?_⟩
  refine TL.assign (Value.bool false) rfl rfl ?_
  refine TL.nil ?_
  refine hK1 _ _ ?_
  refine E.norm (by simp only [List.set_cons_succ, List.set_cons_zero]; rfl) ?_
  refine E.seq (fun K2 hK2 => ?_)
  refine rgS (fun w' => St Non w0 w' g0 [(n2, .cells (wdC b).toArray 31 (0, 0)), (n1, .cells (wdC a).toArray 31 (0, 0))]) mixed #[0, 1, 0, 7, 15, 31, 63] (by kernel_rfl) hst.drew ?_
  replace hst := hst.drew
  refine TL.ldL 1 n1 (0) (wdC a) (fun _ h => h) rfl (Seg.all _) ta31 rfl rfl ?_
  refine TL.callS _ co108 rfl (of_w a _) rfl ?_
  rintro _ w ⟨rfl, hk⟩
  have hst := hst.call hk
  refine ⟨hst, ?_⟩
  refine TL.ldL 0 n2 (0) (wdC b) (fun _ h => h) rfl (Seg.all _) ta31 rfl rfl ?_
  refine TL.norm (by simp only [List.set_cons_succ, List.set_cons_zero]; rfl) ?_
  refine TL.callS _ co108 rfl (of_w b _) rfl ?_
  rintro _ w ⟨rfl, hk⟩
  have hst := hst.call hk
  refine ⟨hst, ?_⟩
  refine TL.callS _ co109 rfl (cmp_d a b ha hb _) rfl ?_
  rintro _ w ⟨rfl, hk⟩
  have hst := hst.call hk
  refine ⟨hst, ?_⟩
  refine TL.lss rfl rfl rfl ?_
  refine TL.norm (by simp only [List.set_cons_succ, List.set_cons_zero]; rfl) ?_
  refine TL.assign (Value.bool (decide (ncmp a b < 0))) rfl rfl ?_
  refine TL.nil ?_
  refine hK2 _ _ ?_
  refine E.norm (by simp only [List.set_cons_succ, List.set_cons_zero]; rfl) ?_
  refine wp_ret ?_
  refine E.ret _ (Rs.t (Value.bool (decide (ncmp a b < 0))) rfl rfl) ?_
  exact ⟨vbq (ncmp_neg a b), hst.keep⟩

theorem right_ref (x : AV) (g : Gh) (w0 : World) (hg : Has w0 g) (hx : AOk g x) : Calls Try.prog 15 #[.agg (avC x).toArray] w0 (Ret fun u w => u = .bool (rightA x) ∧ Keep Non w0 w) := by
  go_enter Try.func15, Try.ntmps15
  change Code.wp _ _ _ (F [Value.agg (adrC x.addr ++ ([Value.int .u64 x.nonce] ++ (wdC x.bal ++ ([x.code] ++ ([x.stor]))))).toArray, undef, undef, undef, undef, undef, undef, undef, undef, undef, undef, undef, undef, undef, undef, undef, undef, undef, undef, undef, undef, undef, undef, undef, undef, undef, undef, undef, undef, undef, undef, undef, undef, undef, undef, undef, undef, undef]) _
  have hst := St.start Non hg
  refine E.seq (fun K1 hK1 => ?_)
  refine rg ?_
  refine TL.box (vs := adrC x.addr ++ ([Value.int .u64 x.nonce] ++ (wdC x.bal ++ ([x.code] ++ ([x.stor]))))) hst rfl rfl ?_
  intro w n1 hst
  refine ⟨trivial, ?_⟩
  refine TL.assign (Value.bool false) rfl rfl ?_
  refine TL.nil ?_
  refine hK1 _ _ ?_
  refine E.norm (by simp only [List.set_cons_succ, List.set_cons_zero]; rfl) ?_
  refine E.seq (fun K2 hK2 => ?_)
  refine E.seq (fun K3 hK3 => ?_)
  refine rg ?_
  refine TL.fieldAddr fa34_4 rfl rfl ?_
  refine TL.ldL1 0 n1 (20 + (1 + (4 + (1 + (0))))) (x.stor) (fun _ h => h ▸ hst) rfl (Seg.skip (m := 20) (by simp) (Seg.skip (m := 1) (by simp) (Seg.skip (m := 4) (by simp) (Seg.skip (m := 1) (by simp) (Seg.all _))))) ts32 rfl rfl ?_
  refine TL.lenR (n := x.ss.length) ((hx).stor) (by simp) Try.underlying32 rfl rfl ?_
  refine TL.norm (by simp only [List.set_cons_succ, List.set_cons_zero]; rfl) ?_
  refine TL.move (Value.int .i64 0) rfl rfl ?_
  refine TL.nil ?_
  refine hK3 _ _ ?_
  refine E.norm (by simp only [List.set_cons_succ, List.set_cons_zero]; rfl) ?_
  refine wp_block ?_
  refine E.loop (fun m l w => ∃ (k : Nat), m = x.ss.length - k ∧ Fits [some (Value.agg (adrC x.addr ++ ([Value.int .u64 x.nonce] ++ (wdC x.bal ++ ([x.code] ++ ([x.stor]))))).toArray), some (Value.pointer (some ⟨n1, 0, none⟩)), none, none, some (Value.pointer (some ⟨n1, 0 + 26, none⟩)), some (x.stor), some (Value.int .i64 ((x.ss.length : Int))), some (Value.int .i64 ((k : Int))), none, none, none, none, none, none, none, none, none, none, none, none, none, none, none, none, none, none, none, none, none, none, none, none, none, none, none, none, none, none] l ∧ St Non w0 w g [(n1, .cells (adrC x.addr ++ ([Value.int .u64 x.nonce] ++ (wdC x.bal ++ ([x.code] ++ ([x.stor]))))).toArray 34 (0, 0))] ∧ (k ≤ x.ss.length) ∧ (∀ i, (hx : i < x.ss.length) → i < k → slotOk x.ss i hx)) _ ⟨0, rfl, (by first | (simp only [List.set_cons_succ, List.set_cons_zero]; exact .s rfl (.s rfl (.n (.n (.s rfl (.s rfl (.s rfl (.s rfl (.n (.n (.n (.n (.n (.n (.n (.n (.n (.n (.n (.n (.n (.n (.n (.n (.n (.n (.n (.n (.n (.n (.n (.n (.n (.n (.n (.n (.n (.n (.z))))))))))))))))))))))))))))))))))))))) | exact .s rfl (.s rfl (.n (.n (.s rfl (.s rfl (.s rfl (.s rfl (.n (.n (.n (.n (.n (.n (.n (.n (.n (.n (.n (.n (.n (.n (.n (.n (.n (.n (.n (.n (.n (.n (.n (.n (.n (.n (.n (.n (.n (.n (.z))))))))))))))))))))))))))))))))))))))), hst, by omega, fun i _ h => by omega⟩ ?_
  rintro _ _ w ⟨k, hm1, hfit, hst, hk, hall⟩
  obtain ⟨j1, rfl⟩ := hfit.ex
  refine E.norm (l' := [Value.agg (adrC x.addr ++ ([Value.int .u64 x.nonce] ++ (wdC x.bal ++ ([x.code] ++ ([x.stor]))))).toArray, Value.pointer (some ⟨n1, 0, none⟩), (j1 2), (j1 3), Value.pointer (some ⟨n1, 0 + 26, none⟩), x.stor, Value.int .i64 ((x.ss.length : Int)), Value.int .i64 ((k : Int)), (j1 8), (j1 9), (j1 10), (j1 11), (j1 12), (j1 13), (j1 14), (j1 15), (j1 16), (j1 17), (j1 18), (j1 19), (j1 20), (j1 21), (j1 22), (j1 23), (j1 24), (j1 25), (j1 26), (j1 27), (j1 28), (j1 29), (j1 30), (j1 31), (j1 32), (j1 33), (j1 34), (j1 35), (j1 36), (j1 37)]) rfl ?_
  refine E.seq (fun K4 hK4 => ?_)
  refine rg ?_
  refine TL.lss rfl rfl rfl ?_
  refine TL.nil ?_
  refine hK4 _ _ ?_
  refine E.norm (by simp only [List.set_cons_succ, List.set_cons_zero]; rfl) ?_
  refine E.seq (fun K5 hK5 => ?_)
  refine E.cond rfl (fun hc1 => ?_) (fun hc1 => ?_)
  · replace hc1 := of_decide_eq_true hc1
    have hlx : k < x.ss.length := by omega
    refine wp_skip ?_
    refine hK5 _ _ ?_
    refine E.seq (fun K6 hK6 => ?_)
    refine wp_block ?_
    refine E.seq (fun K7 hK7 => ?_)
    refine rg ?_
    refine TL.move (Value.int .i64 ((k : Int))) rfl rfl ?_
    refine TL.assign (Value.int .i64 ((k : Int))) rfl rfl ?_
    refine TL.nil ?_
    refine hK7 _ _ ?_
    refine E.norm (by simp only [List.set_cons_succ, List.set_cons_zero]; rfl) ?_
    refine E.seq (fun K8 hK8 => ?_)
    refine E.seq (fun K9 hK9 => ?_)
    refine rg ?_
    refine TL.fieldAddr fa34_4 rfl rfl ?_
    refine TL.ldL1 0 n1 (20 + (1 + (4 + (1 + (0))))) (x.stor) (fun _ h => h ▸ hst) rfl (Seg.skip (m := 20) (by simp) (Seg.skip (m := 1) (by simp) (Seg.skip (m := 4) (by simp) (Seg.skip (m := 1) (by simp) (Seg.all _))))) ts32 rfl rfl ?_
    refine TL.move (Value.int .i64 ((k : Int))) rfl rfl ?_
    refine TL.norm (by simp only [List.set_cons_succ, List.set_cons_zero]; rfl) ?_
    refine TL.indexR ((hx).stor) sl32 rfl rfl (by omega) (by simp only [avRows_length, slotRows_length, byteRows_length]; omega) rfl ?_
    intro b2 o3 hr4
    refine TL.fieldAddr fa131_1 rfl rfl ?_
    refine TL.ldG b2 (o3 + ((k : Int) : Int).toNat * 8 + (4 + (0))) (wdC x.ss[k].2) (fun _ h => h ▸ hst) ((hr4 _ _ (slotRows_get hlx)).sub (Seg.skip (m := 4) (by simp) (Seg.all _))) ta31 rfl rfl ?_
    refine TL.norm (by simp only [List.set_cons_succ, List.set_cons_zero]; rfl) ?_
    refine TL.buildA (ps := []) ar31 zv31 rfl (Fl.nil _) rfl ?_
    refine TL.eqlA eq31 (a := x.ss[k].2) (b := 0) rfl rfl (hx.slots _ (List.getElem_mem hlx)|>.2) (by decide) rfl ?_
    refine TL.nil ?_
    refine hK9 _ _ ?_
    refine E.norm (by simp only [List.set_cons_succ, List.set_cons_zero]; rfl) ?_
    refine E.cond rfl (fun hc2 => ?_) (fun hc2 => ?_)
    · replace hc2 := eq_of_beq hc2
      refine E.seq (fun K10 hK10 => ?_)
      refine rg ?_
      refine TL.assign (Value.bool false) rfl rfl ?_
      refine TL.nil ?_
      refine hK10 _ _ ?_
      refine E.norm (by simp only [List.set_cons_succ, List.set_cons_zero]; rfl) ?_
      refine wp_ret ?_
      refine E.ret _ (Rs.t (Value.bool false) rfl rfl) ?_
      exact ⟨vbq (right_no0 hlx hc2), hst.keep⟩
    · replace hc2 := ne_of_beq_false hc2
      refine wp_skip ?_
      refine hK8 _ _ ?_
      refine E.seq (fun K11 hK11 => ?_)
      refine rgD mixed #[0, 1, 3, 7, 15, 7, 39, 127, 255, 511, 7, 1031, 7, 7175, 15367, 31751, 65535, 131071, 262143] (by kernel_rfl) ?_
      replace hst := hst.drew
      refine TL.move (Value.int .i64 ((k : Int))) rfl rfl ?_
      refine TL.gtr rfl rfl rfl ?_
      refine TL.move (Value.bool (decide (0 < (k : Int)))) rfl rfl ?_
      refine TL.norm (by simp only [List.set_cons_succ, List.set_cons_zero]; rfl) ?_
      refine TL.case 20 (decide (0 < (k : Int))) rfl (fun hc3 => ?_) (fun hc3 => ?_)
      · replace hc3 := of_decide_eq_true hc3
        refine TL.norm (by simp only [List.set_cons_succ, List.set_cons_zero]; rfl) ?_
        refine TL.fieldAddr fa34_4 rfl rfl ?_
        refine TL.ldL1 0 n1 (20 + (1 + (4 + (1 + (0))))) (x.stor) (fun _ h => h ▸ hst) rfl (Seg.skip (m := 20) (by simp) (Seg.skip (m := 1) (by simp) (Seg.skip (m := 4) (by simp) (Seg.skip (m := 1) (by simp) (Seg.all _))))) ts32 rfl rfl ?_
        refine TL.move (Value.int .i64 ((k : Int))) rfl rfl ?_
        refine TL.norm (by simp only [List.set_cons_succ, List.set_cons_zero]; rfl) ?_
        refine TL.sub (((k - 1 : Nat) : Int)) rfl rfl (by have := hx.small; dsimp only [inR]; omega) rfl ?_
        refine TL.indexR ((hx).stor) sl32 rfl rfl (by omega) (by simp only [avRows_length, slotRows_length, byteRows_length]; omega) rfl ?_
        intro b5 o6 hr7
        refine TL.fieldAddr fa131_0 rfl rfl ?_
        refine TL.norm (by simp only [List.set_cons_succ, List.set_cons_zero]; rfl) ?_
        refine TL.ldG b5 (o6 + (((k - 1 : Nat) : Int) : Int).toNat * 8 + (0)) (wdC x.ss[(k - 1)].1) (fun _ h => h ▸ hst) ((hr7 _ _ (slotRows_get (show k - 1 < x.ss.length by omega))).sub (Seg.here _ _)) ta31 rfl rfl ?_
        refine TL.fieldAddr fa34_4 rfl rfl ?_
        refine TL.ldL1 0 n1 (20 + (1 + (4 + (1 + (0))))) (x.stor) (fun _ h => h ▸ hst) rfl (Seg.skip (m := 20) (by simp) (Seg.skip (m := 1) (by simp) (Seg.skip (m := 4) (by simp) (Seg.skip (m := 1) (by simp) (Seg.all _))))) ts32 rfl rfl ?_
        refine TL.norm (by simp only [List.set_cons_succ, List.set_cons_zero]; rfl) ?_
        refine TL.move (Value.int .i64 ((k : Int))) rfl rfl ?_
        refine TL.indexR ((hx).stor) sl32 rfl rfl (by omega) (by simp only [avRows_length, slotRows_length, byteRows_length]; omega) rfl ?_
        intro b8 o9 hr10
        refine TL.fieldAddr fa131_0 rfl rfl ?_
        refine TL.norm (by simp only [List.set_cons_succ, List.set_cons_zero]; rfl) ?_
        refine TL.ldG b8 (o9 + ((k : Int) : Int).toNat * 8 + (0)) (wdC x.ss[k].1) (fun _ h => h ▸ hst) ((hr10 _ _ (slotRows_get hlx)).sub (Seg.here _ _)) ta31 rfl rfl ?_
        refine TL.callS _ co70 rfl (less_w _ _ (hx.slots _ (List.getElem_mem _)).1 (hx.slots _ (List.getElem_mem hlx)).1 _) rfl ?_
        rintro _ w ⟨rfl, hk⟩
        have hst := hst.call hk
        refine ⟨trivial, ?_⟩
        refine TL.notB rfl rfl ?_
        refine TL.norm (by simp only [List.set_cons_succ, List.set_cons_zero]; rfl) ?_
        refine TL.pick (Value.bool (!(decide (x.ss[(k - 1)].1 < x.ss[k].1)))) rfl rfl rfl ?_
        refine TL.nil ?_
        refine hK11 _ _ ?_
        refine E.norm (by simp only [List.set_cons_succ, List.set_cons_zero]; rfl) ?_
        refine E.cond rfl (fun hc4 => ?_) (fun hc4 => ?_)
        · have hc4 := hc4
          refine E.seq (fun K12 hK12 => ?_)
          refine rg ?_
          refine TL.assign (Value.bool false) rfl rfl ?_
          refine TL.nil ?_
          refine hK12 _ _ ?_
          refine E.norm (by simp only [List.set_cons_succ, List.set_cons_zero]; rfl) ?_
          refine wp_ret ?_
          refine E.ret _ (Rs.t (Value.bool false) rfl rfl) ?_
          exact ⟨vbq (right_no1 hlx (by omega) (by simpa using hc4)), hst.keep⟩
        · have hc4 := hc4
          refine wp_skip ?_
          refine hK6 _ _ ?_
          refine rg ?_
          refine TL.add (((k : Int)) + 1) rfl rfl (by refine ⟨rfl, ?_⟩; have := hx.small; dsimp only [inR]; omega) rfl ?_
          refine TL.move (Value.int .i64 (((k : Int)) + 1)) rfl rfl ?_
          refine TL.nil ?_
          refine ⟨_, _, ?_, rfl, k + 1, rfl, (by first | (simp only [List.set_cons_succ, List.set_cons_zero]; exact .s rfl (.s rfl (.n (.n (.s rfl (.s rfl (.s rfl (.s rfl (.n (.n (.n (.n (.n (.n (.n (.n (.n (.n (.n (.n (.n (.n (.n (.n (.n (.n (.n (.n (.n (.n (.n (.n (.n (.n (.n (.n (.n (.n (.z))))))))))))))))))))))))))))))))))))))) | exact .s rfl (.s rfl (.n (.n (.s rfl (.s rfl (.s rfl (.s rfl (.n (.n (.n (.n (.n (.n (.n (.n (.n (.n (.n (.n (.n (.n (.n (.n (.n (.n (.n (.n (.n (.n (.n (.n (.n (.n (.n (.n (.n (.n (.z))))))))))))))))))))))))))))))))))))))), hst, by omega, right_step hlx hall hc2 (fun h0 => by simpa using hc4)⟩
          omega
      · replace hc3 := of_decide_eq_false hc3
        refine TL.norm (by simp only [List.set_cons_succ, List.set_cons_zero]; rfl) ?_
        refine TL.noF trivial rfl ?_
        refine TL.noF trivial rfl ?_
        refine TL.noF trivial rfl ?_
        refine TL.norm (by simp only [List.set_cons_succ, List.set_cons_zero]; rfl) ?_
        refine TL.noF trivial rfl ?_
        refine TL.noF trivial rfl ?_
        refine TL.noF trivial rfl ?_
        refine TL.norm (by simp only [List.set_cons_succ, List.set_cons_zero]; rfl) ?_
        refine TL.noF trivial rfl ?_
        refine TL.noF trivial rfl ?_
        refine TL.noF trivial rfl ?_
        refine TL.norm (by simp only [List.set_cons_succ, List.set_cons_zero]; rfl) ?_
        refine TL.noF trivial rfl ?_
        refine TL.noF trivial rfl ?_
        refine TL.noF trivial rfl ?_
        refine TL.norm (by simp only [List.set_cons_succ, List.set_cons_zero]; rfl) ?_
        refine TL.noF trivial rfl ?_
        refine TL.noF trivial rfl ?_
        refine TL.noF trivial rfl ?_
        refine TL.norm (by simp only [List.set_cons_succ, List.set_cons_zero]; rfl) ?_
        refine TL.pick (Value.bool false) rfl rfl rfl ?_
        refine TL.nil ?_
        refine hK11 _ _ ?_
        refine E.norm (by simp only [List.set_cons_succ, List.set_cons_zero]; rfl) ?_
        refine E.condF rfl ?_
        refine wp_skip ?_
        refine hK6 _ _ ?_
        refine rg ?_
        refine TL.add (((k : Int)) + 1) rfl rfl (by refine ⟨rfl, ?_⟩; have := hx.small; dsimp only [inR]; omega) rfl ?_
        refine TL.move (Value.int .i64 (((k : Int)) + 1)) rfl rfl ?_
        refine TL.nil ?_
        refine ⟨_, _, ?_, rfl, k + 1, rfl, (by first | (simp only [List.set_cons_succ, List.set_cons_zero]; exact .s rfl (.s rfl (.n (.n (.s rfl (.s rfl (.s rfl (.s rfl (.n (.n (.n (.n (.n (.n (.n (.n (.n (.n (.n (.n (.n (.n (.n (.n (.n (.n (.n (.n (.n (.n (.n (.n (.n (.n (.n (.n (.n (.n (.z))))))))))))))))))))))))))))))))))))))) | exact .s rfl (.s rfl (.n (.n (.s rfl (.s rfl (.s rfl (.s rfl (.n (.n (.n (.n (.n (.n (.n (.n (.n (.n (.n (.n (.n (.n (.n (.n (.n (.n (.n (.n (.n (.n (.n (.n (.n (.n (.n (.n (.n (.n (.z))))))))))))))))))))))))))))))))))))))), hst, by omega, right_step hlx hall hc2 (fun h0 => absurd h0 (by omega))⟩
        omega
  · replace hc1 := of_decide_eq_false hc1
    refine wp_exit ?_
    refine hK2 _ _ ?_
    refine E.seq (fun K13 hK13 => ?_)
    refine rg ?_
    refine TL.assign (Value.bool true) rfl rfl ?_
    refine TL.nil ?_
    refine hK13 _ _ ?_
    refine E.norm (by simp only [List.set_cons_succ, List.set_cons_zero]; rfl) ?_
    refine wp_ret ?_
    refine E.ret _ (Rs.t (Value.bool true) rfl rfl) ?_
    exact ⟨vbq (right_yes (by omega) hall), hst.keep⟩

theorem right_store (x : AV) (g : Gh) (w0 : World) (hg : Has w0 g) (hx : AOk g x) : Calls Try.prog 71 #[.agg (avC x).toArray] w0 (Ret fun u w => u = .bool (rightA x) ∧ Keep Non w0 w) := by
  go_enter Try.func71, Try.ntmps71
  change Code.wp _ _ _ (F [Value.agg (adrC x.addr ++ ([Value.int .u64 x.nonce] ++ (wdC x.bal ++ ([x.code] ++ ([x.stor]))))).toArray, undef, undef, undef, undef, undef, undef, undef, undef, undef, undef, undef, undef, undef, undef, undef, undef, undef, undef, undef, undef, undef, undef, undef, undef, undef, undef, undef, undef, undef, undef, undef, undef, undef, undef]) _
  have hst := St.start Non hg
  refine E.seq (fun K1 hK1 => ?_)
  refine rg ?_
  refine TL.box (vs := adrC x.addr ++ ([Value.int .u64 x.nonce] ++ (wdC x.bal ++ ([x.code] ++ ([x.stor]))))) hst rfl rfl ?_
  intro w n1 hst
  refine ⟨trivial, ?_⟩
  refine TL.assign (Value.bool false) rfl rfl ?_
  refine TL.nil ?_
  refine hK1 _ _ ?_
  refine E.norm (by simp only [List.set_cons_succ, List.set_cons_zero]; rfl) ?_
  refine E.seq (fun K2 hK2 => ?_)
  refine E.seq (fun K3 hK3 => ?_)
  refine rg ?_
  refine TL.fieldAddr fa34_4 rfl rfl ?_
  refine TL.ldL1 0 n1 (20 + (1 + (4 + (1 + (0))))) (x.stor) (fun _ h => h ▸ hst) rfl (Seg.skip (m := 20) (by simp) (Seg.skip (m := 1) (by simp) (Seg.skip (m := 4) (by simp) (Seg.skip (m := 1) (by simp) (Seg.all _))))) ts32 rfl rfl ?_
  refine TL.lenR (n := x.ss.length) ((hx).stor) (by simp) Try.underlying32 rfl rfl ?_
  refine TL.norm (by simp only [List.set_cons_succ, List.set_cons_zero]; rfl) ?_
  refine TL.move (Value.int .i64 0) rfl rfl ?_
  refine TL.nil ?_
  refine hK3 _ _ ?_
  refine E.norm (by simp only [List.set_cons_succ, List.set_cons_zero]; rfl) ?_
  refine wp_block ?_
  refine E.loop (fun m l w => ∃ (k : Nat), m = x.ss.length - k ∧ Fits [some (Value.agg (adrC x.addr ++ ([Value.int .u64 x.nonce] ++ (wdC x.bal ++ ([x.code] ++ ([x.stor]))))).toArray), some (Value.pointer (some ⟨n1, 0, none⟩)), none, none, none, some (Value.pointer (some ⟨n1, 0 + 26, none⟩)), some (x.stor), some (Value.int .i64 ((x.ss.length : Int))), some (Value.int .i64 ((k : Int))), none, none, none, none, none, none, none, none, none, none, none, none, none, none, none, none, none, none, none, none, none, none, none, none, none, none] l ∧ St Non w0 w g [(n1, .cells (adrC x.addr ++ ([Value.int .u64 x.nonce] ++ (wdC x.bal ++ ([x.code] ++ ([x.stor]))))).toArray 34 (0, 0))] ∧ (k ≤ x.ss.length) ∧ (∀ i, (hx : i < x.ss.length) → i < k → slotOk x.ss i hx)) _ ⟨0, rfl, (by first | (simp only [List.set_cons_succ, List.set_cons_zero]; exact .s rfl (.s rfl (.n (.n (.n (.s rfl (.s rfl (.s rfl (.s rfl (.n (.n (.n (.n (.n (.n (.n (.n (.n (.n (.n (.n (.n (.n (.n (.n (.n (.n (.n (.n (.n (.n (.n (.n (.n (.n (.z)))))))))))))))))))))))))))))))))))) | exact .s rfl (.s rfl (.n (.n (.n (.s rfl (.s rfl (.s rfl (.s rfl (.n (.n (.n (.n (.n (.n (.n (.n (.n (.n (.n (.n (.n (.n (.n (.n (.n (.n (.n (.n (.n (.n (.n (.n (.n (.n (.z)))))))))))))))))))))))))))))))))))), hst, by omega, fun i _ h => by omega⟩ ?_
  rintro _ _ w ⟨k, hm1, hfit, hst, hk, hall⟩
  obtain ⟨j1, rfl⟩ := hfit.ex
  refine E.norm (l' := [Value.agg (adrC x.addr ++ ([Value.int .u64 x.nonce] ++ (wdC x.bal ++ ([x.code] ++ ([x.stor]))))).toArray, Value.pointer (some ⟨n1, 0, none⟩), (j1 2), (j1 3), (j1 4), Value.pointer (some ⟨n1, 0 + 26, none⟩), x.stor, Value.int .i64 ((x.ss.length : Int)), Value.int .i64 ((k : Int)), (j1 9), (j1 10), (j1 11), (j1 12), (j1 13), (j1 14), (j1 15), (j1 16), (j1 17), (j1 18), (j1 19), (j1 20), (j1 21), (j1 22), (j1 23), (j1 24), (j1 25), (j1 26), (j1 27), (j1 28), (j1 29), (j1 30), (j1 31), (j1 32), (j1 33), (j1 34)]) rfl ?_
  refine E.seq (fun K4 hK4 => ?_)
  refine rg ?_
  refine TL.lss rfl rfl rfl ?_
  refine TL.nil ?_
  refine hK4 _ _ ?_
  refine E.norm (by simp only [List.set_cons_succ, List.set_cons_zero]; rfl) ?_
  refine E.seq (fun K5 hK5 => ?_)
  refine E.cond rfl (fun hc1 => ?_) (fun hc1 => ?_)
  · replace hc1 := of_decide_eq_true hc1
    have hlx : k < x.ss.length := by omega
    refine wp_skip ?_
    refine hK5 _ _ ?_
    refine E.seq (fun K6 hK6 => ?_)
    refine wp_block ?_
    refine E.seq (fun K7 hK7 => ?_)
    refine rg ?_
    refine TL.move (Value.int .i64 ((k : Int))) rfl rfl ?_
    refine TL.indexR ((hx).stor) sl32 rfl rfl (by omega) (by simp only [avRows_length, slotRows_length, byteRows_length]; omega) rfl ?_
    intro b2 o3 hr4
    refine TL.ldG b2 (o3 + ((k : Int) : Int).toNat * 8 + (0)) (wdC x.ss[k].1 ++ (wdC x.ss[k].2)) (fun _ h => h ▸ hst) ((hr4 _ _ (slotRows_get hlx)).sub (Seg.all _)) ta131 rfl rfl ?_
    refine TL.norm (by simp only [List.set_cons_succ, List.set_cons_zero]; rfl) ?_
    refine TL.alloc hst zv131 rfl ?_
    intro w n5 hst
    refine ⟨trivial, ?_⟩
    refine TL.assign (Value.int .i64 ((k : Int))) rfl rfl ?_
    refine TL.st 0 n5 (0) (vs := wdC x.ss[k].1 ++ (wdC x.ss[k].2)) hst rfl (Put.all (by simp)) rfl (One.app (One.wd _) (One.wd _)) tz131 rfl rfl ?_
    intro w hst
    refine ⟨trivial, ?_⟩
    refine TL.nil ?_
    refine hK7 _ _ ?_
    refine E.norm (by simp only [List.set_cons_succ, List.set_cons_zero]; rfl) ?_
    refine E.seq (fun K8 hK8 => ?_)
    refine rgD mixed #[0, 1, 0, 7, 15, 31, 63, 127, 255, 511, 255, 1279, 4095, 8191, 16383, 255, 33023, 131071, 262143, 524287, 1048575] (by kernel_rfl) ?_
    replace hst := hst.drew
    refine TL.fieldAddr fa131_1 rfl rfl ?_
    refine TL.ldL 0 n5 (4 + (0)) (wdC x.ss[k].2) (fun _ h => h ▸ hst) rfl (Seg.skip (m := 4) (by simp) (Seg.all _)) ta31 rfl rfl ?_
    refine TL.buildA (ps := []) ar31 zv31 rfl (Fl.nil _) rfl ?_
    refine TL.norm (by simp only [List.set_cons_succ, List.set_cons_zero]; rfl) ?_
    refine TL.eqlA eq31 (a := x.ss[k].2) (b := 0) rfl rfl (hx.slots _ (List.getElem_mem hlx)|>.2) (by decide) rfl ?_
    refine TL.move (Value.bool ((x.ss[k].2) == 0)) rfl rfl ?_
    refine TL.case 17 ((x.ss[k].2) == 0) rfl (fun hc2 => ?_) (fun hc2 => ?_)
    · replace hc2 := eq_of_beq hc2
      refine TL.norm (by simp only [List.set_cons_succ, List.set_cons_zero]; rfl) ?_
      refine TL.noF trivial rfl ?_
      refine TL.noF trivial rfl ?_
      refine TL.noF trivial rfl ?_
      refine TL.norm (by simp only [List.set_cons_succ, List.set_cons_zero]; rfl) ?_
      refine TL.noF trivial rfl ?_
      refine TL.noF trivial rfl ?_
      refine TL.noF trivial rfl ?_
      refine TL.norm (by simp only [List.set_cons_succ, List.set_cons_zero]; rfl) ?_
      refine TL.noF trivial rfl ?_
      refine TL.noF trivial rfl ?_
      refine TL.noF trivial rfl ?_
      refine TL.norm (by simp only [List.set_cons_succ, List.set_cons_zero]; rfl) ?_
      refine TL.noF trivial rfl ?_
      refine TL.noF trivial rfl ?_
      refine TL.noF trivial rfl ?_
      refine TL.norm (by simp only [List.set_cons_succ, List.set_cons_zero]; rfl) ?_
      refine TL.noF trivial rfl ?_
      refine TL.noF trivial rfl ?_
      refine TL.noF trivial rfl ?_
      refine TL.norm (by simp only [List.set_cons_succ, List.set_cons_zero]; rfl) ?_
      refine TL.pick (Value.bool true) rfl rfl rfl ?_
      refine TL.nil ?_
      refine hK8 _ _ ?_
      refine E.norm (by simp only [List.set_cons_succ, List.set_cons_zero]; rfl) ?_
      refine E.condT rfl ?_
      refine E.seq (fun K9 hK9 => ?_)
      refine rg ?_
      refine TL.assign (Value.bool false) rfl rfl ?_
      refine TL.nil ?_
      refine hK9 _ _ ?_
      refine E.norm (by simp only [List.set_cons_succ, List.set_cons_zero]; rfl) ?_
      refine wp_ret ?_
      refine E.ret _ (Rs.t (Value.bool false) rfl rfl) ?_
      exact ⟨vbq (right_no0 hlx hc2), hst.keep⟩
    · replace hc2 := ne_of_beq_false hc2
      refine TL.norm (by simp only [List.set_cons_succ, List.set_cons_zero]; rfl) ?_
      refine TL.move (Value.int .i64 ((k : Int))) rfl rfl ?_
      refine TL.gtr rfl rfl rfl ?_
      refine TL.move (Value.bool (decide (0 < (k : Int)))) rfl rfl ?_
      refine TL.norm (by simp only [List.set_cons_succ, List.set_cons_zero]; rfl) ?_
      refine TL.case 20 (decide (0 < (k : Int))) rfl (fun hc3 => ?_) (fun hc3 => ?_)
      · replace hc3 := of_decide_eq_true hc3
        refine TL.norm (by simp only [List.set_cons_succ, List.set_cons_zero]; rfl) ?_
        refine TL.fieldAddr fa34_4 rfl rfl ?_
        refine TL.ldL1 1 n1 (20 + (1 + (4 + (1 + (0))))) (x.stor) (fun _ h => h ▸ hst) rfl (Seg.skip (m := 20) (by simp) (Seg.skip (m := 1) (by simp) (Seg.skip (m := 4) (by simp) (Seg.skip (m := 1) (by simp) (Seg.all _))))) ts32 rfl rfl ?_
        refine TL.move (Value.int .i64 ((k : Int))) rfl rfl ?_
        refine TL.norm (by simp only [List.set_cons_succ, List.set_cons_zero]; rfl) ?_
        refine TL.sub (((k - 1 : Nat) : Int)) rfl rfl (by have := hx.small; dsimp only [inR]; omega) rfl ?_
        refine TL.indexR ((hx).stor) sl32 rfl rfl (by omega) (by simp only [avRows_length, slotRows_length, byteRows_length]; omega) rfl ?_
        intro b6 o7 hr8
        refine TL.fieldAddr fa131_0 rfl rfl ?_
        refine TL.norm (by simp only [List.set_cons_succ, List.set_cons_zero]; rfl) ?_
        refine TL.ldG b6 (o7 + (((k - 1 : Nat) : Int) : Int).toNat * 8 + (0)) (wdC x.ss[(k - 1)].1) (fun _ h => h ▸ hst) ((hr8 _ _ (slotRows_get (show k - 1 < x.ss.length by omega))).sub (Seg.here _ _)) ta31 rfl rfl ?_
        refine TL.fieldAddr fa131_0 rfl rfl ?_
        refine TL.ldL 0 n5 (0) (wdC x.ss[k].1) (fun _ h => h ▸ hst) rfl (Seg.here _ _) ta31 rfl rfl ?_
        refine TL.norm (by simp only [List.set_cons_succ, List.set_cons_zero]; rfl) ?_
        refine TL.callS _ co87 rfl (f_wcmp _ _ (hx.slots _ (List.getElem_mem _)).1 (hx.slots _ (List.getElem_mem hlx)).1 _) rfl ?_
        rintro _ w ⟨rfl, hk⟩
        have hst := hst.call hk
        refine ⟨trivial, ?_⟩
        refine TL.geq rfl rfl rfl ?_
        refine TL.pick (Value.bool (decide (0 ≤ ncmp x.ss[(k - 1)].1 x.ss[k].1))) rfl rfl rfl ?_
        refine TL.norm (by simp only [List.set_cons_succ, List.set_cons_zero]; rfl) ?_
        refine TL.pick (Value.bool (decide (0 ≤ ncmp x.ss[(k - 1)].1 x.ss[k].1))) rfl rfl rfl ?_
        refine TL.nil ?_
        refine hK8 _ _ ?_
        refine E.norm (by simp only [List.set_cons_succ, List.set_cons_zero]; rfl) ?_
        refine E.cond rfl (fun hc4 => ?_) (fun hc4 => ?_)
        · replace hc4 := of_decide_eq_true hc4
          refine E.seq (fun K10 hK10 => ?_)
          refine rg ?_
          refine TL.assign (Value.bool false) rfl rfl ?_
          refine TL.nil ?_
          refine hK10 _ _ ?_
          refine E.norm (by simp only [List.set_cons_succ, List.set_cons_zero]; rfl) ?_
          refine wp_ret ?_
          refine E.ret _ (Rs.t (Value.bool false) rfl rfl) ?_
          exact ⟨vbq (right_no1 hlx (by omega) (ncmp_nlss hc4)), hst.keep⟩
        · replace hc4 := of_decide_eq_false hc4
          refine wp_skip ?_
          refine hK6 _ _ ?_
          refine rg ?_
          refine TL.add (((k : Int)) + 1) rfl rfl (by refine ⟨rfl, ?_⟩; have := hx.small; dsimp only [inR]; omega) rfl ?_
          refine TL.move (Value.int .i64 (((k : Int)) + 1)) rfl rfl ?_
          refine TL.nil ?_
          refine ⟨_, _, ?_, rfl, k + 1, rfl, (by first | (simp only [List.set_cons_succ, List.set_cons_zero]; exact .s rfl (.s rfl (.n (.n (.n (.s rfl (.s rfl (.s rfl (.s rfl (.n (.n (.n (.n (.n (.n (.n (.n (.n (.n (.n (.n (.n (.n (.n (.n (.n (.n (.n (.n (.n (.n (.n (.n (.n (.n (.z)))))))))))))))))))))))))))))))))))) | exact .s rfl (.s rfl (.n (.n (.n (.s rfl (.s rfl (.s rfl (.s rfl (.n (.n (.n (.n (.n (.n (.n (.n (.n (.n (.n (.n (.n (.n (.n (.n (.n (.n (.n (.n (.n (.n (.n (.n (.n (.n (.z)))))))))))))))))))))))))))))))))))), hst.sub (.cons _ (List.Sublist.refl _)), by omega, right_step hlx hall hc2 (fun h0 => ncmp_lss (by simpa using hc4))⟩
          omega
      · replace hc3 := of_decide_eq_false hc3
        refine TL.norm (by simp only [List.set_cons_succ, List.set_cons_zero]; rfl) ?_
        refine TL.noF trivial rfl ?_
        refine TL.noF trivial rfl ?_
        refine TL.noF trivial rfl ?_
        refine TL.norm (by simp only [List.set_cons_succ, List.set_cons_zero]; rfl) ?_
        refine TL.noF trivial rfl ?_
        refine TL.noF trivial rfl ?_
        refine TL.noF trivial rfl ?_
        refine TL.norm (by simp only [List.set_cons_succ, List.set_cons_zero]; rfl) ?_
        refine TL.noF trivial rfl ?_
        refine TL.noF trivial rfl ?_
        refine TL.noF trivial rfl ?_
        refine TL.norm (by simp only [List.set_cons_succ, List.set_cons_zero]; rfl) ?_
        refine TL.noF trivial rfl ?_
        refine TL.noF trivial rfl ?_
        refine TL.pick (Value.bool false) rfl rfl rfl ?_
        refine TL.norm (by simp only [List.set_cons_succ, List.set_cons_zero]; rfl) ?_
        refine TL.pick (Value.bool false) rfl rfl rfl ?_
        refine TL.nil ?_
        refine hK8 _ _ ?_
        refine E.norm (by simp only [List.set_cons_succ, List.set_cons_zero]; rfl) ?_
        refine E.condF rfl ?_
        refine wp_skip ?_
        refine hK6 _ _ ?_
        refine rg ?_
        refine TL.add (((k : Int)) + 1) rfl rfl (by refine ⟨rfl, ?_⟩; have := hx.small; dsimp only [inR]; omega) rfl ?_
        refine TL.move (Value.int .i64 (((k : Int)) + 1)) rfl rfl ?_
        refine TL.nil ?_
        refine ⟨_, _, ?_, rfl, k + 1, rfl, (by first | (simp only [List.set_cons_succ, List.set_cons_zero]; exact .s rfl (.s rfl (.n (.n (.n (.s rfl (.s rfl (.s rfl (.s rfl (.n (.n (.n (.n (.n (.n (.n (.n (.n (.n (.n (.n (.n (.n (.n (.n (.n (.n (.n (.n (.n (.n (.n (.n (.n (.n (.z)))))))))))))))))))))))))))))))))))) | exact .s rfl (.s rfl (.n (.n (.n (.s rfl (.s rfl (.s rfl (.s rfl (.n (.n (.n (.n (.n (.n (.n (.n (.n (.n (.n (.n (.n (.n (.n (.n (.n (.n (.n (.n (.n (.n (.n (.n (.n (.n (.z)))))))))))))))))))))))))))))))))))), hst.sub (.cons _ (List.Sublist.refl _)), by omega, right_step hlx hall hc2 (fun h0 => absurd h0 (by omega))⟩
        omega
  · replace hc1 := of_decide_eq_false hc1
    refine wp_exit ?_
    refine hK2 _ _ ?_
    refine E.seq (fun K11 hK11 => ?_)
    refine rg ?_
    refine TL.assign (Value.bool true) rfl rfl ?_
    refine TL.nil ?_
    refine hK11 _ _ ?_
    refine E.norm (by simp only [List.set_cons_succ, List.set_cons_zero]; rfl) ?_
    refine wp_ret ?_
    refine E.ret _ (Rs.t (Value.bool true) rfl rfl) ?_
    exact ⟨vbq (right_yes (by omega) hall), hst.keep⟩
end Go.Proofs.Ytafmgghpcneoeaa
