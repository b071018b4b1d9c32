/- Walks, printed by wip/tools/gen.py: what each function comes to. -/
import Derived.Test.YtafmgghpcneoeaaTyp
import Derived.Test.YtafmgghpcneoeaaProg
import Derived.KernelRfl

namespace Go.Proofs.Ytafmgghpcneoeaa
open Go Go.RowKit
set_option maxRecDepth 100000
set_option maxHeartbeats 2000000

theorem fork_new (w0 : World) : Calls Try.prog 16 #[] w0 (Ret fun v w => ∃ p bk bt qk qt, v = .pointer (some ⟨p, 0, none⟩) ∧ MO adrC NA [] qk ∧ MO adrC NA [] qt ∧ St Non w0 w g0 [(p, .cells ([Value.map (some bk)] ++ [Value.map (some bt)]).toArray 136 (0, 0)), (bk, qk), (bt, qt)]) := by
  go_enter Try.func16, Try.ntmps16
  change Code.wp _ _ _ (F [undef, undef, undef, undef, undef]) _
  have hst := St.start Non (has0 w0)
  refine E.seq (fun K1 hK1 => ?_)
  refine rg ?_
  refine TL.assign (Value.pointer none) rfl rfl ?_
  refine TL.nil ?_
  refine hK1 _ _ ?_
  refine E.norm (by simp only [List.set_cons_succ, List.set_cons_zero]; rfl) ?_
  refine E.seq (fun K2 hK2 => ?_)
  refine rg ?_
  refine TL.makeMap adrC NA hst rfl ?_
  intro w n1 q2 hmq2 hst
  refine ⟨trivial, ?_⟩
  refine TL.makeMap adrC NA hst rfl ?_
  intro w n3 q4 hmq4 hst
  refine ⟨trivial, ?_⟩
  refine TL.buildS (ps := [(0, Value.map (some n1)), (1, Value.map (some n3))]) bs136 zv136 rfl (Fl.cons (vs := [Value.map (some n1)]) rfl rfl (Put.here (by simp)) (Fl.cons (vs := [Value.map (some n3)]) rfl rfl (Put.skip (m := 1) (by simp) (Put.all (by simp))) (Fl.nil _))) rfl ?_
  refine TL.norm (by simp only [List.set_cons_succ, List.set_cons_zero]; rfl) ?_
  refine TL.box (vs := [Value.map (some n1)] ++ ([Value.map (some n3)])) hst rfl rfl ?_
  intro w n5 hst
  refine ⟨trivial, ?_⟩
  refine TL.assign (Value.pointer (some ⟨n5, 0, none⟩)) rfl rfl ?_
  refine TL.nil ?_
  refine hK2 _ _ ?_
  refine E.norm (by simp only [List.set_cons_succ, List.set_cons_zero]; rfl) ?_
  refine wp_ret ?_
  refine E.ret _ (Rs.t (Value.pointer (some ⟨n5, 0, none⟩)) rfl rfl) ?_
  exact ⟨_, _, _, _, _, rfl, hmq2, hmq4, hst.perm (List.Perm.cons _ (List.Perm.swap _ _ _))⟩

theorem want_asked (p bk bt : Nat) (qk qt : Obj) (K T : Pairs) (hqk : MO adrC NA K qk) (hqt : MO adrC NA T qt) (a : Nat) (ha : a < NA) (g : Gh) (w0 : World) (h0 : St (Mof [(p, .cells ([Value.map (some bk)] ++ [Value.map (some bt)]).toArray 136 (0, 0)), (bk, qk), (bt, qt)]) w0 w0 g [(p, .cells ([Value.map (some bk)] ++ [Value.map (some bt)]).toArray 136 (0, 0)), (bk, qk), (bt, qt)]) (n : Int) (hk : mget K a = none) (ht : mget T a = some (.int .i64 n)) : Calls Try.prog 18 #[.pointer (some ⟨p, 0, none⟩), .agg (adrC a).toArray] w0 (Ret fun v w => v = .int .u8 2 ∧ ∃ qk' qt', MO adrC NA (K) qk' ∧ MO adrC NA (T) qt' ∧ St (Mof [(p, .cells ([Value.map (some bk)] ++ [Value.map (some bt)]).toArray 136 (0, 0)), (bk, qk), (bt, qt)]) w0 w g [(p, .cells ([Value.map (some bk)] ++ [Value.map (some bt)]).toArray 136 (0, 0)), (bk, qk'), (bt, qt')]) := by
  go_enter Try.func18, Try.ntmps18
  change Code.wp _ _ _ (F [Value.pointer (some ⟨p, 0, none⟩), Value.agg (adrC a).toArray, undef, undef, undef, undef, undef, undef, undef, undef, undef, undef, undef, undef, undef, undef, undef, undef, undef, undef, undef, undef, undef, undef, undef, undef, undef, undef, undef, undef, undef, undef, undef, undef, undef, undef]) _
  have hst := h0
  refine E.seq (fun K1 hK1 => ?_)
  refine rg ?_
  refine TL.box (vs := adrC a) hst rfl rfl ?_
  intro w n1 hst
  refine ⟨trivial, ?_⟩
  refine TL.assign (Value.int .u8 0) rfl rfl ?_
  refine TL.nil ?_
  refine hK1 _ _ ?_
  refine E.norm (by simp only [List.set_cons_succ, List.set_cons_zero]; rfl) ?_
  refine E.seq (fun K2 hK2 => ?_)
  refine E.seq (fun K3 hK3 => ?_)
  refine rg ?_
  refine TL.move (Value.pointer (some ⟨p, 0, none⟩)) rfl rfl ?_
  refine TL.ptrNil false Try.underlying36 rfl rfl (.inl ⟨rfl, rfl⟩) rfl ?_
  refine TL.nil ?_
  refine hK3 _ _ ?_
  refine E.norm (by simp only [List.set_cons_succ, List.set_cons_zero]; rfl) ?_
  refine E.condF rfl ?_
  refine wp_skip ?_
  refine hK2 _ _ ?_
  refine E.seq (fun K4 hK4 => ?_)
  refine E.seq (fun K5 hK5 => ?_)
  refine rgS (fun w' => St (Mof [(p, .cells ([Value.map (some bk)] ++ [Value.map (some bt)]).toArray 136 (0, 0)), (bk, qk), (bt, qt)]) w0 w' g [(n1, .cells (adrC a).toArray 28 (0, 0)), (p, .cells ([Value.map (some bk)] ++ ([Value.map (some bt)])).toArray 136 (0, 0)), (bk, qk), (bt, qt)]) mixed #[0, 1, 3, 7, 0, 31, 63, 127, 127, 0, 767, 2047] (by kernel_rfl) hst.drew ?_
  replace hst := hst.drew
  refine TL.move (Value.pointer (some ⟨p, 0, none⟩)) rfl rfl ?_
  refine TL.nilCheck rfl rfl ?_
  refine TL.fieldAddr fa136_0 rfl rfl ?_
  refine TL.norm (by simp only [List.set_cons_succ, List.set_cons_zero]; rfl) ?_
  refine TL.ldL1 1 p (0) (Value.map (some bk)) (fun _ h => h) rfl (Seg.here _ _) ts133 rfl rfl ?_
  refine TL.ldL 0 n1 (0) (adrC a) (fun _ h => h) rfl (Seg.all _) ta28 rfl rfl ?_
  refine TL.lookOkN (i := 2) (Value.agg (adrC 0 ++ ([Value.int .u64 0] ++ (wdC 0 ++ ([Value.slice none 0 0] ++ ([Value.slice none 0 0]))))).toArray) hk Try.underlying133 kt28 (fun _ h => h) rfl hqk (ha) zi34 rfl rfl rfl ?_
  refine TL.norm (by simp only [List.set_cons_succ, List.set_cons_zero]; rfl) ?_
  refine TL.move (Value.tuple #[Value.agg (adrC 0 ++ ([Value.int .u64 0] ++ (wdC 0 ++ ([Value.slice none 0 0] ++ ([Value.slice none 0 0]))))).toArray, Value.bool false]) rfl rfl ?_
  refine TL.extract (Value.agg (adrC 0 ++ ([Value.int .u64 0] ++ (wdC 0 ++ ([Value.slice none 0 0] ++ ([Value.slice none 0 0]))))).toArray) rfl rfl rfl ?_
  refine TL.extract (Value.bool false) rfl rfl rfl ?_
  refine TL.norm (by simp only [List.set_cons_succ, List.set_cons_zero]; rfl) ?_
  refine TL.alloc hst zv34 rfl ?_
  intro w n2 hst
  refine ⟨(hst).sub (.cons _ (List.Sublist.refl _)), ?_⟩
  refine TL.st 0 n2 (0) (vs := adrC 0 ++ ([Value.int .u64 0] ++ (wdC 0 ++ ([Value.slice none 0 0] ++ ([Value.slice none 0 0]))))) hst rfl (Put.all (by simp)) rfl (One.app (One.adr _) (One.app (One.one rfl) (One.app (One.wd _) (One.app (One.one rfl) (One.one rfl))))) tz34 rfl rfl ?_
  intro w hst
  refine ⟨(hst).sub (.cons _ (List.Sublist.refl _)), ?_⟩
  refine TL.assign (Value.bool false) rfl rfl ?_
  refine TL.nil ?_
  refine hK5 _ _ ?_
  refine E.norm (by simp only [List.set_cons_succ, List.set_cons_zero]; rfl) ?_
  refine E.seq (fun K6 hK6 => ?_)
  refine rg ?_
  refine TL.move (Value.bool false) rfl rfl ?_
  refine TL.nil ?_
  refine hK6 _ _ ?_
  refine E.norm (by simp only [List.set_cons_succ, List.set_cons_zero]; rfl) ?_
  refine E.condF rfl ?_
  refine wp_skip ?_
  refine hK4 _ _ ?_
  refine E.seq (fun K7 hK7 => ?_)
  refine E.seq (fun K8 hK8 => ?_)
  refine rgD mixed #[0, 1, 3, 7, 0, 31, 63, 127, 127, 255, 1023] (by kernel_rfl) ?_
  replace hst := hst.drew
  refine TL.move (Value.pointer (some ⟨p, 0, none⟩)) rfl rfl ?_
  refine TL.nilCheck rfl rfl ?_
  refine TL.fieldAddr fa136_1 rfl rfl ?_
  refine TL.norm (by simp only [List.set_cons_succ, List.set_cons_zero]; rfl) ?_
  refine TL.ldL1 2 p (1 + (0)) (Value.map (some bt)) (fun _ h => h ▸ hst) rfl (Seg.skip (m := 1) (by simp) (Seg.all _)) ts134 rfl rfl ?_
  refine TL.ldL 1 n1 (0) (adrC a) (fun _ h => h ▸ hst) rfl (Seg.all _) ta28 rfl rfl ?_
  refine TL.lookOkS (i := 4) (Value.int .i64 0) (Value.int .i64 n) ht Try.underlying134 kt28 (fun _ h => h ▸ hst) rfl hqt (ha) zi3 rfl rfl rfl ?_
  refine TL.norm (by simp only [List.set_cons_succ, List.set_cons_zero]; rfl) ?_
  refine TL.move (Value.tuple #[Value.int .i64 n, Value.bool true]) rfl rfl ?_
  refine TL.extract (Value.int .i64 n) rfl rfl rfl ?_
  refine TL.extract (Value.bool true) rfl rfl rfl ?_
  refine TL.norm (by simp only [List.set_cons_succ, List.set_cons_zero]; rfl) ?_
  refine TL.assign (Value.int .i64 n) rfl rfl ?_
  refine TL.assign (Value.bool true) rfl rfl ?_
  refine TL.nil ?_
  refine hK8 _ _ ?_
  refine E.norm (by simp only [List.set_cons_succ, List.set_cons_zero]; rfl) ?_
  refine E.seq (fun K9 hK9 => ?_)
  refine rg ?_
  refine TL.move (Value.bool true) rfl rfl ?_
  refine TL.nil ?_
  refine hK9 _ _ ?_
  refine E.norm (by simp only [List.set_cons_succ, List.set_cons_zero]; rfl) ?_
  refine E.condT rfl ?_
  refine E.seq (fun K10 hK10 => ?_)
  refine rg ?_
  refine TL.assign (Value.int .u8 2) rfl rfl ?_
  refine TL.nil ?_
  refine hK10 _ _ ?_
  refine E.norm (by simp only [List.set_cons_succ, List.set_cons_zero]; rfl) ?_
  refine wp_ret ?_
  refine E.ret _ (Rs.t (Value.int .u8 2) rfl rfl) ?_
  exact ⟨rfl, _, _, hqk, hqt, hst.sub (.cons _ (.cons _ (.refl _)))⟩

theorem want_new (p bk bt : Nat) (qk qt : Obj) (K T : Pairs) (hqk : MO adrC NA K qk) (hqt : MO adrC NA T qt) (a : Nat) (ha : a < NA) (g : Gh) (w0 : World) (h0 : St (Mof [(p, .cells ([Value.map (some bk)] ++ [Value.map (some bt)]).toArray 136 (0, 0)), (bk, qk), (bt, qt)]) w0 w0 g [(p, .cells ([Value.map (some bk)] ++ [Value.map (some bt)]).toArray 136 (0, 0)), (bk, qk), (bt, qt)]) (hk : mget K a = none) (ht : mget T a = none) : Calls Try.prog 18 #[.pointer (some ⟨p, 0, none⟩), .agg (adrC a).toArray] w0 (Ret fun v w => v = .int .u8 3 ∧ ∃ qk' qt', MO adrC NA (K) qk' ∧ MO adrC NA (mset T a (.int .i64 0)) qt' ∧ St (Mof [(p, .cells ([Value.map (some bk)] ++ [Value.map (some bt)]).toArray 136 (0, 0)), (bk, qk), (bt, qt)]) w0 w g [(p, .cells ([Value.map (some bk)] ++ [Value.map (some bt)]).toArray 136 (0, 0)), (bk, qk'), (bt, qt')]) := by
  go_enter Try.func18, Try.ntmps18
  change Code.wp _ _ _ (F [Value.pointer (some ⟨p, 0, none⟩), Value.agg (adrC a).toArray, undef, undef, undef, undef, undef, undef, undef, undef, undef, undef, undef, undef, undef, undef, undef, undef, undef, undef, undef, undef, undef, undef, undef, undef, undef, undef, undef, undef, undef, undef, undef, undef, undef, undef]) _
  have hst := h0
  refine E.seq (fun K1 hK1 => ?_)
  refine rg ?_
  refine TL.box (vs := adrC a) hst rfl rfl ?_
  intro w n1 hst
  refine ⟨trivial, ?_⟩
  refine TL.assign (Value.int .u8 0) rfl rfl ?_
  refine TL.nil ?_
  refine hK1 _ _ ?_
  refine E.norm (by simp only [List.set_cons_succ, List.set_cons_zero]; rfl) ?_
  refine E.seq (fun K2 hK2 => ?_)
  refine E.seq (fun K3 hK3 => ?_)
  refine rg ?_
  refine TL.move (Value.pointer (some ⟨p, 0, none⟩)) rfl rfl ?_
  refine TL.ptrNil false Try.underlying36 rfl rfl (.inl ⟨rfl, rfl⟩) rfl ?_
  refine TL.nil ?_
  refine hK3 _ _ ?_
  refine E.norm (by simp only [List.set_cons_succ, List.set_cons_zero]; rfl) ?_
  refine E.condF rfl ?_
  refine wp_skip ?_
  refine hK2 _ _ ?_
  refine E.seq (fun K4 hK4 => ?_)
  refine E.seq (fun K5 hK5 => ?_)
  refine rgS (fun w' => St (Mof [(p, .cells ([Value.map (some bk)] ++ [Value.map (some bt)]).toArray 136 (0, 0)), (bk, qk), (bt, qt)]) w0 w' g [(n1, .cells (adrC a).toArray 28 (0, 0)), (p, .cells ([Value.map (some bk)] ++ ([Value.map (some bt)])).toArray 136 (0, 0)), (bk, qk), (bt, qt)]) mixed #[0, 1, 3, 7, 0, 31, 63, 127, 127, 0, 767, 2047] (by kernel_rfl) hst.drew ?_
  replace hst := hst.drew
  refine TL.move (Value.pointer (some ⟨p, 0, none⟩)) rfl rfl ?_
  refine TL.nilCheck rfl rfl ?_
  refine TL.fieldAddr fa136_0 rfl rfl ?_
  refine TL.norm (by simp only [List.set_cons_succ, List.set_cons_zero]; rfl) ?_
  refine TL.ldL1 1 p (0) (Value.map (some bk)) (fun _ h => h) rfl (Seg.here _ _) ts133 rfl rfl ?_
  refine TL.ldL 0 n1 (0) (adrC a) (fun _ h => h) rfl (Seg.all _) ta28 rfl rfl ?_
  refine TL.lookOkN (i := 2) (Value.agg (adrC 0 ++ ([Value.int .u64 0] ++ (wdC 0 ++ ([Value.slice none 0 0] ++ ([Value.slice none 0 0]))))).toArray) hk Try.underlying133 kt28 (fun _ h => h) rfl hqk (ha) zi34 rfl rfl rfl ?_
  refine TL.norm (by simp only [List.set_cons_succ, List.set_cons_zero]; rfl) ?_
  refine TL.move (Value.tuple #[Value.agg (adrC 0 ++ ([Value.int .u64 0] ++ (wdC 0 ++ ([Value.slice none 0 0] ++ ([Value.slice none 0 0]))))).toArray, Value.bool false]) rfl rfl ?_
  refine TL.extract (Value.agg (adrC 0 ++ ([Value.int .u64 0] ++ (wdC 0 ++ ([Value.slice none 0 0] ++ ([Value.slice none 0 0]))))).toArray) rfl rfl rfl ?_
  refine TL.extract (Value.bool false) rfl rfl rfl ?_
  refine TL.norm (by simp only [List.set_cons_succ, List.set_cons_zero]; rfl) ?_
  refine TL.alloc hst zv34 rfl ?_
  intro w n2 hst
  refine ⟨(hst).sub (.cons _ (List.Sublist.refl _)), ?_⟩
  refine TL.st 0 n2 (0) (vs := adrC 0 ++ ([Value.int .u64 0] ++ (wdC 0 ++ ([Value.slice none 0 0] ++ ([Value.slice none 0 0]))))) hst rfl (Put.all (by simp)) rfl (One.app (One.adr _) (One.app (One.one rfl) (One.app (One.wd _) (One.app (One.one rfl) (One.one rfl))))) tz34 rfl rfl ?_
  intro w hst
  refine ⟨(hst).sub (.cons _ (List.Sublist.refl _)), ?_⟩
  refine TL.assign (Value.bool false) rfl rfl ?_
  refine TL.nil ?_
  refine hK5 _ _ ?_
  refine E.norm (by simp only [List.set_cons_succ, List.set_cons_zero]; rfl) ?_
  refine E.seq (fun K6 hK6 => ?_)
  refine rg ?_
  refine TL.move (Value.bool false) rfl rfl ?_
  refine TL.nil ?_
  refine hK6 _ _ ?_
  refine E.norm (by simp only [List.set_cons_succ, List.set_cons_zero]; rfl) ?_
  refine E.condF rfl ?_
  refine wp_skip ?_
  refine hK4 _ _ ?_
  refine E.seq (fun K7 hK7 => ?_)
  refine E.seq (fun K8 hK8 => ?_)
  refine rgD mixed #[0, 1, 3, 7, 0, 31, 63, 127, 127, 255, 1023] (by kernel_rfl) ?_
  replace hst := hst.drew
  refine TL.move (Value.pointer (some ⟨p, 0, none⟩)) rfl rfl ?_
  refine TL.nilCheck rfl rfl ?_
  refine TL.fieldAddr fa136_1 rfl rfl ?_
  refine TL.norm (by simp only [List.set_cons_succ, List.set_cons_zero]; rfl) ?_
  refine TL.ldL1 2 p (1 + (0)) (Value.map (some bt)) (fun _ h => h ▸ hst) rfl (Seg.skip (m := 1) (by simp) (Seg.all _)) ts134 rfl rfl ?_
  refine TL.ldL 1 n1 (0) (adrC a) (fun _ h => h ▸ hst) rfl (Seg.all _) ta28 rfl rfl ?_
  refine TL.lookOkN (i := 4) (Value.int .i64 0) ht Try.underlying134 kt28 (fun _ h => h ▸ hst) rfl hqt (ha) zi3 rfl rfl rfl ?_
  refine TL.norm (by simp only [List.set_cons_succ, List.set_cons_zero]; rfl) ?_
  refine TL.move (Value.tuple #[Value.int .i64 0, Value.bool false]) rfl rfl ?_
  refine TL.extract (Value.int .i64 0) rfl rfl rfl ?_
  refine TL.extract (Value.bool false) rfl rfl rfl ?_
  refine TL.norm (by simp only [List.set_cons_succ, List.set_cons_zero]; rfl) ?_
  refine TL.assign (Value.int .i64 0) rfl rfl ?_
  refine TL.assign (Value.bool false) rfl rfl ?_
  refine TL.nil ?_
  refine hK8 _ _ ?_
  refine E.norm (by simp only [List.set_cons_succ, List.set_cons_zero]; rfl) ?_
  refine E.seq (fun K9 hK9 => ?_)
  refine rg ?_
  refine TL.move (Value.bool false) rfl rfl ?_
  refine TL.nil ?_
  refine hK9 _ _ ?_
  refine E.norm (by simp only [List.set_cons_succ, List.set_cons_zero]; rfl) ?_
  refine E.condF rfl ?_
  refine wp_skip ?_
  refine hK7 _ _ ?_
  refine E.seq (fun K10 hK10 => ?_)
  refine rgD mixed #[0, 1, 3, 7, 0, 31] (by kernel_rfl) ?_
  replace hst := hst.drew
  refine TL.move (Value.pointer (some ⟨p, 0, none⟩)) rfl rfl ?_
  refine TL.nilCheck rfl rfl ?_
  refine TL.fieldAddr fa136_1 rfl rfl ?_
  refine TL.norm (by simp only [List.set_cons_succ, List.set_cons_zero]; rfl) ?_
  refine TL.ldL1 2 p (1 + (0)) (Value.map (some bt)) (fun _ h => h ▸ hst) rfl (Seg.skip (m := 1) (by simp) (Seg.all _)) ts134 rfl rfl ?_
  refine TL.ldL 1 n1 (0) (adrC a) (fun _ h => h ▸ hst) rfl (Seg.all _) ta28 rfl rfl ?_
  refine TL.mset (i := 4) (Value.int .i64 0) Try.underlying134 kt28 hst rfl hqt (ha) rfl rfl rfl rfl ?_
  intro w q3 hmq3 hst
  refine ⟨trivial, ?_⟩
  refine TL.nil ?_
  refine hK10 _ _ ?_
  refine E.norm (by simp only [List.set_cons_succ, List.set_cons_zero]; rfl) ?_
  refine E.seq (fun K11 hK11 => ?_)
  refine rg ?_
  refine TL.assign (Value.int .u8 3) rfl rfl ?_
  refine TL.nil ?_
  refine hK11 _ _ ?_
  refine E.norm (by simp only [List.set_cons_succ, List.set_cons_zero]; rfl) ?_
  refine wp_ret ?_
  refine E.ret _ (Rs.t (Value.int .u8 3) rfl rfl) ?_
  exact ⟨rfl, _, _, hqk, hmq3, hst.sub (.cons _ (.cons _ (.refl _)))⟩

theorem want_known (p bk bt : Nat) (qk qt : Obj) (K T : Pairs) (hqk : MO adrC NA K qk) (hqt : MO adrC NA T qt) (a : Nat) (ha : a < NA) (g : Gh) (w0 : World) (h0 : St (Mof [(p, .cells ([Value.map (some bk)] ++ [Value.map (some bt)]).toArray 136 (0, 0)), (bk, qk), (bt, qt)]) w0 w0 g [(p, .cells ([Value.map (some bk)] ++ [Value.map (some bt)]).toArray 136 (0, 0)), (bk, qk), (bt, qt)]) (x : AV) (hone1 : One [x.code]) (hone2 : One [x.stor]) (hk : mget K a = some (.agg (avC x).toArray)) : Calls Try.prog 18 #[.pointer (some ⟨p, 0, none⟩), .agg (adrC a).toArray] w0 (Ret fun v w => v = .int .u8 1 ∧ ∃ qk' qt', MO adrC NA (K) qk' ∧ MO adrC NA (T) qt' ∧ St (Mof [(p, .cells ([Value.map (some bk)] ++ [Value.map (some bt)]).toArray 136 (0, 0)), (bk, qk), (bt, qt)]) w0 w g [(p, .cells ([Value.map (some bk)] ++ [Value.map (some bt)]).toArray 136 (0, 0)), (bk, qk'), (bt, qt')]) := by
  go_enter Try.func18, Try.ntmps18
  change Code.wp _ _ _ (F [Value.pointer (some ⟨p, 0, none⟩), Value.agg (adrC a).toArray, undef, undef, undef, undef, undef, undef, undef, undef, undef, undef, undef, undef, undef, undef, undef, undef, undef, undef, undef, undef, undef, undef, undef, undef, undef, undef, undef, undef, undef, undef, undef, undef, undef, undef]) _
  have hst := h0
  refine E.seq (fun K1 hK1 => ?_)
  refine rg ?_
  refine TL.box (vs := adrC a) hst rfl rfl ?_
  intro w n1 hst
  refine ⟨trivial, ?_⟩
  refine TL.assign (Value.int .u8 0) rfl rfl ?_
  refine TL.nil ?_
  refine hK1 _ _ ?_
  refine E.norm (by simp only [List.set_cons_succ, List.set_cons_zero]; rfl) ?_
  refine E.seq (fun K2 hK2 => ?_)
  refine E.seq (fun K3 hK3 => ?_)
  refine rg ?_
  refine TL.move (Value.pointer (some ⟨p, 0, none⟩)) rfl rfl ?_
  refine TL.ptrNil false Try.underlying36 rfl rfl (.inl ⟨rfl, rfl⟩) rfl ?_
  refine TL.nil ?_
  refine hK3 _ _ ?_
  refine E.norm (by simp only [List.set_cons_succ, List.set_cons_zero]; rfl) ?_
  refine E.condF rfl ?_
  refine wp_skip ?_
  refine hK2 _ _ ?_
  refine E.seq (fun K4 hK4 => ?_)
  refine E.seq (fun K5 hK5 => ?_)
  refine rgS (fun w' => St (Mof [(p, .cells ([Value.map (some bk)] ++ [Value.map (some bt)]).toArray 136 (0, 0)), (bk, qk), (bt, qt)]) w0 w' g [(n1, .cells (adrC a).toArray 28 (0, 0)), (p, .cells ([Value.map (some bk)] ++ ([Value.map (some bt)])).toArray 136 (0, 0)), (bk, qk), (bt, qt)]) mixed #[0, 1, 3, 7, 0, 31, 63, 127, 127, 0, 767, 2047] (by kernel_rfl) hst.drew ?_
  replace hst := hst.drew
  refine TL.move (Value.pointer (some ⟨p, 0, none⟩)) rfl rfl ?_
  refine TL.nilCheck rfl rfl ?_
  refine TL.fieldAddr fa136_0 rfl rfl ?_
  refine TL.norm (by simp only [List.set_cons_succ, List.set_cons_zero]; rfl) ?_
  refine TL.ldL1 1 p (0) (Value.map (some bk)) (fun _ h => h) rfl (Seg.here _ _) ts133 rfl rfl ?_
  refine TL.ldL 0 n1 (0) (adrC a) (fun _ h => h) rfl (Seg.all _) ta28 rfl rfl ?_
  refine TL.lookOkS (i := 2) (Value.agg (adrC 0 ++ ([Value.int .u64 0] ++ (wdC 0 ++ ([Value.slice none 0 0] ++ ([Value.slice none 0 0]))))).toArray) (Value.agg (adrC x.addr ++ ([Value.int .u64 x.nonce] ++ (wdC x.bal ++ ([x.code] ++ ([x.stor]))))).toArray) hk Try.underlying133 kt28 (fun _ h => h) rfl hqk (ha) zi34 rfl rfl rfl ?_
  refine TL.norm (by simp only [List.set_cons_succ, List.set_cons_zero]; rfl) ?_
  refine TL.move (Value.tuple #[Value.agg (adrC x.addr ++ ([Value.int .u64 x.nonce] ++ (wdC x.bal ++ ([x.code] ++ ([x.stor]))))).toArray, Value.bool true]) rfl rfl ?_
  refine TL.extract (Value.agg (adrC x.addr ++ ([Value.int .u64 x.nonce] ++ (wdC x.bal ++ ([x.code] ++ ([x.stor]))))).toArray) rfl rfl rfl ?_
  refine TL.extract (Value.bool true) rfl rfl rfl ?_
  refine TL.norm (by simp only [List.set_cons_succ, List.set_cons_zero]; rfl) ?_
  refine TL.alloc hst zv34 rfl ?_
  intro w n2 hst
  refine ⟨(hst).sub (.cons _ (List.Sublist.refl _)), ?_⟩
  refine TL.st 0 n2 (0) (vs := adrC x.addr ++ ([Value.int .u64 x.nonce] ++ (wdC x.bal ++ ([x.code] ++ ([x.stor]))))) hst rfl (Put.all (by simp)) rfl (One.app (One.adr _) (One.app (One.one rfl) (One.app (One.wd _) (One.app (hone1) (hone2))))) tz34 rfl rfl ?_
  intro w hst
  refine ⟨(hst).sub (.cons _ (List.Sublist.refl _)), ?_⟩
  refine TL.assign (Value.bool true) rfl rfl ?_
  refine TL.nil ?_
  refine hK5 _ _ ?_
  refine E.norm (by simp only [List.set_cons_succ, List.set_cons_zero]; rfl) ?_
  refine E.seq (fun K6 hK6 => ?_)
  refine rg ?_
  refine TL.move (Value.bool true) rfl rfl ?_
  refine TL.nil ?_
  refine hK6 _ _ ?_
  refine E.norm (by simp only [List.set_cons_succ, List.set_cons_zero]; rfl) ?_
  refine E.condT rfl ?_
  refine E.seq (fun K7 hK7 => ?_)
  refine rg ?_
  refine TL.assign (Value.int .u8 1) rfl rfl ?_
  refine TL.nil ?_
  refine hK7 _ _ ?_
  refine E.norm (by simp only [List.set_cons_succ, List.set_cons_zero]; rfl) ?_
  refine wp_ret ?_
  refine E.ret _ (Rs.t (Value.int .u8 1) rfl rfl) ?_
  exact ⟨rfl, _, _, hqk, hqt, hst.sub (.cons _ (.cons _ (.refl _)))⟩

theorem fail_none (p bk bt : Nat) (qk qt : Obj) (K T : Pairs) (hqk : MO adrC NA K qk) (hqt : MO adrC NA T qt) (a : Nat) (ha : a < NA) (g : Gh) (w0 : World) (h0 : St (Mof [(p, .cells ([Value.map (some bk)] ++ [Value.map (some bt)]).toArray 136 (0, 0)), (bk, qk), (bt, qt)]) w0 w0 g [(p, .cells ([Value.map (some bk)] ++ [Value.map (some bt)]).toArray 136 (0, 0)), (bk, qk), (bt, qt)]) (ht : mget T a = none) : Calls Try.prog 19 #[.pointer (some ⟨p, 0, none⟩), .agg (adrC a).toArray] w0 (Ret fun v w => v = .int .u8 0 ∧ ∃ qk' qt', MO adrC NA (K) qk' ∧ MO adrC NA (T) qt' ∧ St (Mof [(p, .cells ([Value.map (some bk)] ++ [Value.map (some bt)]).toArray 136 (0, 0)), (bk, qk), (bt, qt)]) w0 w g [(p, .cells ([Value.map (some bk)] ++ [Value.map (some bt)]).toArray 136 (0, 0)), (bk, qk'), (bt, qt')]) := by
  go_enter Try.func19, Try.ntmps19
  change Code.wp _ _ _ (F [Value.pointer (some ⟨p, 0, none⟩), Value.agg (adrC a).toArray, undef, undef, undef, undef, undef, undef, undef, undef, undef, undef, undef, undef, undef, undef, undef, undef, undef, undef, undef, undef, undef, undef, undef, undef, undef, undef, undef, undef, undef, undef, undef, undef, undef, undef, undef]) _
  have hst := h0
  refine E.seq (fun K1 hK1 => ?_)
  refine rg ?_
  refine TL.box (vs := adrC a) hst rfl rfl ?_
  intro w n1 hst
  refine ⟨trivial, ?_⟩
  refine TL.assign (Value.int .u8 0) rfl rfl ?_
  refine TL.nil ?_
  refine hK1 _ _ ?_
  refine E.norm (by simp only [List.set_cons_succ, List.set_cons_zero]; rfl) ?_
  refine E.seq (fun K2 hK2 => ?_)
  refine E.seq (fun K3 hK3 => ?_)
  refine rg ?_
  refine TL.move (Value.pointer (some ⟨p, 0, none⟩)) rfl rfl ?_
  refine TL.ptrNil false Try.underlying36 rfl rfl (.inl ⟨rfl, rfl⟩) rfl ?_
  refine TL.nil ?_
  refine hK3 _ _ ?_
  refine E.norm (by simp only [List.set_cons_succ, List.set_cons_zero]; rfl) ?_
  refine E.condF rfl ?_
  refine wp_skip ?_
  refine hK2 _ _ ?_
  refine E.seq (fun K4 hK4 => ?_)
  refine rgD mixed #[0, 1, 3, 7, 0, 31, 63, 127, 127, 255, 1023] (by kernel_rfl) ?_
  replace hst := hst.drew
  refine TL.move (Value.pointer (some ⟨p, 0, none⟩)) rfl rfl ?_
  refine TL.nilCheck rfl rfl ?_
  refine TL.fieldAddr fa136_1 rfl rfl ?_
  refine TL.norm (by simp only [List.set_cons_succ, List.set_cons_zero]; rfl) ?_
  refine TL.ldL1 1 p (1 + (0)) (Value.map (some bt)) (fun _ h => h ▸ hst) rfl (Seg.skip (m := 1) (by simp) (Seg.all _)) ts134 rfl rfl ?_
  refine TL.ldL 0 n1 (0) (adrC a) (fun _ h => h ▸ hst) rfl (Seg.all _) ta28 rfl rfl ?_
  refine TL.lookOkN (i := 3) (Value.int .i64 0) ht Try.underlying134 kt28 (fun _ h => h ▸ hst) rfl hqt (ha) zi3 rfl rfl rfl ?_
  refine TL.norm (by simp only [List.set_cons_succ, List.set_cons_zero]; rfl) ?_
  refine TL.move (Value.tuple #[Value.int .i64 0, Value.bool false]) rfl rfl ?_
  refine TL.extract (Value.int .i64 0) rfl rfl rfl ?_
  refine TL.extract (Value.bool false) rfl rfl rfl ?_
  refine TL.norm (by simp only [List.set_cons_succ, List.set_cons_zero]; rfl) ?_
  refine TL.assign (Value.int .i64 0) rfl rfl ?_
  refine TL.assign (Value.bool false) rfl rfl ?_
  refine TL.nil ?_
  refine hK4 _ _ ?_
  refine E.norm (by simp only [List.set_cons_succ, List.set_cons_zero]; rfl) ?_
  refine E.seq (fun K5 hK5 => ?_)
  refine wp_block ?_
  refine E.seq (fun K6 hK6 => ?_)
  refine rg ?_
  refine TL.move (Value.bool false) rfl rfl ?_
  refine TL.notB rfl rfl ?_
  refine TL.assign (Value.bool true) rfl rfl ?_
  refine TL.nil ?_
  refine hK6 _ _ ?_
  refine E.norm (by simp only [List.set_cons_succ, List.set_cons_zero]; rfl) ?_
  refine E.condT rfl ?_
  refine E.seq (fun K7 hK7 => ?_)
  refine rg ?_
  refine TL.assign (Value.int .u8 0) rfl rfl ?_
  refine TL.nil ?_
  refine hK7 _ _ ?_
  refine E.norm (by simp only [List.set_cons_succ, List.set_cons_zero]; rfl) ?_
  refine wp_ret ?_
  refine E.ret _ (Rs.t (Value.int .u8 0) rfl rfl) ?_
  exact ⟨rfl, _, _, hqk, hqt, hst.sub (.cons _ (.refl _))⟩

theorem fail_some (p bk bt : Nat) (qk qt : Obj) (K T : Pairs) (hqk : MO adrC NA K qk) (hqt : MO adrC NA T qt) (a : Nat) (ha : a < NA) (g : Gh) (w0 : World) (h0 : St (Mof [(p, .cells ([Value.map (some bk)] ++ [Value.map (some bt)]).toArray 136 (0, 0)), (bk, qk), (bt, qt)]) w0 w0 g [(p, .cells ([Value.map (some bk)] ++ [Value.map (some bt)]).toArray 136 (0, 0)), (bk, qk), (bt, qt)]) (n : Int) (hn : 0 ≤ n ∧ n < 100) (ht : mget T a = some (.int .i64 n)) : Calls Try.prog 19 #[.pointer (some ⟨p, 0, none⟩), .agg (adrC a).toArray] w0 (Ret fun v w => v = .int .u8 (if n + 1 = 8 then 5 else 4) ∧ ∃ qk' qt', MO adrC NA (K) qk' ∧ MO adrC NA (if n + 1 = 8 then mdel T a else mset T a (.int .i64 (n + 1))) qt' ∧ St (Mof [(p, .cells ([Value.map (some bk)] ++ [Value.map (some bt)]).toArray 136 (0, 0)), (bk, qk), (bt, qt)]) w0 w g [(p, .cells ([Value.map (some bk)] ++ [Value.map (some bt)]).toArray 136 (0, 0)), (bk, qk'), (bt, qt')]) := by
  go_enter Try.func19, Try.ntmps19
  change Code.wp _ _ _ (F [Value.pointer (some ⟨p, 0, none⟩), Value.agg (adrC a).toArray, undef, undef, undef, undef, undef, undef, undef, undef, undef, undef, undef, undef, undef, undef, undef, undef, undef, undef, undef, undef, undef, undef, undef, undef, undef, undef, undef, undef, undef, undef, undef, undef, undef, undef, undef]) _
  have hst := h0
  refine E.seq (fun K1 hK1 => ?_)
  refine rg ?_
  refine TL.box (vs := adrC a) hst rfl rfl ?_
  intro w n1 hst
  refine ⟨trivial, ?_⟩
  refine TL.assign (Value.int .u8 0) rfl rfl ?_
  refine TL.nil ?_
  refine hK1 _ _ ?_
  refine E.norm (by simp only [List.set_cons_succ, List.set_cons_zero]; rfl) ?_
  refine E.seq (fun K2 hK2 => ?_)
  refine E.seq (fun K3 hK3 => ?_)
  refine rg ?_
  refine TL.move (Value.pointer (some ⟨p, 0, none⟩)) rfl rfl ?_
  refine TL.ptrNil false Try.underlying36 rfl rfl (.inl ⟨rfl, rfl⟩) rfl ?_
  refine TL.nil ?_
  refine hK3 _ _ ?_
  refine E.norm (by simp only [List.set_cons_succ, List.set_cons_zero]; rfl) ?_
  refine E.condF rfl ?_
  refine wp_skip ?_
  refine hK2 _ _ ?_
  refine E.seq (fun K4 hK4 => ?_)
  refine rgD mixed #[0, 1, 3, 7, 0, 31, 63, 127, 127, 255, 1023] (by kernel_rfl) ?_
  replace hst := hst.drew
  refine TL.move (Value.pointer (some ⟨p, 0, none⟩)) rfl rfl ?_
  refine TL.nilCheck rfl rfl ?_
  refine TL.fieldAddr fa136_1 rfl rfl ?_
  refine TL.norm (by simp only [List.set_cons_succ, List.set_cons_zero]; rfl) ?_
  refine TL.ldL1 1 p (1 + (0)) (Value.map (some bt)) (fun _ h => h ▸ hst) rfl (Seg.skip (m := 1) (by simp) (Seg.all _)) ts134 rfl rfl ?_
  refine TL.ldL 0 n1 (0) (adrC a) (fun _ h => h ▸ hst) rfl (Seg.all _) ta28 rfl rfl ?_
  refine TL.lookOkS (i := 3) (Value.int .i64 0) (Value.int .i64 n) ht Try.underlying134 kt28 (fun _ h => h ▸ hst) rfl hqt (ha) zi3 rfl rfl rfl ?_
  refine TL.norm (by simp only [List.set_cons_succ, List.set_cons_zero]; rfl) ?_
  refine TL.move (Value.tuple #[Value.int .i64 n, Value.bool true]) rfl rfl ?_
  refine TL.extract (Value.int .i64 n) rfl rfl rfl ?_
  refine TL.extract (Value.bool true) rfl rfl rfl ?_
  refine TL.norm (by simp only [List.set_cons_succ, List.set_cons_zero]; rfl) ?_
  refine TL.assign (Value.int .i64 n) rfl rfl ?_
  refine TL.assign (Value.bool true) rfl rfl ?_
  refine TL.nil ?_
  refine hK4 _ _ ?_
  refine E.norm (by simp only [List.set_cons_succ, List.set_cons_zero]; rfl) ?_
  refine E.seq (fun K5 hK5 => ?_)
  refine wp_block ?_
  refine E.seq (fun K6 hK6 => ?_)
  refine rg ?_
  refine TL.move (Value.bool true) rfl rfl ?_
  refine TL.notB rfl rfl ?_
  refine TL.assign (Value.bool false) rfl rfl ?_
  refine TL.nil ?_
  refine hK6 _ _ ?_
  refine E.norm (by simp only [List.set_cons_succ, List.set_cons_zero]; rfl) ?_
  refine E.condF rfl ?_
  refine E.seq (fun K7 hK7 => ?_)
  refine rg ?_
  refine TL.move (Value.int .i64 n) rfl rfl ?_
  refine TL.add (n + 1) rfl rfl (by dsimp only [inR]; omega) rfl ?_
  refine TL.eqlI rfl rfl rfl ?_
  refine TL.norm (by simp only [List.set_cons_succ, List.set_cons_zero]; rfl) ?_
  refine TL.assign (Value.bool ((n + 1) == 8)) rfl rfl ?_
  refine TL.nil ?_
  refine hK7 _ _ ?_
  refine E.norm (by simp only [List.set_cons_succ, List.set_cons_zero]; rfl) ?_
  refine E.cond rfl (fun hc1 => ?_) (fun hc1 => ?_)
  · replace hc1 := eq_of_beq hc1
    refine E.seq (fun K8 hK8 => ?_)
    refine rgD mixed #[0, 1, 3, 7, 0, 31] (by kernel_rfl) ?_
    replace hst := hst.drew
    refine TL.move (Value.pointer (some ⟨p, 0, none⟩)) rfl rfl ?_
    refine TL.nilCheck rfl rfl ?_
    refine TL.fieldAddr fa136_1 rfl rfl ?_
    refine TL.norm (by simp only [List.set_cons_succ, List.set_cons_zero]; rfl) ?_
    refine TL.ldL1 1 p (1 + (0)) (Value.map (some bt)) (fun _ h => h ▸ hst) rfl (Seg.skip (m := 1) (by simp) (Seg.all _)) ts134 rfl rfl ?_
    refine TL.ldL 0 n1 (0) (adrC a) (fun _ h => h ▸ hst) rfl (Seg.all _) ta28 rfl rfl ?_
    refine TL.mdel (i := 3) Try.underlying134 kt28 hst rfl hqt (ha) rfl rfl rfl ?_
    intro w q2 hmq2 hst
    refine ⟨trivial, ?_⟩
    refine TL.nil ?_
    refine hK8 _ _ ?_
    refine E.norm (by simp only [List.set_cons_succ, List.set_cons_zero]; rfl) ?_
    refine E.seq (fun K9 hK9 => ?_)
    refine rg ?_
    refine TL.assign (Value.int .u8 5) rfl rfl ?_
    refine TL.nil ?_
    refine hK9 _ _ ?_
    refine E.norm (by simp only [List.set_cons_succ, List.set_cons_zero]; rfl) ?_
    refine wp_ret ?_
    refine E.ret _ (Rs.t (Value.int .u8 5) rfl rfl) ?_
    refine ⟨veq (by rw [if_pos hc1]), _, _, hqk, ?_, hst.sub (.cons _ (.refl _))⟩
    rw [if_pos hc1]; exact hmq2
  · replace hc1 := ne_of_beq_false hc1
    refine wp_skip ?_
    refine hK5 _ _ ?_
    refine E.seq (fun K10 hK10 => ?_)
    refine rgD mixed #[0, 1, 3, 7, 0, 0, 32, 127] (by kernel_rfl) ?_
    replace hst := hst.drew
    refine TL.move (Value.pointer (some ⟨p, 0, none⟩)) rfl rfl ?_
    refine TL.nilCheck rfl rfl ?_
    refine TL.fieldAddr fa136_1 rfl rfl ?_
    refine TL.norm (by simp only [List.set_cons_succ, List.set_cons_zero]; rfl) ?_
    refine TL.ldL1 1 p (1 + (0)) (Value.map (some bt)) (fun _ h => h ▸ hst) rfl (Seg.skip (m := 1) (by simp) (Seg.all _)) ts134 rfl rfl ?_
    refine TL.ldL 0 n1 (0) (adrC a) (fun _ h => h ▸ hst) rfl (Seg.all _) ta28 rfl rfl ?_
    refine TL.move (Value.int .i64 n) rfl rfl ?_
    refine TL.norm (by simp only [List.set_cons_succ, List.set_cons_zero]; rfl) ?_
    refine TL.add (n + 1) rfl rfl (by dsimp only [inR]; omega) rfl ?_
    refine TL.mset (i := 3) (Value.int .i64 (n + 1)) Try.underlying134 kt28 hst rfl hqt (ha) rfl rfl rfl rfl ?_
    intro w q3 hmq3 hst
    refine ⟨trivial, ?_⟩
    refine TL.nil ?_
    refine hK10 _ _ ?_
    refine E.norm (by simp only [List.set_cons_succ, List.set_cons_zero]; rfl) ?_
    refine E.seq (fun K11 hK11 => ?_)
    refine rg ?_
    refine TL.assign (Value.int .u8 4) rfl rfl ?_
    refine TL.nil ?_
    refine hK11 _ _ ?_
    refine E.norm (by simp only [List.set_cons_succ, List.set_cons_zero]; rfl) ?_
    refine wp_ret ?_
    refine E.ret _ (Rs.t (Value.int .u8 4) rfl rfl) ?_
    refine ⟨veq (by rw [if_neg hc1]), _, _, hqk, ?_, hst.sub (.cons _ (.refl _))⟩
    rw [if_neg hc1]; exact hmq3

theorem fail_more (p bk bt : Nat) (qk qt : Obj) (K T : Pairs) (hqk : MO adrC NA K qk) (hqt : MO adrC NA T qt) (a : Nat) (ha : a < NA) (g : Gh) (w0 : World) (h0 : St (Mof [(p, .cells ([Value.map (some bk)] ++ [Value.map (some bt)]).toArray 136 (0, 0)), (bk, qk), (bt, qt)]) w0 w0 g [(p, .cells ([Value.map (some bk)] ++ [Value.map (some bt)]).toArray 136 (0, 0)), (bk, qk), (bt, qt)]) (n : Int) (hn : 0 ≤ n ∧ n < 100) (h8 : ¬ n + 1 = 8) (ht : mget T a = some (.int .i64 n)) : Calls Try.prog 19 #[.pointer (some ⟨p, 0, none⟩), .agg (adrC a).toArray] w0 (Ret fun v w => v = .int .u8 4 ∧ ∃ qk' qt', MO adrC NA (K) qk' ∧ MO adrC NA (mset T a (.int .i64 (n + 1))) qt' ∧ St (Mof [(p, .cells ([Value.map (some bk)] ++ [Value.map (some bt)]).toArray 136 (0, 0)), (bk, qk), (bt, qt)]) w0 w g [(p, .cells ([Value.map (some bk)] ++ [Value.map (some bt)]).toArray 136 (0, 0)), (bk, qk'), (bt, qt')]) := by
  go_enter Try.func19, Try.ntmps19
  change Code.wp _ _ _ (F [Value.pointer (some ⟨p, 0, none⟩), Value.agg (adrC a).toArray, undef, undef, undef, undef, undef, undef, undef, undef, undef, undef, undef, undef, undef, undef, undef, undef, undef, undef, undef, undef, undef, undef, undef, undef, undef, undef, undef, undef, undef, undef, undef, undef, undef, undef, undef]) _
  have hst := h0
  refine E.seq (fun K1 hK1 => ?_)
  refine rg ?_
  refine TL.box (vs := adrC a) hst rfl rfl ?_
  intro w n1 hst
  refine ⟨trivial, ?_⟩
  refine TL.assign (Value.int .u8 0) rfl rfl ?_
  refine TL.nil ?_
  refine hK1 _ _ ?_
  refine E.norm (by simp only [List.set_cons_succ, List.set_cons_zero]; rfl) ?_
  refine E.seq (fun K2 hK2 => ?_)
  refine E.seq (fun K3 hK3 => ?_)
  refine rg ?_
  refine TL.move (Value.pointer (some ⟨p, 0, none⟩)) rfl rfl ?_
  refine TL.ptrNil false Try.underlying36 rfl rfl (.inl ⟨rfl, rfl⟩) rfl ?_
  refine TL.nil ?_
  refine hK3 _ _ ?_
  refine E.norm (by simp only [List.set_cons_succ, List.set_cons_zero]; rfl) ?_
  refine E.condF rfl ?_
  refine wp_skip ?_
  refine hK2 _ _ ?_
  refine E.seq (fun K4 hK4 => ?_)
  refine rgD mixed #[0, 1, 3, 7, 0, 31, 63, 127, 127, 255, 1023] (by kernel_rfl) ?_
  replace hst := hst.drew
  refine TL.move (Value.pointer (some ⟨p, 0, none⟩)) rfl rfl ?_
  refine TL.nilCheck rfl rfl ?_
  refine TL.fieldAddr fa136_1 rfl rfl ?_
  refine TL.norm (by simp only [List.set_cons_succ, List.set_cons_zero]; rfl) ?_
  refine TL.ldL1 1 p (1 + (0)) (Value.map (some bt)) (fun _ h => h ▸ hst) rfl (Seg.skip (m := 1) (by simp) (Seg.all _)) ts134 rfl rfl ?_
  refine TL.ldL 0 n1 (0) (adrC a) (fun _ h => h ▸ hst) rfl (Seg.all _) ta28 rfl rfl ?_
  refine TL.lookOkS (i := 3) (Value.int .i64 0) (Value.int .i64 n) ht Try.underlying134 kt28 (fun _ h => h ▸ hst) rfl hqt (ha) zi3 rfl rfl rfl ?_
  refine TL.norm (by simp only [List.set_cons_succ, List.set_cons_zero]; rfl) ?_
  refine TL.move (Value.tuple #[Value.int .i64 n, Value.bool true]) rfl rfl ?_
  refine TL.extract (Value.int .i64 n) rfl rfl rfl ?_
  refine TL.extract (Value.bool true) rfl rfl rfl ?_
  refine TL.norm (by simp only [List.set_cons_succ, List.set_cons_zero]; rfl) ?_
  refine TL.assign (Value.int .i64 n) rfl rfl ?_
  refine TL.assign (Value.bool true) rfl rfl ?_
  refine TL.nil ?_
  refine hK4 _ _ ?_
  refine E.norm (by simp only [List.set_cons_succ, List.set_cons_zero]; rfl) ?_
  refine E.seq (fun K5 hK5 => ?_)
  refine wp_block ?_
  refine E.seq (fun K6 hK6 => ?_)
  refine rg ?_
  refine TL.move (Value.bool true) rfl rfl ?_
  refine TL.notB rfl rfl ?_
  refine TL.assign (Value.bool false) rfl rfl ?_
  refine TL.nil ?_
  refine hK6 _ _ ?_
  refine E.norm (by simp only [List.set_cons_succ, List.set_cons_zero]; rfl) ?_
  refine E.condF rfl ?_
  refine E.seq (fun K7 hK7 => ?_)
  refine rg ?_
  refine TL.move (Value.int .i64 n) rfl rfl ?_
  refine TL.add (n + 1) rfl rfl (by dsimp only [inR]; omega) rfl ?_
  refine TL.eqlI rfl rfl rfl ?_
  refine TL.norm (by simp only [List.set_cons_succ, List.set_cons_zero]; rfl) ?_
  refine TL.assign (Value.bool ((n + 1) == 8)) rfl rfl ?_
  refine TL.nil ?_
  refine hK7 _ _ ?_
  refine E.norm (by simp only [List.set_cons_succ, List.set_cons_zero]; rfl) ?_
  refine E.cond rfl (fun hc1 => ?_) (fun hc1 => ?_)
  · replace hc1 := eq_of_beq hc1
    exact absurd hc1 h8
  · replace hc1 := ne_of_beq_false hc1
    refine wp_skip ?_
    refine hK5 _ _ ?_
    refine E.seq (fun K8 hK8 => ?_)
    refine rgD mixed #[0, 1, 3, 7, 0, 0, 32, 127] (by kernel_rfl) ?_
    replace hst := hst.drew
    refine TL.move (Value.pointer (some ⟨p, 0, none⟩)) rfl rfl ?_
    refine TL.nilCheck rfl rfl ?_
    refine TL.fieldAddr fa136_1 rfl rfl ?_
    refine TL.norm (by simp only [List.set_cons_succ, List.set_cons_zero]; rfl) ?_
    refine TL.ldL1 1 p (1 + (0)) (Value.map (some bt)) (fun _ h => h ▸ hst) rfl (Seg.skip (m := 1) (by simp) (Seg.all _)) ts134 rfl rfl ?_
    refine TL.ldL 0 n1 (0) (adrC a) (fun _ h => h ▸ hst) rfl (Seg.all _) ta28 rfl rfl ?_
    refine TL.move (Value.int .i64 n) rfl rfl ?_
    refine TL.norm (by simp only [List.set_cons_succ, List.set_cons_zero]; rfl) ?_
    refine TL.add (n + 1) rfl rfl (by dsimp only [inR]; omega) rfl ?_
    refine TL.mset (i := 3) (Value.int .i64 (n + 1)) Try.underlying134 kt28 hst rfl hqt (ha) rfl rfl rfl rfl ?_
    intro w q2 hmq2 hst
    refine ⟨trivial, ?_⟩
    refine TL.nil ?_
    refine hK8 _ _ ?_
    refine E.norm (by simp only [List.set_cons_succ, List.set_cons_zero]; rfl) ?_
    refine E.seq (fun K9 hK9 => ?_)
    refine rg ?_
    refine TL.assign (Value.int .u8 4) rfl rfl ?_
    refine TL.nil ?_
    refine hK9 _ _ ?_
    refine E.norm (by simp only [List.set_cons_succ, List.set_cons_zero]; rfl) ?_
    refine wp_ret ?_
    refine E.ret _ (Rs.t (Value.int .u8 4) rfl rfl) ?_
    exact ⟨rfl, _, _, hqk, hmq2, hst.sub (.cons _ (.refl _))⟩

theorem fail_last (p bk bt : Nat) (qk qt : Obj) (K T : Pairs) (hqk : MO adrC NA K qk) (hqt : MO adrC NA T qt) (a : Nat) (ha : a < NA) (g : Gh) (w0 : World) (h0 : St (Mof [(p, .cells ([Value.map (some bk)] ++ [Value.map (some bt)]).toArray 136 (0, 0)), (bk, qk), (bt, qt)]) w0 w0 g [(p, .cells ([Value.map (some bk)] ++ [Value.map (some bt)]).toArray 136 (0, 0)), (bk, qk), (bt, qt)]) (ht : mget T a = some (.int .i64 7)) : Calls Try.prog 19 #[.pointer (some ⟨p, 0, none⟩), .agg (adrC a).toArray] w0 (Ret fun v w => v = .int .u8 5 ∧ ∃ qk' qt', MO adrC NA (K) qk' ∧ MO adrC NA (mdel T a) qt' ∧ St (Mof [(p, .cells ([Value.map (some bk)] ++ [Value.map (some bt)]).toArray 136 (0, 0)), (bk, qk), (bt, qt)]) w0 w g [(p, .cells ([Value.map (some bk)] ++ [Value.map (some bt)]).toArray 136 (0, 0)), (bk, qk'), (bt, qt')]) := by
  go_enter Try.func19, Try.ntmps19
  change Code.wp _ _ _ (F [Value.pointer (some ⟨p, 0, none⟩), Value.agg (adrC a).toArray, undef, undef, undef, undef, undef, undef, undef, undef, undef, undef, undef, undef, undef, undef, undef, undef, undef, undef, undef, undef, undef, undef, undef, undef, undef, undef, undef, undef, undef, undef, undef, undef, undef, undef, undef]) _
  have hst := h0
  refine E.seq (fun K1 hK1 => ?_)
  refine rg ?_
  refine TL.box (vs := adrC a) hst rfl rfl ?_
  intro w n1 hst
  refine ⟨trivial, ?_⟩
  refine TL.assign (Value.int .u8 0) rfl rfl ?_
  refine TL.nil ?_
  refine hK1 _ _ ?_
  refine E.norm (by simp only [List.set_cons_succ, List.set_cons_zero]; rfl) ?_
  refine E.seq (fun K2 hK2 => ?_)
  refine E.seq (fun K3 hK3 => ?_)
  refine rg ?_
  refine TL.move (Value.pointer (some ⟨p, 0, none⟩)) rfl rfl ?_
  refine TL.ptrNil false Try.underlying36 rfl rfl (.inl ⟨rfl, rfl⟩) rfl ?_
  refine TL.nil ?_
  refine hK3 _ _ ?_
  refine E.norm (by simp only [List.set_cons_succ, List.set_cons_zero]; rfl) ?_
  refine E.condF rfl ?_
  refine wp_skip ?_
  refine hK2 _ _ ?_
  refine E.seq (fun K4 hK4 => ?_)
  refine rgD mixed #[0, 1, 3, 7, 0, 31, 63, 127, 127, 255, 1023] (by kernel_rfl) ?_
  replace hst := hst.drew
  refine TL.move (Value.pointer (some ⟨p, 0, none⟩)) rfl rfl ?_
  refine TL.nilCheck rfl rfl ?_
  refine TL.fieldAddr fa136_1 rfl rfl ?_
  refine TL.norm (by simp only [List.set_cons_succ, List.set_cons_zero]; rfl) ?_
  refine TL.ldL1 1 p (1 + (0)) (Value.map (some bt)) (fun _ h => h ▸ hst) rfl (Seg.skip (m := 1) (by simp) (Seg.all _)) ts134 rfl rfl ?_
  refine TL.ldL 0 n1 (0) (adrC a) (fun _ h => h ▸ hst) rfl (Seg.all _) ta28 rfl rfl ?_
  refine TL.lookOkS (i := 3) (Value.int .i64 0) (Value.int .i64 7) ht Try.underlying134 kt28 (fun _ h => h ▸ hst) rfl hqt (ha) zi3 rfl rfl rfl ?_
  refine TL.norm (by simp only [List.set_cons_succ, List.set_cons_zero]; rfl) ?_
  refine TL.move (Value.tuple #[Value.int .i64 7, Value.bool true]) rfl rfl ?_
  refine TL.extract (Value.int .i64 7) rfl rfl rfl ?_
  refine TL.extract (Value.bool true) rfl rfl rfl ?_
  refine TL.norm (by simp only [List.set_cons_succ, List.set_cons_zero]; rfl) ?_
  refine TL.assign (Value.int .i64 7) rfl rfl ?_
  refine TL.assign (Value.bool true) rfl rfl ?_
  refine TL.nil ?_
  refine hK4 _ _ ?_
  refine E.norm (by simp only [List.set_cons_succ, List.set_cons_zero]; rfl) ?_
  refine E.seq (fun K5 hK5 => ?_)
  refine wp_block ?_
  refine E.seq (fun K6 hK6 => ?_)
  refine rg ?_
  refine TL.move (Value.bool true) rfl rfl ?_
  refine TL.notB rfl rfl ?_
  refine TL.assign (Value.bool false) rfl rfl ?_
  refine TL.nil ?_
  refine hK6 _ _ ?_
  refine E.norm (by simp only [List.set_cons_succ, List.set_cons_zero]; rfl) ?_
  refine E.condF rfl ?_
  refine E.seq (fun K7 hK7 => ?_)
  refine rg ?_
  refine TL.move (Value.int .i64 7) rfl rfl ?_
  refine TL.add (7 + 1) rfl rfl (by dsimp only [inR]; omega) rfl ?_
  refine TL.eqlI rfl rfl rfl ?_
  refine TL.norm (by simp only [List.set_cons_succ, List.set_cons_zero]; rfl) ?_
  refine TL.assign (Value.bool ((7 + 1) == 8)) rfl rfl ?_
  refine TL.nil ?_
  refine hK7 _ _ ?_
  refine E.norm (by simp only [List.set_cons_succ, List.set_cons_zero]; rfl) ?_
  refine E.cond rfl (fun hc1 => ?_) (fun hc1 => ?_)
  · replace hc1 := eq_of_beq hc1
    refine E.seq (fun K8 hK8 => ?_)
    refine rgD mixed #[0, 1, 3, 7, 0, 31] (by kernel_rfl) ?_
    replace hst := hst.drew
    refine TL.move (Value.pointer (some ⟨p, 0, none⟩)) rfl rfl ?_
    refine TL.nilCheck rfl rfl ?_
    refine TL.fieldAddr fa136_1 rfl rfl ?_
    refine TL.norm (by simp only [List.set_cons_succ, List.set_cons_zero]; rfl) ?_
    refine TL.ldL1 1 p (1 + (0)) (Value.map (some bt)) (fun _ h => h ▸ hst) rfl (Seg.skip (m := 1) (by simp) (Seg.all _)) ts134 rfl rfl ?_
    refine TL.ldL 0 n1 (0) (adrC a) (fun _ h => h ▸ hst) rfl (Seg.all _) ta28 rfl rfl ?_
    refine TL.mdel (i := 3) Try.underlying134 kt28 hst rfl hqt (ha) rfl rfl rfl ?_
    intro w q2 hmq2 hst
    refine ⟨trivial, ?_⟩
    refine TL.nil ?_
    refine hK8 _ _ ?_
    refine E.norm (by simp only [List.set_cons_succ, List.set_cons_zero]; rfl) ?_
    refine E.seq (fun K9 hK9 => ?_)
    refine rg ?_
    refine TL.assign (Value.int .u8 5) rfl rfl ?_
    refine TL.nil ?_
    refine hK9 _ _ ?_
    refine E.norm (by simp only [List.set_cons_succ, List.set_cons_zero]; rfl) ?_
    refine wp_ret ?_
    refine E.ret _ (Rs.t (Value.int .u8 5) rfl rfl) ?_
    exact ⟨rfl, _, _, hqk, hmq2, hst.sub (.cons _ (.refl _))⟩
  · replace hc1 := ne_of_beq_false hc1
    exact absurd rfl hc1

theorem want_nil (a : Nat) (w0 : World) : Calls Try.prog 18 #[.pointer none, .agg (adrC a).toArray] w0 (Ret fun v w => v = .int .u8 0 ∧ Keep Non w0 w) := by
  go_enter Try.func18, Try.ntmps18
  change Code.wp _ _ _ (F [Value.pointer none, Value.agg (adrC a).toArray, undef, undef, undef, undef, undef, undef, undef, undef, undef, undef, undef, undef, undef, undef, undef, undef, undef, undef, undef, undef, undef, undef, undef, undef, undef, undef, undef, undef, undef, undef, undef, undef, undef, undef]) _
  have hst := St.start Non (has0 w0)
  refine E.seq (fun K1 hK1 => ?_)
  refine rg ?_
  refine TL.box (vs := adrC a) hst rfl rfl ?_
  intro w n1 hst
  refine ⟨trivial, ?_⟩
  refine TL.assign (Value.int .u8 0) rfl rfl ?_
  refine TL.nil ?_
  refine hK1 _ _ ?_
  refine E.norm (by simp only [List.set_cons_succ, List.set_cons_zero]; rfl) ?_
  refine E.seq (fun K2 hK2 => ?_)
  refine E.seq (fun K3 hK3 => ?_)
  refine rg ?_
  refine TL.move (Value.pointer none) rfl rfl ?_
  refine TL.ptrNil true Try.underlying36 rfl rfl (.inl ⟨rfl, rfl⟩) rfl ?_
  refine TL.nil ?_
  refine hK3 _ _ ?_
  refine E.norm (by simp only [List.set_cons_succ, List.set_cons_zero]; rfl) ?_
  refine E.condT rfl ?_
  refine E.seq (fun K4 hK4 => ?_)
  refine rg ?_
  refine TL.assign (Value.int .u8 0) rfl rfl ?_
  refine TL.nil ?_
  refine hK4 _ _ ?_
  refine E.norm (by simp only [List.set_cons_succ, List.set_cons_zero]; rfl) ?_
  refine wp_ret ?_
  refine E.ret _ (Rs.t (Value.int .u8 0) rfl rfl) ?_
  exact ⟨rfl, hst.keep⟩

theorem fail_nil (a : Nat) (w0 : World) : Calls Try.prog 19 #[.pointer none, .agg (adrC a).toArray] w0 (Ret fun v w => v = .int .u8 0 ∧ Keep Non w0 w) := by
  go_enter Try.func19, Try.ntmps19
  change Code.wp _ _ _ (F [Value.pointer none, Value.agg (adrC a).toArray, undef, undef, undef, undef, undef, undef, undef, undef, undef, undef, undef, undef, undef, undef, undef, undef, undef, undef, undef, undef, undef, undef, undef, undef, undef, undef, undef, undef, undef, undef, undef, undef, undef, undef, undef]) _
  have hst := St.start Non (has0 w0)
  refine E.seq (fun K1 hK1 => ?_)
  refine rg ?_
  refine TL.box (vs := adrC a) hst rfl rfl ?_
  intro w n1 hst
  refine ⟨trivial, ?_⟩
  refine TL.assign (Value.int .u8 0) rfl rfl ?_
  refine TL.nil ?_
  refine hK1 _ _ ?_
  refine E.norm (by simp only [List.set_cons_succ, List.set_cons_zero]; rfl) ?_
  refine E.seq (fun K2 hK2 => ?_)
  refine E.seq (fun K3 hK3 => ?_)
  refine rg ?_
  refine TL.move (Value.pointer none) rfl rfl ?_
  refine TL.ptrNil true Try.underlying36 rfl rfl (.inl ⟨rfl, rfl⟩) rfl ?_
  refine TL.nil ?_
  refine hK3 _ _ ?_
  refine E.norm (by simp only [List.set_cons_succ, List.set_cons_zero]; rfl) ?_
  refine E.condT rfl ?_
  refine E.seq (fun K4 hK4 => ?_)
  refine rg ?_
  refine TL.assign (Value.int .u8 0) rfl rfl ?_
  refine TL.nil ?_
  refine hK4 _ _ ?_
  refine E.norm (by simp only [List.set_cons_succ, List.set_cons_zero]; rfl) ?_
  refine wp_ret ?_
  refine E.ret _ (Rs.t (Value.int .u8 0) rfl rfl) ?_
  exact ⟨rfl, hst.keep⟩

theorem tries_nil (a : Nat) (w0 : World) : Calls Try.prog 31 #[.pointer none, .agg (adrC a).toArray] w0 (Ret fun v w => v = .int .i64 0 ∧ Keep Non w0 w) := by
  go_enter Try.func31, Try.ntmps31
  change Code.wp _ _ _ (F [Value.pointer none, Value.agg (adrC a).toArray, undef, undef, undef, undef, undef, undef, undef, undef, undef, undef, undef]) _
  have hst := St.start Non (has0 w0)
  refine E.seq (fun K1 hK1 => ?_)
  refine rg ?_
  refine TL.box (vs := adrC a) hst rfl rfl ?_
  intro w n1 hst
  refine ⟨trivial, ?_⟩
  refine TL.assign (Value.int .i64 0) rfl rfl ?_
  refine TL.nil ?_
  refine hK1 _ _ ?_
  refine E.norm (by simp only [List.set_cons_succ, List.set_cons_zero]; rfl) ?_
  refine E.seq (fun K2 hK2 => ?_)
  refine E.seq (fun K3 hK3 => ?_)
  refine rg ?_
  refine TL.move (Value.pointer none) rfl rfl ?_
  refine TL.ptrNil true Try.underlying36 rfl rfl (.inl ⟨rfl, rfl⟩) rfl ?_
  refine TL.nil ?_
  refine hK3 _ _ ?_
  refine E.norm (by simp only [List.set_cons_succ, List.set_cons_zero]; rfl) ?_
  refine E.condT rfl ?_
  refine E.seq (fun K4 hK4 => ?_)
  refine rg ?_
  refine TL.assign (Value.int .i64 0) rfl rfl ?_
  refine TL.nil ?_
  refine hK4 _ _ ?_
  refine E.norm (by simp only [List.set_cons_succ, List.set_cons_zero]; rfl) ?_
  refine wp_ret ?_
  refine E.ret _ (Rs.t (Value.int .i64 0) rfl rfl) ?_
  exact ⟨rfl, hst.keep⟩

theorem known_nil (w0 : World) : Calls Try.prog 32 #[.pointer none] w0 (Ret fun v w => v = .slice none 0 0 ∧ Keep Non w0 w) := by
  go_enter Try.func32, Try.ntmps32
  change Code.wp _ _ _ (F [Value.pointer none, undef, undef, undef, undef, undef, undef, undef, undef, undef, undef, undef, undef, undef, undef, undef, undef, undef, undef, undef, undef, undef, undef, undef]) _
  have hst := St.start Non (has0 w0)
  refine E.seq (fun K1 hK1 => ?_)
  refine rg ?_
  refine TL.assign (Value.slice none 0 0) rfl rfl ?_
  refine TL.nil ?_
  refine hK1 _ _ ?_
  refine E.norm (by simp only [List.set_cons_succ, List.set_cons_zero]; rfl) ?_
  refine E.seq (fun K2 hK2 => ?_)
  refine rg ?_
  refine TL.assign (Value.slice none 0 0) rfl rfl ?_
  refine TL.nil ?_
  refine hK2 _ _ ?_
  refine E.norm (by simp only [List.set_cons_succ, List.set_cons_zero]; rfl) ?_
  refine E.seq (fun K3 hK3 => ?_)
  refine E.seq (fun K4 hK4 => ?_)
  refine rg ?_
  refine TL.move (Value.pointer none) rfl rfl ?_
  refine TL.ptrNil true Try.underlying36 rfl rfl (.inl ⟨rfl, rfl⟩) rfl ?_
  refine TL.nil ?_
  refine hK4 _ _ ?_
  refine E.norm (by simp only [List.set_cons_succ, List.set_cons_zero]; rfl) ?_
  refine E.condT rfl ?_
  refine E.seq (fun K5 hK5 => ?_)
  refine rg ?_
  refine TL.move (Value.slice none 0 0) rfl rfl ?_
  refine TL.assign (Value.slice none 0 0) rfl rfl ?_
  refine TL.nil ?_
  refine hK5 _ _ ?_
  refine E.norm (by simp only [List.set_cons_succ, List.set_cons_zero]; rfl) ?_
  refine wp_ret ?_
  refine E.ret _ (Rs.t (Value.slice none 0 0) rfl rfl) ?_
  exact ⟨rfl, hst.keep⟩

theorem fetched_nil (w0 : World) : Calls Try.prog 33 #[.pointer none] w0 (Ret fun v w => v = .slice none 0 0 ∧ Keep Non w0 w) := by
  go_enter Try.func33, Try.ntmps33
  change Code.wp _ _ _ (F [Value.pointer none, undef, undef, undef, undef, undef, undef, undef, undef, undef, undef, undef, undef, undef, undef, undef, undef, undef, undef, undef, undef, undef, undef, undef]) _
  have hst := St.start Non (has0 w0)
  refine E.seq (fun K1 hK1 => ?_)
  refine rg ?_
  refine TL.assign (Value.slice none 0 0) rfl rfl ?_
  refine TL.nil ?_
  refine hK1 _ _ ?_
  refine E.norm (by simp only [List.set_cons_succ, List.set_cons_zero]; rfl) ?_
  refine E.seq (fun K2 hK2 => ?_)
  refine rg ?_
  refine TL.assign (Value.slice none 0 0) rfl rfl ?_
  refine TL.nil ?_
  refine hK2 _ _ ?_
  refine E.norm (by simp only [List.set_cons_succ, List.set_cons_zero]; rfl) ?_
  refine E.seq (fun K3 hK3 => ?_)
  refine E.seq (fun K4 hK4 => ?_)
  refine rg ?_
  refine TL.move (Value.pointer none) rfl rfl ?_
  refine TL.ptrNil true Try.underlying36 rfl rfl (.inl ⟨rfl, rfl⟩) rfl ?_
  refine TL.nil ?_
  refine hK4 _ _ ?_
  refine E.norm (by simp only [List.set_cons_succ, List.set_cons_zero]; rfl) ?_
  refine E.condT rfl ?_
  refine E.seq (fun K5 hK5 => ?_)
  refine rg ?_
  refine TL.move (Value.slice none 0 0) rfl rfl ?_
  refine TL.assign (Value.slice none 0 0) rfl rfl ?_
  refine TL.nil ?_
  refine hK5 _ _ ?_
  refine E.norm (by simp only [List.set_cons_succ, List.set_cons_zero]; rfl) ?_
  refine wp_ret ?_
  refine E.ret _ (Rs.t (Value.slice none 0 0) rfl rfl) ?_
  exact ⟨rfl, hst.keep⟩

theorem fill_nil (x : AV) (w0 : World) : Calls Try.prog 20 #[.pointer none, .agg (avC x).toArray] w0 (Ret fun v w => v = .bool false ∧ Keep Non w0 w) := by
  go_enter Try.func20, Try.ntmps20
  change Code.wp _ _ _ (F [Value.pointer none, Value.agg (adrC x.addr ++ ([Value.int .u64 x.nonce] ++ (wdC x.bal ++ ([x.code] ++ ([x.stor]))))).toArray, undef, undef, undef, undef, undef, undef, undef, undef, undef, undef, undef, undef, undef, undef, undef, undef, undef, undef, undef, undef, undef, undef, undef, undef, undef, undef, undef, undef, undef, undef, undef, undef, undef, undef, undef, undef, undef, undef]) _
  have hst := St.start Non (has0 w0)
  refine E.seq (fun K1 hK1 => ?_)
  refine rg ?_
  refine TL.box (vs := adrC x.addr ++ ([Value.int .u64 x.nonce] ++ (wdC x.bal ++ ([x.code] ++ ([x.stor]))))) hst rfl rfl ?_
  intro w n1 hst
  refine ⟨trivial, ?_⟩
  refine TL.assign (Value.bool false) rfl rfl ?_
  refine TL.nil ?_
  refine hK1 _ _ ?_
  refine E.norm (by simp only [List.set_cons_succ, List.set_cons_zero]; rfl) ?_
  refine E.seq (fun K2 hK2 => ?_)
  refine E.seq (fun K3 hK3 => ?_)
  refine rg ?_
  refine TL.move (Value.pointer none) rfl rfl ?_
  refine TL.ptrNil true Try.underlying36 rfl rfl (.inl ⟨rfl, rfl⟩) rfl ?_
  refine TL.move (Value.bool true) rfl rfl ?_
  refine TL.norm (by simp only [List.set_cons_succ, List.set_cons_zero]; rfl) ?_
  refine TL.noU rfl trivial rfl ?_
  refine TL.noU rfl trivial rfl ?_
  refine TL.noU rfl trivial rfl ?_
  refine TL.pick (Value.bool true) rfl rfl rfl ?_
  refine TL.nil ?_
  refine hK3 _ _ ?_
  refine E.norm (by simp only [List.set_cons_succ, List.set_cons_zero]; rfl) ?_
  refine E.condT rfl ?_
  refine E.seq (fun K4 hK4 => ?_)
  refine rg ?_
  refine TL.assign (Value.bool false) rfl rfl ?_
  refine TL.nil ?_
  refine hK4 _ _ ?_
  refine E.norm (by simp only [List.set_cons_succ, List.set_cons_zero]; rfl) ?_
  refine wp_ret ?_
  refine E.ret _ (Rs.t (Value.bool false) rfl rfl) ?_
  exact ⟨rfl, hst.keep⟩

theorem account_nil (a : Nat) (w0 : World) : Calls Try.prog 21 #[.pointer none, .agg (adrC a).toArray] w0 (Ret fun v w => v = .tuple #[.agg (avC (avE a)).toArray, .bool false] ∧ Keep Non w0 w) := by
  go_enter Try.func21, Try.ntmps21
  change Code.wp _ _ _ (F [Value.pointer none, Value.agg (adrC a).toArray, undef, undef, undef, undef, undef, undef, undef, undef, undef, undef, undef, undef, undef, undef, undef, undef, undef, undef, undef, undef, undef, undef]) _
  have hst := St.start Non (has0 w0)
  refine E.seq (fun K1 hK1 => ?_)
  refine rg ?_
  refine TL.box (vs := adrC a) hst rfl rfl ?_
  intro w n1 hst
  refine ⟨trivial, ?_⟩
  refine TL.alloc hst zv34 rfl ?_
  intro w n2 hst
  refine ⟨trivial, ?_⟩
  refine TL.assign (Value.bool false) rfl rfl ?_
  refine TL.nil ?_
  refine hK1 _ _ ?_
  refine E.norm (by simp only [List.set_cons_succ, List.set_cons_zero]; rfl) ?_
  refine E.seq (fun K2 hK2 => ?_)
  refine E.seq (fun K3 hK3 => ?_)
  refine rg ?_
  refine TL.move (Value.pointer none) rfl rfl ?_
  refine TL.ptrNil false Try.underlying36 rfl rfl (.inr ⟨rfl, rfl⟩) rfl ?_
  refine TL.nil ?_
  refine hK3 _ _ ?_
  refine E.norm (by simp only [List.set_cons_succ, List.set_cons_zero]; rfl) ?_
  refine E.condF rfl ?_
  refine wp_skip ?_
  refine hK2 _ _ ?_
  refine E.seq (fun K4 hK4 => ?_)
  refine rg ?_
  refine TL.ldL 1 n1 (0) (adrC a) (fun _ h => h ▸ hst) rfl (Seg.all _) ta28 rfl rfl ?_
  refine TL.buildS (ps := [(0, Value.agg (adrC a).toArray)]) bs34 zv34 rfl (Fl.cons (vs := adrC a) rfl rfl (Put.here (by simp)) (Fl.nil _)) rfl ?_
  refine TL.st 0 n2 (0) (vs := adrC a ++ ([Value.int .u64 0] ++ (wdC 0 ++ ([Value.slice none 0 0] ++ ([Value.slice none 0 0]))))) hst rfl (Put.all (by simp)) rfl (One.app (One.adr _) (One.app (One.one rfl) (One.app (One.wd _) (One.app (One.one rfl) (One.one rfl))))) tz34 rfl rfl ?_
  intro w hst
  refine ⟨trivial, ?_⟩
  refine TL.assign (Value.bool false) rfl rfl ?_
  refine TL.nil ?_
  refine hK4 _ _ ?_
  refine E.norm (by simp only [List.set_cons_succ, List.set_cons_zero]; rfl) ?_
  refine wp_ret ?_
  refine E.ret _ (Rs.ct (adrC a ++ ([Value.int .u64 0] ++ (wdC 0 ++ ([Value.slice none 0 0] ++ ([Value.slice none 0 0]))))) (Value.bool false) rfl rfl ta34 (rangeAt_of_block (hst.mem (i := 0) rfl) (Seg.all _)) rfl) ?_
  exact ⟨rfl, hst.keep⟩
end Go.Proofs.Ytafmgghpcneoeaa
