/- Walks, printed by wip/tools/gen.py: what each function comes to. -/
import Derived.Test.YtafmgghpcneoeaaTyp
import Derived.Test.YtafmgghpcneoeaaProg
import Derived.KernelRfl
import Derived.Test.YtafmgghpcneoeaaOw
import Derived.Test.YtafmgghpcneoeaaRi
import Derived.Test.YtafmgghpcneoeaaFk
namespace Go.Proofs.Ytafmgghpcneoeaa
open Go Go.RowKit
set_option maxRecDepth 100000
set_option maxHeartbeats 2000000

theorem fill_yes (p bk bt : Nat) (qk qt : Obj) (K T : Pairs) (hqk : MO adrC NA K qk) (hqt : MO adrC NA T qt) (x : AV) (g : Gh) (w0 : World) (h0 : St (Mof [(p, .cells ([Value.map (some bk)] ++ [Value.map (some bt)]).toArray 136 (0, 0)), (bk, qk), (bt, qt)]) w0 w0 g [(p, .cells ([Value.map (some bk)] ++ [Value.map (some bt)]).toArray 136 (0, 0)), (bk, qk), (bt, qt)]) (hx : AOk g x) (hr : rightA x = true) (n : Int) (ht : mget T x.addr = some (.int .i64 n)) : Calls Try.prog 20 #[.pointer (some ⟨p, 0, none⟩), .agg (avC x).toArray] w0 (Ret fun v w => v = .bool true ∧ ∃ g' cv sv qk' qt', g.le g' ∧ GNew w0 g g' ∧ AOk g' { x with code := cv, stor := sv } ∧ MO adrC NA (mset K x.addr (.agg (avC { x with code := cv, stor := sv }).toArray)) qk' ∧ MO adrC NA (mdel T x.addr) qt' ∧ St (Mof [(p, .cells ([Value.map (some bk)] ++ [Value.map (some bt)]).toArray 136 (0, 0)), (bk, qk), (bt, qt)]) w0 w g' [(p, .cells ([Value.map (some bk)] ++ [Value.map (some bt)]).toArray 136 (0, 0)), (bk, qk'), (bt, qt')]) := by
  go_enter Try.func20, Try.ntmps20
  change Code.wp _ _ _ (F [Value.pointer (some ⟨p, 0, none⟩), Value.agg (adrC x.addr ++ ([Value.int .u64 x.nonce] ++ (wdC x.bal ++ ([x.code] ++ ([x.stor]))))).toArray, undef, undef, undef, undef, undef, undef, undef, undef, undef, undef, undef, undef, undef, undef, undef, undef, undef, undef, undef, undef, undef, undef, undef, undef, undef, undef, undef, undef, undef, undef, undef, undef, undef, undef, undef, undef, undef, undef]) _
  have hst := h0
  have hgn0 : GNew w0 g g := GNew.refl _ _
  have hle0 : g.le g := Gh.le_refl _
  refine E.seq (fun K1 hK1 => ?_)
  refine rg ?_
  refine TL.box (vs := adrC x.addr ++ ([Value.int .u64 x.nonce] ++ (wdC x.bal ++ ([x.code] ++ ([x.stor]))))) hst rfl rfl ?_
  intro w n1 hst
  refine ⟨trivial, ?_⟩
  refine TL.assign (Value.bool false) rfl rfl ?_
  refine TL.nil ?_
  refine hK1 _ _ ?_
  refine E.norm (by simp only [List.set_cons_succ, List.set_cons_zero]; rfl) ?_
  refine E.seq (fun K2 hK2 => ?_)
  refine E.seq (fun K3 hK3 => ?_)
  refine rg ?_
  refine TL.move (Value.pointer (some ⟨p, 0, none⟩)) rfl rfl ?_
  refine TL.ptrNil false Try.underlying36 rfl rfl (.inl ⟨rfl, rfl⟩) rfl ?_
  refine TL.move (Value.bool false) rfl rfl ?_
  refine TL.norm (by simp only [List.set_cons_succ, List.set_cons_zero]; rfl) ?_
  refine TL.ldL 0 n1 (0) (adrC x.addr ++ ([Value.int .u64 x.nonce] ++ (wdC x.bal ++ ([x.code] ++ ([x.stor]))))) (fun _ h => h ▸ hst) rfl (Seg.all _) ta34 rfl rfl ?_
  refine TL.callS _ co71 rfl (calls_ret (R' := fun u w' => u = .bool true ∧ Keep Non w w') (right_store x g _ hst.has hx) (by rintro _ _ ⟨rfl, h⟩; exact ⟨by rw [hr], h⟩)) rfl ?_
  rintro _ w ⟨rfl, hk⟩
  have hst := hst.call hk
  refine ⟨trivial, ?_⟩
  refine TL.notB rfl rfl ?_
  refine TL.norm (by simp only [List.set_cons_succ, List.set_cons_zero]; rfl) ?_
  refine TL.pick (Value.bool false) rfl rfl rfl ?_
  refine TL.nil ?_
  refine hK3 _ _ ?_
  refine E.norm (by simp only [List.set_cons_succ, List.set_cons_zero]; rfl) ?_
  refine E.condF rfl ?_
  refine wp_skip ?_
  refine hK2 _ _ ?_
  refine E.seq (fun K4 hK4 => ?_)
  refine E.seq (fun K5 hK5 => ?_)
  refine rgD mixed #[0, 1, 3, 7, 0, 16, 63, 127, 255, 255, 511, 2047] (by kernel_rfl) ?_
  replace hst := hst.drew
  refine TL.move (Value.pointer (some ⟨p, 0, none⟩)) rfl rfl ?_
  refine TL.nilCheck rfl rfl ?_
  refine TL.fieldAddr fa136_1 rfl rfl ?_
  refine TL.norm (by simp only [List.set_cons_succ, List.set_cons_zero]; rfl) ?_
  refine TL.ldL1 1 p (1 + (0)) (Value.map (some bt)) (fun _ h => h ▸ hst) rfl (Seg.skip (m := 1) (by simp) (Seg.all _)) ts134 rfl rfl ?_
  refine TL.fieldAddr fa34_0 rfl rfl ?_
  refine TL.ldL 0 n1 (0) (adrC x.addr) (fun _ h => h ▸ hst) rfl (Seg.here _ _) ta28 rfl rfl ?_
  refine TL.norm (by simp only [List.set_cons_succ, List.set_cons_zero]; rfl) ?_
  refine TL.lookOkS (i := 3) (Value.int .i64 0) (Value.int .i64 n) ht Try.underlying134 kt28 (fun _ h => h ▸ hst) rfl hqt (hx.addr) zi3 rfl rfl rfl ?_
  refine TL.move (Value.tuple #[Value.int .i64 n, Value.bool true]) rfl rfl ?_
  refine TL.extract (Value.int .i64 n) rfl rfl rfl ?_
  refine TL.norm (by simp only [List.set_cons_succ, List.set_cons_zero]; rfl) ?_
  refine TL.extract (Value.bool true) rfl rfl rfl ?_
  refine TL.assign (Value.int .i64 n) rfl rfl ?_
  refine TL.assign (Value.bool true) rfl rfl ?_
  refine TL.nil ?_
  refine hK5 _ _ ?_
  refine E.norm (by simp only [List.set_cons_succ, List.set_cons_zero]; rfl) ?_
  refine E.seq (fun K6 hK6 => ?_)
  refine rg ?_
  refine TL.move (Value.bool true) rfl rfl ?_
  refine TL.notB rfl rfl ?_
  refine TL.nil ?_
  refine hK6 _ _ ?_
  refine E.norm (by simp only [List.set_cons_succ, List.set_cons_zero]; rfl) ?_
  refine E.condF rfl ?_
  refine wp_skip ?_
  refine hK4 _ _ ?_
  refine E.seq (fun K7 hK7 => ?_)
  refine rgD mixed #[0, 1, 3, 7, 0, 16, 63] (by kernel_rfl) ?_
  replace hst := hst.drew
  refine TL.move (Value.pointer (some ⟨p, 0, none⟩)) rfl rfl ?_
  refine TL.nilCheck rfl rfl ?_
  refine TL.fieldAddr fa136_1 rfl rfl ?_
  refine TL.norm (by simp only [List.set_cons_succ, List.set_cons_zero]; rfl) ?_
  refine TL.ldL1 1 p (1 + (0)) (Value.map (some bt)) (fun _ h => h ▸ hst) rfl (Seg.skip (m := 1) (by simp) (Seg.all _)) ts134 rfl rfl ?_
  refine TL.fieldAddr fa34_0 rfl rfl ?_
  refine TL.ldL 0 n1 (0) (adrC x.addr) (fun _ h => h ▸ hst) rfl (Seg.here _ _) ta28 rfl rfl ?_
  refine TL.norm (by simp only [List.set_cons_succ, List.set_cons_zero]; rfl) ?_
  refine TL.mdel (i := 3) Try.underlying134 kt28 hst rfl hqt (hx.addr) rfl rfl rfl ?_
  intro w q2 hmq2 hst
  refine ⟨trivial, ?_⟩
  refine TL.nil ?_
  refine hK7 _ _ ?_
  refine E.seq (fun K8 hK8 => ?_)
  refine rgS (fun w' => St (Mof [(p, .cells ([Value.map (some bk)] ++ [Value.map (some bt)]).toArray 136 (0, 0)), (bk, qk), (bt, qt)]) w0 w' g [(n1, .cells (adrC x.addr ++ ([Value.int .u64 x.nonce] ++ (wdC x.bal ++ ([x.code] ++ ([x.stor]))))).toArray 34 (0, 0)), (p, .cells ([Value.map (some bk)] ++ ([Value.map (some bt)])).toArray 136 (0, 0))]) mixed #[0, 1, 3, 7, 0, 16, 0, 64, 255] (by kernel_rfl) (hst.drew.sub (.cons_cons _ (.cons_cons _ (.cons _ (.cons _ (List.Sublist.refl _)))))) ?_
  replace hst := hst.drew
  refine TL.move (Value.pointer (some ⟨p, 0, none⟩)) rfl rfl ?_
  refine TL.nilCheck rfl rfl ?_
  refine TL.fieldAddr fa136_0 rfl rfl ?_
  refine TL.norm (by simp only [List.set_cons_succ, List.set_cons_zero]; rfl) ?_
  refine TL.ldL1 1 p (0) (Value.map (some bk)) (fun _ h => h) rfl (Seg.here _ _) ts133 rfl rfl ?_
  refine TL.fieldAddr fa34_0 rfl rfl ?_
  refine TL.ldL 0 n1 (0) (adrC x.addr) (fun _ h => h) rfl (Seg.here _ _) ta28 rfl rfl ?_
  refine TL.norm (by simp only [List.set_cons_succ, List.set_cons_zero]; rfl) ?_
  refine TL.ldL 0 n1 (0) (adrC x.addr ++ ([Value.int .u64 x.nonce] ++ (wdC x.bal ++ ([x.code] ++ ([x.stor]))))) (fun _ h => h) rfl (Seg.all _) ta34 rfl rfl ?_
  refine TL.callS #[Value.agg (adrC x.addr ++ ([Value.int .u64 x.nonce] ++ (wdC x.bal ++ ([x.code] ++ ([x.stor]))))).toArray] co72 rfl (own_any x g _ hst.has hx) rfl ?_
  rintro _ w ⟨g3, cg3, sg3, rfl, hgrg3, hokg3⟩
  have hleg3 := hgrg3.le
  replace hgn0 := hgn0.trans hgrg3.new hst.keep.size
  replace hle0 := Gh.le_trans hle0 hleg3
  have hst := hst.callG hgrg3.keep hgrg3.has hgrg3.new
  replace hx := hx.mono hleg3
  refine ⟨(hst.down hleg3).sub (.cons_cons _ (.cons_cons _ (.cons _ (.cons _ (List.Sublist.refl _))))), ?_⟩
  refine TL.mset (i := 2) (Value.agg (adrC x.addr ++ ([Value.int .u64 x.nonce] ++ (wdC x.bal ++ ([cg3] ++ ([sg3]))))).toArray) Try.underlying133 kt28 hst rfl hqk (hx.addr) rfl rfl rfl rfl ?_
  intro w q4 hmq4 hst
  refine ⟨(hst.down hleg3).sub (.cons_cons _ (.cons_cons _ (.cons _ (.cons _ (List.Sublist.refl _))))), ?_⟩
  refine TL.nil ?_
  refine hK8 _ _ ?_
  refine E.norm (by simp only [List.set_cons_succ, List.set_cons_zero]; rfl) ?_
  refine E.seq (fun K9 hK9 => ?_)
  refine rg ?_
  refine TL.assign (Value.bool true) rfl rfl ?_
  refine TL.nil ?_
  refine hK9 _ _ ?_
  refine E.norm (by simp only [List.set_cons_succ, List.set_cons_zero]; rfl) ?_
  refine wp_ret ?_
  refine E.ret _ (Rs.t (Value.bool true) rfl rfl) ?_
  exact ⟨rfl, g3, _, _, _, _, hle0, hgn0, hokg3, hmq4, hmq2, hst.sub (.cons _ (.refl _))⟩

theorem account_known (p bk bt : Nat) (qk qt : Obj) (K T : Pairs) (hqk : MO adrC NA K qk) (hqt : MO adrC NA T qt) (a : Nat) (ha : a < NA) (x : AV) (g : Gh) (w0 : World) (h0 : St (Mof [(p, .cells ([Value.map (some bk)] ++ [Value.map (some bt)]).toArray 136 (0, 0)), (bk, qk), (bt, qt)]) w0 w0 g [(p, .cells ([Value.map (some bk)] ++ [Value.map (some bt)]).toArray 136 (0, 0)), (bk, qk), (bt, qt)]) (hx : AOk g x) (hk : mget K a = some (.agg (avC x).toArray)) : Calls Try.prog 21 #[.pointer (some ⟨p, 0, none⟩), .agg (adrC a).toArray] w0 (Ret fun v w => ∃ g' cv sv, v = .tuple #[.agg (avC { x with code := cv, stor := sv }).toArray, .bool true] ∧ g.le g' ∧ GNew w0 g g' ∧ AOk g' { x with code := cv, stor := sv } ∧ St (Mof [(p, .cells ([Value.map (some bk)] ++ [Value.map (some bt)]).toArray 136 (0, 0)), (bk, qk), (bt, qt)]) w0 w g' [(p, .cells ([Value.map (some bk)] ++ [Value.map (some bt)]).toArray 136 (0, 0)), (bk, qk), (bt, qt)]) := by
  go_enter Try.func21, Try.ntmps21
  change Code.wp _ _ _ (F [Value.pointer (some ⟨p, 0, none⟩), Value.agg (adrC a).toArray, undef, undef, undef, undef, undef, undef, undef, undef, undef, undef, undef, undef, undef, undef, undef, undef, undef, undef, undef, undef, undef, undef]) _
  have hst := h0
  have hgn0 : GNew w0 g g := GNew.refl _ _
  have hle0 : g.le g := Gh.le_refl _
  refine E.seq (fun K1 hK1 => ?_)
  refine rg ?_
  refine TL.box (vs := adrC a) hst rfl rfl ?_
  intro w n1 hst
  refine ⟨trivial, ?_⟩
  refine TL.alloc hst zv34 rfl ?_
  intro w n2 hst
  refine ⟨trivial, ?_⟩
  refine TL.assign (Value.bool false) rfl rfl ?_
  refine TL.nil ?_
  refine hK1 _ _ ?_
  refine E.norm (by simp only [List.set_cons_succ, List.set_cons_zero]; rfl) ?_
  refine E.seq (fun K2 hK2 => ?_)
  refine E.seq (fun K3 hK3 => ?_)
  refine rg ?_
  refine TL.move (Value.pointer (some ⟨p, 0, none⟩)) rfl rfl ?_
  refine TL.ptrNil true Try.underlying36 rfl rfl (.inr ⟨rfl, rfl⟩) rfl ?_
  refine TL.nil ?_
  refine hK3 _ _ ?_
  refine E.norm (by simp only [List.set_cons_succ, List.set_cons_zero]; rfl) ?_
  refine E.condT rfl ?_
  refine E.seq (fun K4 hK4 => ?_)
  refine rgS (fun w' => St (Mof [(p, .cells ([Value.map (some bk)] ++ [Value.map (some bt)]).toArray 136 (0, 0)), (bk, qk), (bt, qt)]) w0 w' g [(n2, .cells (adrC 0 ++ ([Value.int .u64 0] ++ (wdC 0 ++ ([Value.slice none 0 0] ++ ([Value.slice none 0 0]))))).toArray 34 (0, 0)), (n1, .cells (adrC a).toArray 28 (0, 0)), (p, .cells ([Value.map (some bk)] ++ ([Value.map (some bt)])).toArray 136 (0, 0)), (bk, qk), (bt, qt)]) mixed #[0, 1, 3, 7, 0, 31, 63, 127, 127, 0, 767, 2047] (by kernel_rfl) hst.drew ?_
  replace hst := hst.drew
  refine TL.move (Value.pointer (some ⟨p, 0, none⟩)) rfl rfl ?_
  refine TL.nilCheck rfl rfl ?_
  refine TL.fieldAddr fa136_0 rfl rfl ?_
  refine TL.norm (by simp only [List.set_cons_succ, List.set_cons_zero]; rfl) ?_
  refine TL.ldL1 2 p (0) (Value.map (some bk)) (fun _ h => h) rfl (Seg.here _ _) ts133 rfl rfl ?_
  refine TL.ldL 1 n1 (0) (adrC a) (fun _ h => h) rfl (Seg.all _) ta28 rfl rfl ?_
  refine TL.lookOkS (i := 3) (Value.agg (adrC 0 ++ ([Value.int .u64 0] ++ (wdC 0 ++ ([Value.slice none 0 0] ++ ([Value.slice none 0 0]))))).toArray) (Value.agg (adrC x.addr ++ ([Value.int .u64 x.nonce] ++ (wdC x.bal ++ ([x.code] ++ ([x.stor]))))).toArray) hk Try.underlying133 kt28 (fun _ h => h) rfl hqk (ha) zi34 rfl rfl rfl ?_
  refine TL.norm (by simp only [List.set_cons_succ, List.set_cons_zero]; rfl) ?_
  refine TL.move (Value.tuple #[Value.agg (adrC x.addr ++ ([Value.int .u64 x.nonce] ++ (wdC x.bal ++ ([x.code] ++ ([x.stor]))))).toArray, Value.bool true]) rfl rfl ?_
  refine TL.extract (Value.agg (adrC x.addr ++ ([Value.int .u64 x.nonce] ++ (wdC x.bal ++ ([x.code] ++ ([x.stor]))))).toArray) rfl rfl rfl ?_
  refine TL.extract (Value.bool true) rfl rfl rfl ?_
  refine TL.norm (by simp only [List.set_cons_succ, List.set_cons_zero]; rfl) ?_
  refine TL.alloc hst zv34 rfl ?_
  intro w n3 hst
  refine ⟨(hst).sub (.cons _ (List.Sublist.refl _)), ?_⟩
  refine TL.st 0 n3 (0) (vs := adrC x.addr ++ ([Value.int .u64 x.nonce] ++ (wdC x.bal ++ ([x.code] ++ ([x.stor]))))) hst rfl (Put.all (by simp)) rfl (One.app (One.adr _) (One.app (One.one rfl) (One.app (One.wd _) (One.app (One.one hx.code.one) (One.one hx.stor.one))))) tz34 rfl rfl ?_
  intro w hst
  refine ⟨(hst).sub (.cons _ (List.Sublist.refl _)), ?_⟩
  refine TL.assign (Value.bool true) rfl rfl ?_
  refine TL.nil ?_
  refine hK4 _ _ ?_
  refine E.norm (by simp only [List.set_cons_succ, List.set_cons_zero]; rfl) ?_
  refine E.seq (fun K5 hK5 => ?_)
  refine rg ?_
  refine TL.move (Value.bool true) rfl rfl ?_
  refine TL.nil ?_
  refine hK5 _ _ ?_
  refine E.norm (by simp only [List.set_cons_succ, List.set_cons_zero]; rfl) ?_
  refine E.condT rfl ?_
  refine E.seq (fun K6 hK6 => ?_)
  refine rg ?_
  refine TL.ldL 0 n3 (0) (adrC x.addr ++ ([Value.int .u64 x.nonce] ++ (wdC x.bal ++ ([x.code] ++ ([x.stor]))))) (fun _ h => h ▸ hst) rfl (Seg.all _) ta34 rfl rfl ?_
  refine TL.callS #[Value.agg (adrC x.addr ++ ([Value.int .u64 x.nonce] ++ (wdC x.bal ++ ([x.code] ++ ([x.stor]))))).toArray] co72 rfl (own_any x g _ hst.has hx) rfl ?_
  rintro _ w ⟨g4, cg4, sg4, rfl, hgrg4, hokg4⟩
  have hleg4 := hgrg4.le
  replace hgn0 := hgn0.trans hgrg4.new hst.keep.size
  replace hle0 := Gh.le_trans hle0 hleg4
  have hst := hst.callG hgrg4.keep hgrg4.has hgrg4.new
  replace hx := hx.mono hleg4
  refine ⟨trivial, ?_⟩
  refine TL.st 1 n2 (0) (vs := adrC x.addr ++ ([Value.int .u64 x.nonce] ++ (wdC x.bal ++ ([cg4] ++ ([sg4]))))) hst rfl (Put.all (by simp)) rfl (One.app (One.adr _) (One.app (One.one rfl) (One.app (One.wd _) (One.app (One.one hokg4.code.one) (One.one hokg4.stor.one))))) tz34 rfl rfl ?_
  intro w hst
  refine ⟨trivial, ?_⟩
  refine TL.assign (Value.bool true) rfl rfl ?_
  refine TL.nil ?_
  refine hK6 _ _ ?_
  refine E.norm (by simp only [List.set_cons_succ, List.set_cons_zero]; rfl) ?_
  refine wp_ret ?_
  refine E.ret _ (Rs.ct (adrC x.addr ++ ([Value.int .u64 x.nonce] ++ (wdC x.bal ++ ([cg4] ++ ([sg4]))))) (Value.bool true) rfl rfl ta34 (rangeAt_of_block (hst.mem (i := 1) rfl) (Seg.all _)) rfl) ?_
  exact ⟨g4, _, _, rfl, hle0, hgn0, hokg4, hst.sub (.cons _ (.cons _ (.cons _ (.refl _))))⟩

theorem account_unknown (p bk bt : Nat) (qk qt : Obj) (K T : Pairs) (hqk : MO adrC NA K qk) (hqt : MO adrC NA T qt) (a : Nat) (ha : a < NA) (g : Gh) (w0 : World) (h0 : St (Mof [(p, .cells ([Value.map (some bk)] ++ [Value.map (some bt)]).toArray 136 (0, 0)), (bk, qk), (bt, qt)]) w0 w0 g [(p, .cells ([Value.map (some bk)] ++ [Value.map (some bt)]).toArray 136 (0, 0)), (bk, qk), (bt, qt)]) (hk : mget K a = none) : Calls Try.prog 21 #[.pointer (some ⟨p, 0, none⟩), .agg (adrC a).toArray] w0 (Ret fun v w => v = .tuple #[.agg (avC (avE a)).toArray, .bool false] ∧ St (Mof [(p, .cells ([Value.map (some bk)] ++ [Value.map (some bt)]).toArray 136 (0, 0)), (bk, qk), (bt, qt)]) w0 w g [(p, .cells ([Value.map (some bk)] ++ [Value.map (some bt)]).toArray 136 (0, 0)), (bk, qk), (bt, qt)]) := by
  go_enter Try.func21, Try.ntmps21
  change Code.wp _ _ _ (F [Value.pointer (some ⟨p, 0, none⟩), Value.agg (adrC a).toArray, undef, undef, undef, undef, undef, undef, undef, undef, undef, undef, undef, undef, undef, undef, undef, undef, undef, undef, undef, undef, undef, undef]) _
  have hst := h0
  have hgn0 : GNew w0 g g := GNew.refl _ _
  have hle0 : g.le g := Gh.le_refl _
  refine E.seq (fun K1 hK1 => ?_)
  refine rg ?_
  refine TL.box (vs := adrC a) hst rfl rfl ?_
  intro w n1 hst
  refine ⟨trivial, ?_⟩
  refine TL.alloc hst zv34 rfl ?_
  intro w n2 hst
  refine ⟨trivial, ?_⟩
  refine TL.assign (Value.bool false) rfl rfl ?_
  refine TL.nil ?_
  refine hK1 _ _ ?_
  refine E.norm (by simp only [List.set_cons_succ, List.set_cons_zero]; rfl) ?_
  refine E.seq (fun K2 hK2 => ?_)
  refine E.seq (fun K3 hK3 => ?_)
  refine rg ?_
  refine TL.move (Value.pointer (some ⟨p, 0, none⟩)) rfl rfl ?_
  refine TL.ptrNil true Try.underlying36 rfl rfl (.inr ⟨rfl, rfl⟩) rfl ?_
  refine TL.nil ?_
  refine hK3 _ _ ?_
  refine E.norm (by simp only [List.set_cons_succ, List.set_cons_zero]; rfl) ?_
  refine E.condT rfl ?_
  refine E.seq (fun K4 hK4 => ?_)
  refine rgS (fun w' => St (Mof [(p, .cells ([Value.map (some bk)] ++ [Value.map (some bt)]).toArray 136 (0, 0)), (bk, qk), (bt, qt)]) w0 w' g [(n2, .cells (adrC 0 ++ ([Value.int .u64 0] ++ (wdC 0 ++ ([Value.slice none 0 0] ++ ([Value.slice none 0 0]))))).toArray 34 (0, 0)), (n1, .cells (adrC a).toArray 28 (0, 0)), (p, .cells ([Value.map (some bk)] ++ ([Value.map (some bt)])).toArray 136 (0, 0)), (bk, qk), (bt, qt)]) mixed #[0, 1, 3, 7, 0, 31, 63, 127, 127, 0, 767, 2047] (by kernel_rfl) hst.drew ?_
  replace hst := hst.drew
  refine TL.move (Value.pointer (some ⟨p, 0, none⟩)) rfl rfl ?_
  refine TL.nilCheck rfl rfl ?_
  refine TL.fieldAddr fa136_0 rfl rfl ?_
  refine TL.norm (by simp only [List.set_cons_succ, List.set_cons_zero]; rfl) ?_
  refine TL.ldL1 2 p (0) (Value.map (some bk)) (fun _ h => h) rfl (Seg.here _ _) ts133 rfl rfl ?_
  refine TL.ldL 1 n1 (0) (adrC a) (fun _ h => h) rfl (Seg.all _) ta28 rfl rfl ?_
  refine TL.lookOkN (i := 3) (Value.agg (adrC 0 ++ ([Value.int .u64 0] ++ (wdC 0 ++ ([Value.slice none 0 0] ++ ([Value.slice none 0 0]))))).toArray) hk Try.underlying133 kt28 (fun _ h => h) rfl hqk (ha) zi34 rfl rfl rfl ?_
  refine TL.norm (by simp only [List.set_cons_succ, List.set_cons_zero]; rfl) ?_
  refine TL.move (Value.tuple #[Value.agg (adrC 0 ++ ([Value.int .u64 0] ++ (wdC 0 ++ ([Value.slice none 0 0] ++ ([Value.slice none 0 0]))))).toArray, Value.bool false]) rfl rfl ?_
  refine TL.extract (Value.agg (adrC 0 ++ ([Value.int .u64 0] ++ (wdC 0 ++ ([Value.slice none 0 0] ++ ([Value.slice none 0 0]))))).toArray) rfl rfl rfl ?_
  refine TL.extract (Value.bool false) rfl rfl rfl ?_
  refine TL.norm (by simp only [List.set_cons_succ, List.set_cons_zero]; rfl) ?_
  refine TL.alloc hst zv34 rfl ?_
  intro w n3 hst
  refine ⟨(hst).sub (.cons _ (List.Sublist.refl _)), ?_⟩
  refine TL.st 0 n3 (0) (vs := adrC 0 ++ ([Value.int .u64 0] ++ (wdC 0 ++ ([Value.slice none 0 0] ++ ([Value.slice none 0 0]))))) hst rfl (Put.all (by simp)) rfl (One.app (One.adr _) (One.app (One.one rfl) (One.app (One.wd _) (One.app (One.one rfl) (One.one rfl))))) tz34 rfl rfl ?_
  intro w hst
  refine ⟨(hst).sub (.cons _ (List.Sublist.refl _)), ?_⟩
  refine TL.assign (Value.bool false) rfl rfl ?_
  refine TL.nil ?_
  refine hK4 _ _ ?_
  refine E.norm (by simp only [List.set_cons_succ, List.set_cons_zero]; rfl) ?_
  refine E.seq (fun K5 hK5 => ?_)
  refine rg ?_
  refine TL.move (Value.bool false) rfl rfl ?_
  refine TL.nil ?_
  refine hK5 _ _ ?_
  refine E.norm (by simp only [List.set_cons_succ, List.set_cons_zero]; rfl) ?_
  refine E.condF rfl ?_
  refine wp_skip ?_
  refine hK2 _ _ ?_
  refine E.seq (fun K6 hK6 => ?_)
  refine rg ?_
  refine TL.ldL 2 n1 (0) (adrC a) (fun _ h => h ▸ hst) rfl (Seg.all _) ta28 rfl rfl ?_
  refine TL.buildS (ps := [(0, Value.agg (adrC a).toArray)]) bs34 zv34 rfl (Fl.cons (vs := adrC a) rfl rfl (Put.here (by simp)) (Fl.nil _)) rfl ?_
  refine TL.st 1 n2 (0) (vs := adrC a ++ ([Value.int .u64 0] ++ (wdC 0 ++ ([Value.slice none 0 0] ++ ([Value.slice none 0 0]))))) hst rfl (Put.all (by simp)) rfl (One.app (One.adr _) (One.app (One.one rfl) (One.app (One.wd _) (One.app (One.one rfl) (One.one rfl))))) tz34 rfl rfl ?_
  intro w hst
  refine ⟨trivial, ?_⟩
  refine TL.assign (Value.bool false) rfl rfl ?_
  refine TL.nil ?_
  refine hK6 _ _ ?_
  refine E.norm (by simp only [List.set_cons_succ, List.set_cons_zero]; rfl) ?_
  refine wp_ret ?_
  refine E.ret _ (Rs.ct (adrC a ++ ([Value.int .u64 0] ++ (wdC 0 ++ ([Value.slice none 0 0] ++ ([Value.slice none 0 0]))))) (Value.bool false) rfl rfl ta34 (rangeAt_of_block (hst.mem (i := 1) rfl) (Seg.all _)) rfl) ?_
  exact ⟨rfl, hst.sub (.cons _ (.cons _ (.cons _ (.refl _))))⟩
end Go.Proofs.Ytafmgghpcneoeaa
