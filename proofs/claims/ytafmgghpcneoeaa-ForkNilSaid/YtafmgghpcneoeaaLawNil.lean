/- Walks, printed by wip/tools/gen.py: what each function comes to. -/
import Derived.Test.YtafmgghpcneoeaaTyp
import Derived.Test.YtafmgghpcneoeaaProg
import Derived.KernelRfl
import Derived.Test.YtafmgghpcneoeaaFx
import Derived.Test.YtafmgghpcneoeaaAc
namespace Go.Proofs.Ytafmgghpcneoeaa
open Go Go.RowKit
set_option maxRecDepth 100000
set_option maxHeartbeats 2000000

theorem law_forknil (x : AV) (g : Gh) (w0 : World) (hg : Has w0 g) (hx : AOk g x) : Calls Try.prog 6 #[.agg (avC x).toArray] w0 (Ret fun u w => u = .bool true ∧ Keep Non w0 w) := by
  go_enter Try.func6, Try.ntmps6
  change Code.wp _ _ _ (F [Value.agg (adrC x.addr ++ ([Value.int .u64 x.nonce] ++ (wdC x.bal ++ ([x.code] ++ ([x.stor]))))).toArray, undef, undef, undef, undef, undef, undef, undef, undef, undef, undef, undef, undef, undef, undef, undef, undef, undef, undef, undef, undef, undef, undef, undef, undef, undef, undef, undef, undef, undef, undef, undef, undef, undef, undef, undef, undef, undef, undef, undef, undef, undef, undef, undef, undef, undef, undef, undef, undef, undef, undef, undef, undef, undef, undef, undef, undef, undef, undef, undef, undef, undef, undef, undef, undef, undef, undef, undef]) _
  have hst := St.start Non hg
  refine E.seq (fun K1 hK1 => ?_)
  refine rg ?_
  refine TL.box (vs := adrC x.addr ++ ([Value.int .u64 x.nonce] ++ (wdC x.bal ++ ([x.code] ++ ([x.stor]))))) hst rfl rfl ?_
  intro w n1 hst
  refine ⟨trivial, ?_⟩
  refine TL.assign (Value.bool false) rfl rfl ?_
  refine TL.nil ?_
  refine hK1 _ _ ?_
  refine E.norm (by simp only [List.set_cons_succ, List.set_cons_zero]; rfl) ?_
  refine E.seq (fun K2 hK2 => ?_)
  refine E.seq (fun K3 hK3 => ?_)
  refine rg ?_
  refine TL.ldL 0 n1 (0) (adrC x.addr ++ ([Value.int .u64 x.nonce] ++ (wdC x.bal ++ ([x.code] ++ ([x.stor]))))) (fun _ h => h ▸ hst) rfl (Seg.all _) ta34 rfl rfl ?_
  refine TL.buildSl [(Value.agg (adrC x.addr ++ ([Value.int .u64 x.nonce] ++ (wdC x.bal ++ ([x.code] ++ ([x.stor]))))).toArray)] [(adrC x.addr ++ ([Value.int .u64 x.nonce] ++ (wdC x.bal ++ ([x.code] ++ ([x.stor])))))] hst sl22 zv34 rfl rfl (by simp) rfl (by decide) rfl ?_
  intro w n2 hst
  obtain ⟨g3, hleg3, hst, hslg3, hgng3⟩ := hst.freeSl (sz := 27) rfl (by simp)
  replace hx := hx.mono hleg3
  refine ⟨trivial, ?_⟩
  refine TL.callS _ co13 rfl (great_any [x] _ g3 _ hst.has hslg3 (by simpa using hx)) rfl ?_
  rintro _ w ⟨rfl, hk⟩
  have hst := hst.call hk
  refine ⟨trivial, ?_⟩
  refine TL.nil ?_
  refine hK3 _ _ ?_
  refine E.norm (by simp only [List.set_cons_succ, List.set_cons_zero]; rfl) ?_
  refine E.cond rfl (fun hc1 => ?_) (fun hc1 => ?_)
  · have hc1 := hc1
    refine E.seq (fun K4 hK4 => ?_)
    refine rg ?_
    refine TL.callS _ co14 rfl (fork_fixed _) rfl ?_
    rintro _ w ⟨rfl, hk⟩
    have hst := hst.call hk
    refine ⟨trivial, ?_⟩
    refine TL.assign (Value.bool true) rfl rfl ?_
    refine TL.nil ?_
    refine hK4 _ _ ?_
    refine E.norm (by simp only [List.set_cons_succ, List.set_cons_zero]; rfl) ?_
    refine wp_ret ?_
    refine E.ret _ (Rs.t (Value.bool true) rfl rfl) ?_
    exact ⟨rfl, hst.keep⟩
  · have hc1 := hc1
    refine wp_skip ?_
    refine hK2 _ _ ?_
    refine E.seq (fun K5 hK5 => ?_)
    refine rg ?_
    refine TL.assign (Value.pointer none) rfl rfl ?_
    refine TL.nil ?_
    refine hK5 _ _ ?_
    refine E.norm (by simp only [List.set_cons_succ, List.set_cons_zero]; rfl) ?_
    refine E.seq (fun K6 hK6 => ?_)
    refine rg ?_
    refine TL.move (Value.pointer none) rfl rfl ?_
    refine TL.fieldAddr fa34_0 rfl rfl ?_
    refine TL.ldL 0 n1 (0) (adrC x.addr) (fun _ h => h ▸ hst) rfl (Seg.here _ _) ta28 rfl rfl ?_
    refine TL.norm (by simp only [List.set_cons_succ, List.set_cons_zero]; rfl) ?_
    refine TL.callS _ co21 rfl (account_nil x.addr _) rfl ?_
    rintro _ w ⟨rfl, hk⟩
    have hst := hst.call hk
    refine ⟨trivial, ?_⟩
    refine TL.move (Value.tuple #[Value.agg (adrC x.addr ++ ([Value.int .u64 0] ++ (wdC 0 ++ ([Value.slice none 0 0] ++ ([Value.slice none 0 0]))))).toArray, Value.bool false]) rfl rfl ?_
    refine TL.extract (Value.agg (adrC x.addr ++ ([Value.int .u64 0] ++ (wdC 0 ++ ([Value.slice none 0 0] ++ ([Value.slice none 0 0]))))).toArray) rfl rfl rfl ?_
    refine TL.norm (by simp only [List.set_cons_succ, List.set_cons_zero]; rfl) ?_
    refine TL.extract (Value.bool false) rfl rfl rfl ?_
    refine TL.alloc hst zv34 rfl ?_
    intro w n4 hst
    refine ⟨trivial, ?_⟩
    refine TL.st 0 n4 (0) (vs := adrC x.addr ++ ([Value.int .u64 0] ++ (wdC 0 ++ ([Value.slice none 0 0] ++ ([Value.slice none 0 0]))))) hst rfl (Put.all (by simp)) rfl (One.app (One.adr _) (One.app (One.one rfl) (One.app (One.wd _) (One.app (One.one rfl) (One.one rfl))))) tz34 rfl rfl ?_
    intro w hst
    refine ⟨trivial, ?_⟩
    refine TL.assign (Value.bool false) rfl rfl ?_
    refine TL.nil ?_
    refine hK6 _ _ ?_
    refine E.norm (by simp only [List.set_cons_succ, List.set_cons_zero]; rfl) ?_
    refine E.seq (fun K7 hK7 => ?_)
    refine rg ?_
    refine TL.callS _ co14 rfl (fork_fixed _) rfl ?_
    rintro _ w ⟨rfl, hk⟩
    have hst := hst.call hk
    refine ⟨trivial, ?_⟩
    refine TL.move (Value.bool true) rfl rfl ?_
    refine TL.move (Value.bool false) rfl rfl ?_
    refine TL.norm (by simp only [List.set_cons_succ, List.set_cons_zero]; rfl) ?_
    refine TL.notB rfl rfl ?_
    refine TL.pick (Value.bool true) rfl rfl rfl ?_
    refine TL.move (Value.bool true) rfl rfl ?_
    refine TL.norm (by simp only [List.set_cons_succ, List.set_cons_zero]; rfl) ?_
    refine TL.ldL 0 n4 (0) (adrC x.addr ++ ([Value.int .u64 0] ++ (wdC 0 ++ ([Value.slice none 0 0] ++ ([Value.slice none 0 0]))))) (fun _ h => h ▸ hst) rfl (Seg.all _) ta34 rfl rfl ?_
    refine TL.fieldAddr fa34_0 rfl rfl ?_
    refine TL.ldL 1 n1 (0) (adrC x.addr) (fun _ h => h ▸ hst) rfl (Seg.here _ _) ta28 rfl rfl ?_
    refine TL.norm (by simp only [List.set_cons_succ, List.set_cons_zero]; rfl) ?_
    refine TL.buildS (ps := [(0, Value.agg (adrC x.addr).toArray)]) bs34 zv34 rfl (Fl.cons (vs := adrC x.addr) rfl rfl (Put.here (by simp)) (Fl.nil _)) rfl ?_
    refine TL.callS _ co22 rfl (calls_ret (R' := fun u w' => u = .bool true ∧ Keep Non w w') (same_any (avE x.addr) (avE x.addr) g3 _ hst.has (avE_ok hx.addr) (avE_ok hx.addr)) (by rintro _ _ ⟨rfl, h⟩; exact ⟨by rw [sameA_refl], h⟩)) rfl ?_
    rintro _ w ⟨rfl, hk⟩
    have hst := hst.call hk
    refine ⟨trivial, ?_⟩
    refine TL.pick (Value.bool true) rfl rfl rfl ?_
    refine TL.norm (by simp only [List.set_cons_succ, List.set_cons_zero]; rfl) ?_
    refine TL.move (Value.bool true) rfl rfl ?_
    refine TL.move (Value.pointer none) rfl rfl ?_
    refine TL.fieldAddr fa34_0 rfl rfl ?_
    refine TL.norm (by simp only [List.set_cons_succ, List.set_cons_zero]; rfl) ?_
    refine TL.ldL 1 n1 (0) (adrC x.addr) (fun _ h => h ▸ hst) rfl (Seg.here _ _) ta28 rfl rfl ?_
    refine TL.callS _ co18 rfl (want_nil x.addr _) rfl ?_
    rintro _ w ⟨rfl, hk⟩
    have hst := hst.call hk
    refine ⟨trivial, ?_⟩
    refine TL.eqlI rfl rfl rfl ?_
    refine TL.norm (by simp only [List.set_cons_succ, List.set_cons_zero]; rfl) ?_
    refine TL.pick (Value.bool true) rfl rfl rfl ?_
    refine TL.move (Value.bool true) rfl rfl ?_
    refine TL.move (Value.pointer none) rfl rfl ?_
    refine TL.norm (by simp only [List.set_cons_succ, List.set_cons_zero]; rfl) ?_
    refine TL.ldL 1 n1 (0) (adrC x.addr ++ ([Value.int .u64 x.nonce] ++ (wdC x.bal ++ ([x.code] ++ ([x.stor]))))) (fun _ h => h ▸ hst) rfl (Seg.all _) ta34 rfl rfl ?_
    refine TL.callS _ co20 rfl (fill_nil x _) rfl ?_
    rintro _ w ⟨rfl, hk⟩
    have hst := hst.call hk
    refine ⟨trivial, ?_⟩
    refine TL.notB rfl rfl ?_
    refine TL.norm (by simp only [List.set_cons_succ, List.set_cons_zero]; rfl) ?_
    refine TL.pick (Value.bool true) rfl rfl rfl ?_
    refine TL.move (Value.bool true) rfl rfl ?_
    refine TL.move (Value.pointer none) rfl rfl ?_
    refine TL.norm (by simp only [List.set_cons_succ, List.set_cons_zero]; rfl) ?_
    refine TL.fieldAddr fa34_0 rfl rfl ?_
    refine TL.ldL 1 n1 (0) (adrC x.addr) (fun _ h => h ▸ hst) rfl (Seg.here _ _) ta28 rfl rfl ?_
    refine TL.callS _ co19 rfl (fail_nil x.addr _) rfl ?_
    rintro _ w ⟨rfl, hk⟩
    have hst := hst.call hk
    refine ⟨trivial, ?_⟩
    refine TL.norm (by simp only [List.set_cons_succ, List.set_cons_zero]; rfl) ?_
    refine TL.eqlI rfl rfl rfl ?_
    refine TL.pick (Value.bool true) rfl rfl rfl ?_
    refine TL.move (Value.bool true) rfl rfl ?_
    refine TL.norm (by simp only [List.set_cons_succ, List.set_cons_zero]; rfl) ?_
    refine TL.move (Value.pointer none) rfl rfl ?_
    refine TL.fieldAddr fa34_0 rfl rfl ?_
    refine TL.ldL 1 n1 (0) (adrC x.addr) (fun _ h => h ▸ hst) rfl (Seg.here _ _) ta28 rfl rfl ?_
    refine TL.norm (by simp only [List.set_cons_succ, List.set_cons_zero]; rfl) ?_
    refine TL.callS _ co31 rfl (tries_nil x.addr _) rfl ?_
    rintro _ w ⟨rfl, hk⟩
    have hst := hst.call hk
    refine ⟨trivial, ?_⟩
    refine TL.eqlI rfl rfl rfl ?_
    refine TL.pick (Value.bool true) rfl rfl rfl ?_
    refine TL.norm (by simp only [List.set_cons_succ, List.set_cons_zero]; rfl) ?_
    refine TL.move (Value.bool true) rfl rfl ?_
    refine TL.move (Value.pointer none) rfl rfl ?_
    refine TL.callS _ co32 rfl (known_nil _) rfl ?_
    rintro _ w ⟨rfl, hk⟩
    have hst := hst.call hk
    refine ⟨trivial, ?_⟩
    refine TL.norm (by simp only [List.set_cons_succ, List.set_cons_zero]; rfl) ?_
    refine TL.lenSl Try.underlying23 rfl rfl ?_
    refine TL.eqlI rfl rfl rfl ?_
    refine TL.pick (Value.bool true) rfl rfl rfl ?_
    refine TL.norm (by simp only [List.set_cons_succ, List.set_cons_zero]; rfl) ?_
    refine TL.move (Value.bool true) rfl rfl ?_
    refine TL.move (Value.pointer none) rfl rfl ?_
    refine TL.callS _ co33 rfl (fetched_nil _) rfl ?_
    rintro _ w ⟨rfl, hk⟩
    have hst := hst.call hk
    refine ⟨trivial, ?_⟩
    refine TL.norm (by simp only [List.set_cons_succ, List.set_cons_zero]; rfl) ?_
    refine TL.lenSl Try.underlying23 rfl rfl ?_
    refine TL.eqlI rfl rfl rfl ?_
    refine TL.pick (Value.bool true) rfl rfl rfl ?_
    refine TL.norm (by simp only [List.set_cons_succ, List.set_cons_zero]; rfl) ?_
    refine TL.assign (Value.bool true) rfl rfl ?_
    refine TL.nil ?_
    refine hK7 _ _ ?_
    refine E.norm (by simp only [List.set_cons_succ, List.set_cons_zero]; rfl) ?_
    refine wp_ret ?_
    refine E.ret _ (Rs.t (Value.bool true) rfl rfl) ?_
    exact ⟨rfl, hst.keep⟩
end Go.Proofs.Ytafmgghpcneoeaa
