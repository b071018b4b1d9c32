/- Walks, printed by wip/tools/gen.py: what each function comes to. -/
import Derived.Test.YtafmgghpcneoeaaTyp
import Derived.Test.YtafmgghpcneoeaaProg
import Derived.KernelRfl
import Derived.Test.YtafmgghpcneoeaaCl
namespace Go.Proofs.Ytafmgghpcneoeaa
open Go Go.RowKit
set_option maxRecDepth 100000
set_option maxHeartbeats 2000000

theorem own_any (x : AV) (g : Gh) (w0 : World) (hg : Has w0 g) (hx : AOk g x) : Calls Try.prog 72 #[.agg (avC x).toArray] w0 (Ret fun u w => ∃ g' cv sv, u = .agg (avC { x with code := cv, stor := sv }).toArray ∧ Gr w0 w g g' ∧ AOk g' { x with code := cv, stor := sv }) := by
  go_enter Try.func72, Try.ntmps72
  change Code.wp _ _ _ (F [Value.agg (adrC x.addr ++ ([Value.int .u64 x.nonce] ++ (wdC x.bal ++ ([x.code] ++ ([x.stor]))))).toArray, undef, undef, undef, undef, undef, undef, undef, undef, undef, undef, undef]) _
  have hst := St.start Non hg
  have hgn0 : GNew w0 g g := GNew.refl _ _
  have hle0 : g.le g := Gh.le_refl _
  refine E.seq (fun K1 hK1 => ?_)
  refine rg ?_
  refine TL.box (vs := adrC x.addr ++ ([Value.int .u64 x.nonce] ++ (wdC x.bal ++ ([x.code] ++ ([x.stor]))))) hst rfl rfl ?_
  intro w n1 hst
  refine ⟨trivial, ?_⟩
  refine TL.alloc hst zv34 rfl ?_
  intro w n2 hst
  refine ⟨trivial, ?_⟩
  refine TL.nil ?_
  refine hK1 _ _ ?_
  refine E.norm (by simp only [List.set_cons_succ, List.set_cons_zero]; rfl) ?_
  refine E.seq (fun K2 hK2 => ?_)
  refine rg ?_
  refine TL.fieldAddr fa34_3 rfl rfl ?_
  refine TL.ldL1 1 n1 (20 + (1 + (4 + (0)))) (x.code) (fun _ h => h ▸ hst) rfl (Seg.skip (m := 20) (by simp) (Seg.skip (m := 1) (by simp) (Seg.skip (m := 4) (by simp) (Seg.here _ _)))) ts24 rfl rfl ?_
  refine TL.callS #[x.code] co92 rfl (clone_b (byteRows x.cb) _ g _ hst.has ((hx).code) (one_bytes _) (by have := hx.small; simp; omega)) rfl ?_
  rintro vg3 w ⟨g3, hgrg3, hslg3⟩
  have hleg3 := hgrg3.le
  replace hgn0 := hgn0.trans hgrg3.new hst.keep.size
  replace hle0 := Gh.le_trans hle0 hleg3
  have hst := hst.callG hgrg3.keep hgrg3.has hgrg3.new
  replace hx := hx.mono hleg3
  refine ⟨trivial, ?_⟩
  refine TL.norm (by simp only [List.set_cons_succ, List.set_cons_zero]; rfl) ?_
  refine TL.fieldAddr fa34_3 rfl rfl ?_
  refine TL.st 1 n1 (20 + (1 + (4 + (0)))) (vs := [vg3]) hst rfl (Put.skip (m := 20) (by simp) (Put.skip (m := 1) (by simp) (Put.skip (m := 4) (by simp) (Put.here (by simp))))) (hslg3).cell (One.one hslg3.one) tz24 rfl rfl ?_
  intro w hst
  refine ⟨trivial, ?_⟩
  refine TL.nil ?_
  refine hK2 _ _ ?_
  refine E.norm (by simp only [List.set_cons_succ, List.set_cons_zero]; rfl) ?_
  refine E.seq (fun K3 hK3 => ?_)
  refine rg ?_
  refine TL.fieldAddr fa34_4 rfl rfl ?_
  refine TL.ldL1 1 n1 (20 + (1 + (4 + (1 + (0))))) (x.stor) (fun _ h => h ▸ hst) rfl (Seg.skip (m := 20) (by simp) (Seg.skip (m := 1) (by simp) (Seg.skip (m := 4) (by simp) (Seg.skip (m := 1) (by simp) (Seg.all _))))) ts32 rfl rfl ?_
  refine TL.callS #[x.stor] co93 rfl (clone_s (slotRows x.ss) _ g3 _ hst.has ((hx).stor) (one_slots _) (by have := hx.small; simp; omega)) rfl ?_
  rintro vg4 w ⟨g4, hgrg4, hslg4⟩
  have hleg4 := hgrg4.le
  replace hgn0 := hgn0.trans hgrg4.new hst.keep.size
  replace hle0 := Gh.le_trans hle0 hleg4
  have hst := hst.callG hgrg4.keep hgrg4.has hgrg4.new
  replace hx := hx.mono hleg4
  replace hslg3 := hslg3.mono hleg4
  refine ⟨trivial, ?_⟩
  refine TL.norm (by simp only [List.set_cons_succ, List.set_cons_zero]; rfl) ?_
  refine TL.fieldAddr fa34_4 rfl rfl ?_
  refine TL.st 1 n1 (20 + (1 + (4 + (1 + (0))))) (vs := [vg4]) hst rfl (Put.skip (m := 20) (by simp) (Put.skip (m := 1) (by simp) (Put.skip (m := 4) (by simp) (Put.skip (m := 1) (by simp) (Put.all (by simp)))))) (hslg4).cell (One.one hslg4.one) tz32 rfl rfl ?_
  intro w hst
  refine ⟨trivial, ?_⟩
  refine TL.nil ?_
  refine hK3 _ _ ?_
  refine E.norm (by simp only [List.set_cons_succ, List.set_cons_zero]; rfl) ?_
  refine E.seq (fun K4 hK4 => ?_)
  refine rg ?_
  refine TL.ldL 1 n1 (0) (adrC x.addr ++ ([Value.int .u64 x.nonce] ++ (wdC x.bal ++ ([vg3] ++ ([vg4]))))) (fun _ h => h ▸ hst) rfl (Seg.all _) ta34 rfl rfl ?_
  refine TL.st 0 n2 (0) (vs := adrC x.addr ++ ([Value.int .u64 x.nonce] ++ (wdC x.bal ++ ([vg3] ++ ([vg4]))))) hst rfl (Put.all (by simp)) rfl (One.app (One.adr _) (One.app (One.one rfl) (One.app (One.wd _) (One.app (One.one hslg3.one) (One.one hslg4.one))))) tz34 rfl rfl ?_
  intro w hst
  refine ⟨trivial, ?_⟩
  refine TL.nil ?_
  refine hK4 _ _ ?_
  refine E.norm (by simp only [List.set_cons_succ, List.set_cons_zero]; rfl) ?_
  refine wp_ret ?_
  refine E.ret _ (Rs.c (adrC x.addr ++ ([Value.int .u64 x.nonce] ++ (wdC x.bal ++ ([vg3] ++ ([vg4]))))) rfl rfl ta34 (rangeAt_of_block (hst.mem (i := 0) rfl) (Seg.all _))) ?_
  exact ⟨g4, _, _, rfl, ⟨hst.keep, hst.has, hle0, hgn0⟩, hx.own hslg3 hslg4⟩

theorem find_any (xs : List AV) (v : Value) (a : Nat) (ha : a < NA) (g : Gh) (w0 : World) (hg : Has w0 g) (hv : SlAt g 27 (avRows xs) v) (hlen : xs.length ≤ 140737488355328) (hok : ∀ x ∈ xs, AOk g x) : Calls Try.prog 17 #[v, .agg (adrC a).toArray] w0 (Ret fun u w => u = .tuple #[.agg (avC (findD xs a)).toArray, .bool (findA xs a).isSome] ∧ Keep Non w0 w) := by
  go_enter Try.func17, Try.ntmps17
  change Code.wp _ _ _ (F [v, Value.agg (adrC a).toArray, undef, undef, undef, undef, undef, undef, undef, undef, undef, undef, undef, undef, undef, undef, undef, undef, undef, undef, undef, undef, undef, undef, undef]) _
  have hst := St.start Non hg
  refine E.seq (fun K1 hK1 => ?_)
  refine rg ?_
  refine TL.box (vs := adrC a) hst rfl rfl ?_
  intro w n1 hst
  refine ⟨trivial, ?_⟩
  refine TL.alloc hst zv34 rfl ?_
  intro w n2 hst
  refine ⟨trivial, ?_⟩
  refine TL.assign (Value.bool false) rfl rfl ?_
  refine TL.nil ?_
  refine hK1 _ _ ?_
  refine E.norm (by simp only [List.set_cons_succ, List.set_cons_zero]; rfl) ?_
  refine E.seq (fun K2 hK2 => ?_)
  refine E.seq (fun K3 hK3 => ?_)
  refine rg ?_
  refine TL.move (v) rfl rfl ?_
  refine TL.lenR (n := xs.length) (hv) (by simp) Try.underlying22 rfl rfl ?_
  refine TL.move (Value.int .i64 0) rfl rfl ?_
  refine TL.nil ?_
  refine hK3 _ _ ?_
  refine E.norm (by simp only [List.set_cons_succ, List.set_cons_zero]; rfl) ?_
  refine wp_block ?_
  refine E.loop (fun m l w => ∃ (k : Nat), m = xs.length - k ∧ Fits [some (v), some (Value.agg (adrC a).toArray), some (undef), some (Value.pointer (some ⟨n1, 0, none⟩)), some (Value.pointer (some ⟨n2, 0, none⟩)), none, none, some (v), some (Value.int .i64 ((xs.length : Int))), some (Value.int .i64 ((k : Int))), none, none, none, none, none, none, none, none, none, none, none, none, none, none, some (undef)] l ∧ St Non w0 w g [(n2, .cells (adrC 0 ++ ([Value.int .u64 0] ++ (wdC 0 ++ ([Value.slice none 0 0] ++ ([Value.slice none 0 0]))))).toArray 34 (0, 0)), (n1, .cells (adrC a).toArray 28 (0, 0))] ∧ (k ≤ xs.length) ∧ (∀ i, (hi : i < xs.length) → i < k → xs[i].addr ≠ a)) _ ⟨0, rfl, (by first | (simp only [List.set_cons_succ, List.set_cons_zero]; exact .s rfl (.s rfl (.s rfl (.s rfl (.s rfl (.n (.n (.s rfl (.s rfl (.s rfl (.n (.n (.n (.n (.n (.n (.n (.n (.n (.n (.n (.n (.n (.n (.s rfl (.z)))))))))))))))))))))))))) | exact .s rfl (.s rfl (.s rfl (.s rfl (.s rfl (.n (.n (.s rfl (.s rfl (.s rfl (.n (.n (.n (.n (.n (.n (.n (.n (.n (.n (.n (.n (.n (.n (.s rfl (.z)))))))))))))))))))))))))), hst, by omega, fun i _ h => by omega⟩ ?_
  rintro _ _ w ⟨k, hm1, hfit, hst, hk, hall⟩
  obtain ⟨j1, rfl⟩ := hfit.ex
  refine E.norm (l' := [v, Value.agg (adrC a).toArray, undef, Value.pointer (some ⟨n1, 0, none⟩), Value.pointer (some ⟨n2, 0, none⟩), (j1 5), (j1 6), v, Value.int .i64 ((xs.length : Int)), Value.int .i64 ((k : Int)), (j1 10), (j1 11), (j1 12), (j1 13), (j1 14), (j1 15), (j1 16), (j1 17), (j1 18), (j1 19), (j1 20), (j1 21), (j1 22), (j1 23), undef]) rfl ?_
  refine E.seq (fun K4 hK4 => ?_)
  refine rg ?_
  refine TL.lss rfl rfl rfl ?_
  refine TL.nil ?_
  refine hK4 _ _ ?_
  refine E.norm (by simp only [List.set_cons_succ, List.set_cons_zero]; rfl) ?_
  refine E.seq (fun K5 hK5 => ?_)
  refine E.cond rfl (fun hc1 => ?_) (fun hc1 => ?_)
  · replace hc1 := of_decide_eq_true hc1
    have hlt : k < xs.length := by omega
    refine wp_skip ?_
    refine hK5 _ _ ?_
    refine E.seq (fun K6 hK6 => ?_)
    refine wp_block ?_
    refine E.seq (fun K7 hK7 => ?_)
    refine rg ?_
    refine TL.move (Value.int .i64 ((k : Int))) rfl rfl ?_
    refine TL.assign (Value.int .i64 ((k : Int))) rfl rfl ?_
    refine TL.nil ?_
    refine hK7 _ _ ?_
    refine E.norm (by simp only [List.set_cons_succ, List.set_cons_zero]; rfl) ?_
    refine E.seq (fun K8 hK8 => ?_)
    refine rgD mixed #[0, 0, 3, 7, 15, 0, 63] (by kernel_rfl) ?_
    replace hst := hst.drew
    refine TL.move (v) rfl rfl ?_
    refine TL.move (Value.int .i64 ((k : Int))) rfl rfl ?_
    refine TL.indexR (hv) sl22 rfl rfl (by omega) (by simp only [avRows_length, slotRows_length, byteRows_length]; omega) rfl ?_
    intro b3 o4 hr5
    refine TL.norm (by simp only [List.set_cons_succ, List.set_cons_zero]; rfl) ?_
    refine TL.fieldAddr fa34_0 rfl rfl ?_
    refine TL.ldG b3 (o4 + ((k : Int) : Int).toNat * 27 + (0)) (adrC xs[k].addr) (fun _ h => h ▸ hst) ((hr5 _ _ (avRows_get hlt)).sub (Seg.here _ _)) ta28 rfl rfl ?_
    refine TL.ldL 1 n1 (0) (adrC a) (fun _ h => h ▸ hst) rfl (Seg.all _) ta28 rfl rfl ?_
    refine TL.norm (by simp only [List.set_cons_succ, List.set_cons_zero]; rfl) ?_
    refine TL.eqlA eq28 (a := xs[k].addr) (b := a) rfl rfl ((hok _ (List.getElem_mem hlt)).addr) (ha) rfl ?_
    refine TL.nil ?_
    refine hK8 _ _ ?_
    refine E.norm (by simp only [List.set_cons_succ, List.set_cons_zero]; rfl) ?_
    refine E.cond rfl (fun hc2 => ?_) (fun hc2 => ?_)
    · replace hc2 := eq_of_beq hc2
      refine E.seq (fun K9 hK9 => ?_)
      refine rg ?_
      refine TL.move (v) rfl rfl ?_
      refine TL.move (Value.int .i64 ((k : Int))) rfl rfl ?_
      refine TL.indexR (hv) sl22 rfl rfl (by omega) (by simp only [avRows_length, slotRows_length, byteRows_length]; omega) rfl ?_
      intro b6 o7 hr8
      refine TL.norm (by simp only [List.set_cons_succ, List.set_cons_zero]; rfl) ?_
      refine TL.ldG b6 (o7 + ((k : Int) : Int).toNat * 27 + (0)) (adrC xs[k].addr ++ ([Value.int .u64 xs[k].nonce] ++ (wdC xs[k].bal ++ ([xs[k].code] ++ ([xs[k].stor]))))) (fun _ h => h ▸ hst) ((hr8 _ _ (avRows_get hlt)).sub (Seg.all _)) ta34 rfl rfl ?_
      refine TL.st 0 n2 (0) (vs := adrC xs[k].addr ++ ([Value.int .u64 xs[k].nonce] ++ (wdC xs[k].bal ++ ([xs[k].code] ++ ([xs[k].stor]))))) hst rfl (Put.all (by simp)) rfl (One.app (One.adr _) (One.app (One.one rfl) (One.app (One.wd _) (One.app (One.one (hok _ (List.getElem_mem hlt)).code.one) (One.one (hok _ (List.getElem_mem hlt)).stor.one))))) tz34 rfl rfl ?_
      intro w hst
      refine ⟨trivial, ?_⟩
      refine TL.assign (Value.bool true) rfl rfl ?_
      refine TL.nil ?_
      refine hK9 _ _ ?_
      refine E.norm (by simp only [List.set_cons_succ, List.set_cons_zero]; rfl) ?_
      refine wp_ret ?_
      refine E.ret _ (Rs.ct (adrC xs[k].addr ++ ([Value.int .u64 xs[k].nonce] ++ (wdC xs[k].bal ++ ([xs[k].code] ++ ([xs[k].stor]))))) (Value.bool true) rfl rfl ta34 (rangeAt_of_block (hst.mem (i := 0) rfl) (Seg.all _)) rfl) ?_
      exact ⟨find_at hlt hall hc2, hst.keep⟩
    · replace hc2 := ne_of_beq_false hc2
      refine wp_skip ?_
      refine hK6 _ _ ?_
      refine rg ?_
      refine TL.add (((k : Int)) + 1) rfl rfl (by refine ⟨rfl, ?_⟩; have := hlen; dsimp only [inR]; omega) rfl ?_
      refine TL.move (Value.int .i64 (((k : Int)) + 1)) rfl rfl ?_
      refine TL.nil ?_
      refine ⟨_, _, ?_, rfl, k + 1, rfl, (by first | (simp only [List.set_cons_succ, List.set_cons_zero]; exact .s rfl (.s rfl (.s rfl (.s rfl (.s rfl (.n (.n (.s rfl (.s rfl (.s rfl (.n (.n (.n (.n (.n (.n (.n (.n (.n (.n (.n (.n (.n (.n (.s rfl (.z)))))))))))))))))))))))))) | exact .s rfl (.s rfl (.s rfl (.s rfl (.s rfl (.n (.n (.s rfl (.s rfl (.s rfl (.n (.n (.n (.n (.n (.n (.n (.n (.n (.n (.n (.n (.n (.n (.s rfl (.z)))))))))))))))))))))))))), hst, by omega, find_step hlt hall hc2⟩
      omega
  · replace hc1 := of_decide_eq_false hc1
    refine wp_exit ?_
    refine hK2 _ _ ?_
    refine E.seq (fun K10 hK10 => ?_)
    refine rg ?_
    refine TL.buildS (ps := []) bs34 zv34 rfl (Fl.nil _) rfl ?_
    refine TL.norm (by simp only [List.set_cons_succ, List.set_cons_zero]; rfl) ?_
    refine TL.st 0 n2 (0) (vs := adrC 0 ++ ([Value.int .u64 0] ++ (wdC 0 ++ ([Value.slice none 0 0] ++ ([Value.slice none 0 0]))))) hst rfl (Put.all (by simp)) rfl (One.app (One.adr _) (One.app (One.one rfl) (One.app (One.wd _) (One.app (One.one rfl) (One.one rfl))))) tz34 rfl rfl ?_
    intro w hst
    refine ⟨trivial, ?_⟩
    refine TL.assign (Value.bool false) rfl rfl ?_
    refine TL.nil ?_
    refine hK10 _ _ ?_
    refine E.norm (by simp only [List.set_cons_succ, List.set_cons_zero]; rfl) ?_
    refine wp_ret ?_
    refine E.ret _ (Rs.ct (adrC 0 ++ ([Value.int .u64 0] ++ (wdC 0 ++ ([Value.slice none 0 0] ++ ([Value.slice none 0 0]))))) (Value.bool false) rfl rfl ta34 (rangeAt_of_block (hst.mem (i := 0) rfl) (Seg.all _)) rfl) ?_
    exact ⟨find_no (by omega) hall, hst.keep⟩
end Go.Proofs.Ytafmgghpcneoeaa
