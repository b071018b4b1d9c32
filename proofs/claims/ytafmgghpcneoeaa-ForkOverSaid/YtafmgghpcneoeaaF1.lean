/- Walks, printed by wip/tools/lift.py: what each function comes to, and that it does. -/
import Derived.Test.YtafmgghpcneoeaaMp
import Derived.Test.YtafmgghpcneoeaaProg
import Derived.KernelRfl

namespace Go.Proofs.Ytafmgghpcneoeaa
open Go Go.RowKit
set_option maxRecDepth 100000
set_option maxHeartbeats 4000000
structure T_api_Slot where
  fKey : Ar 4
  fValue : Ar 4
  deriving DecidableEq
instance : Inhabited T_api_Slot := ⟨⟨default, default⟩⟩
def rT_api_Slot : RT T_api_Slot := ⟨8, fun g x cs => cs = iaC .u64 x.fKey ++ (iaC .u64 x.fValue), fun h _ => h, fun h => by subst h; exact ⟨by simp, (One.ia _ _).app (One.ia _ _)⟩⟩

structure T_api_Account where
  fAddress : Ar 20
  fNonce : Int
  fBalance : Ar 4
  fCode : List Int
  fStorage : List T_api_Slot
instance : Inhabited T_api_Account := ⟨⟨default, default, default, default, default⟩⟩
def rT_api_Account : RT T_api_Account := ⟨27, fun g x cs => ∃ (v1 : Value) (v2 : Value), cs = iaC .u8 x.fAddress ++ ([Value.int .u64 x.fNonce] ++ (iaC .u64 x.fBalance ++ ([v1] ++ ([v2])))) ∧ Sl (rtI .u8) g x.fCode v1 ∧ Sl rT_api_Slot g x.fStorage v2, fun ⟨v1, v2, h, h1, h2⟩ hg => ⟨v1, v2, h, h1.mono hg, h2.mono hg⟩, fun ⟨v1, v2, h, h1, h2⟩ => by subst h; exact ⟨by simp, (One.ia _ _).app ((One.one rfl).app ((One.ia _ _).app ((One.one h1.one).app (One.one h2.one))))⟩⟩

theorem ta31 : TA Try.prog 31 4 := ⟨⟨_, Try.underlying31, rfl⟩, by kernel_rfl⟩
theorem eqa31 : EQA Try.prog 31 .u64 4 := EQA.mk' Try.underlying31 Try.underlying29 (by kernel_rfl) (by kernel_rfl)
theorem mixed : Try.prog.follows .mixedOrders = true := by kernel_rfl
theorem ar31 : AR Try.prog 31 4 1 := ⟨_, Try.underlying31, by kernel_rfl⟩
theorem ts29 : TS Try.prog 29 := ⟨⟨_, Try.underlying29, rfl⟩, by kernel_rfl⟩
theorem kt28 : Mp.KT Try.prog 28 (Mp.kvA .u8 20) := Mp.KT.arr Try.underlying28 Try.underlying5 (by kernel_rfl)
theorem tz133 : (Try.prog.info? 133).map (·.size) = some 1 := by kernel_rfl
theorem tz134 : (Try.prog.info? 134).map (·.size) = some 1 := by kernel_rfl
theorem bs136 : BS Try.prog 136 [(0, 1), (1, 1)] := ⟨_, Try.underlying136, fun w => by simp [Sem.run_bind, run_sizeOf' tz133, run_sizeOf' tz134]⟩
theorem zv136 : ZV Try.prog 136 ([Value.map none] ++ ([Value.map none])) := ⟨.agg ([Value.map none] ++ ([Value.map none])).toArray, by kernel_rfl, rfl⟩
theorem fa136_0 : FA Try.prog 136 0 0 := ⟨_, _, Try.underlying136, rfl, rfl, 0, by kernel_rfl⟩
theorem ts133 : TS Try.prog 133 := ⟨⟨_, Try.underlying133, rfl⟩, by kernel_rfl⟩
theorem ta28 : TA Try.prog 28 20 := ⟨⟨_, Try.underlying28, rfl⟩, by kernel_rfl⟩
theorem zi34 : (Try.prog.info? 34).map (·.zero) = some (some (.agg (iaC .u8 (Ar.zero 20) ++ ([Value.int .u64 0] ++ (iaC .u64 (Ar.zero 4) ++ ([Value.slice none 0 0] ++ ([Value.slice none 0 0]))))).toArray)) := by kernel_rfl
theorem zv34 : ZV Try.prog 34 (iaC .u8 (Ar.zero 20) ++ ([Value.int .u64 0] ++ (iaC .u64 (Ar.zero 4) ++ ([Value.slice none 0 0] ++ ([Value.slice none 0 0]))))) := ⟨.agg (iaC .u8 (Ar.zero 20) ++ ([Value.int .u64 0] ++ (iaC .u64 (Ar.zero 4) ++ ([Value.slice none 0 0] ++ ([Value.slice none 0 0]))))).toArray, by kernel_rfl, rfl⟩
theorem tz34 : (Try.prog.info? 34).map (·.size) = some 27 := by kernel_rfl
theorem fa136_1 : FA Try.prog 136 1 1 := ⟨_, _, Try.underlying136, rfl, rfl, 0, by kernel_rfl⟩
theorem ts134 : TS Try.prog 134 := ⟨⟨_, Try.underlying134, rfl⟩, by kernel_rfl⟩
theorem zi3 : (Try.prog.info? 3).map (·.zero) = some (some (Value.int .i64 0)) := by kernel_rfl
theorem sl24 : SL Try.prog 24 5 1 := ⟨Try.underlying24, by kernel_rfl⟩
theorem zv5 : ZV Try.prog 5 ([Value.int .u8 0]) := ⟨Value.int .u8 0, by kernel_rfl, rfl⟩
theorem ae24 : AE Try.prog 24 5 1 1 := ⟨Try.underlying24, by kernel_rfl, by kernel_rfl, ⟨Value.int .u8 0, by kernel_rfl, by kernel_rfl⟩, by decide⟩
theorem sl32 : SL Try.prog 32 131 8 := ⟨Try.underlying32, by kernel_rfl⟩
theorem zv131 : ZV Try.prog 131 (iaC .u64 (Ar.zero 4) ++ (iaC .u64 (Ar.zero 4))) := ⟨.agg (iaC .u64 (Ar.zero 4) ++ (iaC .u64 (Ar.zero 4))).toArray, by kernel_rfl, rfl⟩
theorem ae32 : AE Try.prog 32 131 8 64 := ⟨Try.underlying32, by kernel_rfl, by kernel_rfl, ⟨.agg (iaC .u64 (Ar.zero 4) ++ (iaC .u64 (Ar.zero 4))).toArray, by kernel_rfl, by kernel_rfl⟩, by decide⟩
theorem fa34_4 : FA Try.prog 34 4 26 := ⟨_, _, Try.underlying34, rfl, rfl, 0, by kernel_rfl⟩
theorem ts32 : TS Try.prog 32 := ⟨⟨_, Try.underlying32, rfl⟩, by kernel_rfl⟩
theorem ta131 : TA Try.prog 131 8 := ⟨⟨_, Try.underlying131, rfl⟩, by kernel_rfl⟩
theorem tz131 : (Try.prog.info? 131).map (·.size) = some 8 := by kernel_rfl
theorem fa131_1 : FA Try.prog 131 1 4 := ⟨_, _, Try.underlying131, rfl, rfl, 3, by kernel_rfl⟩
theorem zv31 : ZV Try.prog 31 (iaC .u64 (Ar.zero 4)) := ⟨.agg (iaC .u64 (Ar.zero 4)).toArray, by kernel_rfl, rfl⟩
theorem fa131_0 : FA Try.prog 131 0 0 := ⟨_, _, Try.underlying131, rfl, rfl, 3, by kernel_rfl⟩
theorem co87 : CO Try.prog 87 := ⟨_, Try.func87, by kernel_rfl, by kernel_rfl⟩
theorem fa34_3 : FA Try.prog 34 3 25 := ⟨_, _, Try.underlying34, rfl, rfl, 0, by kernel_rfl⟩
theorem ts24 : TS Try.prog 24 := ⟨⟨_, Try.underlying24, rfl⟩, by kernel_rfl⟩
theorem co92 : CO Try.prog 92 := ⟨_, Try.func92, by kernel_rfl, by kernel_rfl⟩
theorem tz24 : (Try.prog.info? 24).map (·.size) = some 1 := by kernel_rfl
theorem co93 : CO Try.prog 93 := ⟨_, Try.func93, by kernel_rfl, by kernel_rfl⟩
theorem tz32 : (Try.prog.info? 32).map (·.size) = some 1 := by kernel_rfl
theorem ta34 : TA Try.prog 34 27 := ⟨⟨_, Try.underlying34, rfl⟩, by kernel_rfl⟩
theorem co71 : CO Try.prog 71 := ⟨_, Try.func71, by kernel_rfl, by kernel_rfl⟩
theorem fa34_0 : FA Try.prog 34 0 0 := ⟨_, _, Try.underlying34, rfl, rfl, 19, by kernel_rfl⟩
theorem co72 : CO Try.prog 72 := ⟨_, Try.func72, by kernel_rfl, by kernel_rfl⟩
theorem tz28 : (Try.prog.info? 28).map (·.size) = some 20 := by kernel_rfl
theorem tz29 : (Try.prog.info? 29).map (·.size) = some 1 := by kernel_rfl
theorem tz31 : (Try.prog.info? 31).map (·.size) = some 4 := by kernel_rfl
theorem bs34 : BS Try.prog 34 [(0, 20), (20, 1), (21, 4), (25, 1), (26, 1)] := ⟨_, Try.underlying34, fun w => by simp [Sem.run_bind, run_sizeOf' tz28, run_sizeOf' tz29, run_sizeOf' tz31, run_sizeOf' tz24, run_sizeOf' tz32]⟩

def word_Compare (p0 : Ar 4) (p1 : Ar 4) (Q : Int → Prop) : Prop :=
  ((p0 = p1) → (Q 0)) ∧ ((¬ (p0 = p1)) → (∃ (I6 : Int → Prop) (m7 : Int → Nat), (I6 3) ∧ ∀ (x5 : Int), (I6 x5 → ((0 ≤ x5) ∧ (x5 < 4) ∧ ((0 ≤ x5) ∧ (x5 < 4) ∧ (((p0.g x5 = p1.g x5) → ((inR .i64 (x5 - 1)) ∧ (I6 (x5 - 1) ∧ m7 (x5 - 1) < m7 x5))) ∧ ((¬ (p0.g x5 = p1.g x5)) → ((0 ≤ x5) ∧ (x5 < 4) ∧ ((0 ≤ x5) ∧ (x5 < 4) ∧ (((p0.g x5 < p1.g x5) → (Q (-1))) ∧ ((¬ (p0.g x5 < p1.g x5)) → (Q 1))))))))))))
theorem w_word_Compare (p0 : Ar 4) (p1 : Ar 4) (g : Gh) (w0 : World) (hg : Has w0 g) (Q : Int → Prop) (hp : word_Compare p0 p1 Q) : Calls Try.prog 87 #[Value.agg (iaC .u64 p0).toArray, Value.agg (iaC .u64 p1).toArray] w0 (Ret fun u w => Keep Non w0 w ∧ ∃ (r1 : Int), Q r1 ∧ u = Value.int .i64 r1) := by
  unfold word_Compare at hp
  go_enter Try.func87, Try.ntmps87
  change Code.wp _ _ _ (F [Value.agg (iaC .u64 p0).toArray, Value.agg (iaC .u64 p1).toArray, undef, undef, undef, undef, undef, undef, undef, undef, undef, undef, undef, undef, undef, undef, undef, undef, undef, undef, undef, undef, undef, undef, undef]) _
  have hst := St.start Non hg
  have hgn0 : GN Non w0 g g := GN.refl _ _ _
  have hle0 : g.le g := Gh.le_refl _
  refine E.seq (fun K1 hK1 => ?_)
  refine rg ?_
  refine TL.box (vs := iaC .u64 p0) hst rfl rfl ?_
  intro w n1 hst
  refine ⟨trivial, ?_⟩
  refine TL.box (vs := iaC .u64 p1) hst rfl rfl ?_
  intro w n2 hst
  refine ⟨trivial, ?_⟩
  refine TL.assign (Value.int .i64 0) rfl rfl ?_
  refine TL.norm (by simp only [List.set_cons_succ, List.set_cons_zero]; rfl) ?_
  refine TL.nil ?_
  refine hK1 _ _ ?_
  refine E.seq (fun K2 hK2 => ?_)
  refine E.seq (fun K3 hK3 => ?_)
  refine rg ?_
  refine TL.ldL 1 n1 (0) (iaC .u64 p0) (fun _ h => h ▸ hst) rfl (Seg.all _) (ta31.of (by simp)) rfl rfl ?_
  refine TL.ldL 0 n2 (0) (iaC .u64 p1) (fun _ h => h ▸ hst) rfl (Seg.all _) (ta31.of (by simp)) rfl rfl ?_
  refine TL.eqlIA eqa31 rfl rfl rfl ?_
  refine TL.norm (by simp only [List.set_cons_succ, List.set_cons_zero]; rfl) ?_
  refine TL.nil ?_
  refine hK3 _ _ ?_
  refine E.cond rfl (fun hc3 => ?_) (fun hc3 => ?_)
  · replace hp := hp.1 (of_decide_eq_true hc3)
    refine E.seq (fun K4 hK4 => ?_)
    refine rg ?_
    refine TL.assign (Value.int .i64 0) rfl rfl ?_
    refine TL.nil ?_
    refine hK4 _ _ ?_
    refine E.norm (by simp only [List.set_cons_succ, List.set_cons_zero]; rfl) ?_
    refine wp_ret ?_
    refine E.ret _ (Rs.t (Value.int .i64 0) rfl rfl) ?_
    exact ⟨hst.keep, 0, hp, rfl⟩
  · replace hp := hp.2 (of_decide_eq_false hc3)
    refine wp_skip ?_
    refine hK2 _ _ ?_
    refine E.seq (fun K5 hK5 => ?_)
    refine rg ?_
    refine TL.assign (Value.int .i64 3) rfl rfl ?_
    refine TL.nil ?_
    refine hK5 _ _ ?_
    refine E.norm (by simp only [List.set_cons_succ, List.set_cons_zero]; rfl) ?_
    refine E.seq (fun K6 hK6 => ?_)
    refine wp_block ?_
    obtain ⟨I6, m7, hI0, hI⟩ := hp
    refine E.loop (fun mm l w => ∃ (x5 : Int), (mm = m7 x5) ∧ (I6 x5) ∧ Fits [some (Value.agg (iaC .u64 p0).toArray), some (Value.agg (iaC .u64 p1).toArray), some (Value.pointer (some ⟨n1, 0, none⟩)), some (Value.pointer (some ⟨n2, 0, none⟩)), some (Value.int .i64 0), some (Value.int .i64 x5), some (Value.agg (iaC .u64 p0).toArray), some (Value.agg (iaC .u64 p1).toArray), some (Value.bool (decide (p0 = p1))), none, none, none, none, none, none, none, none, none, some (undef), some (undef), some (undef), some (undef), some (undef), some (undef), some (undef)] l ∧ St Non w0 w g ([(n2, .cells (iaC .u64 p1).toArray 31 (0, 0)), (n1, .cells (iaC .u64 p0).toArray 31 (0, 0))])) _ ⟨3, rfl, hI0, (by first | (simp only [List.set_cons_succ, List.set_cons_zero]; exact .s rfl (.s rfl (.s rfl (.s rfl (.s rfl (.s rfl (.s rfl (.s rfl (.s rfl (.n (.n (.n (.n (.n (.n (.n (.n (.n (.s rfl (.s rfl (.s rfl (.s rfl (.s rfl (.s rfl (.s rfl (.z)))))))))))))))))))))))))) | exact .s rfl (.s rfl (.s rfl (.s rfl (.s rfl (.s rfl (.s rfl (.s rfl (.s rfl (.n (.n (.n (.n (.n (.n (.n (.n (.n (.s rfl (.s rfl (.s rfl (.s rfl (.s rfl (.s rfl (.s rfl (.z)))))))))))))))))))))))))), hst⟩ ?_
    rintro _ _ w ⟨x5, rfl, hI1, hfit, hst⟩
    have hp := hI _ hI1
    obtain ⟨j4, rfl⟩ := hfit.ex
    refine E.norm (l' := [Value.agg (iaC .u64 p0).toArray, Value.agg (iaC .u64 p1).toArray, Value.pointer (some ⟨n1, 0, none⟩), Value.pointer (some ⟨n2, 0, none⟩), Value.int .i64 0, Value.int .i64 x5, Value.agg (iaC .u64 p0).toArray, Value.agg (iaC .u64 p1).toArray, Value.bool (decide (p0 = p1)), (j4 9), (j4 10), (j4 11), (j4 12), (j4 13), (j4 14), (j4 15), (j4 16), (j4 17), undef, undef, undef, undef, undef, undef, undef]) rfl ?_
    refine E.seq (fun K7 hK7 => ?_)
    refine E.seq (fun K8 hK8 => ?_)
    refine rgD mixed #[0, 1, 3, 0, 8, 24, 63] (by kernel_rfl) ?_
    replace hst := hst.drew
    refine TL.move (Value.int .i64 x5) rfl rfl ?_
    obtain ⟨ho8, ho9, hp⟩ := hp
    refine TL.indexA (0 + (x5 : Int).toNat) ar31 rfl rfl ho8 ho9 (by first | rfl | omega) rfl ?_
    refine TL.ldIA 1 n1 (0) p0 x5 (fun _ h => h ▸ hst) rfl (Seg.all _) ho8 ho9 ts29 rfl rfl ?_
    refine TL.norm (by simp only [List.set_cons_succ, List.set_cons_zero]; rfl) ?_
    refine TL.move (Value.int .i64 x5) rfl rfl ?_
    obtain ⟨ho10, ho11, hp⟩ := hp
    refine TL.indexA (0 + (x5 : Int).toNat) ar31 rfl rfl ho10 ho11 (by first | rfl | omega) rfl ?_
    refine TL.ldIA 0 n2 (0) p1 x5 (fun _ h => h ▸ hst) rfl (Seg.all _) ho10 ho11 ts29 rfl rfl ?_
    refine TL.norm (by simp only [List.set_cons_succ, List.set_cons_zero]; rfl) ?_
    refine TL.eqlD rfl rfl rfl ?_
    refine TL.nil ?_
    refine hK8 _ _ ?_
    refine E.norm (by simp only [List.set_cons_succ, List.set_cons_zero]; rfl) ?_
    refine E.cond rfl (fun hc12 => ?_) (fun hc12 => ?_)
    · replace hp := hp.1 (of_decide_eq_true hc12)
      refine wp_skip ?_
      refine hK7 _ _ ?_
      refine wp_block ?_
      refine rg ?_
      refine TL.move (Value.int .i64 x5) rfl rfl ?_
      obtain ⟨ho13, hp⟩ := hp
      refine TL.sub (x5 - 1) rfl rfl ⟨rfl, ho13⟩ rfl ?_
      refine TL.assign (Value.int .i64 (x5 - 1)) rfl rfl ?_
      refine TL.norm (by simp only [List.set_cons_succ, List.set_cons_zero]; rfl) ?_
      refine TL.nil ?_
      exact ⟨_, _, hp.2, rfl, (x5 - 1), rfl, hp.1, (by first | (simp only [List.set_cons_succ, List.set_cons_zero]; exact .s rfl (.s rfl (.s rfl (.s rfl (.s rfl (.s rfl (.s rfl (.s rfl (.s rfl (.n (.n (.n (.n (.n (.n (.n (.n (.n (.s rfl (.s rfl (.s rfl (.s rfl (.s rfl (.s rfl (.s rfl (.z)))))))))))))))))))))))))) | exact .s rfl (.s rfl (.s rfl (.s rfl (.s rfl (.s rfl (.s rfl (.s rfl (.s rfl (.n (.n (.n (.n (.n (.n (.n (.n (.n (.s rfl (.s rfl (.s rfl (.s rfl (.s rfl (.s rfl (.s rfl (.z)))))))))))))))))))))))))), hst⟩
    · replace hp := hp.2 (of_decide_eq_false hc12)
      refine wp_exit ?_
      refine hK6 _ _ ?_
      refine E.seq (fun K9 hK9 => ?_)
      refine E.seq (fun K10 hK10 => ?_)
      refine rgD mixed #[0, 1, 3, 0, 8, 24, 63] (by kernel_rfl) ?_
      replace hst := hst.drew
      refine TL.move (Value.int .i64 x5) rfl rfl ?_
      obtain ⟨ho14, ho15, hp⟩ := hp
      refine TL.indexA (0 + (x5 : Int).toNat) ar31 rfl rfl ho14 ho15 (by first | rfl | omega) rfl ?_
      refine TL.ldIA 1 n1 (0) p0 x5 (fun _ h => h ▸ hst) rfl (Seg.all _) ho14 ho15 ts29 rfl rfl ?_
      refine TL.norm (by simp only [List.set_cons_succ, List.set_cons_zero]; rfl) ?_
      refine TL.move (Value.int .i64 x5) rfl rfl ?_
      obtain ⟨ho16, ho17, hp⟩ := hp
      refine TL.indexA (0 + (x5 : Int).toNat) ar31 rfl rfl ho16 ho17 (by first | rfl | omega) rfl ?_
      refine TL.ldIA 0 n2 (0) p1 x5 (fun _ h => h ▸ hst) rfl (Seg.all _) ho16 ho17 ts29 rfl rfl ?_
      refine TL.norm (by simp only [List.set_cons_succ, List.set_cons_zero]; rfl) ?_
      refine TL.lss rfl rfl rfl ?_
      refine TL.nil ?_
      refine hK10 _ _ ?_
      refine E.norm (by simp only [List.set_cons_succ, List.set_cons_zero]; rfl) ?_
      refine E.cond rfl (fun hc18 => ?_) (fun hc18 => ?_)
      · replace hp := hp.1 (of_decide_eq_true hc18)
        refine E.seq (fun K11 hK11 => ?_)
        refine rg ?_
        refine TL.assign (Value.int .i64 ((-1))) rfl rfl ?_
        refine TL.nil ?_
        refine hK11 _ _ ?_
        refine E.norm (by simp only [List.set_cons_succ, List.set_cons_zero]; rfl) ?_
        refine wp_ret ?_
        refine E.ret _ (Rs.t (Value.int .i64 ((-1))) rfl rfl) ?_
        exact ⟨hst.keep, (-1), hp, rfl⟩
      · replace hp := hp.2 (of_decide_eq_false hc18)
        refine wp_skip ?_
        refine hK9 _ _ ?_
        refine E.seq (fun K12 hK12 => ?_)
        refine rg ?_
        refine TL.assign (Value.int .i64 1) rfl rfl ?_
        refine TL.nil ?_
        refine hK12 _ _ ?_
        refine E.norm (by simp only [List.set_cons_succ, List.set_cons_zero]; rfl) ?_
        refine wp_ret ?_
        refine E.ret _ (Rs.t (Value.int .i64 1) rfl rfl) ?_
        exact ⟨hst.keep, 1, hp, rfl⟩

def fork_New (Q : (List (Ar 20 × T_api_Account)) → (List (Ar 20 × Int)) → Prop) : Prop :=
  Q ([]) ([])
theorem w_fork_New (g : Gh) (w0 : World) (hg : Has w0 g) (Q : (List (Ar 20 × T_api_Account)) → (List (Ar 20 × Int)) → Prop) (hp : fork_New Q) : Calls Try.prog 16 #[] w0 (Ret fun u w => ∃ (r0_fknown : List (Ar 20 × T_api_Account)) (r0_ftries : List (Ar 20 × Int)), Q r0_fknown r0_ftries ∧ ∃ (rb0 : Nat) (r0m_fknown : Nat) (r0q_fknown : Obj) (r0m_ftries : Nat) (r0q_ftries : Obj), u = Value.pointer (some ⟨rb0, 0, none⟩) ∧ Mp.MR rT_api_Account true (Mp.kvA .u8 20) g r0_fknown r0q_fknown ∧ Mp.MR (rtI .i64) false (Mp.kvA .u8 20) g r0_ftries r0q_ftries ∧ St Non w0 w g ([(rb0, .cells ([Value.map (some r0m_fknown)] ++ ([Value.map (some r0m_ftries)])).toArray 136 (0, 0)), (r0m_fknown, r0q_fknown), (r0m_ftries, r0q_ftries)])) := by
  unfold fork_New at hp
  go_enter Try.func16, Try.ntmps16
  change Code.wp _ _ _ (F [undef, undef, undef, undef, undef]) _
  have hst := St.start Non hg
  have hgn0 : GN Non w0 g g := GN.refl _ _ _
  have hle0 : g.le g := Gh.le_refl _
  refine E.seq (fun K1 hK1 => ?_)
  refine rg ?_
  refine TL.assign (Value.pointer none) rfl rfl ?_
  refine TL.nil ?_
  refine hK1 _ _ ?_
  refine E.norm (by simp only [List.set_cons_succ, List.set_cons_zero]; rfl) ?_
  refine E.seq (fun K2 hK2 => ?_)
  refine rg ?_
  refine Mp.TL.pmake rT_api_Account true (Mp.kvA .u8 20) hst rfl ?_
  intro w n1 q2 hmq2 hst
  refine ⟨trivial, ?_⟩
  refine Mp.TL.pmake (rtI .i64) false (Mp.kvA .u8 20) hst rfl ?_
  intro w n3 q4 hmq4 hst
  refine ⟨trivial, ?_⟩
  refine TL.buildS (ps := [(0, Value.map (some n1)), (1, Value.map (some n3))]) bs136 zv136 rfl (Fl.cons (vs := [Value.map (some n1)]) (by simp) rfl (Put.here (by simp)) (Fl.cons (vs := [Value.map (some n3)]) (by simp) rfl (Put.skip (m := 1) (by simp) (Put.all (by simp))) (Fl.nil _))) rfl ?_
  refine TL.norm (by simp only [List.set_cons_succ, List.set_cons_zero]; rfl) ?_
  refine TL.box (vs := [Value.map (some n1)] ++ ([Value.map (some n3)])) hst rfl rfl ?_
  intro w n5 hst
  refine ⟨trivial, ?_⟩
  refine TL.assign (Value.pointer (some ⟨n5, 0, none⟩)) rfl rfl ?_
  refine TL.nil ?_
  refine hK2 _ _ ?_
  refine E.norm (by simp only [List.set_cons_succ, List.set_cons_zero]; rfl) ?_
  refine wp_ret ?_
  refine E.ret _ (Rs.t (Value.pointer (some ⟨n5, 0, none⟩)) rfl rfl) ?_
  exact ⟨[], [], hp, _, _, _, _, _, rfl, hmq2, hmq4, (hst.sub (.cons_cons _ (.cons_cons _ (.cons_cons _ (List.Sublist.refl _))))).perm (List.Perm.cons _ ((List.Perm.swap _ _ _).trans (List.Perm.refl _)))⟩

def fork_Cache_Want (p0_fknown : List (Ar 20 × T_api_Account)) (p0_ftries : List (Ar 20 × Int)) (p1 : Ar 20) (Q : Int → (List (Ar 20 × T_api_Account)) → (List (Ar 20 × Int)) → Prop) : Prop :=
  (Mp.pget p0_fknown p1 = none → ((Mp.pget p0_ftries p1 = none → (Q 3 p0_fknown (Mp.pset p0_ftries p1 0))) ∧ (∀ x4, Mp.pget p0_ftries p1 = some x4 → (Q 2 p0_fknown p0_ftries)))) ∧ (∀ x5, Mp.pget p0_fknown p1 = some x5 → (Q 1 p0_fknown p0_ftries))
theorem w_fork_Cache_Want (p0_fknown : List (Ar 20 × T_api_Account)) (p0_ftries : List (Ar 20 × Int)) (p1 : Ar 20) (pb0 : Nat) (p0m_fknown : Nat) (p0q_fknown : Obj) (p0m_ftries : Nat) (p0q_ftries : Obj) (g : Gh) (w0 : World) (hst0 : St (Mof ([(pb0, .cells ([Value.map (some p0m_fknown)] ++ ([Value.map (some p0m_ftries)])).toArray 136 (0, 0)), (p0m_fknown, p0q_fknown), (p0m_ftries, p0q_ftries)])) w0 w0 g ([(pb0, .cells ([Value.map (some p0m_fknown)] ++ ([Value.map (some p0m_ftries)])).toArray 136 (0, 0)), (p0m_fknown, p0q_fknown), (p0m_ftries, p0q_ftries)])) (hmp0q_fknown : Mp.MR rT_api_Account true (Mp.kvA .u8 20) g p0_fknown p0q_fknown) (hmp0q_ftries : Mp.MR (rtI .i64) false (Mp.kvA .u8 20) g p0_ftries p0q_ftries) (Q : Int → (List (Ar 20 × T_api_Account)) → (List (Ar 20 × Int)) → Prop) (hp : fork_Cache_Want p0_fknown p0_ftries p1 Q) : Calls Try.prog 18 #[Value.pointer (some ⟨pb0, 0, none⟩), Value.agg (iaC .u8 p1).toArray] w0 (Ret fun u w => ∃ (r1 : Int) (z0_fknown : List (Ar 20 × T_api_Account)) (z0_ftries : List (Ar 20 × Int)), Q r1 z0_fknown z0_ftries ∧ ∃ (z0q_fknown : Obj) (z0q_ftries : Obj), u = Value.int .u8 r1 ∧ Mp.MR rT_api_Account true (Mp.kvA .u8 20) g z0_fknown z0q_fknown ∧ Mp.MR (rtI .i64) false (Mp.kvA .u8 20) g z0_ftries z0q_ftries ∧ St (Mof ([(pb0, .cells ([Value.map (some p0m_fknown)] ++ ([Value.map (some p0m_ftries)])).toArray 136 (0, 0)), (p0m_fknown, p0q_fknown), (p0m_ftries, p0q_ftries)])) w0 w g ([(pb0, .cells ([Value.map (some p0m_fknown)] ++ ([Value.map (some p0m_ftries)])).toArray 136 (0, 0)), (p0m_fknown, z0q_fknown), (p0m_ftries, z0q_ftries)])) := by
  unfold fork_Cache_Want at hp
  go_enter Try.func18, Try.ntmps18
  change Code.wp _ _ _ (F [Value.pointer (some ⟨pb0, 0, none⟩), Value.agg (iaC .u8 p1).toArray, undef, undef, undef, undef, undef, undef, undef, undef, undef, undef, undef, undef, undef, undef, undef, undef, undef, undef, undef, undef, undef, undef, undef, undef, undef, undef, undef, undef, undef, undef, undef, undef, undef, undef]) _
  have hst := hst0
  have hgn0 : GN (Mof ([(pb0, .cells ([Value.map (some p0m_fknown)] ++ ([Value.map (some p0m_ftries)])).toArray 136 (0, 0)), (p0m_fknown, p0q_fknown), (p0m_ftries, p0q_ftries)])) w0 g g := GN.refl _ _ _
  have hle0 : g.le g := Gh.le_refl _
  refine E.seq (fun K1 hK1 => ?_)
  refine rg ?_
  refine TL.box (vs := iaC .u8 p1) hst rfl rfl ?_
  intro w n1 hst
  refine ⟨trivial, ?_⟩
  refine TL.assign (Value.int .u8 0) rfl rfl ?_
  refine TL.nil ?_
  refine hK1 _ _ ?_
  refine E.norm (by simp only [List.set_cons_succ, List.set_cons_zero]; rfl) ?_
  refine E.seq (fun K2 hK2 => ?_)
  refine E.seq (fun K3 hK3 => ?_)
  refine rg ?_
  refine TL.move (Value.pointer (some ⟨pb0, 0, none⟩)) rfl rfl ?_
  refine TL.ptrNil false Try.underlying36 rfl rfl (.inl ⟨rfl, rfl⟩) rfl ?_
  refine TL.nil ?_
  refine hK3 _ _ ?_
  refine E.norm (by simp only [List.set_cons_succ, List.set_cons_zero]; rfl) ?_
  refine E.condF rfl ?_
  refine wp_skip ?_
  refine hK2 _ _ ?_
  refine E.seq (fun K4 hK4 => ?_)
  refine E.seq (fun K5 hK5 => ?_)
  refine rgM [] (fun w' => St (Mof ([(pb0, .cells ([Value.map (some p0m_fknown)] ++ ([Value.map (some p0m_ftries)])).toArray 136 (0, 0)), (p0m_fknown, p0q_fknown), (p0m_ftries, p0q_ftries)])) w0 w' g ([(n1, .cells (iaC .u8 p1).toArray 28 (0, 0)), (pb0, .cells ([Value.map (some p0m_fknown)] ++ ([Value.map (some p0m_ftries)])).toArray 136 (0, 0)), (p0m_fknown, p0q_fknown), (p0m_ftries, p0q_ftries)])) mixed #[0, 1, 3, 7, 0, 31, 63, 127, 127, 0, 767, 2047] (by kernel_rfl) hst.drew ?_
  replace hst := hst.drew
  refine TL.move (Value.pointer (some ⟨pb0, 0, none⟩)) rfl rfl ?_
  refine TL.nilCheck rfl rfl ?_
  refine TL.fieldA (0) fa136_0 rfl (by first | rfl | omega) rfl ?_
  refine TL.norm (by simp only [List.set_cons_succ, List.set_cons_zero]; rfl) ?_
  refine TL.ldL1 1 pb0 (0) (Value.map (some p0m_fknown)) (fun _ h => h) rfl (Seg.here _ _) ts133 rfl rfl ?_
  refine TL.ldL 0 n1 (0) (iaC .u8 p1) (fun _ h => h) rfl (Seg.all _) (ta28.of (by simp)) rfl rfl ?_
  refine Mp.TL.plook (.agg (iaC .u8 (Ar.zero 20) ++ ([Value.int .u64 0] ++ (iaC .u64 (Ar.zero 4) ++ ([Value.slice none 0 0] ++ ([Value.slice none 0 0]))))).toArray) (a := p1)  Try.underlying133 kt28 (fun _ h => h) (i := 2) rfl (hmp0q_fknown) zi34 rfl rfl rfl (fun hn => ?_) ?_
  · replace hp := hp.1 hn
    refine TL.norm (by simp only [List.set_cons_succ, List.set_cons_zero]; rfl) ?_
    refine TL.move (Value.tuple #[Value.agg (iaC .u8 (Ar.zero 20) ++ ([Value.int .u64 0] ++ (iaC .u64 (Ar.zero 4) ++ ([Value.slice none 0 0] ++ ([Value.slice none 0 0]))))).toArray, Value.bool false]) rfl rfl ?_
    refine TL.extract (Value.agg (iaC .u8 (Ar.zero 20) ++ ([Value.int .u64 0] ++ (iaC .u64 (Ar.zero 4) ++ ([Value.slice none 0 0] ++ ([Value.slice none 0 0]))))).toArray) rfl rfl rfl ?_
    refine TL.extract (Value.bool false) rfl rfl rfl ?_
    refine TL.norm (by simp only [List.set_cons_succ, List.set_cons_zero]; rfl) ?_
    refine TL.alloc hst zv34 rfl ?_
    intro w n2 hst
    refine ⟨hst.sub (.cons _ (.cons_cons _ (.cons_cons _ (.cons_cons _ (.cons_cons _ (List.Sublist.refl _)))))), ?_⟩
    refine TL.stA 0 n2 (0) _ (vs := iaC .u8 (Ar.zero 20) ++ ([Value.int .u64 0] ++ (iaC .u64 (Ar.zero 4) ++ ([Value.slice none 0 0] ++ ([Value.slice none 0 0]))))) hst rfl (Put.all (by simp)) (by first | rfl | omega) rfl (One.app (One.ia _ _) (One.app (One.one rfl) (One.app (One.ia _ _) (One.app (One.one rfl) (One.one rfl))))) (tzof tz34 (by simp)) rfl rfl ?_
    intro w hst
    refine ⟨hst.sub (.cons _ (.cons_cons _ (.cons_cons _ (.cons_cons _ (.cons_cons _ (List.Sublist.refl _)))))), ?_⟩
    refine TL.assign (Value.bool false) rfl rfl ?_
    refine TL.nil ?_
    refine hK5 _ _ ?_
    refine E.norm (by simp only [List.set_cons_succ, List.set_cons_zero]; rfl) ?_
    refine E.seq (fun K6 hK6 => ?_)
    refine rg ?_
    refine TL.move (Value.bool false) rfl rfl ?_
    refine TL.nil ?_
    refine hK6 _ _ ?_
    refine E.norm (by simp only [List.set_cons_succ, List.set_cons_zero]; rfl) ?_
    refine E.condF rfl ?_
    refine wp_skip ?_
    refine hK4 _ _ ?_
    refine E.seq (fun K7 hK7 => ?_)
    refine E.seq (fun K8 hK8 => ?_)
    refine rgD mixed #[0, 1, 3, 7, 0, 31, 63, 127, 127, 255, 1023] (by kernel_rfl) ?_
    replace hst := hst.drew
    refine TL.move (Value.pointer (some ⟨pb0, 0, none⟩)) rfl rfl ?_
    refine TL.nilCheck rfl rfl ?_
    refine TL.fieldA (1) fa136_1 rfl (by first | rfl | omega) rfl ?_
    refine TL.norm (by simp only [List.set_cons_succ, List.set_cons_zero]; rfl) ?_
    refine TL.ldL1 2 pb0 (1 + (0)) (Value.map (some p0m_ftries)) (fun _ h => h ▸ hst) rfl (Seg.skip (m := 1) (by simp) (Seg.all _)) ts134 rfl rfl ?_
    refine TL.ldL 1 n1 (0) (iaC .u8 p1) (fun _ h => h ▸ hst) rfl (Seg.all _) (ta28.of (by simp)) rfl rfl ?_
    refine Mp.TL.plook (Value.int .i64 0) (a := p1)  Try.underlying134 kt28 (fun _ h => h ▸ hst) (i := 4) rfl (hmp0q_ftries) zi3 rfl rfl rfl (fun hn => ?_) ?_
    · replace hp := hp.1 hn
      refine TL.norm (by simp only [List.set_cons_succ, List.set_cons_zero]; rfl) ?_
      refine TL.move (Value.tuple #[Value.int .i64 0, Value.bool false]) rfl rfl ?_
      refine TL.extract (Value.int .i64 0) rfl rfl rfl ?_
      refine TL.extract (Value.bool false) rfl rfl rfl ?_
      refine TL.norm (by simp only [List.set_cons_succ, List.set_cons_zero]; rfl) ?_
      refine TL.assign (Value.int .i64 0) rfl rfl ?_
      refine TL.assign (Value.bool false) rfl rfl ?_
      refine TL.nil ?_
      refine hK8 _ _ ?_
      refine E.norm (by simp only [List.set_cons_succ, List.set_cons_zero]; rfl) ?_
      refine E.seq (fun K9 hK9 => ?_)
      refine rg ?_
      refine TL.move (Value.bool false) rfl rfl ?_
      refine TL.nil ?_
      refine hK9 _ _ ?_
      refine E.norm (by simp only [List.set_cons_succ, List.set_cons_zero]; rfl) ?_
      refine E.condF rfl ?_
      refine wp_skip ?_
      refine hK7 _ _ ?_
      refine E.seq (fun K10 hK10 => ?_)
      refine rgD mixed #[0, 1, 3, 7, 0, 31] (by kernel_rfl) ?_
      replace hst := hst.drew
      refine TL.move (Value.pointer (some ⟨pb0, 0, none⟩)) rfl rfl ?_
      refine TL.nilCheck rfl rfl ?_
      refine TL.fieldA (1) fa136_1 rfl (by first | rfl | omega) rfl ?_
      refine TL.norm (by simp only [List.set_cons_succ, List.set_cons_zero]; rfl) ?_
      refine TL.ldL1 2 pb0 (1 + (0)) (Value.map (some p0m_ftries)) (fun _ h => h ▸ hst) rfl (Seg.skip (m := 1) (by simp) (Seg.all _)) ts134 rfl rfl ?_
      refine TL.ldL 1 n1 (0) (iaC .u8 p1) (fun _ h => h ▸ hst) rfl (Seg.all _) (ta28.of (by simp)) rfl rfl ?_
      refine Mp.TL.pset (a := p1) (Value.int .i64 0) (0 : Int) Try.underlying134 kt28 hst (i := 4) rfl (hmp0q_ftries) (.one (rfl)) rfl rfl rfl rfl ?_
      intro w q3 hmq3 hst
      refine ⟨trivial, ?_⟩
      refine TL.nil ?_
      refine hK10 _ _ ?_
      refine E.norm (by simp only [List.set_cons_succ, List.set_cons_zero]; rfl) ?_
      refine E.seq (fun K11 hK11 => ?_)
      refine rg ?_
      refine TL.assign (Value.int .u8 3) rfl rfl ?_
      refine TL.nil ?_
      refine hK11 _ _ ?_
      refine E.norm (by simp only [List.set_cons_succ, List.set_cons_zero]; rfl) ?_
      refine wp_ret ?_
      refine E.ret _ (Rs.t (Value.int .u8 3) rfl rfl) ?_
      exact ⟨3, p0_fknown, Mp.pset p0_ftries p1 0, hp, _, _, rfl, hmp0q_fknown, hmq3, hst.sub (.cons _ (.cons _ (.cons_cons _ (.cons_cons _ (.cons_cons _ (List.Sublist.refl _))))))⟩
    · rintro x4 _ hn hvr
      replace hp := hp.2 x4 hn
      obtain rfl := Mp.inj1 (show [_] = [Value.int .i64 x4] from hvr.inv1)
      refine TL.norm (by simp only [List.set_cons_succ, List.set_cons_zero]; rfl) ?_
      refine TL.move (Value.tuple #[Value.int .i64 x4, Value.bool true]) rfl rfl ?_
      refine TL.extract (Value.int .i64 x4) rfl rfl rfl ?_
      refine TL.extract (Value.bool true) rfl rfl rfl ?_
      refine TL.norm (by simp only [List.set_cons_succ, List.set_cons_zero]; rfl) ?_
      refine TL.assign (Value.int .i64 x4) rfl rfl ?_
      refine TL.assign (Value.bool true) rfl rfl ?_
      refine TL.nil ?_
      refine hK8 _ _ ?_
      refine E.norm (by simp only [List.set_cons_succ, List.set_cons_zero]; rfl) ?_
      refine E.seq (fun K12 hK12 => ?_)
      refine rg ?_
      refine TL.move (Value.bool true) rfl rfl ?_
      refine TL.nil ?_
      refine hK12 _ _ ?_
      refine E.norm (by simp only [List.set_cons_succ, List.set_cons_zero]; rfl) ?_
      refine E.condT rfl ?_
      refine E.seq (fun K13 hK13 => ?_)
      refine rg ?_
      refine TL.assign (Value.int .u8 2) rfl rfl ?_
      refine TL.nil ?_
      refine hK13 _ _ ?_
      refine E.norm (by simp only [List.set_cons_succ, List.set_cons_zero]; rfl) ?_
      refine wp_ret ?_
      refine E.ret _ (Rs.t (Value.int .u8 2) rfl rfl) ?_
      exact ⟨2, p0_fknown, p0_ftries, hp, _, _, rfl, hmp0q_fknown, hmp0q_ftries, hst.sub (.cons _ (.cons _ (.cons_cons _ (.cons_cons _ (.cons_cons _ (List.Sublist.refl _))))))⟩
  · rintro x5 _ hn hvr
    replace hp := hp.2 x5 hn
    obtain ⟨_, rfl, hrow⟩ := hvr.invA
    obtain ⟨v6, v7, rfl, hv6, hv7⟩ := hrow
    refine TL.norm (by simp only [List.set_cons_succ, List.set_cons_zero]; rfl) ?_
    refine TL.move (Value.tuple #[Value.agg (iaC .u8 x5.fAddress ++ ([Value.int .u64 x5.fNonce] ++ (iaC .u64 x5.fBalance ++ ([v6] ++ ([v7]))))).toArray, Value.bool true]) rfl rfl ?_
    refine TL.extract (Value.agg (iaC .u8 x5.fAddress ++ ([Value.int .u64 x5.fNonce] ++ (iaC .u64 x5.fBalance ++ ([v6] ++ ([v7]))))).toArray) rfl rfl rfl ?_
    refine TL.extract (Value.bool true) rfl rfl rfl ?_
    refine TL.norm (by simp only [List.set_cons_succ, List.set_cons_zero]; rfl) ?_
    refine TL.alloc hst zv34 rfl ?_
    intro w n8 hst
    refine ⟨hst.sub (.cons _ (.cons_cons _ (.cons_cons _ (.cons_cons _ (.cons_cons _ (List.Sublist.refl _)))))), ?_⟩
    refine TL.stA 0 n8 (0) _ (vs := iaC .u8 x5.fAddress ++ ([Value.int .u64 x5.fNonce] ++ (iaC .u64 x5.fBalance ++ ([v6] ++ ([v7]))))) hst rfl (Put.all (by simp)) (by first | rfl | omega) rfl (One.app (One.ia _ _) (One.app (One.one rfl) (One.app (One.ia _ _) (One.app (One.one (hv6).one) (One.one (hv7).one))))) (tzof tz34 (by simp)) rfl rfl ?_
    intro w hst
    refine ⟨hst.sub (.cons _ (.cons_cons _ (.cons_cons _ (.cons_cons _ (.cons_cons _ (List.Sublist.refl _)))))), ?_⟩
    refine TL.assign (Value.bool true) rfl rfl ?_
    refine TL.nil ?_
    refine hK5 _ _ ?_
    refine E.norm (by simp only [List.set_cons_succ, List.set_cons_zero]; rfl) ?_
    refine E.seq (fun K14 hK14 => ?_)
    refine rg ?_
    refine TL.move (Value.bool true) rfl rfl ?_
    refine TL.nil ?_
    refine hK14 _ _ ?_
    refine E.norm (by simp only [List.set_cons_succ, List.set_cons_zero]; rfl) ?_
    refine E.condT rfl ?_
    refine E.seq (fun K15 hK15 => ?_)
    refine rg ?_
    refine TL.assign (Value.int .u8 1) rfl rfl ?_
    refine TL.nil ?_
    refine hK15 _ _ ?_
    refine E.norm (by simp only [List.set_cons_succ, List.set_cons_zero]; rfl) ?_
    refine wp_ret ?_
    refine E.ret _ (Rs.t (Value.int .u8 1) rfl rfl) ?_
    exact ⟨1, p0_fknown, p0_ftries, hp, _, _, rfl, hmp0q_fknown, hmp0q_ftries, hst.sub (.cons _ (.cons _ (.cons_cons _ (.cons_cons _ (.cons_cons _ (List.Sublist.refl _))))))⟩

def fork_Cache_Fail (p0_fknown : List (Ar 20 × T_api_Account)) (p0_ftries : List (Ar 20 × Int)) (p1 : Ar 20) (Q : Int → (List (Ar 20 × T_api_Account)) → (List (Ar 20 × Int)) → Prop) : Prop :=
  (Mp.pget p0_ftries p1 = none → (Q 0 p0_fknown p0_ftries)) ∧ (∀ x2, Mp.pget p0_ftries p1 = some x2 → ((inR .i64 (x2 + 1)) ∧ (((x2 + 1 = 8) → (Q 5 p0_fknown (Mp.pdel p0_ftries p1))) ∧ ((¬ (x2 + 1 = 8)) → ((inR .i64 (x2 + 1)) ∧ (Q 4 p0_fknown (Mp.pset p0_ftries p1 (x2 + 1))))))))
theorem w_fork_Cache_Fail (p0_fknown : List (Ar 20 × T_api_Account)) (p0_ftries : List (Ar 20 × Int)) (p1 : Ar 20) (pb0 : Nat) (p0m_fknown : Nat) (p0q_fknown : Obj) (p0m_ftries : Nat) (p0q_ftries : Obj) (g : Gh) (w0 : World) (hst0 : St (Mof ([(pb0, .cells ([Value.map (some p0m_fknown)] ++ ([Value.map (some p0m_ftries)])).toArray 136 (0, 0)), (p0m_fknown, p0q_fknown), (p0m_ftries, p0q_ftries)])) w0 w0 g ([(pb0, .cells ([Value.map (some p0m_fknown)] ++ ([Value.map (some p0m_ftries)])).toArray 136 (0, 0)), (p0m_fknown, p0q_fknown), (p0m_ftries, p0q_ftries)])) (hmp0q_fknown : Mp.MR rT_api_Account true (Mp.kvA .u8 20) g p0_fknown p0q_fknown) (hmp0q_ftries : Mp.MR (rtI .i64) false (Mp.kvA .u8 20) g p0_ftries p0q_ftries) (Q : Int → (List (Ar 20 × T_api_Account)) → (List (Ar 20 × Int)) → Prop) (hp : fork_Cache_Fail p0_fknown p0_ftries p1 Q) : Calls Try.prog 19 #[Value.pointer (some ⟨pb0, 0, none⟩), Value.agg (iaC .u8 p1).toArray] w0 (Ret fun u w => ∃ (r1 : Int) (z0_fknown : List (Ar 20 × T_api_Account)) (z0_ftries : List (Ar 20 × Int)), Q r1 z0_fknown z0_ftries ∧ ∃ (z0q_fknown : Obj) (z0q_ftries : Obj), u = Value.int .u8 r1 ∧ Mp.MR rT_api_Account true (Mp.kvA .u8 20) g z0_fknown z0q_fknown ∧ Mp.MR (rtI .i64) false (Mp.kvA .u8 20) g z0_ftries z0q_ftries ∧ St (Mof ([(pb0, .cells ([Value.map (some p0m_fknown)] ++ ([Value.map (some p0m_ftries)])).toArray 136 (0, 0)), (p0m_fknown, p0q_fknown), (p0m_ftries, p0q_ftries)])) w0 w g ([(pb0, .cells ([Value.map (some p0m_fknown)] ++ ([Value.map (some p0m_ftries)])).toArray 136 (0, 0)), (p0m_fknown, z0q_fknown), (p0m_ftries, z0q_ftries)])) := by
  unfold fork_Cache_Fail at hp
  go_enter Try.func19, Try.ntmps19
  change Code.wp _ _ _ (F [Value.pointer (some ⟨pb0, 0, none⟩), Value.agg (iaC .u8 p1).toArray, undef, undef, undef, undef, undef, undef, undef, undef, undef, undef, undef, undef, undef, undef, undef, undef, undef, undef, undef, undef, undef, undef, undef, undef, undef, undef, undef, undef, undef, undef, undef, undef, undef, undef, undef]) _
  have hst := hst0
  have hgn0 : GN (Mof ([(pb0, .cells ([Value.map (some p0m_fknown)] ++ ([Value.map (some p0m_ftries)])).toArray 136 (0, 0)), (p0m_fknown, p0q_fknown), (p0m_ftries, p0q_ftries)])) w0 g g := GN.refl _ _ _
  have hle0 : g.le g := Gh.le_refl _
  refine E.seq (fun K1 hK1 => ?_)
  refine rg ?_
  refine TL.box (vs := iaC .u8 p1) hst rfl rfl ?_
  intro w n1 hst
  refine ⟨trivial, ?_⟩
  refine TL.assign (Value.int .u8 0) rfl rfl ?_
  refine TL.nil ?_
  refine hK1 _ _ ?_
  refine E.norm (by simp only [List.set_cons_succ, List.set_cons_zero]; rfl) ?_
  refine E.seq (fun K2 hK2 => ?_)
  refine E.seq (fun K3 hK3 => ?_)
  refine rg ?_
  refine TL.move (Value.pointer (some ⟨pb0, 0, none⟩)) rfl rfl ?_
  refine TL.ptrNil false Try.underlying36 rfl rfl (.inl ⟨rfl, rfl⟩) rfl ?_
  refine TL.nil ?_
  refine hK3 _ _ ?_
  refine E.norm (by simp only [List.set_cons_succ, List.set_cons_zero]; rfl) ?_
  refine E.condF rfl ?_
  refine wp_skip ?_
  refine hK2 _ _ ?_
  refine E.seq (fun K4 hK4 => ?_)
  refine rgD mixed #[0, 1, 3, 7, 0, 31, 63, 127, 127, 255, 1023] (by kernel_rfl) ?_
  replace hst := hst.drew
  refine TL.move (Value.pointer (some ⟨pb0, 0, none⟩)) rfl rfl ?_
  refine TL.nilCheck rfl rfl ?_
  refine TL.fieldA (1) fa136_1 rfl (by first | rfl | omega) rfl ?_
  refine TL.norm (by simp only [List.set_cons_succ, List.set_cons_zero]; rfl) ?_
  refine TL.ldL1 1 pb0 (1 + (0)) (Value.map (some p0m_ftries)) (fun _ h => h ▸ hst) rfl (Seg.skip (m := 1) (by simp) (Seg.all _)) ts134 rfl rfl ?_
  refine TL.ldL 0 n1 (0) (iaC .u8 p1) (fun _ h => h ▸ hst) rfl (Seg.all _) (ta28.of (by simp)) rfl rfl ?_
  refine Mp.TL.plook (Value.int .i64 0) (a := p1)  Try.underlying134 kt28 (fun _ h => h ▸ hst) (i := 3) rfl (hmp0q_ftries) zi3 rfl rfl rfl (fun hn => ?_) ?_
  · replace hp := hp.1 hn
    refine TL.norm (by simp only [List.set_cons_succ, List.set_cons_zero]; rfl) ?_
    refine TL.move (Value.tuple #[Value.int .i64 0, Value.bool false]) rfl rfl ?_
    refine TL.extract (Value.int .i64 0) rfl rfl rfl ?_
    refine TL.extract (Value.bool false) rfl rfl rfl ?_
    refine TL.norm (by simp only [List.set_cons_succ, List.set_cons_zero]; rfl) ?_
    refine TL.assign (Value.int .i64 0) rfl rfl ?_
    refine TL.assign (Value.bool false) rfl rfl ?_
    refine TL.nil ?_
    refine hK4 _ _ ?_
    refine E.norm (by simp only [List.set_cons_succ, List.set_cons_zero]; rfl) ?_
    refine E.seq (fun K5 hK5 => ?_)
    refine wp_block ?_
    refine E.seq (fun K6 hK6 => ?_)
    refine rg ?_
    refine TL.move (Value.bool false) rfl rfl ?_
    refine TL.notB rfl rfl ?_
    refine TL.assign (Value.bool true) rfl rfl ?_
    refine TL.norm (by simp only [List.set_cons_succ, List.set_cons_zero]; rfl) ?_
    refine TL.nil ?_
    refine hK6 _ _ ?_
    refine E.condT rfl ?_
    refine E.seq (fun K7 hK7 => ?_)
    refine rg ?_
    refine TL.assign (Value.int .u8 0) rfl rfl ?_
    refine TL.nil ?_
    refine hK7 _ _ ?_
    refine E.norm (by simp only [List.set_cons_succ, List.set_cons_zero]; rfl) ?_
    refine wp_ret ?_
    refine E.ret _ (Rs.t (Value.int .u8 0) rfl rfl) ?_
    exact ⟨0, p0_fknown, p0_ftries, hp, _, _, rfl, hmp0q_fknown, hmp0q_ftries, hst.sub (.cons _ (.cons_cons _ (.cons_cons _ (.cons_cons _ (List.Sublist.refl _)))))⟩
  · rintro x2 _ hn hvr
    replace hp := hp.2 x2 hn
    obtain rfl := Mp.inj1 (show [_] = [Value.int .i64 x2] from hvr.inv1)
    refine TL.norm (by simp only [List.set_cons_succ, List.set_cons_zero]; rfl) ?_
    refine TL.move (Value.tuple #[Value.int .i64 x2, Value.bool true]) rfl rfl ?_
    refine TL.extract (Value.int .i64 x2) rfl rfl rfl ?_
    refine TL.extract (Value.bool true) rfl rfl rfl ?_
    refine TL.norm (by simp only [List.set_cons_succ, List.set_cons_zero]; rfl) ?_
    refine TL.assign (Value.int .i64 x2) rfl rfl ?_
    refine TL.assign (Value.bool true) rfl rfl ?_
    refine TL.nil ?_
    refine hK4 _ _ ?_
    refine E.norm (by simp only [List.set_cons_succ, List.set_cons_zero]; rfl) ?_
    refine E.seq (fun K8 hK8 => ?_)
    refine wp_block ?_
    refine E.seq (fun K9 hK9 => ?_)
    refine rg ?_
    refine TL.move (Value.bool true) rfl rfl ?_
    refine TL.notB rfl rfl ?_
    refine TL.assign (Value.bool false) rfl rfl ?_
    refine TL.norm (by simp only [List.set_cons_succ, List.set_cons_zero]; rfl) ?_
    refine TL.nil ?_
    refine hK9 _ _ ?_
    refine E.condF rfl ?_
    refine E.seq (fun K10 hK10 => ?_)
    refine rg ?_
    refine TL.move (Value.int .i64 x2) rfl rfl ?_
    obtain ⟨ho3, hp⟩ := hp
    refine TL.add (x2 + 1) rfl rfl ⟨rfl, ho3⟩ rfl ?_
    refine TL.eqlD rfl rfl rfl ?_
    refine TL.norm (by simp only [List.set_cons_succ, List.set_cons_zero]; rfl) ?_
    refine TL.assign (Value.bool (decide (x2 + 1 = 8))) rfl rfl ?_
    refine TL.nil ?_
    refine hK10 _ _ ?_
    refine E.norm (by simp only [List.set_cons_succ, List.set_cons_zero]; rfl) ?_
    refine E.cond rfl (fun hc4 => ?_) (fun hc4 => ?_)
    · replace hp := hp.1 (of_decide_eq_true hc4)
      refine E.seq (fun K11 hK11 => ?_)
      refine rgD mixed #[0, 1, 3, 7, 0, 31] (by kernel_rfl) ?_
      replace hst := hst.drew
      refine TL.move (Value.pointer (some ⟨pb0, 0, none⟩)) rfl rfl ?_
      refine TL.nilCheck rfl rfl ?_
      refine TL.fieldA (1) fa136_1 rfl (by first | rfl | omega) rfl ?_
      refine TL.norm (by simp only [List.set_cons_succ, List.set_cons_zero]; rfl) ?_
      refine TL.ldL1 1 pb0 (1 + (0)) (Value.map (some p0m_ftries)) (fun _ h => h ▸ hst) rfl (Seg.skip (m := 1) (by simp) (Seg.all _)) ts134 rfl rfl ?_
      refine TL.ldL 0 n1 (0) (iaC .u8 p1) (fun _ h => h ▸ hst) rfl (Seg.all _) (ta28.of (by simp)) rfl rfl ?_
      refine Mp.TL.pdel (a := p1) Try.underlying134 kt28 hst (i := 3) rfl (hmp0q_ftries) rfl rfl rfl ?_
      intro w q5 hmq5 hst
      refine ⟨trivial, ?_⟩
      refine TL.nil ?_
      refine hK11 _ _ ?_
      refine E.norm (by simp only [List.set_cons_succ, List.set_cons_zero]; rfl) ?_
      refine E.seq (fun K12 hK12 => ?_)
      refine rg ?_
      refine TL.assign (Value.int .u8 5) rfl rfl ?_
      refine TL.nil ?_
      refine hK12 _ _ ?_
      refine E.norm (by simp only [List.set_cons_succ, List.set_cons_zero]; rfl) ?_
      refine wp_ret ?_
      refine E.ret _ (Rs.t (Value.int .u8 5) rfl rfl) ?_
      exact ⟨5, p0_fknown, Mp.pdel p0_ftries p1, hp, _, _, rfl, hmp0q_fknown, hmq5, hst.sub (.cons _ (.cons_cons _ (.cons_cons _ (.cons_cons _ (List.Sublist.refl _)))))⟩
    · replace hp := hp.2 (of_decide_eq_false hc4)
      refine wp_skip ?_
      refine hK8 _ _ ?_
      refine E.seq (fun K13 hK13 => ?_)
      refine rgD mixed #[0, 1, 3, 7, 0, 0, 32, 127] (by kernel_rfl) ?_
      replace hst := hst.drew
      refine TL.move (Value.pointer (some ⟨pb0, 0, none⟩)) rfl rfl ?_
      refine TL.nilCheck rfl rfl ?_
      refine TL.fieldA (1) fa136_1 rfl (by first | rfl | omega) rfl ?_
      refine TL.norm (by simp only [List.set_cons_succ, List.set_cons_zero]; rfl) ?_
      refine TL.ldL1 1 pb0 (1 + (0)) (Value.map (some p0m_ftries)) (fun _ h => h ▸ hst) rfl (Seg.skip (m := 1) (by simp) (Seg.all _)) ts134 rfl rfl ?_
      refine TL.ldL 0 n1 (0) (iaC .u8 p1) (fun _ h => h ▸ hst) rfl (Seg.all _) (ta28.of (by simp)) rfl rfl ?_
      refine TL.move (Value.int .i64 x2) rfl rfl ?_
      refine TL.norm (by simp only [List.set_cons_succ, List.set_cons_zero]; rfl) ?_
      obtain ⟨ho6, hp⟩ := hp
      refine TL.add (x2 + 1) rfl rfl ⟨rfl, ho6⟩ rfl ?_
      refine Mp.TL.pset (a := p1) (Value.int .i64 (x2 + 1)) (x2 + 1 : Int) Try.underlying134 kt28 hst (i := 3) rfl (hmp0q_ftries) (.one (rfl)) rfl rfl rfl rfl ?_
      intro w q7 hmq7 hst
      refine ⟨trivial, ?_⟩
      refine TL.nil ?_
      refine hK13 _ _ ?_
      refine E.norm (by simp only [List.set_cons_succ, List.set_cons_zero]; rfl) ?_
      refine E.seq (fun K14 hK14 => ?_)
      refine rg ?_
      refine TL.assign (Value.int .u8 4) rfl rfl ?_
      refine TL.nil ?_
      refine hK14 _ _ ?_
      refine E.norm (by simp only [List.set_cons_succ, List.set_cons_zero]; rfl) ?_
      refine wp_ret ?_
      refine E.ret _ (Rs.t (Value.int .u8 4) rfl rfl) ?_
      exact ⟨4, p0_fknown, Mp.pset p0_ftries p1 (x2 + 1), hp, _, _, rfl, hmp0q_fknown, hmq7, hst.sub (.cons _ (.cons_cons _ (.cons_cons _ (.cons_cons _ (List.Sublist.refl _)))))⟩

def fork_Cache_Tries (p0_fknown : List (Ar 20 × T_api_Account)) (p0_ftries : List (Ar 20 × Int)) (p1 : Ar 20) (Q : Int → (List (Ar 20 × T_api_Account)) → (List (Ar 20 × Int)) → Prop) : Prop :=
  Q ((Mp.pget p0_ftries p1).getD 0) p0_fknown p0_ftries
theorem w_fork_Cache_Tries (p0_fknown : List (Ar 20 × T_api_Account)) (p0_ftries : List (Ar 20 × Int)) (p1 : Ar 20) (pb0 : Nat) (p0m_fknown : Nat) (p0q_fknown : Obj) (p0m_ftries : Nat) (p0q_ftries : Obj) (g : Gh) (w0 : World) (hst0 : St (Mof ([(pb0, .cells ([Value.map (some p0m_fknown)] ++ ([Value.map (some p0m_ftries)])).toArray 136 (0, 0)), (p0m_fknown, p0q_fknown), (p0m_ftries, p0q_ftries)])) w0 w0 g ([(pb0, .cells ([Value.map (some p0m_fknown)] ++ ([Value.map (some p0m_ftries)])).toArray 136 (0, 0)), (p0m_fknown, p0q_fknown), (p0m_ftries, p0q_ftries)])) (hmp0q_fknown : Mp.MR rT_api_Account true (Mp.kvA .u8 20) g p0_fknown p0q_fknown) (hmp0q_ftries : Mp.MR (rtI .i64) false (Mp.kvA .u8 20) g p0_ftries p0q_ftries) (Q : Int → (List (Ar 20 × T_api_Account)) → (List (Ar 20 × Int)) → Prop) (hp : fork_Cache_Tries p0_fknown p0_ftries p1 Q) : Calls Try.prog 31 #[Value.pointer (some ⟨pb0, 0, none⟩), Value.agg (iaC .u8 p1).toArray] w0 (Ret fun u w => ∃ (r1 : Int) (z0_fknown : List (Ar 20 × T_api_Account)) (z0_ftries : List (Ar 20 × Int)), Q r1 z0_fknown z0_ftries ∧ ∃ (z0q_fknown : Obj) (z0q_ftries : Obj), u = Value.int .i64 r1 ∧ Mp.MR rT_api_Account true (Mp.kvA .u8 20) g z0_fknown z0q_fknown ∧ Mp.MR (rtI .i64) false (Mp.kvA .u8 20) g z0_ftries z0q_ftries ∧ St (Mof ([(pb0, .cells ([Value.map (some p0m_fknown)] ++ ([Value.map (some p0m_ftries)])).toArray 136 (0, 0)), (p0m_fknown, p0q_fknown), (p0m_ftries, p0q_ftries)])) w0 w g ([(pb0, .cells ([Value.map (some p0m_fknown)] ++ ([Value.map (some p0m_ftries)])).toArray 136 (0, 0)), (p0m_fknown, z0q_fknown), (p0m_ftries, z0q_ftries)])) := by
  unfold fork_Cache_Tries at hp
  go_enter Try.func31, Try.ntmps31
  change Code.wp _ _ _ (F [Value.pointer (some ⟨pb0, 0, none⟩), Value.agg (iaC .u8 p1).toArray, undef, undef, undef, undef, undef, undef, undef, undef, undef, undef, undef]) _
  have hst := hst0
  have hgn0 : GN (Mof ([(pb0, .cells ([Value.map (some p0m_fknown)] ++ ([Value.map (some p0m_ftries)])).toArray 136 (0, 0)), (p0m_fknown, p0q_fknown), (p0m_ftries, p0q_ftries)])) w0 g g := GN.refl _ _ _
  have hle0 : g.le g := Gh.le_refl _
  refine E.seq (fun K1 hK1 => ?_)
  refine rg ?_
  refine TL.box (vs := iaC .u8 p1) hst rfl rfl ?_
  intro w n1 hst
  refine ⟨trivial, ?_⟩
  refine TL.assign (Value.int .i64 0) rfl rfl ?_
  refine TL.nil ?_
  refine hK1 _ _ ?_
  refine E.norm (by simp only [List.set_cons_succ, List.set_cons_zero]; rfl) ?_
  refine E.seq (fun K2 hK2 => ?_)
  refine E.seq (fun K3 hK3 => ?_)
  refine rg ?_
  refine TL.move (Value.pointer (some ⟨pb0, 0, none⟩)) rfl rfl ?_
  refine TL.ptrNil false Try.underlying36 rfl rfl (.inl ⟨rfl, rfl⟩) rfl ?_
  refine TL.nil ?_
  refine hK3 _ _ ?_
  refine E.norm (by simp only [List.set_cons_succ, List.set_cons_zero]; rfl) ?_
  refine E.condF rfl ?_
  refine wp_skip ?_
  refine hK2 _ _ ?_
  refine E.seq (fun K4 hK4 => ?_)
  refine rgD mixed #[0, 1, 3, 7, 0, 31, 63] (by kernel_rfl) ?_
  replace hst := hst.drew
  refine TL.move (Value.pointer (some ⟨pb0, 0, none⟩)) rfl rfl ?_
  refine TL.nilCheck rfl rfl ?_
  refine TL.fieldA (1) fa136_1 rfl (by first | rfl | omega) rfl ?_
  refine TL.norm (by simp only [List.set_cons_succ, List.set_cons_zero]; rfl) ?_
  refine TL.ldL1 1 pb0 (1 + (0)) (Value.map (some p0m_ftries)) (fun _ h => h ▸ hst) rfl (Seg.skip (m := 1) (by simp) (Seg.all _)) ts134 rfl rfl ?_
  refine TL.ldL 0 n1 (0) (iaC .u8 p1) (fun _ h => h ▸ hst) rfl (Seg.all _) (ta28.of (by simp)) rfl rfl ?_
  refine Mp.TL.plookD (A := (rtI .i64)) 0 (fun q => Value.int .i64 q) (fun _ _ h => Mp.inj1 h) (a := p1)  Try.underlying134 kt28 (fun _ h => h ▸ hst) (i := 3) rfl (hmp0q_ftries) zi3 rfl rfl rfl ?_
  refine TL.norm (by simp only [List.set_cons_succ, List.set_cons_zero]; rfl) ?_
  refine TL.assign (Value.int .i64 ((Mp.pget p0_ftries p1).getD 0)) rfl rfl ?_
  refine TL.nil ?_
  refine hK4 _ _ ?_
  refine E.norm (by simp only [List.set_cons_succ, List.set_cons_zero]; rfl) ?_
  refine wp_ret ?_
  refine E.ret _ (Rs.t (Value.int .i64 ((Mp.pget p0_ftries p1).getD 0)) rfl rfl) ?_
  exact ⟨(Mp.pget p0_ftries p1).getD 0, p0_fknown, p0_ftries, hp, _, _, rfl, hmp0q_fknown, hmp0q_ftries, hst.sub (.cons _ (.cons_cons _ (.cons_cons _ (.cons_cons _ (List.Sublist.refl _)))))⟩

def slices_Clone_l_byte_byte (p0 : List Int) (Q : (List Int) → Prop) : Prop :=
  ∀ b2 : Bool, (b2 = true → p0 = []) → (((b2 = true) → (Q ([]))) ∧ ((b2 = false) → (((([] : List Int).length + (p0 : List Int).length) * 1 ≤ 140737488355328) ∧ (Q p0))))
theorem w_slices_Clone_l_byte_byte (p0 : List Int) (v1 : Value) (g : Gh) (w0 : World) (hg : Has w0 g) (hv1 : Sl (rtI .u8) g p0 v1) (Q : (List Int) → Prop) (hp : slices_Clone_l_byte_byte p0 Q) : Calls Try.prog 92 #[v1] w0 (Ret fun u w => ∃ g', Gr w0 w g g' ∧ ∃ (r1 : List Int), Q r1 ∧ ∃ (u1 : Value), u = u1 ∧ Sl (rtI .u8) g' r1 u1) := by
  unfold slices_Clone_l_byte_byte at hp
  go_enter Try.func92, Try.ntmps92
  change Code.wp _ _ _ (F [v1, undef, undef, undef, undef, undef, undef, undef]) _
  have hst := St.start Non hg
  have hgn0 : GN Non w0 g g := GN.refl _ _ _
  have hle0 : g.le g := Gh.le_refl _
  refine E.seq (fun K1 hK1 => ?_)
  refine rg ?_
  refine TL.assign (Value.slice none 0 0) rfl rfl ?_
  refine TL.nil ?_
  refine hK1 _ _ ?_
  refine E.norm (by simp only [List.set_cons_succ, List.set_cons_zero]; rfl) ?_
  refine E.seq (fun K2 hK2 => ?_)
  refine E.seq (fun K3 hK3 => ?_)
  refine rg ?_
  refine TL.move (v1) rfl rfl ?_
  refine TL.eqlNilL (hv1) Try.underlying24 rfl rfl rfl ?_
  intro b2 hnb2
  replace hp := hp b2 hnb2
  refine TL.nil ?_
  refine hK3 _ _ ?_
  refine E.norm (by simp only [List.set_cons_succ, List.set_cons_zero]; rfl) ?_
  refine E.cond rfl (fun hc3 => ?_) (fun hc3 => ?_)
  · replace hp := hp.1 (hc3)
    refine E.seq (fun K4 hK4 => ?_)
    refine rg ?_
    refine TL.assign (Value.slice none 0 0) rfl rfl ?_
    refine TL.nil ?_
    refine hK4 _ _ ?_
    refine E.norm (by simp only [List.set_cons_succ, List.set_cons_zero]; rfl) ?_
    refine wp_ret ?_
    refine E.ret _ (Rs.t (Value.slice none 0 0) rfl rfl) ?_
    exact ⟨g, ⟨hst.keep, hst.has, hle0, hgn0.new⟩, [], hp, _, rfl, Sl.nil _ _⟩
  · replace hp := hp.2 (hc3)
    refine wp_skip ?_
    refine hK2 _ _ ?_
    refine E.seq (fun K5 hK5 => ?_)
    refine rg ?_
    refine TL.buildSl [] [] hst sl24 zv5 rfl rfl (by simp) rfl (by decide) rfl ?_
    intro w n4 hst
    refine ⟨trivial, ?_⟩
    refine TL.move (v1) rfl rfl ?_
    obtain ⟨o6, hsv5, hst⟩ := hst.ownB (A := (rtI .u8)) (n := 0) (xs := []) rfl (Rws.nil)
    obtain ⟨_, hz7a, hz7b⟩ := (hv1).src hst.has
    obtain ⟨ho8, hp⟩ := hp
    refine TL.pushL (ls := []) hst (List.Perm.refl _) ae24 (hsv5) hz7a hz7b ho8 rfl rfl rfl ?_
    intro w v9 o10 hsv9 hst
    rw [List.nil_append] at hsv9
    refine ⟨trivial, ?_⟩
    refine TL.norm (by simp only [List.set_cons_succ, List.set_cons_zero]; rfl) ?_
    refine TL.assign (v9) rfl rfl ?_
    refine TL.nil ?_
    refine hK5 _ _ ?_
    refine E.norm (by simp only [List.set_cons_succ, List.set_cons_zero]; rfl) ?_
    refine wp_ret ?_
    obtain ⟨g11, hleg11, hst, hsg11, hgn0⟩ := hst.freezeS (ls := []) (List.Perm.refl _) hsv9 hgn0
    replace hle0 := Gh.le_trans hle0 hleg11
    refine E.ret _ (Rs.t (v9) rfl rfl) ?_
    exact ⟨g11, ⟨hst.keep, hst.has, hle0, hgn0.new⟩, p0, hp, _, rfl, hsg11⟩

def slices_Clone_l_api_Slot_api_Slot (p0 : List T_api_Slot) (Q : (List T_api_Slot) → Prop) : Prop :=
  ∀ b2 : Bool, (b2 = true → p0 = []) → (((b2 = true) → (Q ([]))) ∧ ((b2 = false) → (((([] : List T_api_Slot).length + (p0 : List T_api_Slot).length) * 64 ≤ 140737488355328) ∧ (Q p0))))
theorem w_slices_Clone_l_api_Slot_api_Slot (p0 : List T_api_Slot) (v1 : Value) (g : Gh) (w0 : World) (hg : Has w0 g) (hv1 : Sl rT_api_Slot g p0 v1) (Q : (List T_api_Slot) → Prop) (hp : slices_Clone_l_api_Slot_api_Slot p0 Q) : Calls Try.prog 93 #[v1] w0 (Ret fun u w => ∃ g', Gr w0 w g g' ∧ ∃ (r1 : List T_api_Slot), Q r1 ∧ ∃ (u1 : Value), u = u1 ∧ Sl rT_api_Slot g' r1 u1) := by
  unfold slices_Clone_l_api_Slot_api_Slot at hp
  go_enter Try.func93, Try.ntmps93
  change Code.wp _ _ _ (F [v1, undef, undef, undef, undef, undef, undef, undef]) _
  have hst := St.start Non hg
  have hgn0 : GN Non w0 g g := GN.refl _ _ _
  have hle0 : g.le g := Gh.le_refl _
  refine E.seq (fun K1 hK1 => ?_)
  refine rg ?_
  refine TL.assign (Value.slice none 0 0) rfl rfl ?_
  refine TL.nil ?_
  refine hK1 _ _ ?_
  refine E.norm (by simp only [List.set_cons_succ, List.set_cons_zero]; rfl) ?_
  refine E.seq (fun K2 hK2 => ?_)
  refine E.seq (fun K3 hK3 => ?_)
  refine rg ?_
  refine TL.move (v1) rfl rfl ?_
  refine TL.eqlNilL (hv1) Try.underlying32 rfl rfl rfl ?_
  intro b2 hnb2
  replace hp := hp b2 hnb2
  refine TL.nil ?_
  refine hK3 _ _ ?_
  refine E.norm (by simp only [List.set_cons_succ, List.set_cons_zero]; rfl) ?_
  refine E.cond rfl (fun hc3 => ?_) (fun hc3 => ?_)
  · replace hp := hp.1 (hc3)
    refine E.seq (fun K4 hK4 => ?_)
    refine rg ?_
    refine TL.assign (Value.slice none 0 0) rfl rfl ?_
    refine TL.nil ?_
    refine hK4 _ _ ?_
    refine E.norm (by simp only [List.set_cons_succ, List.set_cons_zero]; rfl) ?_
    refine wp_ret ?_
    refine E.ret _ (Rs.t (Value.slice none 0 0) rfl rfl) ?_
    exact ⟨g, ⟨hst.keep, hst.has, hle0, hgn0.new⟩, [], hp, _, rfl, Sl.nil _ _⟩
  · replace hp := hp.2 (hc3)
    refine wp_skip ?_
    refine hK2 _ _ ?_
    refine E.seq (fun K5 hK5 => ?_)
    refine rg ?_
    refine TL.buildSl [] [] hst sl32 zv131 rfl rfl (by simp) rfl (by decide) rfl ?_
    intro w n4 hst
    refine ⟨trivial, ?_⟩
    refine TL.move (v1) rfl rfl ?_
    obtain ⟨o6, hsv5, hst⟩ := hst.ownB (A := rT_api_Slot) (n := 0) (xs := []) rfl (Rws.nil)
    obtain ⟨_, hz7a, hz7b⟩ := (hv1).src hst.has
    obtain ⟨ho8, hp⟩ := hp
    refine TL.pushL (ls := []) hst (List.Perm.refl _) ae32 (hsv5) hz7a hz7b ho8 rfl rfl rfl ?_
    intro w v9 o10 hsv9 hst
    rw [List.nil_append] at hsv9
    refine ⟨trivial, ?_⟩
    refine TL.norm (by simp only [List.set_cons_succ, List.set_cons_zero]; rfl) ?_
    refine TL.assign (v9) rfl rfl ?_
    refine TL.nil ?_
    refine hK5 _ _ ?_
    refine E.norm (by simp only [List.set_cons_succ, List.set_cons_zero]; rfl) ?_
    refine wp_ret ?_
    obtain ⟨g11, hleg11, hst, hsg11, hgn0⟩ := hst.freezeS (ls := []) (List.Perm.refl _) hsv9 hgn0
    replace hle0 := Gh.le_trans hle0 hleg11
    refine E.ret _ (Rs.t (v9) rfl rfl) ?_
    exact ⟨g11, ⟨hst.keep, hst.has, hle0, hgn0.new⟩, p0, hp, _, rfl, hsg11⟩

def store_Right (p0 : T_api_Account) (Q : Bool → Prop) : Prop :=
  ∃ (I6 : Int → Prop) (m7 : Int → Nat), (I6 0) ∧ ∀ (x5 : Int), (I6 x5 → (((x5 < (p0.fStorage.length : Int)) → (∃ J10 : Prop, (J10 → ((inR .i64 (x5 + 1)) ∧ (I6 (x5 + 1) ∧ m7 (x5 + 1) < m7 x5))) ∧ ((0 ≤ x5) ∧ (x5 < (p0.fStorage.length : Int)) ∧ ((((nth p0.fStorage x5).fValue = Ar.zero 4) → (Q false)) ∧ ((¬ ((nth p0.fStorage x5).fValue = Ar.zero 4)) → (((0 < x5) → ((inR .i64 (x5 - 1)) ∧ ((0 ≤ x5 - 1) ∧ (x5 - 1 < (p0.fStorage.length : Int)) ∧ (word_Compare ((nth p0.fStorage (x5 - 1)).fKey) ((nth p0.fStorage x5).fKey) (fun r30 => ((0 ≤ r30) → (Q false)) ∧ ((¬ (0 ≤ r30)) → (J10))))))) ∧ ((¬ (0 < x5)) → (J10)))))))) ∧ ((¬ (x5 < (p0.fStorage.length : Int))) → (Q true))))
theorem w_store_Right (p0 : T_api_Account) (v1 : Value) (v2 : Value) (g : Gh) (w0 : World) (hg : Has w0 g) (hv1 : Sl (rtI .u8) g p0.fCode v1) (hv2 : Sl rT_api_Slot g p0.fStorage v2) (Q : Bool → Prop) (hp : store_Right p0 Q) : Calls Try.prog 71 #[Value.agg (iaC .u8 p0.fAddress ++ ([Value.int .u64 p0.fNonce] ++ (iaC .u64 p0.fBalance ++ ([v1] ++ ([v2]))))).toArray] w0 (Ret fun u w => Keep Non w0 w ∧ ∃ (r1 : Bool), Q r1 ∧ u = Value.bool r1) := by
  unfold store_Right at hp
  go_enter Try.func71, Try.ntmps71
  change Code.wp _ _ _ (F [Value.agg (iaC .u8 p0.fAddress ++ ([Value.int .u64 p0.fNonce] ++ (iaC .u64 p0.fBalance ++ ([v1] ++ ([v2]))))).toArray, undef, undef, undef, undef, undef, undef, undef, undef, undef, undef, undef, undef, undef, undef, undef, undef, undef, undef, undef, undef, undef, undef, undef, undef, undef, undef, undef, undef, undef, undef, undef, undef, undef, undef]) _
  have hst := St.start Non hg
  have hgn0 : GN Non w0 g g := GN.refl _ _ _
  have hle0 : g.le g := Gh.le_refl _
  refine E.seq (fun K1 hK1 => ?_)
  refine rg ?_
  refine TL.box (vs := iaC .u8 p0.fAddress ++ ([Value.int .u64 p0.fNonce] ++ (iaC .u64 p0.fBalance ++ ([v1] ++ ([v2]))))) hst rfl rfl ?_
  intro w n3 hst
  refine ⟨trivial, ?_⟩
  refine TL.assign (Value.bool false) rfl rfl ?_
  refine TL.nil ?_
  refine hK1 _ _ ?_
  refine E.norm (by simp only [List.set_cons_succ, List.set_cons_zero]; rfl) ?_
  refine E.seq (fun K2 hK2 => ?_)
  refine E.seq (fun K3 hK3 => ?_)
  refine rg ?_
  refine TL.fieldA (26) fa34_4 rfl (by first | rfl | omega) rfl ?_
  refine TL.ldL1 0 n3 (20 + (1 + (4 + (1 + (0))))) (v2) (fun _ h => h ▸ hst) rfl (Seg.skip (m := 20) (by simp) (Seg.skip (m := 1) (by simp) (Seg.skip (m := 4) (by simp) (Seg.skip (m := 1) (by simp) (Seg.all _))))) ts32 rfl rfl ?_
  refine TL.lenL (hv2) Try.underlying32 rfl rfl ?_
  refine TL.norm (by simp only [List.set_cons_succ, List.set_cons_zero]; rfl) ?_
  refine TL.move (Value.int .i64 0) rfl rfl ?_
  refine TL.nil ?_
  refine hK3 _ _ ?_
  refine E.norm (by simp only [List.set_cons_succ, List.set_cons_zero]; rfl) ?_
  refine wp_block ?_
  obtain ⟨I6, m7, hI0, hI⟩ := hp
  refine E.loop (fun mm l w => ∃ (x5 : Int), (mm = m7 x5) ∧ (I6 x5) ∧ Fits [some (Value.agg (iaC .u8 p0.fAddress ++ ([Value.int .u64 p0.fNonce] ++ (iaC .u64 p0.fBalance ++ ([v1] ++ ([v2]))))).toArray), some (Value.pointer (some ⟨n3, 0, none⟩)), some (Value.bool false), none, none, some (Value.pointer (some ⟨n3, 26, none⟩)), some (v2), some (Value.int .i64 ((p0.fStorage.length : Int))), some (Value.int .i64 x5), none, none, none, none, none, none, none, none, none, none, none, none, none, none, none, none, none, none, none, none, none, none, none, none, none, none] l ∧ St Non w0 w g ([(n3, .cells (iaC .u8 p0.fAddress ++ ([Value.int .u64 p0.fNonce] ++ (iaC .u64 p0.fBalance ++ ([v1] ++ ([v2]))))).toArray 34 (0, 0))])) _ ⟨0, rfl, hI0, (by first | (simp only [List.set_cons_succ, List.set_cons_zero]; exact .s rfl (.s rfl (.s rfl (.n (.n (.s rfl (.s rfl (.s rfl (.s rfl (.n (.n (.n (.n (.n (.n (.n (.n (.n (.n (.n (.n (.n (.n (.n (.n (.n (.n (.n (.n (.n (.n (.n (.n (.n (.n (.z)))))))))))))))))))))))))))))))))))) | exact .s rfl (.s rfl (.s rfl (.n (.n (.s rfl (.s rfl (.s rfl (.s rfl (.n (.n (.n (.n (.n (.n (.n (.n (.n (.n (.n (.n (.n (.n (.n (.n (.n (.n (.n (.n (.n (.n (.n (.n (.n (.n (.z)))))))))))))))))))))))))))))))))))), hst⟩ ?_
  rintro _ _ w ⟨x5, rfl, hI1, hfit, hst⟩
  have hp := hI _ hI1
  obtain ⟨j4, rfl⟩ := hfit.ex
  refine E.norm (l' := [Value.agg (iaC .u8 p0.fAddress ++ ([Value.int .u64 p0.fNonce] ++ (iaC .u64 p0.fBalance ++ ([v1] ++ ([v2]))))).toArray, Value.pointer (some ⟨n3, 0, none⟩), Value.bool false, (j4 3), (j4 4), Value.pointer (some ⟨n3, 26, none⟩), v2, Value.int .i64 ((p0.fStorage.length : Int)), Value.int .i64 x5, (j4 9), (j4 10), (j4 11), (j4 12), (j4 13), (j4 14), (j4 15), (j4 16), (j4 17), (j4 18), (j4 19), (j4 20), (j4 21), (j4 22), (j4 23), (j4 24), (j4 25), (j4 26), (j4 27), (j4 28), (j4 29), (j4 30), (j4 31), (j4 32), (j4 33), (j4 34)]) rfl ?_
  refine E.seq (fun K4 hK4 => ?_)
  refine rg ?_
  refine TL.lss rfl rfl rfl ?_
  refine TL.nil ?_
  refine hK4 _ _ ?_
  refine E.norm (by simp only [List.set_cons_succ, List.set_cons_zero]; rfl) ?_
  refine E.seq (fun K5 hK5 => ?_)
  refine E.cond rfl (fun hc8 => ?_) (fun hc8 => ?_)
  · replace hp := hp.1 (of_decide_eq_true hc8)
    refine wp_skip ?_
    refine hK5 _ _ ?_
    refine E.seq (fun K6 hK6 => ?_)
    obtain ⟨J10, hJ10, hp⟩ := hp
    have hJ10K : ∀ (l : List Value) (w : World), (J10) → Fits [some (Value.agg (iaC .u8 p0.fAddress ++ ([Value.int .u64 p0.fNonce] ++ (iaC .u64 p0.fBalance ++ ([v1] ++ ([v2]))))).toArray), some (Value.pointer (some ⟨n3, 0, none⟩)), some (Value.bool false), some (Value.int .i64 x5), none, some (Value.pointer (some ⟨n3, 26, none⟩)), some (v2), some (Value.int .i64 ((p0.fStorage.length : Int))), some (Value.int .i64 x5), some (Value.bool (decide (x5 < (p0.fStorage.length : Int)))), some (Value.int .i64 x5), none, some (Value.agg (iaC .u64 ((nth p0.fStorage x5).fKey) ++ (iaC .u64 ((nth p0.fStorage x5).fValue))).toArray), none, some (Value.agg (iaC .u64 ((nth p0.fStorage x5).fValue)).toArray), some (Value.agg (iaC .u64 (Ar.zero 4)).toArray), some (Value.bool (decide ((nth p0.fStorage x5).fValue = Ar.zero 4))), some (Value.bool false), some (Value.int .i64 x5), some (Value.bool (decide (0 < x5))), none, none, none, none, none, none, none, none, none, none, none, none, none, none, some ((j4 34))] l → St Non w0 w g ([(n3, .cells (iaC .u8 p0.fAddress ++ ([Value.int .u64 p0.fNonce] ++ (iaC .u64 p0.fBalance ++ ([v1] ++ ([v2]))))).toArray 34 (0, 0))]) → K6 (F l) w := by
      rintro  _ w hp hfit hst
      replace hp := hJ10 hp
      obtain ⟨jj9, rfl⟩ := hfit.ex
      refine hK6 _ _ ?_
      refine E.norm (l' := [Value.agg (iaC .u8 p0.fAddress ++ ([Value.int .u64 p0.fNonce] ++ (iaC .u64 p0.fBalance ++ ([v1] ++ ([v2]))))).toArray, Value.pointer (some ⟨n3, 0, none⟩), Value.bool false, Value.int .i64 x5, (jj9 4), Value.pointer (some ⟨n3, 26, none⟩), v2, Value.int .i64 ((p0.fStorage.length : Int)), Value.int .i64 x5, Value.bool (decide (x5 < (p0.fStorage.length : Int))), Value.int .i64 x5, (jj9 11), Value.agg (iaC .u64 ((nth p0.fStorage x5).fKey) ++ (iaC .u64 ((nth p0.fStorage x5).fValue))).toArray, (jj9 13), Value.agg (iaC .u64 ((nth p0.fStorage x5).fValue)).toArray, Value.agg (iaC .u64 (Ar.zero 4)).toArray, Value.bool (decide ((nth p0.fStorage x5).fValue = Ar.zero 4)), Value.bool false, Value.int .i64 x5, Value.bool (decide (0 < x5)), (jj9 20), (jj9 21), (jj9 22), (jj9 23), (jj9 24), (jj9 25), (jj9 26), (jj9 27), (jj9 28), (jj9 29), (jj9 30), (jj9 31), (jj9 32), (jj9 33), (j4 34)]) rfl ?_
      refine rg ?_
      obtain ⟨ho11, hp⟩ := hp
      refine TL.add (x5 + 1) rfl rfl ⟨rfl, ho11⟩ rfl ?_
      refine TL.move (Value.int .i64 (x5 + 1)) rfl rfl ?_
      refine TL.nil ?_
      exact ⟨_, _, hp.2, rfl, (x5 + 1), rfl, hp.1, (by first | (simp only [List.set_cons_succ, List.set_cons_zero]; exact .s rfl (.s rfl (.s rfl (.n (.n (.s rfl (.s rfl (.s rfl (.s rfl (.n (.n (.n (.n (.n (.n (.n (.n (.n (.n (.n (.n (.n (.n (.n (.n (.n (.n (.n (.n (.n (.n (.n (.n (.n (.n (.z)))))))))))))))))))))))))))))))))))) | exact .s rfl (.s rfl (.s rfl (.n (.n (.s rfl (.s rfl (.s rfl (.s rfl (.n (.n (.n (.n (.n (.n (.n (.n (.n (.n (.n (.n (.n (.n (.n (.n (.n (.n (.n (.n (.n (.n (.n (.n (.n (.n (.z)))))))))))))))))))))))))))))))))))), hst⟩
    refine wp_block ?_
    refine E.seq (fun K7 hK7 => ?_)
    refine rg ?_
    refine TL.move (Value.int .i64 x5) rfl rfl ?_
    obtain ⟨ho12, ho13, hp⟩ := hp
    refine TL.indexL (hv2) sl32 rfl rfl ho12 ho13 rfl ?_
    rintro b14 o15 _ rfl hq18
    refine TL.ldG b14 (o15 + (0)) (iaC .u64 ((nth p0.fStorage x5).fKey) ++ (iaC .u64 ((nth p0.fStorage x5).fValue))) (fun _ h => h ▸ hst) (hq18.sub (Seg.all _)) (ta131.of (by simp)) rfl rfl ?_
    refine TL.norm (by simp only [List.set_cons_succ, List.set_cons_zero]; rfl) ?_
    refine TL.alloc hst zv131 rfl ?_
    intro w n19 hst
    refine ⟨trivial, ?_⟩
    refine TL.assign (Value.int .i64 x5) rfl rfl ?_
    refine TL.stA 0 n19 (0) _ (vs := iaC .u64 ((nth p0.fStorage x5).fKey) ++ (iaC .u64 ((nth p0.fStorage x5).fValue))) hst rfl (Put.all (by simp)) (by first | rfl | omega) rfl (One.app (One.ia _ _) (One.ia _ _)) (tzof tz131 (by simp)) rfl rfl ?_
    intro w hst
    refine ⟨trivial, ?_⟩
    refine TL.nil ?_
    refine hK7 _ _ ?_
    refine E.norm (by simp only [List.set_cons_succ, List.set_cons_zero]; rfl) ?_
    refine E.seq (fun K8 hK8 => ?_)
    refine rgD mixed #[0, 1, 0, 7, 15, 31, 63, 127, 255, 511, 255, 1279, 4095, 8191, 16383, 255, 33023, 131071, 262143, 524287, 1048575] (by kernel_rfl) ?_
    replace hst := hst.drew
    refine TL.fieldA (4) fa131_1 rfl (by first | rfl | omega) rfl ?_
    refine TL.ldL 0 n19 (4 + (0)) (iaC .u64 ((nth p0.fStorage x5).fValue)) (fun _ h => h ▸ hst) rfl (Seg.skip (m := 4) (by simp) (Seg.all _)) (ta31.of (by simp)) rfl rfl ?_
    refine TL.buildA (ps := []) ar31 zv31 rfl (Fl.nil _) rfl ?_
    refine TL.norm (by simp only [List.set_cons_succ, List.set_cons_zero]; rfl) ?_
    refine TL.eqlIA eqa31 rfl rfl rfl ?_
    refine TL.move (Value.bool (decide ((nth p0.fStorage x5).fValue = Ar.zero 4))) rfl rfl ?_
    refine TL.case 17 (decide ((nth p0.fStorage x5).fValue = Ar.zero 4)) rfl (fun hc20 => ?_) (fun hc20 => ?_)
    · replace hp := hp.1 (of_decide_eq_true hc20)
      refine TL.norm (by simp only [List.set_cons_succ, List.set_cons_zero]; rfl) ?_
      refine TL.noF trivial rfl ?_
      refine TL.noF trivial rfl ?_
      refine TL.noF trivial rfl ?_
      refine TL.norm (by simp only [List.set_cons_succ, List.set_cons_zero]; rfl) ?_
      refine TL.noF trivial rfl ?_
      refine TL.noF trivial rfl ?_
      refine TL.noF trivial rfl ?_
      refine TL.norm (by simp only [List.set_cons_succ, List.set_cons_zero]; rfl) ?_
      refine TL.noF trivial rfl ?_
      refine TL.noF trivial rfl ?_
      refine TL.noF trivial rfl ?_
      refine TL.norm (by simp only [List.set_cons_succ, List.set_cons_zero]; rfl) ?_
      refine TL.noF trivial rfl ?_
      refine TL.noF trivial rfl ?_
      refine TL.noF trivial rfl ?_
      refine TL.norm (by simp only [List.set_cons_succ, List.set_cons_zero]; rfl) ?_
      refine TL.noF trivial rfl ?_
      refine TL.noF trivial rfl ?_
      refine TL.noF trivial rfl ?_
      refine TL.norm (by simp only [List.set_cons_succ, List.set_cons_zero]; rfl) ?_
      refine TL.pick (Value.bool true) rfl rfl rfl ?_
      refine TL.nil ?_
      refine hK8 _ _ ?_
      refine E.norm (by simp only [List.set_cons_succ, List.set_cons_zero]; rfl) ?_
      refine E.condT rfl ?_
      refine E.seq (fun K9 hK9 => ?_)
      refine rg ?_
      refine TL.assign (Value.bool false) rfl rfl ?_
      refine TL.nil ?_
      refine hK9 _ _ ?_
      refine E.norm (by simp only [List.set_cons_succ, List.set_cons_zero]; rfl) ?_
      refine wp_ret ?_
      refine E.ret _ (Rs.t (Value.bool false) rfl rfl) ?_
      exact ⟨hst.keep, false, hp, rfl⟩
    · replace hp := hp.2 (of_decide_eq_false hc20)
      refine TL.norm (by simp only [List.set_cons_succ, List.set_cons_zero]; rfl) ?_
      refine TL.move (Value.int .i64 x5) rfl rfl ?_
      refine TL.gtr rfl rfl rfl ?_
      refine TL.move (Value.bool (decide (0 < x5))) rfl rfl ?_
      refine TL.norm (by simp only [List.set_cons_succ, List.set_cons_zero]; rfl) ?_
      refine TL.case 20 (decide (0 < x5)) rfl (fun hc21 => ?_) (fun hc21 => ?_)
      · replace hp := hp.1 (of_decide_eq_true hc21)
        refine TL.norm (by simp only [List.set_cons_succ, List.set_cons_zero]; rfl) ?_
        refine TL.fieldA (26) fa34_4 rfl (by first | rfl | omega) rfl ?_
        refine TL.ldL1 1 n3 (20 + (1 + (4 + (1 + (0))))) (v2) (fun _ h => h ▸ hst) rfl (Seg.skip (m := 20) (by simp) (Seg.skip (m := 1) (by simp) (Seg.skip (m := 4) (by simp) (Seg.skip (m := 1) (by simp) (Seg.all _))))) ts32 rfl rfl ?_
        refine TL.move (Value.int .i64 x5) rfl rfl ?_
        refine TL.norm (by simp only [List.set_cons_succ, List.set_cons_zero]; rfl) ?_
        obtain ⟨ho22, hp⟩ := hp
        refine TL.sub (x5 - 1) rfl rfl ⟨rfl, ho22⟩ rfl ?_
        obtain ⟨ho23, ho24, hp⟩ := hp
        refine TL.indexL (hv2) sl32 rfl rfl ho23 ho24 rfl ?_
        rintro b25 o26 _ rfl hq29
        refine TL.fieldA (o26) fa131_0 rfl (by first | rfl | omega) rfl ?_
        refine TL.norm (by simp only [List.set_cons_succ, List.set_cons_zero]; rfl) ?_
        refine TL.ldG b25 (o26 + (0)) (iaC .u64 ((nth p0.fStorage (x5 - 1)).fKey)) (fun _ h => h ▸ hst) (hq29.sub (Seg.here _ _)) (ta31.of (by simp)) rfl rfl ?_
        refine TL.fieldA (0) fa131_0 rfl (by first | rfl | omega) rfl ?_
        refine TL.ldL 0 n19 (0) (iaC .u64 ((nth p0.fStorage x5).fKey)) (fun _ h => h ▸ hst) rfl (Seg.here _ _) (ta31.of (by simp)) rfl rfl ?_
        refine TL.norm (by simp only [List.set_cons_succ, List.set_cons_zero]; rfl) ?_
        refine TL.callS #[Value.agg (iaC .u64 ((nth p0.fStorage (x5 - 1)).fKey)).toArray, Value.agg (iaC .u64 ((nth p0.fStorage x5).fKey)).toArray] co87 rfl (w_word_Compare ((nth p0.fStorage (x5 - 1)).fKey) ((nth p0.fStorage x5).fKey) g _ hst.has _ hp) rfl ?_
        rintro _ w ⟨hk, r30, hp, rfl⟩
        replace hst := hst.call hk
        refine ⟨trivial, ?_⟩
        refine TL.geq rfl rfl rfl ?_
        refine TL.pick (Value.bool (decide (0 ≤ r30))) rfl rfl rfl ?_
        refine TL.norm (by simp only [List.set_cons_succ, List.set_cons_zero]; rfl) ?_
        refine TL.pick (Value.bool (decide (0 ≤ r30))) rfl rfl rfl ?_
        refine TL.nil ?_
        refine hK8 _ _ ?_
        refine E.norm (by simp only [List.set_cons_succ, List.set_cons_zero]; rfl) ?_
        refine E.cond rfl (fun hc31 => ?_) (fun hc31 => ?_)
        · replace hp := hp.1 (of_decide_eq_true hc31)
          refine E.seq (fun K10 hK10 => ?_)
          refine rg ?_
          refine TL.assign (Value.bool false) rfl rfl ?_
          refine TL.nil ?_
          refine hK10 _ _ ?_
          refine E.norm (by simp only [List.set_cons_succ, List.set_cons_zero]; rfl) ?_
          refine wp_ret ?_
          refine E.ret _ (Rs.t (Value.bool false) rfl rfl) ?_
          exact ⟨hst.keep, false, hp, rfl⟩
        · replace hp := hp.2 (of_decide_eq_false hc31)
          refine wp_skip ?_
          refine hJ10K  _ _ hp (by first | (simp only [List.set_cons_succ, List.set_cons_zero]; exact .s rfl (.s rfl (.s rfl (.s rfl (.n (.s rfl (.s rfl (.s rfl (.s rfl (.s rfl (.s rfl (.n (.s rfl (.n (.s rfl (.s rfl (.s rfl (.s rfl (.s rfl (.s rfl (.n (.n (.n (.n (.n (.n (.n (.n (.n (.n (.n (.n (.n (.n (.s rfl (.z)))))))))))))))))))))))))))))))))))) | exact .s rfl (.s rfl (.s rfl (.s rfl (.n (.s rfl (.s rfl (.s rfl (.s rfl (.s rfl (.s rfl (.n (.s rfl (.n (.s rfl (.s rfl (.s rfl (.s rfl (.s rfl (.s rfl (.n (.n (.n (.n (.n (.n (.n (.n (.n (.n (.n (.n (.n (.n (.s rfl (.z)))))))))))))))))))))))))))))))))))) (hst.sub (.cons _ (.cons_cons _ (List.Sublist.refl _))))
      · replace hp := hp.2 (of_decide_eq_false hc21)
        refine TL.norm (by simp only [List.set_cons_succ, List.set_cons_zero]; rfl) ?_
        refine TL.noF trivial rfl ?_
        refine TL.noF trivial rfl ?_
        refine TL.noF trivial rfl ?_
        refine TL.norm (by simp only [List.set_cons_succ, List.set_cons_zero]; rfl) ?_
        refine TL.noF trivial rfl ?_
        refine TL.noF trivial rfl ?_
        refine TL.noF trivial rfl ?_
        refine TL.norm (by simp only [List.set_cons_succ, List.set_cons_zero]; rfl) ?_
        refine TL.noF trivial rfl ?_
        refine TL.noF trivial rfl ?_
        refine TL.noF trivial rfl ?_
        refine TL.norm (by simp only [List.set_cons_succ, List.set_cons_zero]; rfl) ?_
        refine TL.noF trivial rfl ?_
        refine TL.noF trivial rfl ?_
        refine TL.pick (Value.bool false) rfl rfl rfl ?_
        refine TL.norm (by simp only [List.set_cons_succ, List.set_cons_zero]; rfl) ?_
        refine TL.pick (Value.bool false) rfl rfl rfl ?_
        refine TL.nil ?_
        refine hK8 _ _ ?_
        refine E.norm (by simp only [List.set_cons_succ, List.set_cons_zero]; rfl) ?_
        refine E.condF rfl ?_
        refine wp_skip ?_
        refine hJ10K  _ _ hp (by first | (simp only [List.set_cons_succ, List.set_cons_zero]; exact .s rfl (.s rfl (.s rfl (.s rfl (.n (.s rfl (.s rfl (.s rfl (.s rfl (.s rfl (.s rfl (.n (.s rfl (.n (.s rfl (.s rfl (.s rfl (.s rfl (.s rfl (.s rfl (.n (.n (.n (.n (.n (.n (.n (.n (.n (.n (.n (.n (.n (.n (.s rfl (.z)))))))))))))))))))))))))))))))))))) | exact .s rfl (.s rfl (.s rfl (.s rfl (.n (.s rfl (.s rfl (.s rfl (.s rfl (.s rfl (.s rfl (.n (.s rfl (.n (.s rfl (.s rfl (.s rfl (.s rfl (.s rfl (.s rfl (.n (.n (.n (.n (.n (.n (.n (.n (.n (.n (.n (.n (.n (.n (.s rfl (.z)))))))))))))))))))))))))))))))))))) (hst.sub (.cons _ (.cons_cons _ (List.Sublist.refl _))))
  · replace hp := hp.2 (of_decide_eq_false hc8)
    refine wp_exit ?_
    refine hK2 _ _ ?_
    refine E.seq (fun K11 hK11 => ?_)
    refine rg ?_
    refine TL.assign (Value.bool true) rfl rfl ?_
    refine TL.nil ?_
    refine hK11 _ _ ?_
    refine E.norm (by simp only [List.set_cons_succ, List.set_cons_zero]; rfl) ?_
    refine wp_ret ?_
    refine E.ret _ (Rs.t (Value.bool true) rfl rfl) ?_
    exact ⟨hst.keep, true, hp, rfl⟩

def store_own (p0 : T_api_Account) (Q : T_api_Account → Prop) : Prop :=
  slices_Clone_l_byte_byte p0.fCode (fun r5 => slices_Clone_l_api_Slot_api_Slot p0.fStorage (fun r8 => Q (T_api_Account.mk p0.fAddress p0.fNonce p0.fBalance r5 r8)))
theorem w_store_own (p0 : T_api_Account) (v1 : Value) (v2 : Value) (g : Gh) (w0 : World) (hg : Has w0 g) (hv1 : Sl (rtI .u8) g p0.fCode v1) (hv2 : Sl rT_api_Slot g p0.fStorage v2) (Q : T_api_Account → Prop) (hp : store_own p0 Q) : Calls Try.prog 76 #[Value.agg (iaC .u8 p0.fAddress ++ ([Value.int .u64 p0.fNonce] ++ (iaC .u64 p0.fBalance ++ ([v1] ++ ([v2]))))).toArray] w0 (Ret fun u w => ∃ g', Gr w0 w g g' ∧ ∃ (r1 : T_api_Account), Q r1 ∧ ∃ (u1 : Value) (u2 : Value), u = Value.agg (iaC .u8 r1.fAddress ++ ([Value.int .u64 r1.fNonce] ++ (iaC .u64 r1.fBalance ++ ([u1] ++ ([u2]))))).toArray ∧ Sl (rtI .u8) g' r1.fCode u1 ∧ Sl rT_api_Slot g' r1.fStorage u2) := by
  unfold store_own at hp
  go_enter Try.func76, Try.ntmps76
  change Code.wp _ _ _ (F [Value.agg (iaC .u8 p0.fAddress ++ ([Value.int .u64 p0.fNonce] ++ (iaC .u64 p0.fBalance ++ ([v1] ++ ([v2]))))).toArray, undef, undef, undef, undef, undef, undef, undef, undef, undef, undef, undef]) _
  have hst := St.start Non hg
  have hgn0 : GN Non w0 g g := GN.refl _ _ _
  have hle0 : g.le g := Gh.le_refl _
  refine E.seq (fun K1 hK1 => ?_)
  refine rg ?_
  refine TL.box (vs := iaC .u8 p0.fAddress ++ ([Value.int .u64 p0.fNonce] ++ (iaC .u64 p0.fBalance ++ ([v1] ++ ([v2]))))) hst rfl rfl ?_
  intro w n3 hst
  refine ⟨trivial, ?_⟩
  refine TL.alloc hst zv34 rfl ?_
  intro w n4 hst
  refine ⟨trivial, ?_⟩
  refine TL.nil ?_
  refine hK1 _ _ ?_
  refine E.norm (by simp only [List.set_cons_succ, List.set_cons_zero]; rfl) ?_
  refine E.seq (fun K2 hK2 => ?_)
  refine rg ?_
  refine TL.fieldA (25) fa34_3 rfl (by first | rfl | omega) rfl ?_
  refine TL.ldL1 1 n3 (20 + (1 + (4 + (0)))) (v1) (fun _ h => h ▸ hst) rfl (Seg.skip (m := 20) (by simp) (Seg.skip (m := 1) (by simp) (Seg.skip (m := 4) (by simp) (Seg.here _ _)))) ts24 rfl rfl ?_
  refine TL.callS #[v1] co92 rfl (w_slices_Clone_l_byte_byte p0.fCode v1 g _ hst.has (hv1) _ hp) rfl ?_
  rintro v6 w ⟨g7, hgrg7, r5, hp, _, rfl, hv6⟩
  have hleg7 := hgrg7.le
  replace hgn0 := hgn0.call hgrg7.new hst.keep.size
  replace hle0 := Gh.le_trans hle0 hleg7
  replace hst := hst.callG hgrg7.keep hgrg7.has hgrg7.new
  refine ⟨trivial, ?_⟩
  refine TL.norm (by simp only [List.set_cons_succ, List.set_cons_zero]; rfl) ?_
  refine TL.fieldA (25) fa34_3 rfl (by first | rfl | omega) rfl ?_
  refine TL.stA 1 n3 (20 + (1 + (4 + (0)))) _ (vs := [v6]) hst rfl (Put.skip (m := 20) (by simp) (Put.skip (m := 1) (by simp) (Put.skip (m := 4) (by simp) (Put.here (by simp))))) (by first | rfl | omega) (hv6.cell) (One.one (hv6).one) (tzof tz24 (by simp)) rfl rfl ?_
  intro w hst
  refine ⟨trivial, ?_⟩
  refine TL.nil ?_
  refine hK2 _ _ ?_
  refine E.norm (by simp only [List.set_cons_succ, List.set_cons_zero]; rfl) ?_
  refine E.seq (fun K3 hK3 => ?_)
  refine rg ?_
  refine TL.fieldA (26) fa34_4 rfl (by first | rfl | omega) rfl ?_
  refine TL.ldL1 1 n3 (20 + (1 + (4 + (1 + (0))))) (v2) (fun _ h => h ▸ hst) rfl (Seg.skip (m := 20) (by simp) (Seg.skip (m := 1) (by simp) (Seg.skip (m := 4) (by simp) (Seg.skip (m := 1) (by simp) (Seg.all _))))) ts32 rfl rfl ?_
  refine TL.callS #[v2] co93 rfl (w_slices_Clone_l_api_Slot_api_Slot p0.fStorage v2 g7 _ hst.has ((hv2.mono (hleg7))) _ hp) rfl ?_
  rintro v9 w ⟨g10, hgrg10, r8, hp, _, rfl, hv9⟩
  have hleg10 := hgrg10.le
  replace hgn0 := hgn0.call hgrg10.new hst.keep.size
  replace hle0 := Gh.le_trans hle0 hleg10
  replace hst := hst.callG hgrg10.keep hgrg10.has hgrg10.new
  refine ⟨trivial, ?_⟩
  refine TL.norm (by simp only [List.set_cons_succ, List.set_cons_zero]; rfl) ?_
  refine TL.fieldA (26) fa34_4 rfl (by first | rfl | omega) rfl ?_
  refine TL.stA 1 n3 (20 + (1 + (4 + (1 + (0))))) _ (vs := [v9]) hst rfl (Put.skip (m := 20) (by simp) (Put.skip (m := 1) (by simp) (Put.skip (m := 4) (by simp) (Put.skip (m := 1) (by simp) (Put.all (by simp)))))) (by first | rfl | omega) (hv9.cell) (One.one (hv9).one) (tzof tz32 (by simp)) rfl rfl ?_
  intro w hst
  refine ⟨trivial, ?_⟩
  refine TL.nil ?_
  refine hK3 _ _ ?_
  refine E.norm (by simp only [List.set_cons_succ, List.set_cons_zero]; rfl) ?_
  refine E.seq (fun K4 hK4 => ?_)
  refine rg ?_
  refine TL.ldL 1 n3 (0) (iaC .u8 p0.fAddress ++ ([Value.int .u64 p0.fNonce] ++ (iaC .u64 p0.fBalance ++ ([v6] ++ ([v9]))))) (fun _ h => h ▸ hst) rfl (Seg.all _) (ta34.of (by simp)) rfl rfl ?_
  refine TL.stA 0 n4 (0) _ (vs := iaC .u8 p0.fAddress ++ ([Value.int .u64 p0.fNonce] ++ (iaC .u64 p0.fBalance ++ ([v6] ++ ([v9]))))) hst rfl (Put.all (by simp)) (by first | rfl | omega) rfl (One.app (One.ia _ _) (One.app (One.one rfl) (One.app (One.ia _ _) (One.app (One.one (hv6).one) (One.one (hv9).one))))) (tzof tz34 (by simp)) rfl rfl ?_
  intro w hst
  refine ⟨trivial, ?_⟩
  refine TL.nil ?_
  refine hK4 _ _ ?_
  refine E.norm (by simp only [List.set_cons_succ, List.set_cons_zero]; rfl) ?_
  refine wp_ret ?_
  refine E.ret _ (Rs.c (iaC .u8 p0.fAddress ++ ([Value.int .u64 p0.fNonce] ++ (iaC .u64 p0.fBalance ++ ([v6] ++ ([v9]))))) rfl rfl (ta34.of (by simp)) (rangeAt_of_block (hst.mem (i := 0) rfl) (Seg.all _))) ?_
  exact ⟨g10, ⟨hst.keep, hst.has, hle0, hgn0.new⟩, (T_api_Account.mk p0.fAddress p0.fNonce p0.fBalance r5 r8), hp, _, _, rfl, (hv6.mono (hleg10)), hv9⟩

def fork_own (p0 : T_api_Account) (Q : T_api_Account → Prop) : Prop :=
  slices_Clone_l_byte_byte p0.fCode (fun r5 => slices_Clone_l_api_Slot_api_Slot p0.fStorage (fun r8 => Q (T_api_Account.mk p0.fAddress p0.fNonce p0.fBalance r5 r8)))
theorem w_fork_own (p0 : T_api_Account) (v1 : Value) (v2 : Value) (g : Gh) (w0 : World) (hg : Has w0 g) (hv1 : Sl (rtI .u8) g p0.fCode v1) (hv2 : Sl rT_api_Slot g p0.fStorage v2) (Q : T_api_Account → Prop) (hp : fork_own p0 Q) : Calls Try.prog 72 #[Value.agg (iaC .u8 p0.fAddress ++ ([Value.int .u64 p0.fNonce] ++ (iaC .u64 p0.fBalance ++ ([v1] ++ ([v2]))))).toArray] w0 (Ret fun u w => ∃ g', Gr w0 w g g' ∧ ∃ (r1 : T_api_Account), Q r1 ∧ ∃ (u1 : Value) (u2 : Value), u = Value.agg (iaC .u8 r1.fAddress ++ ([Value.int .u64 r1.fNonce] ++ (iaC .u64 r1.fBalance ++ ([u1] ++ ([u2]))))).toArray ∧ Sl (rtI .u8) g' r1.fCode u1 ∧ Sl rT_api_Slot g' r1.fStorage u2) := by
  unfold fork_own at hp
  go_enter Try.func72, Try.ntmps72
  change Code.wp _ _ _ (F [Value.agg (iaC .u8 p0.fAddress ++ ([Value.int .u64 p0.fNonce] ++ (iaC .u64 p0.fBalance ++ ([v1] ++ ([v2]))))).toArray, undef, undef, undef, undef, undef, undef, undef, undef, undef, undef, undef]) _
  have hst := St.start Non hg
  have hgn0 : GN Non w0 g g := GN.refl _ _ _
  have hle0 : g.le g := Gh.le_refl _
  refine E.seq (fun K1 hK1 => ?_)
  refine rg ?_
  refine TL.box (vs := iaC .u8 p0.fAddress ++ ([Value.int .u64 p0.fNonce] ++ (iaC .u64 p0.fBalance ++ ([v1] ++ ([v2]))))) hst rfl rfl ?_
  intro w n3 hst
  refine ⟨trivial, ?_⟩
  refine TL.alloc hst zv34 rfl ?_
  intro w n4 hst
  refine ⟨trivial, ?_⟩
  refine TL.nil ?_
  refine hK1 _ _ ?_
  refine E.norm (by simp only [List.set_cons_succ, List.set_cons_zero]; rfl) ?_
  refine E.seq (fun K2 hK2 => ?_)
  refine rg ?_
  refine TL.fieldA (25) fa34_3 rfl (by first | rfl | omega) rfl ?_
  refine TL.ldL1 1 n3 (20 + (1 + (4 + (0)))) (v1) (fun _ h => h ▸ hst) rfl (Seg.skip (m := 20) (by simp) (Seg.skip (m := 1) (by simp) (Seg.skip (m := 4) (by simp) (Seg.here _ _)))) ts24 rfl rfl ?_
  refine TL.callS #[v1] co92 rfl (w_slices_Clone_l_byte_byte p0.fCode v1 g _ hst.has (hv1) _ hp) rfl ?_
  rintro v6 w ⟨g7, hgrg7, r5, hp, _, rfl, hv6⟩
  have hleg7 := hgrg7.le
  replace hgn0 := hgn0.call hgrg7.new hst.keep.size
  replace hle0 := Gh.le_trans hle0 hleg7
  replace hst := hst.callG hgrg7.keep hgrg7.has hgrg7.new
  refine ⟨trivial, ?_⟩
  refine TL.norm (by simp only [List.set_cons_succ, List.set_cons_zero]; rfl) ?_
  refine TL.fieldA (25) fa34_3 rfl (by first | rfl | omega) rfl ?_
  refine TL.stA 1 n3 (20 + (1 + (4 + (0)))) _ (vs := [v6]) hst rfl (Put.skip (m := 20) (by simp) (Put.skip (m := 1) (by simp) (Put.skip (m := 4) (by simp) (Put.here (by simp))))) (by first | rfl | omega) (hv6.cell) (One.one (hv6).one) (tzof tz24 (by simp)) rfl rfl ?_
  intro w hst
  refine ⟨trivial, ?_⟩
  refine TL.nil ?_
  refine hK2 _ _ ?_
  refine E.norm (by simp only [List.set_cons_succ, List.set_cons_zero]; rfl) ?_
  refine E.seq (fun K3 hK3 => ?_)
  refine rg ?_
  refine TL.fieldA (26) fa34_4 rfl (by first | rfl | omega) rfl ?_
  refine TL.ldL1 1 n3 (20 + (1 + (4 + (1 + (0))))) (v2) (fun _ h => h ▸ hst) rfl (Seg.skip (m := 20) (by simp) (Seg.skip (m := 1) (by simp) (Seg.skip (m := 4) (by simp) (Seg.skip (m := 1) (by simp) (Seg.all _))))) ts32 rfl rfl ?_
  refine TL.callS #[v2] co93 rfl (w_slices_Clone_l_api_Slot_api_Slot p0.fStorage v2 g7 _ hst.has ((hv2.mono (hleg7))) _ hp) rfl ?_
  rintro v9 w ⟨g10, hgrg10, r8, hp, _, rfl, hv9⟩
  have hleg10 := hgrg10.le
  replace hgn0 := hgn0.call hgrg10.new hst.keep.size
  replace hle0 := Gh.le_trans hle0 hleg10
  replace hst := hst.callG hgrg10.keep hgrg10.has hgrg10.new
  refine ⟨trivial, ?_⟩
  refine TL.norm (by simp only [List.set_cons_succ, List.set_cons_zero]; rfl) ?_
  refine TL.fieldA (26) fa34_4 rfl (by first | rfl | omega) rfl ?_
  refine TL.stA 1 n3 (20 + (1 + (4 + (1 + (0))))) _ (vs := [v9]) hst rfl (Put.skip (m := 20) (by simp) (Put.skip (m := 1) (by simp) (Put.skip (m := 4) (by simp) (Put.skip (m := 1) (by simp) (Put.all (by simp)))))) (by first | rfl | omega) (hv9.cell) (One.one (hv9).one) (tzof tz32 (by simp)) rfl rfl ?_
  intro w hst
  refine ⟨trivial, ?_⟩
  refine TL.nil ?_
  refine hK3 _ _ ?_
  refine E.norm (by simp only [List.set_cons_succ, List.set_cons_zero]; rfl) ?_
  refine E.seq (fun K4 hK4 => ?_)
  refine rg ?_
  refine TL.ldL 1 n3 (0) (iaC .u8 p0.fAddress ++ ([Value.int .u64 p0.fNonce] ++ (iaC .u64 p0.fBalance ++ ([v6] ++ ([v9]))))) (fun _ h => h ▸ hst) rfl (Seg.all _) (ta34.of (by simp)) rfl rfl ?_
  refine TL.stA 0 n4 (0) _ (vs := iaC .u8 p0.fAddress ++ ([Value.int .u64 p0.fNonce] ++ (iaC .u64 p0.fBalance ++ ([v6] ++ ([v9]))))) hst rfl (Put.all (by simp)) (by first | rfl | omega) rfl (One.app (One.ia _ _) (One.app (One.one rfl) (One.app (One.ia _ _) (One.app (One.one (hv6).one) (One.one (hv9).one))))) (tzof tz34 (by simp)) rfl rfl ?_
  intro w hst
  refine ⟨trivial, ?_⟩
  refine TL.nil ?_
  refine hK4 _ _ ?_
  refine E.norm (by simp only [List.set_cons_succ, List.set_cons_zero]; rfl) ?_
  refine wp_ret ?_
  refine E.ret _ (Rs.c (iaC .u8 p0.fAddress ++ ([Value.int .u64 p0.fNonce] ++ (iaC .u64 p0.fBalance ++ ([v6] ++ ([v9]))))) rfl rfl (ta34.of (by simp)) (rangeAt_of_block (hst.mem (i := 0) rfl) (Seg.all _))) ?_
  exact ⟨g10, ⟨hst.keep, hst.has, hle0, hgn0.new⟩, (T_api_Account.mk p0.fAddress p0.fNonce p0.fBalance r5 r8), hp, _, _, rfl, (hv6.mono (hleg10)), hv9⟩

def fork_Cache_Fill (p0_fknown : List (Ar 20 × T_api_Account)) (p0_ftries : List (Ar 20 × Int)) (p1 : T_api_Account) (Q : Bool → (List (Ar 20 × T_api_Account)) → (List (Ar 20 × Int)) → Prop) : Prop :=
  store_Right p1 (fun r4 => ((r4 = false) → (Q false p0_fknown p0_ftries)) ∧ ((r4 = true) → ((Mp.pget p0_ftries p1.fAddress = none → (Q false p0_fknown p0_ftries)) ∧ (∀ x6, Mp.pget p0_ftries p1.fAddress = some x6 → (fork_own p1 (fun r8 => Q true (Mp.pset p0_fknown p1.fAddress r8) (Mp.pdel p0_ftries p1.fAddress)))))))
theorem w_fork_Cache_Fill (p0_fknown : List (Ar 20 × T_api_Account)) (p0_ftries : List (Ar 20 × Int)) (p1 : T_api_Account) (pb0 : Nat) (p0m_fknown : Nat) (p0q_fknown : Obj) (p0m_ftries : Nat) (p0q_ftries : Obj) (v1 : Value) (v2 : Value) (g : Gh) (w0 : World) (hst0 : St (Mof ([(pb0, .cells ([Value.map (some p0m_fknown)] ++ ([Value.map (some p0m_ftries)])).toArray 136 (0, 0)), (p0m_fknown, p0q_fknown), (p0m_ftries, p0q_ftries)])) w0 w0 g ([(pb0, .cells ([Value.map (some p0m_fknown)] ++ ([Value.map (some p0m_ftries)])).toArray 136 (0, 0)), (p0m_fknown, p0q_fknown), (p0m_ftries, p0q_ftries)])) (hmp0q_fknown : Mp.MR rT_api_Account true (Mp.kvA .u8 20) g p0_fknown p0q_fknown) (hmp0q_ftries : Mp.MR (rtI .i64) false (Mp.kvA .u8 20) g p0_ftries p0q_ftries) (hv1 : Sl (rtI .u8) g p1.fCode v1) (hv2 : Sl rT_api_Slot g p1.fStorage v2) (Q : Bool → (List (Ar 20 × T_api_Account)) → (List (Ar 20 × Int)) → Prop) (hp : fork_Cache_Fill p0_fknown p0_ftries p1 Q) : Calls Try.prog 20 #[Value.pointer (some ⟨pb0, 0, none⟩), Value.agg (iaC .u8 p1.fAddress ++ ([Value.int .u64 p1.fNonce] ++ (iaC .u64 p1.fBalance ++ ([v1] ++ ([v2]))))).toArray] w0 (Ret fun u w => ∃ g', g.le g' ∧ GN (Mof ([(pb0, .cells ([Value.map (some p0m_fknown)] ++ ([Value.map (some p0m_ftries)])).toArray 136 (0, 0)), (p0m_fknown, p0q_fknown), (p0m_ftries, p0q_ftries)])) w0 g g' ∧ ∃ (r1 : Bool) (z0_fknown : List (Ar 20 × T_api_Account)) (z0_ftries : List (Ar 20 × Int)), Q r1 z0_fknown z0_ftries ∧ ∃ (z0q_fknown : Obj) (z0q_ftries : Obj), u = Value.bool r1 ∧ Mp.MR rT_api_Account true (Mp.kvA .u8 20) g' z0_fknown z0q_fknown ∧ Mp.MR (rtI .i64) false (Mp.kvA .u8 20) g' z0_ftries z0q_ftries ∧ St (Mof ([(pb0, .cells ([Value.map (some p0m_fknown)] ++ ([Value.map (some p0m_ftries)])).toArray 136 (0, 0)), (p0m_fknown, p0q_fknown), (p0m_ftries, p0q_ftries)])) w0 w g' ([(pb0, .cells ([Value.map (some p0m_fknown)] ++ ([Value.map (some p0m_ftries)])).toArray 136 (0, 0)), (p0m_fknown, z0q_fknown), (p0m_ftries, z0q_ftries)])) := by
  unfold fork_Cache_Fill at hp
  go_enter Try.func20, Try.ntmps20
  change Code.wp _ _ _ (F [Value.pointer (some ⟨pb0, 0, none⟩), Value.agg (iaC .u8 p1.fAddress ++ ([Value.int .u64 p1.fNonce] ++ (iaC .u64 p1.fBalance ++ ([v1] ++ ([v2]))))).toArray, undef, undef, undef, undef, undef, undef, undef, undef, undef, undef, undef, undef, undef, undef, undef, undef, undef, undef, undef, undef, undef, undef, undef, undef, undef, undef, undef, undef, undef, undef, undef, undef, undef, undef, undef, undef, undef, undef]) _
  have hst := hst0
  have hgn0 : GN (Mof ([(pb0, .cells ([Value.map (some p0m_fknown)] ++ ([Value.map (some p0m_ftries)])).toArray 136 (0, 0)), (p0m_fknown, p0q_fknown), (p0m_ftries, p0q_ftries)])) w0 g g := GN.refl _ _ _
  have hle0 : g.le g := Gh.le_refl _
  refine E.seq (fun K1 hK1 => ?_)
  refine rg ?_
  refine TL.box (vs := iaC .u8 p1.fAddress ++ ([Value.int .u64 p1.fNonce] ++ (iaC .u64 p1.fBalance ++ ([v1] ++ ([v2]))))) hst rfl rfl ?_
  intro w n3 hst
  refine ⟨trivial, ?_⟩
  refine TL.assign (Value.bool false) rfl rfl ?_
  refine TL.nil ?_
  refine hK1 _ _ ?_
  refine E.norm (by simp only [List.set_cons_succ, List.set_cons_zero]; rfl) ?_
  refine E.seq (fun K2 hK2 => ?_)
  refine E.seq (fun K3 hK3 => ?_)
  refine rg ?_
  refine TL.move (Value.pointer (some ⟨pb0, 0, none⟩)) rfl rfl ?_
  refine TL.ptrNil false Try.underlying36 rfl rfl (.inl ⟨rfl, rfl⟩) rfl ?_
  refine TL.move (Value.bool false) rfl rfl ?_
  refine TL.norm (by simp only [List.set_cons_succ, List.set_cons_zero]; rfl) ?_
  refine TL.ldL 0 n3 (0) (iaC .u8 p1.fAddress ++ ([Value.int .u64 p1.fNonce] ++ (iaC .u64 p1.fBalance ++ ([v1] ++ ([v2]))))) (fun _ h => h ▸ hst) rfl (Seg.all _) (ta34.of (by simp)) rfl rfl ?_
  refine TL.callS #[Value.agg (iaC .u8 p1.fAddress ++ ([Value.int .u64 p1.fNonce] ++ (iaC .u64 p1.fBalance ++ ([v1] ++ ([v2]))))).toArray] co71 rfl (w_store_Right p1 v1 v2 g _ hst.has (hv1) (hv2) _ hp) rfl ?_
  rintro _ w ⟨hk, r4, hp, rfl⟩
  replace hst := hst.call hk
  refine ⟨trivial, ?_⟩
  refine TL.notB rfl rfl ?_
  refine TL.norm (by simp only [List.set_cons_succ, List.set_cons_zero]; rfl) ?_
  refine TL.pick (Value.bool (!r4)) rfl rfl rfl ?_
  refine TL.nil ?_
  refine hK3 _ _ ?_
  refine E.norm (by simp only [List.set_cons_succ, List.set_cons_zero]; rfl) ?_
  refine E.cond rfl (fun hc5 => ?_) (fun hc5 => ?_)
  · replace hp := hp.1 ((notT hc5))
    refine E.seq (fun K4 hK4 => ?_)
    refine rg ?_
    refine TL.assign (Value.bool false) rfl rfl ?_
    refine TL.nil ?_
    refine hK4 _ _ ?_
    refine E.norm (by simp only [List.set_cons_succ, List.set_cons_zero]; rfl) ?_
    refine wp_ret ?_
    refine E.ret _ (Rs.t (Value.bool false) rfl rfl) ?_
    exact ⟨g, hle0, hgn0, false, p0_fknown, p0_ftries, hp, _, _, rfl, hmp0q_fknown, hmp0q_ftries, hst.sub (.cons _ (.cons_cons _ (.cons_cons _ (.cons_cons _ (List.Sublist.refl _)))))⟩
  · replace hp := hp.2 ((notF hc5))
    refine wp_skip ?_
    refine hK2 _ _ ?_
    refine E.seq (fun K5 hK5 => ?_)
    refine E.seq (fun K6 hK6 => ?_)
    refine rgD mixed #[0, 1, 3, 7, 0, 16, 63, 127, 255, 255, 511, 2047] (by kernel_rfl) ?_
    replace hst := hst.drew
    refine TL.move (Value.pointer (some ⟨pb0, 0, none⟩)) rfl rfl ?_
    refine TL.nilCheck rfl rfl ?_
    refine TL.fieldA (1) fa136_1 rfl (by first | rfl | omega) rfl ?_
    refine TL.norm (by simp only [List.set_cons_succ, List.set_cons_zero]; rfl) ?_
    refine TL.ldL1 1 pb0 (1 + (0)) (Value.map (some p0m_ftries)) (fun _ h => h ▸ hst) rfl (Seg.skip (m := 1) (by simp) (Seg.all _)) ts134 rfl rfl ?_
    refine TL.fieldA (0) fa34_0 rfl (by first | rfl | omega) rfl ?_
    refine TL.ldL 0 n3 (0) (iaC .u8 p1.fAddress) (fun _ h => h ▸ hst) rfl (Seg.here _ _) (ta28.of (by simp)) rfl rfl ?_
    refine TL.norm (by simp only [List.set_cons_succ, List.set_cons_zero]; rfl) ?_
    refine Mp.TL.plook (Value.int .i64 0) (a := p1.fAddress)  Try.underlying134 kt28 (fun _ h => h ▸ hst) (i := 3) rfl (hmp0q_ftries) zi3 rfl rfl rfl (fun hn => ?_) ?_
    · replace hp := hp.1 hn
      refine TL.move (Value.tuple #[Value.int .i64 0, Value.bool false]) rfl rfl ?_
      refine TL.extract (Value.int .i64 0) rfl rfl rfl ?_
      refine TL.norm (by simp only [List.set_cons_succ, List.set_cons_zero]; rfl) ?_
      refine TL.extract (Value.bool false) rfl rfl rfl ?_
      refine TL.assign (Value.int .i64 0) rfl rfl ?_
      refine TL.assign (Value.bool false) rfl rfl ?_
      refine TL.norm (by simp only [List.set_cons_succ, List.set_cons_zero]; rfl) ?_
      refine TL.nil ?_
      refine hK6 _ _ ?_
      refine E.seq (fun K7 hK7 => ?_)
      refine rg ?_
      refine TL.move (Value.bool false) rfl rfl ?_
      refine TL.notB rfl rfl ?_
      refine TL.nil ?_
      refine hK7 _ _ ?_
      refine E.norm (by simp only [List.set_cons_succ, List.set_cons_zero]; rfl) ?_
      refine E.condT rfl ?_
      refine E.seq (fun K8 hK8 => ?_)
      refine rg ?_
      refine TL.assign (Value.bool false) rfl rfl ?_
      refine TL.nil ?_
      refine hK8 _ _ ?_
      refine E.norm (by simp only [List.set_cons_succ, List.set_cons_zero]; rfl) ?_
      refine wp_ret ?_
      refine E.ret _ (Rs.t (Value.bool false) rfl rfl) ?_
      exact ⟨g, hle0, hgn0, false, p0_fknown, p0_ftries, hp, _, _, rfl, hmp0q_fknown, hmp0q_ftries, hst.sub (.cons _ (.cons_cons _ (.cons_cons _ (.cons_cons _ (List.Sublist.refl _)))))⟩
    · rintro x6 _ hn hvr
      replace hp := hp.2 x6 hn
      obtain rfl := Mp.inj1 (show [_] = [Value.int .i64 x6] from hvr.inv1)
      refine TL.move (Value.tuple #[Value.int .i64 x6, Value.bool true]) rfl rfl ?_
      refine TL.extract (Value.int .i64 x6) rfl rfl rfl ?_
      refine TL.norm (by simp only [List.set_cons_succ, List.set_cons_zero]; rfl) ?_
      refine TL.extract (Value.bool true) rfl rfl rfl ?_
      refine TL.assign (Value.int .i64 x6) rfl rfl ?_
      refine TL.assign (Value.bool true) rfl rfl ?_
      refine TL.norm (by simp only [List.set_cons_succ, List.set_cons_zero]; rfl) ?_
      refine TL.nil ?_
      refine hK6 _ _ ?_
      refine E.seq (fun K9 hK9 => ?_)
      refine rg ?_
      refine TL.move (Value.bool true) rfl rfl ?_
      refine TL.notB rfl rfl ?_
      refine TL.nil ?_
      refine hK9 _ _ ?_
      refine E.norm (by simp only [List.set_cons_succ, List.set_cons_zero]; rfl) ?_
      refine E.condF rfl ?_
      refine wp_skip ?_
      refine hK5 _ _ ?_
      refine E.seq (fun K10 hK10 => ?_)
      refine rgD mixed #[0, 1, 3, 7, 0, 16, 63] (by kernel_rfl) ?_
      replace hst := hst.drew
      refine TL.move (Value.pointer (some ⟨pb0, 0, none⟩)) rfl rfl ?_
      refine TL.nilCheck rfl rfl ?_
      refine TL.fieldA (1) fa136_1 rfl (by first | rfl | omega) rfl ?_
      refine TL.norm (by simp only [List.set_cons_succ, List.set_cons_zero]; rfl) ?_
      refine TL.ldL1 1 pb0 (1 + (0)) (Value.map (some p0m_ftries)) (fun _ h => h ▸ hst) rfl (Seg.skip (m := 1) (by simp) (Seg.all _)) ts134 rfl rfl ?_
      refine TL.fieldA (0) fa34_0 rfl (by first | rfl | omega) rfl ?_
      refine TL.ldL 0 n3 (0) (iaC .u8 p1.fAddress) (fun _ h => h ▸ hst) rfl (Seg.here _ _) (ta28.of (by simp)) rfl rfl ?_
      refine TL.norm (by simp only [List.set_cons_succ, List.set_cons_zero]; rfl) ?_
      refine Mp.TL.pdel (a := p1.fAddress) Try.underlying134 kt28 hst (i := 3) rfl (hmp0q_ftries) rfl rfl rfl ?_
      intro w q7 hmq7 hst
      refine ⟨trivial, ?_⟩
      refine TL.nil ?_
      refine hK10 _ _ ?_
      refine E.seq (fun K11 hK11 => ?_)
      refine rgL' [38] (fun w' => St (Mof ([(pb0, .cells ([Value.map (some p0m_fknown)] ++ ([Value.map (some p0m_ftries)])).toArray 136 (0, 0)), (p0m_fknown, p0q_fknown), (p0m_ftries, p0q_ftries)])) w0 w' g ([(n3, .cells (iaC .u8 p1.fAddress ++ ([Value.int .u64 p1.fNonce] ++ (iaC .u64 p1.fBalance ++ ([v1] ++ ([v2]))))).toArray 34 (0, 0)), (pb0, .cells ([Value.map (some p0m_fknown)] ++ ([Value.map (some p0m_ftries)])).toArray 136 (0, 0)), (p0m_fknown, p0q_fknown), (p0m_ftries, q7)])) mixed #[0, 1, 3, 7, 0, 16, 0, 64, 255] (by simp) (by kernel_rfl) hst.drew ?_
      replace hst := hst.drew
      refine TL.move (Value.pointer (some ⟨pb0, 0, none⟩)) rfl rfl ?_
      refine TL.nilCheck rfl rfl ?_
      refine TL.fieldA (0) fa136_0 rfl (by first | rfl | omega) rfl ?_
      refine TL.norm (by simp only [List.set_cons_succ, List.set_cons_zero]; rfl) ?_
      refine TL.ldL1 1 pb0 (0) (Value.map (some p0m_fknown)) (fun _ h => h) rfl (Seg.here _ _) ts133 rfl rfl ?_
      refine TL.fieldA (0) fa34_0 rfl (by first | rfl | omega) rfl ?_
      refine TL.ldL 0 n3 (0) (iaC .u8 p1.fAddress) (fun _ h => h) rfl (Seg.here _ _) (ta28.of (by simp)) rfl rfl ?_
      refine TL.norm (by simp only [List.set_cons_succ, List.set_cons_zero]; rfl) ?_
      refine TL.ldL 0 n3 (0) (iaC .u8 p1.fAddress ++ ([Value.int .u64 p1.fNonce] ++ (iaC .u64 p1.fBalance ++ ([v1] ++ ([v2]))))) (fun _ h => h ▸ hst) rfl (Seg.all _) (ta34.of (by simp)) rfl rfl ?_
      refine TL.callS #[Value.agg (iaC .u8 p1.fAddress ++ ([Value.int .u64 p1.fNonce] ++ (iaC .u64 p1.fBalance ++ ([v1] ++ ([v2]))))).toArray] co72 rfl (w_fork_own p1 v1 v2 g _ hst.has (hv1) (hv2) _ hp) rfl ?_
      rintro _ w ⟨g11, hgrg11, r8, hp, v9, v10, rfl, hv9, hv10⟩
      have hleg11 := hgrg11.le
      replace hgn0 := hgn0.call hgrg11.new hst.keep.size
      replace hle0 := Gh.le_trans hle0 hleg11
      replace hst := hst.callG hgrg11.keep hgrg11.has hgrg11.new
      refine ⟨(hst.down (hleg11)), ?_⟩
      refine TL.nil ?_
      refine Mp.TL.pset (a := p1.fAddress) (Value.agg (iaC .u8 r8.fAddress ++ ([Value.int .u64 r8.fNonce] ++ (iaC .u64 r8.fBalance ++ ([v9] ++ ([v10]))))).toArray) (r8 : T_api_Account) Try.underlying133 kt28 hst (i := 2) rfl ((hmp0q_fknown.mono (hleg11))) (.agg (⟨v9, v10, rfl, hv9, hv10⟩)) rfl rfl rfl rfl ?_
      intro w q12 hmq12 hst
      refine ⟨trivial, ?_⟩
      refine TL.nil ?_
      refine hK11 _ _ ?_
      refine E.norm (by simp only [List.set_cons_succ, List.set_cons_zero]; rfl) ?_
      refine E.seq (fun K12 hK12 => ?_)
      refine rg ?_
      refine TL.assign (Value.bool true) rfl rfl ?_
      refine TL.nil ?_
      refine hK12 _ _ ?_
      refine E.norm (by simp only [List.set_cons_succ, List.set_cons_zero]; rfl) ?_
      refine wp_ret ?_
      refine E.ret _ (Rs.t (Value.bool true) rfl rfl) ?_
      exact ⟨g11, hle0, hgn0, true, Mp.pset p0_fknown p1.fAddress r8, Mp.pdel p0_ftries p1.fAddress, hp, _, _, rfl, hmq12, (hmq7.mono (hleg11)), hst.sub (.cons _ (.cons_cons _ (.cons_cons _ (.cons_cons _ (List.Sublist.refl _)))))⟩

def fork_Cache_Account (p0_fknown : List (Ar 20 × T_api_Account)) (p0_ftries : List (Ar 20 × Int)) (p1 : Ar 20) (Q : T_api_Account → Bool → (List (Ar 20 × T_api_Account)) → (List (Ar 20 × Int)) → Prop) : Prop :=
  (Mp.pget p0_fknown p1 = none → (Q (T_api_Account.mk p1 0 (Ar.zero 4) ([]) ([])) false p0_fknown p0_ftries)) ∧ (∀ x4, Mp.pget p0_fknown p1 = some x4 → (fork_own x4 (fun r8 => Q r8 true p0_fknown p0_ftries)))
theorem w_fork_Cache_Account (p0_fknown : List (Ar 20 × T_api_Account)) (p0_ftries : List (Ar 20 × Int)) (p1 : Ar 20) (pb0 : Nat) (p0m_fknown : Nat) (p0q_fknown : Obj) (p0m_ftries : Nat) (p0q_ftries : Obj) (g : Gh) (w0 : World) (hst0 : St (Mof ([(pb0, .cells ([Value.map (some p0m_fknown)] ++ ([Value.map (some p0m_ftries)])).toArray 136 (0, 0)), (p0m_fknown, p0q_fknown), (p0m_ftries, p0q_ftries)])) w0 w0 g ([(pb0, .cells ([Value.map (some p0m_fknown)] ++ ([Value.map (some p0m_ftries)])).toArray 136 (0, 0)), (p0m_fknown, p0q_fknown), (p0m_ftries, p0q_ftries)])) (hmp0q_fknown : Mp.MR rT_api_Account true (Mp.kvA .u8 20) g p0_fknown p0q_fknown) (hmp0q_ftries : Mp.MR (rtI .i64) false (Mp.kvA .u8 20) g p0_ftries p0q_ftries) (Q : T_api_Account → Bool → (List (Ar 20 × T_api_Account)) → (List (Ar 20 × Int)) → Prop) (hp : fork_Cache_Account p0_fknown p0_ftries p1 Q) : Calls Try.prog 21 #[Value.pointer (some ⟨pb0, 0, none⟩), Value.agg (iaC .u8 p1).toArray] w0 (Ret fun u w => ∃ g', g.le g' ∧ GN (Mof ([(pb0, .cells ([Value.map (some p0m_fknown)] ++ ([Value.map (some p0m_ftries)])).toArray 136 (0, 0)), (p0m_fknown, p0q_fknown), (p0m_ftries, p0q_ftries)])) w0 g g' ∧ ∃ (r1 : T_api_Account) (r2 : Bool) (z0_fknown : List (Ar 20 × T_api_Account)) (z0_ftries : List (Ar 20 × Int)), Q r1 r2 z0_fknown z0_ftries ∧ ∃ (u1 : Value) (u2 : Value) (z0q_fknown : Obj) (z0q_ftries : Obj), u = Value.tuple #[Value.agg (iaC .u8 r1.fAddress ++ ([Value.int .u64 r1.fNonce] ++ (iaC .u64 r1.fBalance ++ ([u1] ++ ([u2]))))).toArray, Value.bool r2] ∧ Sl (rtI .u8) g' r1.fCode u1 ∧ Sl rT_api_Slot g' r1.fStorage u2 ∧ Mp.MR rT_api_Account true (Mp.kvA .u8 20) g' z0_fknown z0q_fknown ∧ Mp.MR (rtI .i64) false (Mp.kvA .u8 20) g' z0_ftries z0q_ftries ∧ St (Mof ([(pb0, .cells ([Value.map (some p0m_fknown)] ++ ([Value.map (some p0m_ftries)])).toArray 136 (0, 0)), (p0m_fknown, p0q_fknown), (p0m_ftries, p0q_ftries)])) w0 w g' ([(pb0, .cells ([Value.map (some p0m_fknown)] ++ ([Value.map (some p0m_ftries)])).toArray 136 (0, 0)), (p0m_fknown, z0q_fknown), (p0m_ftries, z0q_ftries)])) := by
  unfold fork_Cache_Account at hp
  go_enter Try.func21, Try.ntmps21
  change Code.wp _ _ _ (F [Value.pointer (some ⟨pb0, 0, none⟩), Value.agg (iaC .u8 p1).toArray, undef, undef, undef, undef, undef, undef, undef, undef, undef, undef, undef, undef, undef, undef, undef, undef, undef, undef, undef, undef, undef, undef]) _
  have hst := hst0
  have hgn0 : GN (Mof ([(pb0, .cells ([Value.map (some p0m_fknown)] ++ ([Value.map (some p0m_ftries)])).toArray 136 (0, 0)), (p0m_fknown, p0q_fknown), (p0m_ftries, p0q_ftries)])) w0 g g := GN.refl _ _ _
  have hle0 : g.le g := Gh.le_refl _
  refine E.seq (fun K1 hK1 => ?_)
  refine rg ?_
  refine TL.box (vs := iaC .u8 p1) hst rfl rfl ?_
  intro w n1 hst
  refine ⟨trivial, ?_⟩
  refine TL.alloc hst zv34 rfl ?_
  intro w n2 hst
  refine ⟨trivial, ?_⟩
  refine TL.assign (Value.bool false) rfl rfl ?_
  refine TL.norm (by simp only [List.set_cons_succ, List.set_cons_zero]; rfl) ?_
  refine TL.nil ?_
  refine hK1 _ _ ?_
  refine E.seq (fun K2 hK2 => ?_)
  refine E.seq (fun K3 hK3 => ?_)
  refine rg ?_
  refine TL.move (Value.pointer (some ⟨pb0, 0, none⟩)) rfl rfl ?_
  refine TL.ptrNil true Try.underlying36 rfl rfl (.inr ⟨rfl, rfl⟩) rfl ?_
  refine TL.nil ?_
  refine hK3 _ _ ?_
  refine E.norm (by simp only [List.set_cons_succ, List.set_cons_zero]; rfl) ?_
  refine E.condT rfl ?_
  refine E.seq (fun K4 hK4 => ?_)
  refine rgM [] (fun w' => St (Mof ([(pb0, .cells ([Value.map (some p0m_fknown)] ++ ([Value.map (some p0m_ftries)])).toArray 136 (0, 0)), (p0m_fknown, p0q_fknown), (p0m_ftries, p0q_ftries)])) w0 w' g ([(n2, .cells (iaC .u8 (Ar.zero 20) ++ ([Value.int .u64 0] ++ (iaC .u64 (Ar.zero 4) ++ ([Value.slice none 0 0] ++ ([Value.slice none 0 0]))))).toArray 34 (0, 0)), (n1, .cells (iaC .u8 p1).toArray 28 (0, 0)), (pb0, .cells ([Value.map (some p0m_fknown)] ++ ([Value.map (some p0m_ftries)])).toArray 136 (0, 0)), (p0m_fknown, p0q_fknown), (p0m_ftries, p0q_ftries)])) mixed #[0, 1, 3, 7, 0, 31, 63, 127, 127, 0, 767, 2047] (by kernel_rfl) hst.drew ?_
  replace hst := hst.drew
  refine TL.move (Value.pointer (some ⟨pb0, 0, none⟩)) rfl rfl ?_
  refine TL.nilCheck rfl rfl ?_
  refine TL.fieldA (0) fa136_0 rfl (by first | rfl | omega) rfl ?_
  refine TL.norm (by simp only [List.set_cons_succ, List.set_cons_zero]; rfl) ?_
  refine TL.ldL1 2 pb0 (0) (Value.map (some p0m_fknown)) (fun _ h => h) rfl (Seg.here _ _) ts133 rfl rfl ?_
  refine TL.ldL 1 n1 (0) (iaC .u8 p1) (fun _ h => h) rfl (Seg.all _) (ta28.of (by simp)) rfl rfl ?_
  refine Mp.TL.plook (.agg (iaC .u8 (Ar.zero 20) ++ ([Value.int .u64 0] ++ (iaC .u64 (Ar.zero 4) ++ ([Value.slice none 0 0] ++ ([Value.slice none 0 0]))))).toArray) (a := p1)  Try.underlying133 kt28 (fun _ h => h) (i := 3) rfl (hmp0q_fknown) zi34 rfl rfl rfl (fun hn => ?_) ?_
  · replace hp := hp.1 hn
    refine TL.norm (by simp only [List.set_cons_succ, List.set_cons_zero]; rfl) ?_
    refine TL.move (Value.tuple #[Value.agg (iaC .u8 (Ar.zero 20) ++ ([Value.int .u64 0] ++ (iaC .u64 (Ar.zero 4) ++ ([Value.slice none 0 0] ++ ([Value.slice none 0 0]))))).toArray, Value.bool false]) rfl rfl ?_
    refine TL.extract (Value.agg (iaC .u8 (Ar.zero 20) ++ ([Value.int .u64 0] ++ (iaC .u64 (Ar.zero 4) ++ ([Value.slice none 0 0] ++ ([Value.slice none 0 0]))))).toArray) rfl rfl rfl ?_
    refine TL.extract (Value.bool false) rfl rfl rfl ?_
    refine TL.norm (by simp only [List.set_cons_succ, List.set_cons_zero]; rfl) ?_
    refine TL.alloc hst zv34 rfl ?_
    intro w n3 hst
    refine ⟨hst.sub (.cons _ (.cons_cons _ (.cons_cons _ (.cons_cons _ (.cons_cons _ (.cons_cons _ (List.Sublist.refl _))))))), ?_⟩
    refine TL.stA 0 n3 (0) _ (vs := iaC .u8 (Ar.zero 20) ++ ([Value.int .u64 0] ++ (iaC .u64 (Ar.zero 4) ++ ([Value.slice none 0 0] ++ ([Value.slice none 0 0]))))) hst rfl (Put.all (by simp)) (by first | rfl | omega) rfl (One.app (One.ia _ _) (One.app (One.one rfl) (One.app (One.ia _ _) (One.app (One.one rfl) (One.one rfl))))) (tzof tz34 (by simp)) rfl rfl ?_
    intro w hst
    refine ⟨hst.sub (.cons _ (.cons_cons _ (.cons_cons _ (.cons_cons _ (.cons_cons _ (.cons_cons _ (List.Sublist.refl _))))))), ?_⟩
    refine TL.assign (Value.bool false) rfl rfl ?_
    refine TL.nil ?_
    refine hK4 _ _ ?_
    refine E.norm (by simp only [List.set_cons_succ, List.set_cons_zero]; rfl) ?_
    refine E.seq (fun K5 hK5 => ?_)
    refine rg ?_
    refine TL.move (Value.bool false) rfl rfl ?_
    refine TL.nil ?_
    refine hK5 _ _ ?_
    refine E.norm (by simp only [List.set_cons_succ, List.set_cons_zero]; rfl) ?_
    refine E.condF rfl ?_
    refine wp_skip ?_
    refine hK2 _ _ ?_
    refine E.seq (fun K6 hK6 => ?_)
    refine rg ?_
    refine TL.ldL 2 n1 (0) (iaC .u8 p1) (fun _ h => h ▸ hst) rfl (Seg.all _) (ta28.of (by simp)) rfl rfl ?_
    refine TL.buildS (ps := [(0, Value.agg (iaC .u8 p1).toArray)]) bs34 zv34 rfl (Fl.cons (vs := iaC .u8 p1) (by simp) rfl (Put.here (by simp)) (Fl.nil _)) rfl ?_
    refine TL.stA 1 n2 (0) _ (vs := iaC .u8 p1 ++ ([Value.int .u64 0] ++ (iaC .u64 (Ar.zero 4) ++ ([Value.slice none 0 0] ++ ([Value.slice none 0 0]))))) hst rfl (Put.all (by simp)) (by first | rfl | omega) rfl (One.app (One.ia _ _) (One.app (One.one rfl) (One.app (One.ia _ _) (One.app (One.one rfl) (One.one rfl))))) (tzof tz34 (by simp)) rfl rfl ?_
    intro w hst
    refine ⟨trivial, ?_⟩
    refine TL.assign (Value.bool false) rfl rfl ?_
    refine TL.norm (by simp only [List.set_cons_succ, List.set_cons_zero]; rfl) ?_
    refine TL.nil ?_
    refine hK6 _ _ ?_
    refine wp_ret ?_
    refine E.ret _ (Rs.ct (iaC .u8 p1 ++ ([Value.int .u64 0] ++ (iaC .u64 (Ar.zero 4) ++ ([Value.slice none 0 0] ++ ([Value.slice none 0 0]))))) (Value.bool false) rfl rfl (ta34.of (by simp)) (rangeAt_of_block (hst.mem (i := 1) rfl) (Seg.all _)) rfl) ?_
    exact ⟨g, hle0, hgn0, (T_api_Account.mk p1 0 (Ar.zero 4) ([]) ([])), false, p0_fknown, p0_ftries, hp, _, _, _, _, rfl, Sl.nil _ _, Sl.nil _ _, hmp0q_fknown, hmp0q_ftries, hst.sub (.cons _ (.cons _ (.cons _ (.cons_cons _ (.cons_cons _ (.cons_cons _ (List.Sublist.refl _)))))))⟩
  · rintro x4 _ hn hvr
    replace hp := hp.2 x4 hn
    obtain ⟨_, rfl, hrow⟩ := hvr.invA
    obtain ⟨v5, v6, rfl, hv5, hv6⟩ := hrow
    refine TL.norm (by simp only [List.set_cons_succ, List.set_cons_zero]; rfl) ?_
    refine TL.move (Value.tuple #[Value.agg (iaC .u8 x4.fAddress ++ ([Value.int .u64 x4.fNonce] ++ (iaC .u64 x4.fBalance ++ ([v5] ++ ([v6]))))).toArray, Value.bool true]) rfl rfl ?_
    refine TL.extract (Value.agg (iaC .u8 x4.fAddress ++ ([Value.int .u64 x4.fNonce] ++ (iaC .u64 x4.fBalance ++ ([v5] ++ ([v6]))))).toArray) rfl rfl rfl ?_
    refine TL.extract (Value.bool true) rfl rfl rfl ?_
    refine TL.norm (by simp only [List.set_cons_succ, List.set_cons_zero]; rfl) ?_
    refine TL.alloc hst zv34 rfl ?_
    intro w n7 hst
    refine ⟨hst.sub (.cons _ (.cons_cons _ (.cons_cons _ (.cons_cons _ (.cons_cons _ (.cons_cons _ (List.Sublist.refl _))))))), ?_⟩
    refine TL.stA 0 n7 (0) _ (vs := iaC .u8 x4.fAddress ++ ([Value.int .u64 x4.fNonce] ++ (iaC .u64 x4.fBalance ++ ([v5] ++ ([v6]))))) hst rfl (Put.all (by simp)) (by first | rfl | omega) rfl (One.app (One.ia _ _) (One.app (One.one rfl) (One.app (One.ia _ _) (One.app (One.one (hv5).one) (One.one (hv6).one))))) (tzof tz34 (by simp)) rfl rfl ?_
    intro w hst
    refine ⟨hst.sub (.cons _ (.cons_cons _ (.cons_cons _ (.cons_cons _ (.cons_cons _ (.cons_cons _ (List.Sublist.refl _))))))), ?_⟩
    refine TL.assign (Value.bool true) rfl rfl ?_
    refine TL.nil ?_
    refine hK4 _ _ ?_
    refine E.norm (by simp only [List.set_cons_succ, List.set_cons_zero]; rfl) ?_
    refine E.seq (fun K7 hK7 => ?_)
    refine rg ?_
    refine TL.move (Value.bool true) rfl rfl ?_
    refine TL.nil ?_
    refine hK7 _ _ ?_
    refine E.norm (by simp only [List.set_cons_succ, List.set_cons_zero]; rfl) ?_
    refine E.condT rfl ?_
    refine E.seq (fun K8 hK8 => ?_)
    refine rg ?_
    refine TL.ldL 0 n7 (0) (iaC .u8 x4.fAddress ++ ([Value.int .u64 x4.fNonce] ++ (iaC .u64 x4.fBalance ++ ([v5] ++ ([v6]))))) (fun _ h => h ▸ hst) rfl (Seg.all _) (ta34.of (by simp)) rfl rfl ?_
    refine TL.callS #[Value.agg (iaC .u8 x4.fAddress ++ ([Value.int .u64 x4.fNonce] ++ (iaC .u64 x4.fBalance ++ ([v5] ++ ([v6]))))).toArray] co72 rfl (w_fork_own x4 v5 v6 g _ hst.has (hv5) (hv6) _ hp) rfl ?_
    rintro _ w ⟨g11, hgrg11, r8, hp, v9, v10, rfl, hv9, hv10⟩
    have hleg11 := hgrg11.le
    replace hgn0 := hgn0.call hgrg11.new hst.keep.size
    replace hle0 := Gh.le_trans hle0 hleg11
    replace hst := hst.callG hgrg11.keep hgrg11.has hgrg11.new
    refine ⟨trivial, ?_⟩
    refine TL.stA 1 n2 (0) _ (vs := iaC .u8 r8.fAddress ++ ([Value.int .u64 r8.fNonce] ++ (iaC .u64 r8.fBalance ++ ([v9] ++ ([v10]))))) hst rfl (Put.all (by simp)) (by first | rfl | omega) rfl (One.app (One.ia _ _) (One.app (One.one rfl) (One.app (One.ia _ _) (One.app (One.one (hv9).one) (One.one (hv10).one))))) (tzof tz34 (by simp)) rfl rfl ?_
    intro w hst
    refine ⟨trivial, ?_⟩
    refine TL.assign (Value.bool true) rfl rfl ?_
    refine TL.norm (by simp only [List.set_cons_succ, List.set_cons_zero]; rfl) ?_
    refine TL.nil ?_
    refine hK8 _ _ ?_
    refine wp_ret ?_
    refine E.ret _ (Rs.ct (iaC .u8 r8.fAddress ++ ([Value.int .u64 r8.fNonce] ++ (iaC .u64 r8.fBalance ++ ([v9] ++ ([v10]))))) (Value.bool true) rfl rfl (ta34.of (by simp)) (rangeAt_of_block (hst.mem (i := 1) rfl) (Seg.all _)) rfl) ?_
    exact ⟨g11, hle0, hgn0, r8, true, p0_fknown, p0_ftries, hp, _, _, _, _, rfl, hv9, hv10, (hmp0q_fknown.mono (hleg11)), (hmp0q_ftries.mono (hleg11)), hst.sub (.cons _ (.cons _ (.cons _ (.cons_cons _ (.cons_cons _ (.cons_cons _ (List.Sublist.refl _)))))))⟩
end Go.Proofs.Ytafmgghpcneoeaa
