/- Walks, printed by wip/tools/lift.py: what each function comes to, and that it does. -/
import Derived.Test.YtafmgghpcneoeaaMp
import Derived.Test.YtafmgghpcneoeaaProg
import Derived.KernelRfl
import Derived.Test.YtafmgghpcneoeaaF1
import Derived.Test.YtafmgghpcneoeaaF3
namespace Go.Proofs.Ytafmgghpcneoeaa
open Go Go.RowKit
set_option maxRecDepth 100000
set_option maxHeartbeats 4000000
structure T_smithyref15_Try where
  fA : Ar 20
  fN : Int
  deriving DecidableEq
instance : Inhabited T_smithyref15_Try := ⟨⟨default, default⟩⟩
def rT_smithyref15_Try : RT T_smithyref15_Try := ⟨21, fun g x cs => cs = iaC .u8 x.fA ++ ([Value.int .i64 x.fN]), fun h _ => h, fun h => by subst h; exact ⟨by simp, (One.ia _ _).app (One.one rfl)⟩⟩

structure T_smithyref15_Cache where
  fKnown : List T_api_Account
  fAsked : List T_smithyref15_Try
instance : Inhabited T_smithyref15_Cache := ⟨⟨default, default⟩⟩
def rT_smithyref15_Cache : RT T_smithyref15_Cache := ⟨2, fun g x cs => ∃ (v1 : Value) (v2 : Value), cs = [v1] ++ ([v2]) ∧ Sl rT_api_Account g x.fKnown v1 ∧ Sl rT_smithyref15_Try g x.fAsked v2, fun ⟨v1, v2, h, h1, h2⟩ hg => ⟨v1, v2, h, h1.mono hg, h2.mono hg⟩, fun ⟨v1, v2, h, h1, h2⟩ => by subst h; exact ⟨by simp, (One.one h1.one).app (One.one h2.one)⟩⟩

theorem ar28 : AR Try.prog 28 20 1 := ⟨_, Try.underlying28, by kernel_rfl⟩
theorem ts5 : TS Try.prog 5 := ⟨⟨_, Try.underlying5, rfl⟩, by kernel_rfl⟩
theorem zv182 : ZV Try.prog 182 (iaC .i64 (Ar.zero 32)) := ⟨.agg (iaC .i64 (Ar.zero 32)).toArray, by kernel_rfl, rfl⟩
theorem ar182 : AR Try.prog 182 32 1 := ⟨_, Try.underlying182, by kernel_rfl⟩
theorem tz182 : (Try.prog.info? 182).map (·.size) = some 32 := by kernel_rfl
theorem ta182 : TA Try.prog 182 32 := ⟨⟨_, Try.underlying182, rfl⟩, by kernel_rfl⟩
theorem co108 : CO Try.prog 108 := ⟨_, Try.func108, by kernel_rfl, by kernel_rfl⟩
theorem co109 : CO Try.prog 109 := ⟨_, Try.func109, by kernel_rfl, by kernel_rfl⟩
theorem co70 : CO Try.prog 70 := ⟨_, Try.func70, by kernel_rfl, by kernel_rfl⟩
theorem eqa28 : EQA Try.prog 28 .u8 20 := EQA.mk' Try.underlying28 Try.underlying5 (by kernel_rfl) (by kernel_rfl)
theorem co111 : CO Try.prog 111 := ⟨_, Try.func111, by kernel_rfl, by kernel_rfl⟩
theorem ae22 : AE Try.prog 22 34 27 112 := ⟨Try.underlying22, by kernel_rfl, by kernel_rfl, ⟨.agg (iaC .u8 (Ar.zero 20) ++ ([Value.int .u64 0] ++ (iaC .u64 (Ar.zero 4) ++ ([Value.slice none 0 0] ++ ([Value.slice none 0 0]))))).toArray, by kernel_rfl, by kernel_rfl⟩, by decide⟩
theorem fa34_1 : FA Try.prog 34 1 20 := ⟨_, _, Try.underlying34, rfl, rfl, 0, by kernel_rfl⟩
theorem fa34_2 : FA Try.prog 34 2 21 := ⟨_, _, Try.underlying34, rfl, rfl, 3, by kernel_rfl⟩
theorem ev31 : EV Try.prog 31 (fun a : Ar 4 => Value.agg (iaC .u64 a).toArray) 2 := EV.arr Try.underlying31 Try.underlying29 (by kernel_rfl)
theorem ev131 : EV Try.prog 131 (fun x : T_api_Slot => Value.agg (iaC .u64 x.fKey ++ (iaC .u64 x.fValue)).toArray) 3 := EV.pair (t1 := 31) (t2 := 31) (o2 := 4) (fun x => x.fKey) (fun x => x.fValue) Try.underlying131 (by kernel_rfl) (by kernel_rfl) ev31 ev31 (by decide) (by decide) (fun x w => partA (a := x.fKey) (pre := []) (post := iaC .u64 x.fValue) Try.underlying31 tz31 (by simp) (by simp)) (fun x w => partA (a := x.fValue) (pre := iaC .u64 x.fKey) (post := []) Try.underlying31 tz31 (by simp) (by simp)) (fun a b => by cases a; cases b; simp)
theorem fa51_1 : FA Try.prog 51 1 1 := ⟨_, _, Try.underlying51, rfl, rfl, 0, by kernel_rfl⟩
theorem ts49 : TS Try.prog 49 := ⟨⟨_, Try.underlying49, rfl⟩, by kernel_rfl⟩
theorem sl49 : SL Try.prog 49 66 21 := ⟨Try.underlying49, by kernel_rfl⟩
theorem fa66_0 : FA Try.prog 66 0 0 := ⟨_, _, Try.underlying66, rfl, rfl, 19, by kernel_rfl⟩
theorem zv51 : ZV Try.prog 51 ([Value.slice none 0 0] ++ ([Value.slice none 0 0])) := ⟨.agg ([Value.slice none 0 0] ++ ([Value.slice none 0 0])).toArray, by kernel_rfl, rfl⟩
theorem fa51_0 : FA Try.prog 51 0 0 := ⟨_, _, Try.underlying51, rfl, rfl, 0, by kernel_rfl⟩
theorem ts22 : TS Try.prog 22 := ⟨⟨_, Try.underlying22, rfl⟩, by kernel_rfl⟩
theorem co17 : CO Try.prog 17 := ⟨_, Try.func17, by kernel_rfl, by kernel_rfl⟩
theorem ta51 : TA Try.prog 51 2 := ⟨⟨_, Try.underlying51, rfl⟩, by kernel_rfl⟩
theorem tz51 : (Try.prog.info? 51).map (·.size) = some 2 := by kernel_rfl
theorem co30 : CO Try.prog 30 := ⟨_, Try.func30, by kernel_rfl, by kernel_rfl⟩
theorem zv66 : ZV Try.prog 66 (iaC .u8 (Ar.zero 20) ++ ([Value.int .i64 0])) := ⟨.agg (iaC .u8 (Ar.zero 20) ++ ([Value.int .i64 0])).toArray, by kernel_rfl, rfl⟩
theorem ae49 : AE Try.prog 49 66 21 32 := ⟨Try.underlying49, by kernel_rfl, by kernel_rfl, ⟨.agg (iaC .u8 (Ar.zero 20) ++ ([Value.int .i64 0])).toArray, by kernel_rfl, by kernel_rfl⟩, by decide⟩
theorem bs66 : BS Try.prog 66 [(0, 20), (20, 1)] := ⟨_, Try.underlying66, fun w => by simp [Sem.run_bind, run_sizeOf' tz28, run_sizeOf' tz3]⟩
theorem tz49 : (Try.prog.info? 49).map (·.size) = some 1 := by kernel_rfl
theorem ta66 : TA Try.prog 66 21 := ⟨⟨_, Try.underlying66, rfl⟩, by kernel_rfl⟩
theorem co15 : CO Try.prog 15 := ⟨_, Try.func15, by kernel_rfl, by kernel_rfl⟩
theorem co77 : CO Try.prog 77 := ⟨_, Try.func77, by kernel_rfl, by kernel_rfl⟩
theorem co78 : CO Try.prog 78 := ⟨_, Try.func78, by kernel_rfl, by kernel_rfl⟩
theorem tz22 : (Try.prog.info? 22).map (·.size) = some 1 := by kernel_rfl
theorem co16 : CO Try.prog 16 := ⟨_, Try.func16, by kernel_rfl, by kernel_rfl⟩
theorem zv28 : ZV Try.prog 28 (iaC .u8 (Ar.zero 20)) := ⟨.agg (iaC .u8 (Ar.zero 20)).toArray, by kernel_rfl, rfl⟩
theorem co18 : CO Try.prog 18 := ⟨_, Try.func18, by kernel_rfl, by kernel_rfl⟩
theorem co19 : CO Try.prog 19 := ⟨_, Try.func19, by kernel_rfl, by kernel_rfl⟩

def smithyref08_Less (p0 : Ar 20) (p1 : Ar 20) (Q : Bool → Prop) : Prop :=
  ∃ (I5 : Int → Prop) (m6 : Int → Nat), (I5 0) ∧ ∀ (x4 : Int), (I5 x4 → (((x4 < 20) → ((0 ≤ x4) ∧ (x4 < 20) ∧ ((0 ≤ x4) ∧ (x4 < 20) ∧ (((p0.g x4 ≠ p1.g x4) → ((0 ≤ x4) ∧ (x4 < 20) ∧ ((0 ≤ x4) ∧ (x4 < 20) ∧ (Q (decide (p0.g x4 < p1.g x4)))))) ∧ ((¬ (p0.g x4 ≠ p1.g x4)) → ((inR .i64 (x4 + 1)) ∧ (I5 (x4 + 1) ∧ m6 (x4 + 1) < m6 x4))))))) ∧ ((¬ (x4 < 20)) → (Q false))))
theorem w_smithyref08_Less (p0 : Ar 20) (p1 : Ar 20) (g : Gh) (w0 : World) (hg : Has w0 g) (Q : Bool → Prop) (hp : smithyref08_Less p0 p1 Q) : Calls Try.prog 111 #[Value.agg (iaC .u8 p0).toArray, Value.agg (iaC .u8 p1).toArray] w0 (Ret fun u w => Keep Non w0 w ∧ ∃ (r1 : Bool), Q r1 ∧ u = Value.bool r1) := by
  unfold smithyref08_Less at hp
  go_enter Try.func111, Try.ntmps111
  change Code.wp _ _ _ (F [Value.agg (iaC .u8 p0).toArray, Value.agg (iaC .u8 p1).toArray, undef, undef, undef, undef, undef, undef, undef, undef, undef, undef, undef, undef, undef, undef, undef, undef, undef, undef, undef, undef, undef, undef]) _
  have hst := St.start Non hg
  have hgn0 : GN Non w0 g g := GN.refl _ _ _
  have hle0 : g.le g := Gh.le_refl _
  refine E.seq (fun K1 hK1 => ?_)
  refine rg ?_
  refine TL.box (vs := iaC .u8 p0) hst rfl rfl ?_
  intro w n1 hst
  refine ⟨trivial, ?_⟩
  refine TL.box (vs := iaC .u8 p1) hst rfl rfl ?_
  intro w n2 hst
  refine ⟨trivial, ?_⟩
  refine TL.assign (Value.bool false) rfl rfl ?_
  refine TL.norm (by simp only [List.set_cons_succ, List.set_cons_zero]; rfl) ?_
  refine TL.nil ?_
  refine hK1 _ _ ?_
  refine E.seq (fun K2 hK2 => ?_)
  refine E.seq (fun K3 hK3 => ?_)
  refine rg ?_
  refine TL.assign (Value.int .i64 0) rfl rfl ?_
  refine TL.nil ?_
  refine hK3 _ _ ?_
  refine E.norm (by simp only [List.set_cons_succ, List.set_cons_zero]; rfl) ?_
  refine wp_block ?_
  obtain ⟨I5, m6, hI0, hI⟩ := hp
  refine E.loop (fun mm l w => ∃ (x4 : Int), (mm = m6 x4) ∧ (I5 x4) ∧ Fits [some (Value.agg (iaC .u8 p0).toArray), some (Value.agg (iaC .u8 p1).toArray), some (Value.pointer (some ⟨n1, 0, none⟩)), some (Value.pointer (some ⟨n2, 0, none⟩)), some (Value.bool false), some (Value.int .i64 x4), none, none, none, none, none, none, none, none, none, none, none, some (undef), some (undef), some (undef), some (undef), some (undef), some (undef), some (undef)] l ∧ St Non w0 w g ([(n2, .cells (iaC .u8 p1).toArray 28 (0, 0)), (n1, .cells (iaC .u8 p0).toArray 28 (0, 0))])) _ ⟨0, rfl, hI0, (by first | (simp only [List.set_cons_succ, List.set_cons_zero]; exact .s rfl (.s rfl (.s rfl (.s rfl (.s rfl (.s rfl (.n (.n (.n (.n (.n (.n (.n (.n (.n (.n (.n (.s rfl (.s rfl (.s rfl (.s rfl (.s rfl (.s rfl (.s rfl (.z))))))))))))))))))))))))) | exact .s rfl (.s rfl (.s rfl (.s rfl (.s rfl (.s rfl (.n (.n (.n (.n (.n (.n (.n (.n (.n (.n (.n (.s rfl (.s rfl (.s rfl (.s rfl (.s rfl (.s rfl (.s rfl (.z))))))))))))))))))))))))), hst⟩ ?_
  rintro _ _ w ⟨x4, rfl, hI1, hfit, hst⟩
  have hp := hI _ hI1
  obtain ⟨j3, rfl⟩ := hfit.ex
  refine E.norm (l' := [Value.agg (iaC .u8 p0).toArray, Value.agg (iaC .u8 p1).toArray, Value.pointer (some ⟨n1, 0, none⟩), Value.pointer (some ⟨n2, 0, none⟩), Value.bool false, Value.int .i64 x4, (j3 6), (j3 7), (j3 8), (j3 9), (j3 10), (j3 11), (j3 12), (j3 13), (j3 14), (j3 15), (j3 16), undef, undef, undef, undef, undef, undef, undef]) rfl ?_
  refine E.seq (fun K4 hK4 => ?_)
  refine E.seq (fun K5 hK5 => ?_)
  refine rg ?_
  refine TL.move (Value.int .i64 x4) rfl rfl ?_
  refine TL.lss rfl rfl rfl ?_
  refine TL.nil ?_
  refine hK5 _ _ ?_
  refine E.norm (by simp only [List.set_cons_succ, List.set_cons_zero]; rfl) ?_
  refine E.cond rfl (fun hc7 => ?_) (fun hc7 => ?_)
  · replace hp := hp.1 (of_decide_eq_true hc7)
    refine wp_skip ?_
    refine hK4 _ _ ?_
    refine E.seq (fun K6 hK6 => ?_)
    refine wp_block ?_
    refine E.seq (fun K7 hK7 => ?_)
    refine rgD mixed #[0, 1, 3, 0, 8, 24, 63] (by kernel_rfl) ?_
    replace hst := hst.drew
    refine TL.move (Value.int .i64 x4) rfl rfl ?_
    obtain ⟨ho8, ho9, hp⟩ := hp
    refine TL.indexA (0 + (x4 : Int).toNat) ar28 rfl rfl ho8 ho9 (by first | rfl | omega) rfl ?_
    refine TL.ldIA 1 n1 (0) p0 x4 (fun _ h => h ▸ hst) rfl (Seg.all _) ho8 ho9 ts5 rfl rfl ?_
    refine TL.norm (by simp only [List.set_cons_succ, List.set_cons_zero]; rfl) ?_
    refine TL.move (Value.int .i64 x4) rfl rfl ?_
    obtain ⟨ho10, ho11, hp⟩ := hp
    refine TL.indexA (0 + (x4 : Int).toNat) ar28 rfl rfl ho10 ho11 (by first | rfl | omega) rfl ?_
    refine TL.ldIA 0 n2 (0) p1 x4 (fun _ h => h ▸ hst) rfl (Seg.all _) ho10 ho11 ts5 rfl rfl ?_
    refine TL.norm (by simp only [List.set_cons_succ, List.set_cons_zero]; rfl) ?_
    refine TL.neqD rfl rfl rfl ?_
    refine TL.nil ?_
    refine hK7 _ _ ?_
    refine E.norm (by simp only [List.set_cons_succ, List.set_cons_zero]; rfl) ?_
    refine E.cond rfl (fun hc12 => ?_) (fun hc12 => ?_)
    · replace hp := hp.1 (of_decide_eq_true hc12)
      refine E.seq (fun K8 hK8 => ?_)
      refine rgD mixed #[0, 1, 3, 0, 8, 24, 63, 127] (by kernel_rfl) ?_
      replace hst := hst.drew
      refine TL.move (Value.int .i64 x4) rfl rfl ?_
      obtain ⟨ho13, ho14, hp⟩ := hp
      refine TL.indexA (0 + (x4 : Int).toNat) ar28 rfl rfl ho13 ho14 (by first | rfl | omega) rfl ?_
      refine TL.ldIA 1 n1 (0) p0 x4 (fun _ h => h ▸ hst) rfl (Seg.all _) ho13 ho14 ts5 rfl rfl ?_
      refine TL.norm (by simp only [List.set_cons_succ, List.set_cons_zero]; rfl) ?_
      refine TL.move (Value.int .i64 x4) rfl rfl ?_
      obtain ⟨ho15, ho16, hp⟩ := hp
      refine TL.indexA (0 + (x4 : Int).toNat) ar28 rfl rfl ho15 ho16 (by first | rfl | omega) rfl ?_
      refine TL.ldIA 0 n2 (0) p1 x4 (fun _ h => h ▸ hst) rfl (Seg.all _) ho15 ho16 ts5 rfl rfl ?_
      refine TL.norm (by simp only [List.set_cons_succ, List.set_cons_zero]; rfl) ?_
      refine TL.lss rfl rfl rfl ?_
      refine TL.assign (Value.bool (decide (p0.g x4 < p1.g x4))) rfl rfl ?_
      refine TL.nil ?_
      refine hK8 _ _ ?_
      refine E.norm (by simp only [List.set_cons_succ, List.set_cons_zero]; rfl) ?_
      refine wp_ret ?_
      refine E.ret _ (Rs.t (Value.bool (decide (p0.g x4 < p1.g x4))) rfl rfl) ?_
      exact ⟨hst.keep, decide (p0.g x4 < p1.g x4), hp, rfl⟩
    · replace hp := hp.2 (of_decide_eq_false hc12)
      refine wp_skip ?_
      refine hK6 _ _ ?_
      refine rg ?_
      refine TL.move (Value.int .i64 x4) rfl rfl ?_
      obtain ⟨ho17, hp⟩ := hp
      refine TL.add (x4 + 1) rfl rfl ⟨rfl, ho17⟩ rfl ?_
      refine TL.assign (Value.int .i64 (x4 + 1)) rfl rfl ?_
      refine TL.norm (by simp only [List.set_cons_succ, List.set_cons_zero]; rfl) ?_
      refine TL.nil ?_
      exact ⟨_, _, hp.2, rfl, (x4 + 1), rfl, hp.1, (by first | (simp only [List.set_cons_succ, List.set_cons_zero]; exact .s rfl (.s rfl (.s rfl (.s rfl (.s rfl (.s rfl (.n (.n (.n (.n (.n (.n (.n (.n (.n (.n (.n (.s rfl (.s rfl (.s rfl (.s rfl (.s rfl (.s rfl (.s rfl (.z))))))))))))))))))))))))) | exact .s rfl (.s rfl (.s rfl (.s rfl (.s rfl (.s rfl (.n (.n (.n (.n (.n (.n (.n (.n (.n (.n (.n (.s rfl (.s rfl (.s rfl (.s rfl (.s rfl (.s rfl (.s rfl (.z))))))))))))))))))))))))), hst⟩
  · replace hp := hp.2 (of_decide_eq_false hc7)
    refine wp_exit ?_
    refine hK2 _ _ ?_
    refine E.seq (fun K9 hK9 => ?_)
    refine rg ?_
    refine TL.assign (Value.bool false) rfl rfl ?_
    refine TL.nil ?_
    refine hK9 _ _ ?_
    refine E.norm (by simp only [List.set_cons_succ, List.set_cons_zero]; rfl) ?_
    refine wp_ret ?_
    refine E.ret _ (Rs.t (Value.bool false) rfl rfl) ?_
    exact ⟨hst.keep, false, hp, rfl⟩

def smithyref01_Of (p0 : Ar 4) (Q : (Ar 32) → Prop) : Prop :=
  ∃ (I7 : Int → (Ar 32) → Prop) (m8 : Int → (Ar 32) → Nat), (I7 0 (Ar.zero 32)) ∧ ∀ (x5 : Int) (a6 : Ar 32), (I7 x5 a6 → (((x5 < 32) → ((0 ≤ IntKind.i64.wrap (x5.tdiv 8)) ∧ (IntKind.i64.wrap (x5.tdiv 8) < 4) ∧ ((inR .i64 (8 * (x5.tmod 8))) ∧ ((0 ≤ 8 * (x5.tmod 8)) ∧ ((0 ≤ x5) ∧ (x5 < 32) ∧ ((inR .i64 (x5 + 1)) ∧ (I7 (x5 + 1) (a6.s x5 (IntKind.i64.wrap ((ishr .u64 (p0.g (IntKind.i64.wrap (x5.tdiv 8))) (8 * (x5.tmod 8))).tmod 256))) ∧ m8 (x5 + 1) (a6.s x5 (IntKind.i64.wrap ((ishr .u64 (p0.g (IntKind.i64.wrap (x5.tdiv 8))) (8 * (x5.tmod 8))).tmod 256))) < m8 x5 a6))))))) ∧ ((¬ (x5 < 32)) → (Q a6))))
theorem w_smithyref01_Of (p0 : Ar 4) (g : Gh) (w0 : World) (hg : Has w0 g) (Q : (Ar 32) → Prop) (hp : smithyref01_Of p0 Q) : Calls Try.prog 108 #[Value.agg (iaC .u64 p0).toArray] w0 (Ret fun u w => Keep Non w0 w ∧ ∃ (r1 : Ar 32), Q r1 ∧ u = Value.agg (iaC .i64 r1).toArray) := by
  unfold smithyref01_Of at hp
  go_enter Try.func108, Try.ntmps108
  change Code.wp _ _ _ (F [Value.agg (iaC .u64 p0).toArray, undef, undef, undef, undef, undef, undef, undef, undef, undef, undef, undef, undef, undef, undef, undef, undef, undef, undef, undef, undef, undef, undef]) _
  have hst := St.start Non hg
  have hgn0 : GN Non w0 g g := GN.refl _ _ _
  have hle0 : g.le g := Gh.le_refl _
  refine E.seq (fun K1 hK1 => ?_)
  refine rg ?_
  refine TL.box (vs := iaC .u64 p0) hst rfl rfl ?_
  intro w n1 hst
  refine ⟨trivial, ?_⟩
  refine TL.alloc hst zv182 rfl ?_
  intro w n2 hst
  refine ⟨trivial, ?_⟩
  refine TL.nil ?_
  refine hK1 _ _ ?_
  refine E.norm (by simp only [List.set_cons_succ, List.set_cons_zero]; rfl) ?_
  refine E.seq (fun K2 hK2 => ?_)
  refine rg ?_
  refine TL.buildA (ps := []) ar182 zv182 rfl (Fl.nil _) rfl ?_
  refine TL.alloc hst zv182 rfl ?_
  intro w n3 hst
  refine ⟨trivial, ?_⟩
  refine TL.stA 0 n3 (0) _ (vs := iaC .i64 (Ar.zero 32)) hst rfl (Put.all (by simp)) (by first | rfl | omega) rfl (One.ia _ _) (tzof tz182 (by simp)) rfl rfl ?_
  intro w hst
  refine ⟨trivial, ?_⟩
  refine TL.nil ?_
  refine hK2 _ _ ?_
  refine E.norm (by simp only [List.set_cons_succ, List.set_cons_zero]; rfl) ?_
  refine E.seq (fun K3 hK3 => ?_)
  refine E.seq (fun K4 hK4 => ?_)
  refine rg ?_
  refine TL.assign (Value.int .i64 0) rfl rfl ?_
  refine TL.nil ?_
  refine hK4 _ _ ?_
  refine E.norm (by simp only [List.set_cons_succ, List.set_cons_zero]; rfl) ?_
  refine wp_block ?_
  obtain ⟨I7, m8, hI0, hI⟩ := hp
  refine E.loop (fun mm l w => ∃ (x5 : Int) (a6 : Ar 32), (mm = m8 x5 a6) ∧ (I7 x5 a6) ∧ Fits [some (Value.agg (iaC .u64 p0).toArray), some (Value.pointer (some ⟨n1, 0, none⟩)), some (Value.pointer (some ⟨n2, 0, none⟩)), some (Value.pointer (some ⟨n3, 0, none⟩)), some (Value.int .i64 x5), some (Value.agg (iaC .i64 (Ar.zero 32)).toArray), none, none, none, none, none, none, none, none, none, none, none, none, none, none, none, none, some (undef)] l ∧ St Non w0 w g ([(n3, .cells (iaC .i64 a6).toArray 182 (0, 0)), (n2, .cells (iaC .i64 (Ar.zero 32)).toArray 182 (0, 0)), (n1, .cells (iaC .u64 p0).toArray 31 (0, 0))])) _ ⟨0, (Ar.zero 32), rfl, hI0, (by first | (simp only [List.set_cons_succ, List.set_cons_zero]; exact .s rfl (.s rfl (.s rfl (.s rfl (.s rfl (.s rfl (.n (.n (.n (.n (.n (.n (.n (.n (.n (.n (.n (.n (.n (.n (.n (.n (.s rfl (.z)))))))))))))))))))))))) | exact .s rfl (.s rfl (.s rfl (.s rfl (.s rfl (.s rfl (.n (.n (.n (.n (.n (.n (.n (.n (.n (.n (.n (.n (.n (.n (.n (.n (.s rfl (.z)))))))))))))))))))))))), hst⟩ ?_
  rintro _ _ w ⟨x5, a6, rfl, hI1, hfit, hst⟩
  have hp := hI _ _ hI1
  obtain ⟨j4, rfl⟩ := hfit.ex
  refine E.norm (l' := [Value.agg (iaC .u64 p0).toArray, Value.pointer (some ⟨n1, 0, none⟩), Value.pointer (some ⟨n2, 0, none⟩), Value.pointer (some ⟨n3, 0, none⟩), Value.int .i64 x5, Value.agg (iaC .i64 (Ar.zero 32)).toArray, (j4 6), (j4 7), (j4 8), (j4 9), (j4 10), (j4 11), (j4 12), (j4 13), (j4 14), (j4 15), (j4 16), (j4 17), (j4 18), (j4 19), (j4 20), (j4 21), undef]) rfl ?_
  refine E.seq (fun K5 hK5 => ?_)
  refine E.seq (fun K6 hK6 => ?_)
  refine rg ?_
  refine TL.move (Value.int .i64 x5) rfl rfl ?_
  refine TL.lss rfl rfl rfl ?_
  refine TL.nil ?_
  refine hK6 _ _ ?_
  refine E.norm (by simp only [List.set_cons_succ, List.set_cons_zero]; rfl) ?_
  refine E.cond rfl (fun hc9 => ?_) (fun hc9 => ?_)
  · replace hp := hp.1 (of_decide_eq_true hc9)
    refine wp_skip ?_
    refine hK5 _ _ ?_
    refine E.seq (fun K7 hK7 => ?_)
    refine wp_block ?_
    refine rg ?_
    refine TL.move (Value.int .i64 x5) rfl rfl ?_
    refine TL.move (Value.int .i64 x5) rfl rfl ?_
    refine TL.quoW rfl rfl (by decide) rfl ?_
    refine TL.norm (by simp only [List.set_cons_succ, List.set_cons_zero]; rfl) ?_
    obtain ⟨ho10, ho11, hp⟩ := hp
    refine TL.indexA (0 + (IntKind.i64.wrap (x5.tdiv 8) : Int).toNat) ar31 rfl rfl ho10 ho11 (by first | rfl | omega) rfl ?_
    refine TL.ldIA 2 n1 (0) p0 (IntKind.i64.wrap (x5.tdiv 8)) (fun _ h => h ▸ hst) rfl (Seg.all _) ho10 ho11 ts29 rfl rfl ?_
    refine TL.move (Value.int .i64 x5) rfl rfl ?_
    refine TL.norm (by simp only [List.set_cons_succ, List.set_cons_zero]; rfl) ?_
    refine TL.remW rfl rfl (by decide) rfl ?_
    obtain ⟨ho12, hp⟩ := hp
    refine TL.mul (8 * (x5.tmod 8)) rfl rfl ⟨rfl, ho12⟩ rfl ?_
    obtain ⟨ho13, hp⟩ := hp
    refine TL.ishr rfl rfl ho13 rfl ?_
    refine TL.norm (by simp only [List.set_cons_succ, List.set_cons_zero]; rfl) ?_
    refine TL.remW rfl rfl (by decide) rfl ?_
    refine TL.convI Try.underlying29 Try.underlying3 rfl rfl ?_
    obtain ⟨ho14, ho15, hp⟩ := hp
    refine TL.indexA (0 + (x5 : Int).toNat) ar182 rfl rfl ho14 ho15 (by first | rfl | omega) rfl ?_
    refine TL.norm (by simp only [List.set_cons_succ, List.set_cons_zero]; rfl) ?_
    refine TL.stA 0 n3 ((x5 : Int).toNat) _ (vs := [Value.int .i64 (IntKind.i64.wrap ((ishr .u64 (p0.g (IntKind.i64.wrap (x5.tdiv 8))) (8 * (x5.tmod 8))).tmod 256))]) hst rfl (Put.iaE a6 (IntKind.i64.wrap ((ishr .u64 (p0.g (IntKind.i64.wrap (x5.tdiv 8))) (8 * (x5.tmod 8))).tmod 256)) ho14 ho15) (by first | rfl | omega) rfl (One.one rfl) tz3 rfl rfl ?_
    intro w hst
    refine ⟨trivial, ?_⟩
    refine TL.nil ?_
    refine hK7 _ _ ?_
    refine rg ?_
    refine TL.move (Value.int .i64 x5) rfl rfl ?_
    obtain ⟨ho16, hp⟩ := hp
    refine TL.add (x5 + 1) rfl rfl ⟨rfl, ho16⟩ rfl ?_
    refine TL.assign (Value.int .i64 (x5 + 1)) rfl rfl ?_
    refine TL.norm (by simp only [List.set_cons_succ, List.set_cons_zero]; rfl) ?_
    refine TL.nil ?_
    exact ⟨_, _, hp.2, rfl, (x5 + 1), (a6.s x5 (IntKind.i64.wrap ((ishr .u64 (p0.g (IntKind.i64.wrap (x5.tdiv 8))) (8 * (x5.tmod 8))).tmod 256))), rfl, hp.1, (by first | (simp only [List.set_cons_succ, List.set_cons_zero]; exact .s rfl (.s rfl (.s rfl (.s rfl (.s rfl (.s rfl (.n (.n (.n (.n (.n (.n (.n (.n (.n (.n (.n (.n (.n (.n (.n (.n (.s rfl (.z)))))))))))))))))))))))) | exact .s rfl (.s rfl (.s rfl (.s rfl (.s rfl (.s rfl (.n (.n (.n (.n (.n (.n (.n (.n (.n (.n (.n (.n (.n (.n (.n (.n (.s rfl (.z)))))))))))))))))))))))), hst⟩
  · replace hp := hp.2 (of_decide_eq_false hc9)
    refine wp_exit ?_
    refine hK3 _ _ ?_
    refine E.seq (fun K8 hK8 => ?_)
    refine rg ?_
    refine TL.ldL 0 n3 (0) (iaC .i64 a6) (fun _ h => h ▸ hst) rfl (Seg.all _) (ta182.of (by simp)) rfl rfl ?_
    refine TL.stA 1 n2 (0) _ (vs := iaC .i64 a6) hst rfl (Put.all (by simp)) (by first | rfl | omega) rfl (One.ia _ _) (tzof tz182 (by simp)) rfl rfl ?_
    intro w hst
    refine ⟨trivial, ?_⟩
    refine TL.nil ?_
    refine hK8 _ _ ?_
    refine E.norm (by simp only [List.set_cons_succ, List.set_cons_zero]; rfl) ?_
    refine wp_ret ?_
    refine E.ret _ (Rs.c (iaC .i64 a6) rfl rfl (ta182.of (by simp)) (rangeAt_of_block (hst.mem (i := 1) rfl) (Seg.all _))) ?_
    exact ⟨hst.keep, a6, hp, rfl⟩

def smithyref01_Compare (p0 : Ar 32) (p1 : Ar 32) (Q : Int → Prop) : Prop :=
  ∃ (I5 : Int → Prop) (m6 : Int → Nat), (I5 31) ∧ ∀ (x4 : Int), (I5 x4 → (((0 ≤ x4) → ((0 ≤ x4) ∧ (x4 < 32) ∧ ((0 ≤ x4) ∧ (x4 < 32) ∧ (((p0.g x4 < p1.g x4) → (Q (-1))) ∧ ((¬ (p0.g x4 < p1.g x4)) → ((0 ≤ x4) ∧ (x4 < 32) ∧ ((0 ≤ x4) ∧ (x4 < 32) ∧ (((p1.g x4 < p0.g x4) → (Q 1)) ∧ ((¬ (p1.g x4 < p0.g x4)) → ((inR .i64 (x4 - 1)) ∧ (I5 (x4 - 1) ∧ m6 (x4 - 1) < m6 x4))))))))))) ∧ ((¬ (0 ≤ x4)) → (Q 0))))
theorem w_smithyref01_Compare (p0 : Ar 32) (p1 : Ar 32) (g : Gh) (w0 : World) (hg : Has w0 g) (Q : Int → Prop) (hp : smithyref01_Compare p0 p1 Q) : Calls Try.prog 109 #[Value.agg (iaC .i64 p0).toArray, Value.agg (iaC .i64 p1).toArray] w0 (Ret fun u w => Keep Non w0 w ∧ ∃ (r1 : Int), Q r1 ∧ u = Value.int .i64 r1) := by
  unfold smithyref01_Compare at hp
  go_enter Try.func109, Try.ntmps109
  change Code.wp _ _ _ (F [Value.agg (iaC .i64 p0).toArray, Value.agg (iaC .i64 p1).toArray, undef, undef, undef, undef, undef, undef, undef, undef, undef, undef, undef, undef, undef, undef, undef, undef, undef, undef, undef, undef, undef, undef]) _
  have hst := St.start Non hg
  have hgn0 : GN Non w0 g g := GN.refl _ _ _
  have hle0 : g.le g := Gh.le_refl _
  refine E.seq (fun K1 hK1 => ?_)
  refine rg ?_
  refine TL.box (vs := iaC .i64 p0) hst rfl rfl ?_
  intro w n1 hst
  refine ⟨trivial, ?_⟩
  refine TL.box (vs := iaC .i64 p1) hst rfl rfl ?_
  intro w n2 hst
  refine ⟨trivial, ?_⟩
  refine TL.assign (Value.int .i64 0) rfl rfl ?_
  refine TL.norm (by simp only [List.set_cons_succ, List.set_cons_zero]; rfl) ?_
  refine TL.nil ?_
  refine hK1 _ _ ?_
  refine E.seq (fun K2 hK2 => ?_)
  refine E.seq (fun K3 hK3 => ?_)
  refine rg ?_
  refine TL.assign (Value.int .i64 31) rfl rfl ?_
  refine TL.nil ?_
  refine hK3 _ _ ?_
  refine E.norm (by simp only [List.set_cons_succ, List.set_cons_zero]; rfl) ?_
  refine wp_block ?_
  obtain ⟨I5, m6, hI0, hI⟩ := hp
  refine E.loop (fun mm l w => ∃ (x4 : Int), (mm = m6 x4) ∧ (I5 x4) ∧ Fits [some (Value.agg (iaC .i64 p0).toArray), some (Value.agg (iaC .i64 p1).toArray), some (Value.pointer (some ⟨n1, 0, none⟩)), some (Value.pointer (some ⟨n2, 0, none⟩)), some (Value.int .i64 0), some (Value.int .i64 x4), none, none, none, none, none, none, none, none, none, none, none, none, none, none, none, none, none, none] l ∧ St Non w0 w g ([(n2, .cells (iaC .i64 p1).toArray 182 (0, 0)), (n1, .cells (iaC .i64 p0).toArray 182 (0, 0))])) _ ⟨31, rfl, hI0, (by first | (simp only [List.set_cons_succ, List.set_cons_zero]; exact .s rfl (.s rfl (.s rfl (.s rfl (.s rfl (.s rfl (.n (.n (.n (.n (.n (.n (.n (.n (.n (.n (.n (.n (.n (.n (.n (.n (.n (.n (.z))))))))))))))))))))))))) | exact .s rfl (.s rfl (.s rfl (.s rfl (.s rfl (.s rfl (.n (.n (.n (.n (.n (.n (.n (.n (.n (.n (.n (.n (.n (.n (.n (.n (.n (.n (.z))))))))))))))))))))))))), hst⟩ ?_
  rintro _ _ w ⟨x4, rfl, hI1, hfit, hst⟩
  have hp := hI _ hI1
  obtain ⟨j3, rfl⟩ := hfit.ex
  refine E.norm (l' := [Value.agg (iaC .i64 p0).toArray, Value.agg (iaC .i64 p1).toArray, Value.pointer (some ⟨n1, 0, none⟩), Value.pointer (some ⟨n2, 0, none⟩), Value.int .i64 0, Value.int .i64 x4, (j3 6), (j3 7), (j3 8), (j3 9), (j3 10), (j3 11), (j3 12), (j3 13), (j3 14), (j3 15), (j3 16), (j3 17), (j3 18), (j3 19), (j3 20), (j3 21), (j3 22), (j3 23)]) rfl ?_
  refine E.seq (fun K4 hK4 => ?_)
  refine E.seq (fun K5 hK5 => ?_)
  refine rg ?_
  refine TL.move (Value.int .i64 x4) rfl rfl ?_
  refine TL.geq rfl rfl rfl ?_
  refine TL.nil ?_
  refine hK5 _ _ ?_
  refine E.norm (by simp only [List.set_cons_succ, List.set_cons_zero]; rfl) ?_
  refine E.cond rfl (fun hc7 => ?_) (fun hc7 => ?_)
  · replace hp := hp.1 (of_decide_eq_true hc7)
    refine wp_skip ?_
    refine hK4 _ _ ?_
    refine E.seq (fun K6 hK6 => ?_)
    refine wp_block ?_
    refine E.seq (fun K7 hK7 => ?_)
    refine E.seq (fun K8 hK8 => ?_)
    refine rgD mixed #[0, 1, 3, 0, 8, 24, 63] (by kernel_rfl) ?_
    replace hst := hst.drew
    refine TL.move (Value.int .i64 x4) rfl rfl ?_
    obtain ⟨ho8, ho9, hp⟩ := hp
    refine TL.indexA (0 + (x4 : Int).toNat) ar182 rfl rfl ho8 ho9 (by first | rfl | omega) rfl ?_
    refine TL.ldIA 1 n1 (0) p0 x4 (fun _ h => h ▸ hst) rfl (Seg.all _) ho8 ho9 ts3 rfl rfl ?_
    refine TL.norm (by simp only [List.set_cons_succ, List.set_cons_zero]; rfl) ?_
    refine TL.move (Value.int .i64 x4) rfl rfl ?_
    obtain ⟨ho10, ho11, hp⟩ := hp
    refine TL.indexA (0 + (x4 : Int).toNat) ar182 rfl rfl ho10 ho11 (by first | rfl | omega) rfl ?_
    refine TL.ldIA 0 n2 (0) p1 x4 (fun _ h => h ▸ hst) rfl (Seg.all _) ho10 ho11 ts3 rfl rfl ?_
    refine TL.norm (by simp only [List.set_cons_succ, List.set_cons_zero]; rfl) ?_
    refine TL.lss rfl rfl rfl ?_
    refine TL.nil ?_
    refine hK8 _ _ ?_
    refine E.norm (by simp only [List.set_cons_succ, List.set_cons_zero]; rfl) ?_
    refine E.cond rfl (fun hc12 => ?_) (fun hc12 => ?_)
    · replace hp := hp.1 (of_decide_eq_true hc12)
      refine E.seq (fun K9 hK9 => ?_)
      refine rg ?_
      refine TL.assign (Value.int .i64 ((-1))) rfl rfl ?_
      refine TL.nil ?_
      refine hK9 _ _ ?_
      refine E.norm (by simp only [List.set_cons_succ, List.set_cons_zero]; rfl) ?_
      refine wp_ret ?_
      refine E.ret _ (Rs.t (Value.int .i64 ((-1))) rfl rfl) ?_
      exact ⟨hst.keep, (-1), hp, rfl⟩
    · replace hp := hp.2 (of_decide_eq_false hc12)
      refine wp_skip ?_
      refine hK7 _ _ ?_
      refine E.seq (fun K10 hK10 => ?_)
      refine rgD mixed #[0, 1, 3, 0, 8, 24, 63] (by kernel_rfl) ?_
      replace hst := hst.drew
      refine TL.move (Value.int .i64 x4) rfl rfl ?_
      obtain ⟨ho13, ho14, hp⟩ := hp
      refine TL.indexA (0 + (x4 : Int).toNat) ar182 rfl rfl ho13 ho14 (by first | rfl | omega) rfl ?_
      refine TL.ldIA 1 n1 (0) p0 x4 (fun _ h => h ▸ hst) rfl (Seg.all _) ho13 ho14 ts3 rfl rfl ?_
      refine TL.norm (by simp only [List.set_cons_succ, List.set_cons_zero]; rfl) ?_
      refine TL.move (Value.int .i64 x4) rfl rfl ?_
      obtain ⟨ho15, ho16, hp⟩ := hp
      refine TL.indexA (0 + (x4 : Int).toNat) ar182 rfl rfl ho15 ho16 (by first | rfl | omega) rfl ?_
      refine TL.ldIA 0 n2 (0) p1 x4 (fun _ h => h ▸ hst) rfl (Seg.all _) ho15 ho16 ts3 rfl rfl ?_
      refine TL.norm (by simp only [List.set_cons_succ, List.set_cons_zero]; rfl) ?_
      refine TL.gtr rfl rfl rfl ?_
      refine TL.nil ?_
      refine hK10 _ _ ?_
      refine E.norm (by simp only [List.set_cons_succ, List.set_cons_zero]; rfl) ?_
      refine E.cond rfl (fun hc17 => ?_) (fun hc17 => ?_)
      · replace hp := hp.1 (of_decide_eq_true hc17)
        refine E.seq (fun K11 hK11 => ?_)
        refine rg ?_
        refine TL.assign (Value.int .i64 1) rfl rfl ?_
        refine TL.nil ?_
        refine hK11 _ _ ?_
        refine E.norm (by simp only [List.set_cons_succ, List.set_cons_zero]; rfl) ?_
        refine wp_ret ?_
        refine E.ret _ (Rs.t (Value.int .i64 1) rfl rfl) ?_
        exact ⟨hst.keep, 1, hp, rfl⟩
      · replace hp := hp.2 (of_decide_eq_false hc17)
        refine wp_skip ?_
        refine hK6 _ _ ?_
        refine rg ?_
        refine TL.move (Value.int .i64 x4) rfl rfl ?_
        obtain ⟨ho18, hp⟩ := hp
        refine TL.sub (x4 - 1) rfl rfl ⟨rfl, ho18⟩ rfl ?_
        refine TL.assign (Value.int .i64 (x4 - 1)) rfl rfl ?_
        refine TL.norm (by simp only [List.set_cons_succ, List.set_cons_zero]; rfl) ?_
        refine TL.nil ?_
        exact ⟨_, _, hp.2, rfl, (x4 - 1), rfl, hp.1, (by first | (simp only [List.set_cons_succ, List.set_cons_zero]; exact .s rfl (.s rfl (.s rfl (.s rfl (.s rfl (.s rfl (.n (.n (.n (.n (.n (.n (.n (.n (.n (.n (.n (.n (.n (.n (.n (.n (.n (.n (.z))))))))))))))))))))))))) | exact .s rfl (.s rfl (.s rfl (.s rfl (.s rfl (.s rfl (.n (.n (.n (.n (.n (.n (.n (.n (.n (.n (.n (.n (.n (.n (.n (.n (.n (.n (.z))))))))))))))))))))))))), hst⟩
  · replace hp := hp.2 (of_decide_eq_false hc7)
    refine wp_exit ?_
    refine hK2 _ _ ?_
    refine E.seq (fun K12 hK12 => ?_)
    refine rg ?_
    refine TL.assign (Value.int .i64 0) rfl rfl ?_
    refine TL.nil ?_
    refine hK12 _ _ ?_
    refine E.norm (by simp only [List.set_cons_succ, List.set_cons_zero]; rfl) ?_
    refine wp_ret ?_
    refine E.ret _ (Rs.t (Value.int .i64 0) rfl rfl) ?_
    exact ⟨hst.keep, 0, hp, rfl⟩

def smithyref13_less (p0 : Ar 4) (p1 : Ar 4) (Q : Bool → Prop) : Prop :=
  smithyref01_Of p0 (fun r3 => smithyref01_Of p1 (fun r4 => smithyref01_Compare r3 r4 (fun r5 => Q (decide (r5 < 0)))))
theorem w_smithyref13_less (p0 : Ar 4) (p1 : Ar 4) (g : Gh) (w0 : World) (hg : Has w0 g) (Q : Bool → Prop) (hp : smithyref13_less p0 p1 Q) : Calls Try.prog 70 #[Value.agg (iaC .u64 p0).toArray, Value.agg (iaC .u64 p1).toArray] w0 (Ret fun u w => Keep Non w0 w ∧ ∃ (r1 : Bool), Q r1 ∧ u = Value.bool r1) := by
  unfold smithyref13_less at hp
  go_enter Try.func70, Try.ntmps70
  change Code.wp _ _ _ (F [Value.agg (iaC .u64 p0).toArray, Value.agg (iaC .u64 p1).toArray, undef, undef, undef, undef, undef, undef, undef, undef, undef]) _
  have hst := St.start Non hg
  have hgn0 : GN Non w0 g g := GN.refl _ _ _
  have hle0 : g.le g := Gh.le_refl _
  refine E.seq (fun K1 hK1 => ?_)
  refine rg ?_
  refine TL.box (vs := iaC .u64 p0) hst rfl rfl ?_
  intro w n1 hst
  refine ⟨trivial, ?_⟩
  refine TL.box (vs := iaC .u64 p1) hst rfl rfl ?_
  intro w n2 hst
  refine ⟨trivial, ?_⟩
  refine TL.assign (Value.bool false) rfl rfl ?_
  refine TL.norm (by simp only [List.set_cons_succ, List.set_cons_zero]; rfl) ?_
  refine TL.nil ?_
  refine hK1 _ _ ?_
  refine E.seq (fun K2 hK2 => ?_)
  refine rgM [5] (fun w' => St Non w0 w' g ([(n2, .cells (iaC .u64 p1).toArray 31 (0, 0)), (n1, .cells (iaC .u64 p0).toArray 31 (0, 0))])) mixed #[0, 1, 0, 7, 15, 31, 63] (by kernel_rfl) hst.drew ?_
  replace hst := hst.drew
  refine TL.ldL 1 n1 (0) (iaC .u64 p0) (fun _ h => h ▸ hst) rfl (Seg.all _) (ta31.of (by simp)) rfl rfl ?_
  refine TL.callS #[Value.agg (iaC .u64 p0).toArray] co108 rfl (w_smithyref01_Of p0 g _ hst.has _ hp) rfl ?_
  rintro _ w ⟨hk, r3, hp, rfl⟩
  replace hst := hst.call hk
  refine ⟨hst, ?_⟩
  refine TL.ldL 0 n2 (0) (iaC .u64 p1) (fun _ h => h) rfl (Seg.all _) (ta31.of (by simp)) rfl rfl ?_
  refine TL.norm (by simp only [List.set_cons_succ, List.set_cons_zero]; rfl) ?_
  refine TL.callS #[Value.agg (iaC .u64 p1).toArray] co108 rfl (w_smithyref01_Of p1 g _ hst.has _ hp) rfl ?_
  rintro _ w ⟨hk, r4, hp, rfl⟩
  replace hst := hst.call hk
  refine ⟨hst, ?_⟩
  refine TL.callS #[Value.agg (iaC .i64 r3).toArray, Value.agg (iaC .i64 r4).toArray] co109 rfl (w_smithyref01_Compare r3 r4 g _ hst.has _ hp) rfl ?_
  rintro _ w ⟨hk, r5, hp, rfl⟩
  replace hst := hst.call hk
  refine ⟨hst, ?_⟩
  refine TL.lss rfl rfl rfl ?_
  refine TL.norm (by simp only [List.set_cons_succ, List.set_cons_zero]; rfl) ?_
  refine TL.assign (Value.bool (decide (r5 < 0))) rfl rfl ?_
  refine TL.nil ?_
  refine hK2 _ _ ?_
  refine E.norm (by simp only [List.set_cons_succ, List.set_cons_zero]; rfl) ?_
  refine wp_ret ?_
  refine E.ret _ (Rs.t (Value.bool (decide (r5 < 0))) rfl rfl) ?_
  exact ⟨hst.keep, decide (r5 < 0), hp, rfl⟩

def smithyref13_Right (p0 : T_api_Account) (Q : Bool → Prop) : Prop :=
  ∃ (I6 : Int → Prop) (m7 : Int → Nat), (I6 0) ∧ ∀ (x5 : Int), (I6 x5 → (((x5 < (p0.fStorage.length : Int)) → (∃ J10 : Prop, (J10 → ((inR .i64 (x5 + 1)) ∧ (I6 (x5 + 1) ∧ m7 (x5 + 1) < m7 x5))) ∧ ((0 ≤ x5) ∧ (x5 < (p0.fStorage.length : Int)) ∧ ((((nth p0.fStorage x5).fValue = Ar.zero 4) → (Q false)) ∧ ((¬ ((nth p0.fStorage x5).fValue = Ar.zero 4)) → (((0 < x5) → ((inR .i64 (x5 - 1)) ∧ ((0 ≤ x5 - 1) ∧ (x5 - 1 < (p0.fStorage.length : Int)) ∧ ((0 ≤ x5) ∧ (x5 < (p0.fStorage.length : Int)) ∧ (smithyref13_less ((nth p0.fStorage (x5 - 1)).fKey) ((nth p0.fStorage x5).fKey) (fun r36 => ((r36 = false) → (Q false)) ∧ ((r36 = true) → (J10)))))))) ∧ ((¬ (0 < x5)) → (J10)))))))) ∧ ((¬ (x5 < (p0.fStorage.length : Int))) → (Q true))))
theorem w_smithyref13_Right (p0 : T_api_Account) (v1 : Value) (v2 : Value) (g : Gh) (w0 : World) (hg : Has w0 g) (hv1 : Sl (rtI .u8) g p0.fCode v1) (hv2 : Sl rT_api_Slot g p0.fStorage v2) (Q : Bool → Prop) (hp : smithyref13_Right p0 Q) : Calls Try.prog 15 #[Value.agg (iaC .u8 p0.fAddress ++ ([Value.int .u64 p0.fNonce] ++ (iaC .u64 p0.fBalance ++ ([v1] ++ ([v2]))))).toArray] w0 (Ret fun u w => Keep Non w0 w ∧ ∃ (r1 : Bool), Q r1 ∧ u = Value.bool r1) := by
  unfold smithyref13_Right at hp
  go_enter Try.func15, Try.ntmps15
  change Code.wp _ _ _ (F [Value.agg (iaC .u8 p0.fAddress ++ ([Value.int .u64 p0.fNonce] ++ (iaC .u64 p0.fBalance ++ ([v1] ++ ([v2]))))).toArray, undef, undef, undef, undef, undef, undef, undef, undef, undef, undef, undef, undef, undef, undef, undef, undef, undef, undef, undef, undef, undef, undef, undef, undef, undef, undef, undef, undef, undef, undef, undef, undef, undef, undef, undef, undef, undef]) _
  have hst := St.start Non hg
  have hgn0 : GN Non w0 g g := GN.refl _ _ _
  have hle0 : g.le g := Gh.le_refl _
  refine E.seq (fun K1 hK1 => ?_)
  refine rg ?_
  refine TL.box (vs := iaC .u8 p0.fAddress ++ ([Value.int .u64 p0.fNonce] ++ (iaC .u64 p0.fBalance ++ ([v1] ++ ([v2]))))) hst rfl rfl ?_
  intro w n3 hst
  refine ⟨trivial, ?_⟩
  refine TL.assign (Value.bool false) rfl rfl ?_
  refine TL.nil ?_
  refine hK1 _ _ ?_
  refine E.norm (by simp only [List.set_cons_succ, List.set_cons_zero]; rfl) ?_
  refine E.seq (fun K2 hK2 => ?_)
  refine E.seq (fun K3 hK3 => ?_)
  refine rg ?_
  refine TL.fieldA (26) fa34_4 rfl (by first | rfl | omega) rfl ?_
  refine TL.ldL1 0 n3 (20 + (1 + (4 + (1 + (0))))) (v2) (fun _ h => h ▸ hst) rfl (Seg.skip (m := 20) (by simp) (Seg.skip (m := 1) (by simp) (Seg.skip (m := 4) (by simp) (Seg.skip (m := 1) (by simp) (Seg.all _))))) ts32 rfl rfl ?_
  refine TL.lenL (hv2) Try.underlying32 rfl rfl ?_
  refine TL.norm (by simp only [List.set_cons_succ, List.set_cons_zero]; rfl) ?_
  refine TL.move (Value.int .i64 0) rfl rfl ?_
  refine TL.nil ?_
  refine hK3 _ _ ?_
  refine E.norm (by simp only [List.set_cons_succ, List.set_cons_zero]; rfl) ?_
  refine wp_block ?_
  obtain ⟨I6, m7, hI0, hI⟩ := hp
  refine E.loop (fun mm l w => ∃ (x5 : Int), (mm = m7 x5) ∧ (I6 x5) ∧ Fits [some (Value.agg (iaC .u8 p0.fAddress ++ ([Value.int .u64 p0.fNonce] ++ (iaC .u64 p0.fBalance ++ ([v1] ++ ([v2]))))).toArray), some (Value.pointer (some ⟨n3, 0, none⟩)), some (Value.bool false), none, some (Value.pointer (some ⟨n3, 26, none⟩)), some (v2), some (Value.int .i64 ((p0.fStorage.length : Int))), some (Value.int .i64 x5), none, none, none, none, none, none, none, none, none, none, none, none, none, none, none, none, none, none, none, none, none, none, none, none, none, none, none, none, none, none] l ∧ St Non w0 w g ([(n3, .cells (iaC .u8 p0.fAddress ++ ([Value.int .u64 p0.fNonce] ++ (iaC .u64 p0.fBalance ++ ([v1] ++ ([v2]))))).toArray 34 (0, 0))])) _ ⟨0, rfl, hI0, (by first | (simp only [List.set_cons_succ, List.set_cons_zero]; exact .s rfl (.s rfl (.s rfl (.n (.s rfl (.s rfl (.s rfl (.s rfl (.n (.n (.n (.n (.n (.n (.n (.n (.n (.n (.n (.n (.n (.n (.n (.n (.n (.n (.n (.n (.n (.n (.n (.n (.n (.n (.n (.n (.n (.n (.z))))))))))))))))))))))))))))))))))))))) | exact .s rfl (.s rfl (.s rfl (.n (.s rfl (.s rfl (.s rfl (.s rfl (.n (.n (.n (.n (.n (.n (.n (.n (.n (.n (.n (.n (.n (.n (.n (.n (.n (.n (.n (.n (.n (.n (.n (.n (.n (.n (.n (.n (.n (.n (.z))))))))))))))))))))))))))))))))))))))), hst⟩ ?_
  rintro _ _ w ⟨x5, rfl, hI1, hfit, hst⟩
  have hp := hI _ hI1
  obtain ⟨j4, rfl⟩ := hfit.ex
  refine E.norm (l' := [Value.agg (iaC .u8 p0.fAddress ++ ([Value.int .u64 p0.fNonce] ++ (iaC .u64 p0.fBalance ++ ([v1] ++ ([v2]))))).toArray, Value.pointer (some ⟨n3, 0, none⟩), Value.bool false, (j4 3), Value.pointer (some ⟨n3, 26, none⟩), v2, Value.int .i64 ((p0.fStorage.length : Int)), Value.int .i64 x5, (j4 8), (j4 9), (j4 10), (j4 11), (j4 12), (j4 13), (j4 14), (j4 15), (j4 16), (j4 17), (j4 18), (j4 19), (j4 20), (j4 21), (j4 22), (j4 23), (j4 24), (j4 25), (j4 26), (j4 27), (j4 28), (j4 29), (j4 30), (j4 31), (j4 32), (j4 33), (j4 34), (j4 35), (j4 36), (j4 37)]) rfl ?_
  refine E.seq (fun K4 hK4 => ?_)
  refine rg ?_
  refine TL.lss rfl rfl rfl ?_
  refine TL.nil ?_
  refine hK4 _ _ ?_
  refine E.norm (by simp only [List.set_cons_succ, List.set_cons_zero]; rfl) ?_
  refine E.seq (fun K5 hK5 => ?_)
  refine E.cond rfl (fun hc8 => ?_) (fun hc8 => ?_)
  · replace hp := hp.1 (of_decide_eq_true hc8)
    refine wp_skip ?_
    refine hK5 _ _ ?_
    refine E.seq (fun K6 hK6 => ?_)
    obtain ⟨J10, hJ10, hp⟩ := hp
    have hJ10K : ∀ (l : List Value) (w : World), (J10) → Fits [some (Value.agg (iaC .u8 p0.fAddress ++ ([Value.int .u64 p0.fNonce] ++ (iaC .u64 p0.fBalance ++ ([v1] ++ ([v2]))))).toArray), some (Value.pointer (some ⟨n3, 0, none⟩)), some (Value.bool false), some (Value.int .i64 x5), some (Value.pointer (some ⟨n3, 26, none⟩)), some (v2), some (Value.int .i64 ((p0.fStorage.length : Int))), some (Value.int .i64 x5), some (Value.bool (decide (x5 < (p0.fStorage.length : Int)))), some (Value.int .i64 x5), some (Value.pointer (some ⟨n3, 26, none⟩)), some (v2), some (Value.int .i64 x5), none, none, some (Value.agg (iaC .u64 ((nth p0.fStorage x5).fValue)).toArray), some (Value.agg (iaC .u64 (Ar.zero 4)).toArray), some (Value.bool (decide ((nth p0.fStorage x5).fValue = Ar.zero 4))), some (Value.int .i64 x5), some (Value.bool (decide (0 < x5))), none, none, none, none, none, none, none, none, none, none, none, none, none, none, none, none, none, some ((j4 37))] l → St Non w0 w g ([(n3, .cells (iaC .u8 p0.fAddress ++ ([Value.int .u64 p0.fNonce] ++ (iaC .u64 p0.fBalance ++ ([v1] ++ ([v2]))))).toArray 34 (0, 0))]) → K6 (F l) w := by
      rintro  _ w hp hfit hst
      replace hp := hJ10 hp
      obtain ⟨jj9, rfl⟩ := hfit.ex
      refine hK6 _ _ ?_
      refine E.norm (l' := [Value.agg (iaC .u8 p0.fAddress ++ ([Value.int .u64 p0.fNonce] ++ (iaC .u64 p0.fBalance ++ ([v1] ++ ([v2]))))).toArray, Value.pointer (some ⟨n3, 0, none⟩), Value.bool false, Value.int .i64 x5, Value.pointer (some ⟨n3, 26, none⟩), v2, Value.int .i64 ((p0.fStorage.length : Int)), Value.int .i64 x5, Value.bool (decide (x5 < (p0.fStorage.length : Int))), Value.int .i64 x5, Value.pointer (some ⟨n3, 26, none⟩), v2, Value.int .i64 x5, (jj9 13), (jj9 14), Value.agg (iaC .u64 ((nth p0.fStorage x5).fValue)).toArray, Value.agg (iaC .u64 (Ar.zero 4)).toArray, Value.bool (decide ((nth p0.fStorage x5).fValue = Ar.zero 4)), Value.int .i64 x5, Value.bool (decide (0 < x5)), (jj9 20), (jj9 21), (jj9 22), (jj9 23), (jj9 24), (jj9 25), (jj9 26), (jj9 27), (jj9 28), (jj9 29), (jj9 30), (jj9 31), (jj9 32), (jj9 33), (jj9 34), (jj9 35), (jj9 36), (j4 37)]) rfl ?_
      refine rg ?_
      obtain ⟨ho11, hp⟩ := hp
      refine TL.add (x5 + 1) rfl rfl ⟨rfl, ho11⟩ rfl ?_
      refine TL.move (Value.int .i64 (x5 + 1)) rfl rfl ?_
      refine TL.nil ?_
      exact ⟨_, _, hp.2, rfl, (x5 + 1), rfl, hp.1, (by first | (simp only [List.set_cons_succ, List.set_cons_zero]; exact .s rfl (.s rfl (.s rfl (.n (.s rfl (.s rfl (.s rfl (.s rfl (.n (.n (.n (.n (.n (.n (.n (.n (.n (.n (.n (.n (.n (.n (.n (.n (.n (.n (.n (.n (.n (.n (.n (.n (.n (.n (.n (.n (.n (.n (.z))))))))))))))))))))))))))))))))))))))) | exact .s rfl (.s rfl (.s rfl (.n (.s rfl (.s rfl (.s rfl (.s rfl (.n (.n (.n (.n (.n (.n (.n (.n (.n (.n (.n (.n (.n (.n (.n (.n (.n (.n (.n (.n (.n (.n (.n (.n (.n (.n (.n (.n (.n (.n (.z))))))))))))))))))))))))))))))))))))))), hst⟩
    refine wp_block ?_
    refine E.seq (fun K7 hK7 => ?_)
    refine rg ?_
    refine TL.move (Value.int .i64 x5) rfl rfl ?_
    refine TL.assign (Value.int .i64 x5) rfl rfl ?_
    refine TL.nil ?_
    refine hK7 _ _ ?_
    refine E.norm (by simp only [List.set_cons_succ, List.set_cons_zero]; rfl) ?_
    refine E.seq (fun K8 hK8 => ?_)
    refine E.seq (fun K9 hK9 => ?_)
    refine rg ?_
    refine TL.fieldA (26) fa34_4 rfl (by first | rfl | omega) rfl ?_
    refine TL.ldL1 0 n3 (20 + (1 + (4 + (1 + (0))))) (v2) (fun _ h => h ▸ hst) rfl (Seg.skip (m := 20) (by simp) (Seg.skip (m := 1) (by simp) (Seg.skip (m := 4) (by simp) (Seg.skip (m := 1) (by simp) (Seg.all _))))) ts32 rfl rfl ?_
    refine TL.move (Value.int .i64 x5) rfl rfl ?_
    refine TL.norm (by simp only [List.set_cons_succ, List.set_cons_zero]; rfl) ?_
    obtain ⟨ho12, ho13, hp⟩ := hp
    refine TL.indexL (hv2) sl32 rfl rfl ho12 ho13 rfl ?_
    rintro b14 o15 _ rfl hq18
    refine TL.fieldA (o15 + 4) fa131_1 rfl (by first | rfl | omega) rfl ?_
    refine TL.ldG b14 (o15 + (4 + (0))) (iaC .u64 ((nth p0.fStorage x5).fValue)) (fun _ h => h ▸ hst) (hq18.sub (Seg.skip (m := 4) (by simp) (Seg.all _))) (ta31.of (by simp)) rfl rfl ?_
    refine TL.norm (by simp only [List.set_cons_succ, List.set_cons_zero]; rfl) ?_
    refine TL.buildA (ps := []) ar31 zv31 rfl (Fl.nil _) rfl ?_
    refine TL.eqlIA eqa31 rfl rfl rfl ?_
    refine TL.nil ?_
    refine hK9 _ _ ?_
    refine E.norm (by simp only [List.set_cons_succ, List.set_cons_zero]; rfl) ?_
    refine E.cond rfl (fun hc19 => ?_) (fun hc19 => ?_)
    · replace hp := hp.1 (of_decide_eq_true hc19)
      refine E.seq (fun K10 hK10 => ?_)
      refine rg ?_
      refine TL.assign (Value.bool false) rfl rfl ?_
      refine TL.nil ?_
      refine hK10 _ _ ?_
      refine E.norm (by simp only [List.set_cons_succ, List.set_cons_zero]; rfl) ?_
      refine wp_ret ?_
      refine E.ret _ (Rs.t (Value.bool false) rfl rfl) ?_
      exact ⟨hst.keep, false, hp, rfl⟩
    · replace hp := hp.2 (of_decide_eq_false hc19)
      refine wp_skip ?_
      refine hK8 _ _ ?_
      refine E.seq (fun K11 hK11 => ?_)
      refine rgD mixed #[0, 1, 3, 7, 15, 7, 39, 127, 255, 511, 7, 1031, 7, 7175, 15367, 31751, 65535, 131071, 262143] (by kernel_rfl) ?_
      replace hst := hst.drew
      refine TL.move (Value.int .i64 x5) rfl rfl ?_
      refine TL.gtr rfl rfl rfl ?_
      refine TL.move (Value.bool (decide (0 < x5))) rfl rfl ?_
      refine TL.norm (by simp only [List.set_cons_succ, List.set_cons_zero]; rfl) ?_
      refine TL.case 20 (decide (0 < x5)) rfl (fun hc20 => ?_) (fun hc20 => ?_)
      · replace hp := hp.1 (of_decide_eq_true hc20)
        refine TL.norm (by simp only [List.set_cons_succ, List.set_cons_zero]; rfl) ?_
        refine TL.fieldA (26) fa34_4 rfl (by first | rfl | omega) rfl ?_
        refine TL.ldL1 0 n3 (20 + (1 + (4 + (1 + (0))))) (v2) (fun _ h => h ▸ hst) rfl (Seg.skip (m := 20) (by simp) (Seg.skip (m := 1) (by simp) (Seg.skip (m := 4) (by simp) (Seg.skip (m := 1) (by simp) (Seg.all _))))) ts32 rfl rfl ?_
        refine TL.move (Value.int .i64 x5) rfl rfl ?_
        refine TL.norm (by simp only [List.set_cons_succ, List.set_cons_zero]; rfl) ?_
        obtain ⟨ho21, hp⟩ := hp
        refine TL.sub (x5 - 1) rfl rfl ⟨rfl, ho21⟩ rfl ?_
        obtain ⟨ho22, ho23, hp⟩ := hp
        refine TL.indexL (hv2) sl32 rfl rfl ho22 ho23 rfl ?_
        rintro b24 o25 _ rfl hq28
        refine TL.fieldA (o25) fa131_0 rfl (by first | rfl | omega) rfl ?_
        refine TL.norm (by simp only [List.set_cons_succ, List.set_cons_zero]; rfl) ?_
        refine TL.ldG b24 (o25 + (0)) (iaC .u64 ((nth p0.fStorage (x5 - 1)).fKey)) (fun _ h => h ▸ hst) (hq28.sub (Seg.here _ _)) (ta31.of (by simp)) rfl rfl ?_
        refine TL.fieldA (26) fa34_4 rfl (by first | rfl | omega) rfl ?_
        refine TL.ldL1 0 n3 (20 + (1 + (4 + (1 + (0))))) (v2) (fun _ h => h ▸ hst) rfl (Seg.skip (m := 20) (by simp) (Seg.skip (m := 1) (by simp) (Seg.skip (m := 4) (by simp) (Seg.skip (m := 1) (by simp) (Seg.all _))))) ts32 rfl rfl ?_
        refine TL.norm (by simp only [List.set_cons_succ, List.set_cons_zero]; rfl) ?_
        refine TL.move (Value.int .i64 x5) rfl rfl ?_
        obtain ⟨ho29, ho30, hp⟩ := hp
        refine TL.indexL (hv2) sl32 rfl rfl ho29 ho30 rfl ?_
        rintro b31 o32 _ rfl hq35
        refine TL.fieldA (o32) fa131_0 rfl (by first | rfl | omega) rfl ?_
        refine TL.norm (by simp only [List.set_cons_succ, List.set_cons_zero]; rfl) ?_
        refine TL.ldG b31 (o32 + (0)) (iaC .u64 ((nth p0.fStorage x5).fKey)) (fun _ h => h ▸ hst) (hq35.sub (Seg.here _ _)) (ta31.of (by simp)) rfl rfl ?_
        refine TL.callS #[Value.agg (iaC .u64 ((nth p0.fStorage (x5 - 1)).fKey)).toArray, Value.agg (iaC .u64 ((nth p0.fStorage x5).fKey)).toArray] co70 rfl (w_smithyref13_less ((nth p0.fStorage (x5 - 1)).fKey) ((nth p0.fStorage x5).fKey) g _ hst.has _ hp) rfl ?_
        rintro _ w ⟨hk, r36, hp, rfl⟩
        replace hst := hst.call hk
        refine ⟨trivial, ?_⟩
        refine TL.notB rfl rfl ?_
        refine TL.norm (by simp only [List.set_cons_succ, List.set_cons_zero]; rfl) ?_
        refine TL.pick (Value.bool (!r36)) rfl rfl rfl ?_
        refine TL.nil ?_
        refine hK11 _ _ ?_
        refine E.norm (by simp only [List.set_cons_succ, List.set_cons_zero]; rfl) ?_
        refine E.cond rfl (fun hc37 => ?_) (fun hc37 => ?_)
        · replace hp := hp.1 ((notT hc37))
          refine E.seq (fun K12 hK12 => ?_)
          refine rg ?_
          refine TL.assign (Value.bool false) rfl rfl ?_
          refine TL.nil ?_
          refine hK12 _ _ ?_
          refine E.norm (by simp only [List.set_cons_succ, List.set_cons_zero]; rfl) ?_
          refine wp_ret ?_
          refine E.ret _ (Rs.t (Value.bool false) rfl rfl) ?_
          exact ⟨hst.keep, false, hp, rfl⟩
        · replace hp := hp.2 ((notF hc37))
          refine wp_skip ?_
          refine hJ10K  _ _ hp (by first | (simp only [List.set_cons_succ, List.set_cons_zero]; exact .s rfl (.s rfl (.s rfl (.s rfl (.s rfl (.s rfl (.s rfl (.s rfl (.s rfl (.s rfl (.s rfl (.s rfl (.s rfl (.n (.n (.s rfl (.s rfl (.s rfl (.s rfl (.s rfl (.n (.n (.n (.n (.n (.n (.n (.n (.n (.n (.n (.n (.n (.n (.n (.n (.n (.s rfl (.z))))))))))))))))))))))))))))))))))))))) | exact .s rfl (.s rfl (.s rfl (.s rfl (.s rfl (.s rfl (.s rfl (.s rfl (.s rfl (.s rfl (.s rfl (.s rfl (.s rfl (.n (.n (.s rfl (.s rfl (.s rfl (.s rfl (.s rfl (.n (.n (.n (.n (.n (.n (.n (.n (.n (.n (.n (.n (.n (.n (.n (.n (.n (.s rfl (.z))))))))))))))))))))))))))))))))))))))) (hst)
      · replace hp := hp.2 (of_decide_eq_false hc20)
        refine TL.norm (by simp only [List.set_cons_succ, List.set_cons_zero]; rfl) ?_
        refine TL.noF trivial rfl ?_
        refine TL.noF trivial rfl ?_
        refine TL.noF trivial rfl ?_
        refine TL.norm (by simp only [List.set_cons_succ, List.set_cons_zero]; rfl) ?_
        refine TL.noF trivial rfl ?_
        refine TL.noF trivial rfl ?_
        refine TL.noF trivial rfl ?_
        refine TL.norm (by simp only [List.set_cons_succ, List.set_cons_zero]; rfl) ?_
        refine TL.noF trivial rfl ?_
        refine TL.noF trivial rfl ?_
        refine TL.noF trivial rfl ?_
        refine TL.norm (by simp only [List.set_cons_succ, List.set_cons_zero]; rfl) ?_
        refine TL.noF trivial rfl ?_
        refine TL.noF trivial rfl ?_
        refine TL.noF trivial rfl ?_
        refine TL.norm (by simp only [List.set_cons_succ, List.set_cons_zero]; rfl) ?_
        refine TL.noF trivial rfl ?_
        refine TL.noF trivial rfl ?_
        refine TL.noF trivial rfl ?_
        refine TL.norm (by simp only [List.set_cons_succ, List.set_cons_zero]; rfl) ?_
        refine TL.pick (Value.bool false) rfl rfl rfl ?_
        refine TL.nil ?_
        refine hK11 _ _ ?_
        refine E.norm (by simp only [List.set_cons_succ, List.set_cons_zero]; rfl) ?_
        refine E.condF rfl ?_
        refine wp_skip ?_
        refine hJ10K  _ _ hp (by first | (simp only [List.set_cons_succ, List.set_cons_zero]; exact .s rfl (.s rfl (.s rfl (.s rfl (.s rfl (.s rfl (.s rfl (.s rfl (.s rfl (.s rfl (.s rfl (.s rfl (.s rfl (.n (.n (.s rfl (.s rfl (.s rfl (.s rfl (.s rfl (.n (.n (.n (.n (.n (.n (.n (.n (.n (.n (.n (.n (.n (.n (.n (.n (.n (.s rfl (.z))))))))))))))))))))))))))))))))))))))) | exact .s rfl (.s rfl (.s rfl (.s rfl (.s rfl (.s rfl (.s rfl (.s rfl (.s rfl (.s rfl (.s rfl (.s rfl (.s rfl (.n (.n (.s rfl (.s rfl (.s rfl (.s rfl (.s rfl (.n (.n (.n (.n (.n (.n (.n (.n (.n (.n (.n (.n (.n (.n (.n (.n (.n (.s rfl (.z))))))))))))))))))))))))))))))))))))))) (hst)
  · replace hp := hp.2 (of_decide_eq_false hc8)
    refine wp_exit ?_
    refine hK2 _ _ ?_
    refine E.seq (fun K13 hK13 => ?_)
    refine rg ?_
    refine TL.assign (Value.bool true) rfl rfl ?_
    refine TL.nil ?_
    refine hK13 _ _ ?_
    refine E.norm (by simp only [List.set_cons_succ, List.set_cons_zero]; rfl) ?_
    refine wp_ret ?_
    refine E.ret _ (Rs.t (Value.bool true) rfl rfl) ?_
    exact ⟨hst.keep, true, hp, rfl⟩

def smithyref13_Find (p0 : List T_api_Account) (p1 : Ar 20) (Q : T_api_Account → Bool → Prop) : Prop :=
  ∃ (I6 : Int → Prop) (m7 : Int → Nat), (I6 0) ∧ ∀ (x5 : Int), (I6 x5 → (((x5 < (p0.length : Int)) → ((0 ≤ x5) ∧ (x5 < (p0.length : Int)) ∧ ((((nth p0 x5).fAddress = p1) → ((0 ≤ x5) ∧ (x5 < (p0.length : Int)) ∧ (Q (nth p0 x5) true))) ∧ ((¬ ((nth p0 x5).fAddress = p1)) → ((inR .i64 (x5 + 1)) ∧ (I6 (x5 + 1) ∧ m7 (x5 + 1) < m7 x5)))))) ∧ ((¬ (x5 < (p0.length : Int))) → (Q (T_api_Account.mk (Ar.zero 20) 0 (Ar.zero 4) ([]) ([])) false))))
theorem w_smithyref13_Find (p0 : List T_api_Account) (p1 : Ar 20) (v1 : Value) (g : Gh) (w0 : World) (hg : Has w0 g) (hv1 : Sl rT_api_Account g p0 v1) (Q : T_api_Account → Bool → Prop) (hp : smithyref13_Find p0 p1 Q) : Calls Try.prog 17 #[v1, Value.agg (iaC .u8 p1).toArray] w0 (Ret fun u w => Keep Non w0 w ∧ ∃ (r1 : T_api_Account) (r2 : Bool), Q r1 r2 ∧ ∃ (u1 : Value) (u2 : Value), u = Value.tuple #[Value.agg (iaC .u8 r1.fAddress ++ ([Value.int .u64 r1.fNonce] ++ (iaC .u64 r1.fBalance ++ ([u1] ++ ([u2]))))).toArray, Value.bool r2] ∧ Sl (rtI .u8) g r1.fCode u1 ∧ Sl rT_api_Slot g r1.fStorage u2) := by
  unfold smithyref13_Find at hp
  go_enter Try.func17, Try.ntmps17
  change Code.wp _ _ _ (F [v1, Value.agg (iaC .u8 p1).toArray, undef, undef, undef, undef, undef, undef, undef, undef, undef, undef, undef, undef, undef, undef, undef, undef, undef, undef, undef, undef, undef, undef, undef]) _
  have hst := St.start Non hg
  have hgn0 : GN Non w0 g g := GN.refl _ _ _
  have hle0 : g.le g := Gh.le_refl _
  refine E.seq (fun K1 hK1 => ?_)
  refine rg ?_
  refine TL.box (vs := iaC .u8 p1) hst rfl rfl ?_
  intro w n2 hst
  refine ⟨trivial, ?_⟩
  refine TL.alloc hst zv34 rfl ?_
  intro w n3 hst
  refine ⟨trivial, ?_⟩
  refine TL.assign (Value.bool false) rfl rfl ?_
  refine TL.norm (by simp only [List.set_cons_succ, List.set_cons_zero]; rfl) ?_
  refine TL.nil ?_
  refine hK1 _ _ ?_
  refine E.seq (fun K2 hK2 => ?_)
  refine E.seq (fun K3 hK3 => ?_)
  refine rg ?_
  refine TL.move (v1) rfl rfl ?_
  refine TL.lenL (hv1) Try.underlying22 rfl rfl ?_
  refine TL.move (Value.int .i64 0) rfl rfl ?_
  refine TL.norm (by simp only [List.set_cons_succ, List.set_cons_zero]; rfl) ?_
  refine TL.nil ?_
  refine hK3 _ _ ?_
  refine wp_block ?_
  obtain ⟨I6, m7, hI0, hI⟩ := hp
  refine E.loop (fun mm l w => ∃ (x5 : Int), (mm = m7 x5) ∧ (I6 x5) ∧ Fits [some (v1), some (Value.agg (iaC .u8 p1).toArray), some (undef), some (Value.pointer (some ⟨n2, 0, none⟩)), some (Value.pointer (some ⟨n3, 0, none⟩)), some (Value.bool false), none, some (v1), some (Value.int .i64 ((p0.length : Int))), some (Value.int .i64 x5), none, none, none, none, none, none, none, none, none, some (undef), some (undef), some (undef), some (undef), none, some (undef)] l ∧ St Non w0 w g ([(n3, .cells (iaC .u8 (Ar.zero 20) ++ ([Value.int .u64 0] ++ (iaC .u64 (Ar.zero 4) ++ ([Value.slice none 0 0] ++ ([Value.slice none 0 0]))))).toArray 34 (0, 0)), (n2, .cells (iaC .u8 p1).toArray 28 (0, 0))])) _ ⟨0, rfl, hI0, (by first | (simp only [List.set_cons_succ, List.set_cons_zero]; exact .s rfl (.s rfl (.s rfl (.s rfl (.s rfl (.s rfl (.n (.s rfl (.s rfl (.s rfl (.n (.n (.n (.n (.n (.n (.n (.n (.n (.s rfl (.s rfl (.s rfl (.s rfl (.n (.s rfl (.z)))))))))))))))))))))))))) | exact .s rfl (.s rfl (.s rfl (.s rfl (.s rfl (.s rfl (.n (.s rfl (.s rfl (.s rfl (.n (.n (.n (.n (.n (.n (.n (.n (.n (.s rfl (.s rfl (.s rfl (.s rfl (.n (.s rfl (.z)))))))))))))))))))))))))), hst⟩ ?_
  rintro _ _ w ⟨x5, rfl, hI1, hfit, hst⟩
  have hp := hI _ hI1
  obtain ⟨j4, rfl⟩ := hfit.ex
  refine E.norm (l' := [v1, Value.agg (iaC .u8 p1).toArray, undef, Value.pointer (some ⟨n2, 0, none⟩), Value.pointer (some ⟨n3, 0, none⟩), Value.bool false, (j4 6), v1, Value.int .i64 ((p0.length : Int)), Value.int .i64 x5, (j4 10), (j4 11), (j4 12), (j4 13), (j4 14), (j4 15), (j4 16), (j4 17), (j4 18), undef, undef, undef, undef, (j4 23), undef]) rfl ?_
  refine E.seq (fun K4 hK4 => ?_)
  refine rg ?_
  refine TL.lss rfl rfl rfl ?_
  refine TL.nil ?_
  refine hK4 _ _ ?_
  refine E.norm (by simp only [List.set_cons_succ, List.set_cons_zero]; rfl) ?_
  refine E.seq (fun K5 hK5 => ?_)
  refine E.cond rfl (fun hc8 => ?_) (fun hc8 => ?_)
  · replace hp := hp.1 (of_decide_eq_true hc8)
    refine wp_skip ?_
    refine hK5 _ _ ?_
    refine E.seq (fun K6 hK6 => ?_)
    refine wp_block ?_
    refine E.seq (fun K7 hK7 => ?_)
    refine rg ?_
    refine TL.move (Value.int .i64 x5) rfl rfl ?_
    refine TL.assign (Value.int .i64 x5) rfl rfl ?_
    refine TL.nil ?_
    refine hK7 _ _ ?_
    refine E.norm (by simp only [List.set_cons_succ, List.set_cons_zero]; rfl) ?_
    refine E.seq (fun K8 hK8 => ?_)
    refine rgD mixed #[0, 0, 3, 7, 15, 0, 63] (by kernel_rfl) ?_
    replace hst := hst.drew
    refine TL.move (v1) rfl rfl ?_
    refine TL.move (Value.int .i64 x5) rfl rfl ?_
    obtain ⟨ho9, ho10, hp⟩ := hp
    refine TL.indexL (hv1) sl22 rfl rfl ho9 ho10 rfl ?_
    rintro b11 o12 _ ⟨v16, v17, rfl, hv16, hv17⟩ hq15
    refine TL.norm (by simp only [List.set_cons_succ, List.set_cons_zero]; rfl) ?_
    refine TL.fieldA (o12) fa34_0 rfl (by first | rfl | omega) rfl ?_
    refine TL.ldG b11 (o12 + (0)) (iaC .u8 ((nth p0 x5).fAddress)) (fun _ h => h ▸ hst) (hq15.sub (Seg.here _ _)) (ta28.of (by simp)) rfl rfl ?_
    refine TL.ldL 1 n2 (0) (iaC .u8 p1) (fun _ h => h ▸ hst) rfl (Seg.all _) (ta28.of (by simp)) rfl rfl ?_
    refine TL.norm (by simp only [List.set_cons_succ, List.set_cons_zero]; rfl) ?_
    refine TL.eqlIA eqa28 rfl rfl rfl ?_
    refine TL.nil ?_
    refine hK8 _ _ ?_
    refine E.norm (by simp only [List.set_cons_succ, List.set_cons_zero]; rfl) ?_
    refine E.cond rfl (fun hc18 => ?_) (fun hc18 => ?_)
    · replace hp := hp.1 (of_decide_eq_true hc18)
      refine E.seq (fun K9 hK9 => ?_)
      refine rg ?_
      refine TL.move (v1) rfl rfl ?_
      refine TL.move (Value.int .i64 x5) rfl rfl ?_
      obtain ⟨ho19, ho20, hp⟩ := hp
      refine TL.indexL (hv1) sl22 rfl rfl ho19 ho20 rfl ?_
      rintro b21 o22 _ ⟨v26, v27, rfl, hv26, hv27⟩ hq25
      refine TL.norm (by simp only [List.set_cons_succ, List.set_cons_zero]; rfl) ?_
      refine TL.ldG b21 (o22 + (0)) (iaC .u8 ((nth p0 x5).fAddress) ++ ([Value.int .u64 ((nth p0 x5).fNonce)] ++ (iaC .u64 ((nth p0 x5).fBalance) ++ ([v26] ++ ([v27]))))) (fun _ h => h ▸ hst) (hq25.sub (Seg.all _)) (ta34.of (by simp)) rfl rfl ?_
      refine TL.stA 0 n3 (0) _ (vs := iaC .u8 ((nth p0 x5).fAddress) ++ ([Value.int .u64 ((nth p0 x5).fNonce)] ++ (iaC .u64 ((nth p0 x5).fBalance) ++ ([v26] ++ ([v27]))))) hst rfl (Put.all (by simp)) (by first | rfl | omega) rfl (One.app (One.ia _ _) (One.app (One.one rfl) (One.app (One.ia _ _) (One.app (One.one (hv26).one) (One.one (hv27).one))))) (tzof tz34 (by simp)) rfl rfl ?_
      intro w hst
      refine ⟨trivial, ?_⟩
      refine TL.assign (Value.bool true) rfl rfl ?_
      refine TL.nil ?_
      refine hK9 _ _ ?_
      refine E.norm (by simp only [List.set_cons_succ, List.set_cons_zero]; rfl) ?_
      refine wp_ret ?_
      refine E.ret _ (Rs.ct (iaC .u8 ((nth p0 x5).fAddress) ++ ([Value.int .u64 ((nth p0 x5).fNonce)] ++ (iaC .u64 ((nth p0 x5).fBalance) ++ ([v26] ++ ([v27]))))) (Value.bool true) rfl rfl (ta34.of (by simp)) (rangeAt_of_block (hst.mem (i := 0) rfl) (Seg.all _)) rfl) ?_
      exact ⟨hst.keep, (nth p0 x5), true, hp, _, _, rfl, hv26, hv27⟩
    · replace hp := hp.2 (of_decide_eq_false hc18)
      refine wp_skip ?_
      refine hK6 _ _ ?_
      refine rg ?_
      obtain ⟨ho28, hp⟩ := hp
      refine TL.add (x5 + 1) rfl rfl ⟨rfl, ho28⟩ rfl ?_
      refine TL.move (Value.int .i64 (x5 + 1)) rfl rfl ?_
      refine TL.nil ?_
      exact ⟨_, _, hp.2, rfl, (x5 + 1), rfl, hp.1, (by first | (simp only [List.set_cons_succ, List.set_cons_zero]; exact .s rfl (.s rfl (.s rfl (.s rfl (.s rfl (.s rfl (.n (.s rfl (.s rfl (.s rfl (.n (.n (.n (.n (.n (.n (.n (.n (.n (.s rfl (.s rfl (.s rfl (.s rfl (.n (.s rfl (.z)))))))))))))))))))))))))) | exact .s rfl (.s rfl (.s rfl (.s rfl (.s rfl (.s rfl (.n (.s rfl (.s rfl (.s rfl (.n (.n (.n (.n (.n (.n (.n (.n (.n (.s rfl (.s rfl (.s rfl (.s rfl (.n (.s rfl (.z)))))))))))))))))))))))))), hst⟩
  · replace hp := hp.2 (of_decide_eq_false hc8)
    refine wp_exit ?_
    refine hK2 _ _ ?_
    refine E.seq (fun K10 hK10 => ?_)
    refine rg ?_
    refine TL.buildS (ps := []) bs34 zv34 rfl (Fl.nil _) rfl ?_
    refine TL.stA 0 n3 (0) _ (vs := iaC .u8 (Ar.zero 20) ++ ([Value.int .u64 0] ++ (iaC .u64 (Ar.zero 4) ++ ([Value.slice none 0 0] ++ ([Value.slice none 0 0]))))) hst rfl (Put.all (by simp)) (by first | rfl | omega) rfl (One.app (One.ia _ _) (One.app (One.one rfl) (One.app (One.ia _ _) (One.app (One.one rfl) (One.one rfl))))) (tzof tz34 (by simp)) rfl rfl ?_
    intro w hst
    refine ⟨trivial, ?_⟩
    refine TL.assign (Value.bool false) rfl rfl ?_
    refine TL.nil ?_
    refine hK10 _ _ ?_
    refine E.norm (by simp only [List.set_cons_succ, List.set_cons_zero]; rfl) ?_
    refine wp_ret ?_
    refine E.ret _ (Rs.ct (iaC .u8 (Ar.zero 20) ++ ([Value.int .u64 0] ++ (iaC .u64 (Ar.zero 4) ++ ([Value.slice none 0 0] ++ ([Value.slice none 0 0]))))) (Value.bool false) rfl rfl (ta34.of (by simp)) (rangeAt_of_block (hst.mem (i := 0) rfl) (Seg.all _)) rfl) ?_
    exact ⟨hst.keep, (T_api_Account.mk (Ar.zero 20) 0 (Ar.zero 4) ([]) ([])), false, hp, _, _, rfl, Sl.nil _ _, Sl.nil _ _⟩

def smithyref13_Put (p0 : List T_api_Account) (p1 : T_api_Account) (Q : (List T_api_Account) → Prop) : Prop :=
  ∃ (I14 : (List T_api_Account) → Bool → Int → Prop) (m15 : (List T_api_Account) → Bool → Int → Nat), (I14 ([]) false 0) ∧ ∀ (xs9 : List T_api_Account) (x12 : Bool) (x13 : Int), (I14 xs9 x12 x13 → (((x13 < (p0.length : Int)) → (∃ J22 : (List T_api_Account) → Bool → Prop, (∀ (xs18 : List T_api_Account) (x21 : Bool), J22 xs18 x21 → ((inR .i64 (x13 + 1)) ∧ (I14 xs18 x21 (x13 + 1) ∧ m15 xs18 x21 (x13 + 1) < m15 xs9 x12 x13))) ∧ (∃ J29 : (List T_api_Account) → Bool → Prop, (∀ (xs25 : List T_api_Account) (x28 : Bool), J29 xs25 x28 → ((0 ≤ x13) ∧ (x13 < (p0.length : Int)) ∧ ((((nth p0 x13).fAddress = p1.fAddress) → (((xs25.length + ([p1] : List T_api_Account).length) * 112 ≤ 140737488355328) ∧ (J22 (xs25 ++ ([p1])) true))) ∧ ((¬ ((nth p0 x13).fAddress = p1.fAddress)) → ((0 ≤ x13) ∧ (x13 < (p0.length : Int)) ∧ (((xs25.length + ([(nth p0 x13)] : List T_api_Account).length) * 112 ≤ 140737488355328) ∧ (J22 (xs25 ++ ([(nth p0 x13)])) x28))))))) ∧ (((x12 = false) → ((0 ≤ x13) ∧ (x13 < (p0.length : Int)) ∧ (smithyref08_Less p1.fAddress ((nth p0 x13).fAddress) (fun r67 => ((r67 = true) → (((xs9.length + ([p1] : List T_api_Account).length) * 112 ≤ 140737488355328) ∧ (J29 (xs9 ++ ([p1])) true))) ∧ ((r67 = false) → (J29 xs9 x12)))))) ∧ ((x12 = true) → (J29 xs9 x12)))))) ∧ ((¬ (x13 < (p0.length : Int))) → (∃ J77 : (List T_api_Account) → Prop, (∀ (xs74 : List T_api_Account), J77 xs74 → (Q xs74)) ∧ (((x12 = false) → (((xs9.length + ([p1] : List T_api_Account).length) * 112 ≤ 140737488355328) ∧ (J77 (xs9 ++ ([p1]))))) ∧ ((x12 = true) → (J77 xs9)))))))
theorem w_smithyref13_Put (p0 : List T_api_Account) (p1 : T_api_Account) (v1 : Value) (v2 : Value) (v3 : Value) (g : Gh) (w0 : World) (hg : Has w0 g) (hv1 : Sl rT_api_Account g p0 v1) (hv2 : Sl (rtI .u8) g p1.fCode v2) (hv3 : Sl rT_api_Slot g p1.fStorage v3) (Q : (List T_api_Account) → Prop) (hp : smithyref13_Put p0 p1 Q) : Calls Try.prog 78 #[v1, Value.agg (iaC .u8 p1.fAddress ++ ([Value.int .u64 p1.fNonce] ++ (iaC .u64 p1.fBalance ++ ([v2] ++ ([v3]))))).toArray] w0 (Ret fun u w => ∃ g', Gr w0 w g g' ∧ ∃ (r1 : List T_api_Account), Q r1 ∧ ∃ (u1 : Value), u = u1 ∧ Sl rT_api_Account g' r1 u1) := by
  unfold smithyref13_Put at hp
  go_enter Try.func78, Try.ntmps78
  change Code.wp _ _ _ (F [v1, Value.agg (iaC .u8 p1.fAddress ++ ([Value.int .u64 p1.fNonce] ++ (iaC .u64 p1.fBalance ++ ([v2] ++ ([v3]))))).toArray, undef, undef, undef, undef, undef, undef, undef, undef, undef, undef, undef, undef, undef, undef, undef, undef, undef, undef, undef, undef, undef, undef, undef, undef, undef, undef, undef, undef, undef, undef, undef, undef, undef, undef, undef, undef, undef, undef, undef, undef, undef, undef, undef, undef, undef, undef, undef, undef, undef, undef, undef, undef, undef, undef, undef]) _
  have hst := St.start Non hg
  have hgn0 : GN Non w0 g g := GN.refl _ _ _
  have hle0 : g.le g := Gh.le_refl _
  refine E.seq (fun K1 hK1 => ?_)
  refine rg ?_
  refine TL.box (vs := iaC .u8 p1.fAddress ++ ([Value.int .u64 p1.fNonce] ++ (iaC .u64 p1.fBalance ++ ([v2] ++ ([v3]))))) hst rfl rfl ?_
  intro w n4 hst
  refine ⟨trivial, ?_⟩
  refine TL.assign (Value.slice none 0 0) rfl rfl ?_
  refine TL.nil ?_
  refine hK1 _ _ ?_
  refine E.norm (by simp only [List.set_cons_succ, List.set_cons_zero]; rfl) ?_
  refine E.seq (fun K2 hK2 => ?_)
  refine rg ?_
  refine TL.buildSl [] [] hst sl22 zv34 rfl rfl (by simp) rfl (by decide) rfl ?_
  intro w n5 hst
  refine ⟨trivial, ?_⟩
  obtain ⟨o7, hsv6, hst⟩ := hst.ownB (A := rT_api_Account) (n := 0) (xs := []) rfl (Rws.nil)
  refine TL.assign (Value.slice (some ⟨n5, 0, none⟩) 0 0) rfl rfl ?_
  refine TL.nil ?_
  refine hK2 _ _ ?_
  refine E.norm (by simp only [List.set_cons_succ, List.set_cons_zero]; rfl) ?_
  refine E.seq (fun K3 hK3 => ?_)
  refine rg ?_
  refine TL.assign (Value.bool false) rfl rfl ?_
  refine TL.nil ?_
  refine hK3 _ _ ?_
  refine E.norm (by simp only [List.set_cons_succ, List.set_cons_zero]; rfl) ?_
  refine E.seq (fun K4 hK4 => ?_)
  refine E.seq (fun K5 hK5 => ?_)
  refine rg ?_
  refine TL.move (v1) rfl rfl ?_
  refine TL.lenL (hv1) Try.underlying22 rfl rfl ?_
  refine TL.move (Value.int .i64 0) rfl rfl ?_
  refine TL.norm (by simp only [List.set_cons_succ, List.set_cons_zero]; rfl) ?_
  refine TL.nil ?_
  refine hK5 _ _ ?_
  refine wp_block ?_
  obtain ⟨I14, m15, hI0, hI⟩ := hp
  refine E.loop (fun mm l w => ∃ (xs9 : List T_api_Account) (x12 : Bool) (x13 : Int) (v10 : Value) (o11 : List (Nat × Obj)), (mm = m15 xs9 x12 x13) ∧ (I14 xs9 x12 x13) ∧ (OwnS rT_api_Account 34 g xs9 v10 o11) ∧ Fits [some (v1), some (Value.agg (iaC .u8 p1.fAddress ++ ([Value.int .u64 p1.fNonce] ++ (iaC .u64 p1.fBalance ++ ([v2] ++ ([v3]))))).toArray), some (undef), some (Value.pointer (some ⟨n4, 0, none⟩)), some (Value.slice none 0 0), some (v10), some (Value.bool x12), none, some (Value.slice (some ⟨n5, 0, none⟩) 0 0), some (v1), some (Value.int .i64 ((p0.length : Int))), some (Value.int .i64 x13), none, none, none, none, none, none, none, none, none, none, none, none, none, none, none, none, none, none, none, none, none, none, none, none, none, none, none, none, none, none, none, none, none, none, none, none, none, none, some (undef), some (undef), some (undef), some (undef), some (undef), some (undef), some (undef)] l ∧ St Non w0 w g ([(n4, .cells (iaC .u8 p1.fAddress ++ ([Value.int .u64 p1.fNonce] ++ (iaC .u64 p1.fBalance ++ ([v2] ++ ([v3]))))).toArray 34 (0, 0))] ++ (o11))) _ ⟨([]), false, 0, _, o7, rfl, hI0, hsv6, (by first | (simp only [List.set_cons_succ, List.set_cons_zero]; exact .s rfl (.s rfl (.s rfl (.s rfl (.s rfl (.s rfl (.s rfl (.n (.s rfl (.s rfl (.s rfl (.s rfl (.n (.n (.n (.n (.n (.n (.n (.n (.n (.n (.n (.n (.n (.n (.n (.n (.n (.n (.n (.n (.n (.n (.n (.n (.n (.n (.n (.n (.n (.n (.n (.n (.n (.n (.n (.n (.n (.n (.s rfl (.s rfl (.s rfl (.s rfl (.s rfl (.s rfl (.s rfl (.z)))))))))))))))))))))))))))))))))))))))))))))))))))))))))) | exact .s rfl (.s rfl (.s rfl (.s rfl (.s rfl (.s rfl (.s rfl (.n (.s rfl (.s rfl (.s rfl (.s rfl (.n (.n (.n (.n (.n (.n (.n (.n (.n (.n (.n (.n (.n (.n (.n (.n (.n (.n (.n (.n (.n (.n (.n (.n (.n (.n (.n (.n (.n (.n (.n (.n (.n (.n (.n (.n (.n (.n (.s rfl (.s rfl (.s rfl (.s rfl (.s rfl (.s rfl (.s rfl (.z)))))))))))))))))))))))))))))))))))))))))))))))))))))))))), hst⟩ ?_
  rintro _ _ w ⟨xs9, x12, x13, v10, o11, rfl, hI1, hsv10, hfit, hst⟩
  have hp := hI _ _ _ hI1
  obtain ⟨j8, rfl⟩ := hfit.ex
  refine E.norm (l' := [v1, Value.agg (iaC .u8 p1.fAddress ++ ([Value.int .u64 p1.fNonce] ++ (iaC .u64 p1.fBalance ++ ([v2] ++ ([v3]))))).toArray, undef, Value.pointer (some ⟨n4, 0, none⟩), Value.slice none 0 0, v10, Value.bool x12, (j8 7), Value.slice (some ⟨n5, 0, none⟩) 0 0, v1, Value.int .i64 ((p0.length : Int)), Value.int .i64 x13, (j8 12), (j8 13), (j8 14), (j8 15), (j8 16), (j8 17), (j8 18), (j8 19), (j8 20), (j8 21), (j8 22), (j8 23), (j8 24), (j8 25), (j8 26), (j8 27), (j8 28), (j8 29), (j8 30), (j8 31), (j8 32), (j8 33), (j8 34), (j8 35), (j8 36), (j8 37), (j8 38), (j8 39), (j8 40), (j8 41), (j8 42), (j8 43), (j8 44), (j8 45), (j8 46), (j8 47), (j8 48), (j8 49), undef, undef, undef, undef, undef, undef, undef]) rfl ?_
  refine E.seq (fun K6 hK6 => ?_)
  refine rg ?_
  refine TL.lss rfl rfl rfl ?_
  refine TL.nil ?_
  refine hK6 _ _ ?_
  refine E.norm (by simp only [List.set_cons_succ, List.set_cons_zero]; rfl) ?_
  refine E.seq (fun K7 hK7 => ?_)
  refine E.cond rfl (fun hc16 => ?_) (fun hc16 => ?_)
  · replace hp := hp.1 (of_decide_eq_true hc16)
    refine wp_skip ?_
    refine hK7 _ _ ?_
    refine E.seq (fun K8 hK8 => ?_)
    obtain ⟨J22, hJ22, hp⟩ := hp
    have hJ22K : ∀ (xs18 : List T_api_Account) (x21 : Bool) (v19 : Value) (o20 : List (Nat × Obj)) (l : List Value) (w : World), (J22 xs18 x21) → (OwnS rT_api_Account 34 g xs18 v19 o20) → Fits [some (v1), some (Value.agg (iaC .u8 p1.fAddress ++ ([Value.int .u64 p1.fNonce] ++ (iaC .u64 p1.fBalance ++ ([v2] ++ ([v3]))))).toArray), some (undef), some (Value.pointer (some ⟨n4, 0, none⟩)), some (Value.slice none 0 0), some (v19), some (Value.bool x21), some (Value.int .i64 x13), some (Value.slice (some ⟨n5, 0, none⟩) 0 0), some (v1), some (Value.int .i64 ((p0.length : Int))), some (Value.int .i64 x13), some (Value.bool (decide (x13 < (p0.length : Int)))), some (Value.int .i64 x13), some (Value.bool x12), some (Value.bool (!x12)), none, none, none, none, none, none, none, none, none, none, none, none, none, none, some (v1), some (Value.int .i64 x13), none, none, some (Value.agg (iaC .u8 ((nth p0 x13).fAddress)).toArray), some (Value.pointer (some ⟨n4, 0, none⟩)), some (Value.agg (iaC .u8 p1.fAddress).toArray), some (Value.bool (decide ((nth p0 x13).fAddress = p1.fAddress))), none, none, none, none, none, none, none, none, none, none, none, some ((j8 49)), some (undef), some (undef), some (undef), some (undef), some (undef), some (undef), some (undef)] l → St Non w0 w g ([(n4, .cells (iaC .u8 p1.fAddress ++ ([Value.int .u64 p1.fNonce] ++ (iaC .u64 p1.fBalance ++ ([v2] ++ ([v3]))))).toArray 34 (0, 0))] ++ (o20)) → K8 (F l) w := by
      rintro xs18 x21 v19 o20 _ w hp hsv19 hfit hst
      replace hp := hJ22 _ _ hp
      obtain ⟨jj17, rfl⟩ := hfit.ex
      refine hK8 _ _ ?_
      refine E.norm (l' := [v1, Value.agg (iaC .u8 p1.fAddress ++ ([Value.int .u64 p1.fNonce] ++ (iaC .u64 p1.fBalance ++ ([v2] ++ ([v3]))))).toArray, undef, Value.pointer (some ⟨n4, 0, none⟩), Value.slice none 0 0, v19, Value.bool x21, Value.int .i64 x13, Value.slice (some ⟨n5, 0, none⟩) 0 0, v1, Value.int .i64 ((p0.length : Int)), Value.int .i64 x13, Value.bool (decide (x13 < (p0.length : Int))), Value.int .i64 x13, Value.bool x12, Value.bool (!x12), (jj17 16), (jj17 17), (jj17 18), (jj17 19), (jj17 20), (jj17 21), (jj17 22), (jj17 23), (jj17 24), (jj17 25), (jj17 26), (jj17 27), (jj17 28), (jj17 29), v1, Value.int .i64 x13, (jj17 32), (jj17 33), Value.agg (iaC .u8 ((nth p0 x13).fAddress)).toArray, Value.pointer (some ⟨n4, 0, none⟩), Value.agg (iaC .u8 p1.fAddress).toArray, Value.bool (decide ((nth p0 x13).fAddress = p1.fAddress)), (jj17 38), (jj17 39), (jj17 40), (jj17 41), (jj17 42), (jj17 43), (jj17 44), (jj17 45), (jj17 46), (jj17 47), (jj17 48), (j8 49), undef, undef, undef, undef, undef, undef, undef]) rfl ?_
      refine rg ?_
      obtain ⟨ho23, hp⟩ := hp
      refine TL.add (x13 + 1) rfl rfl ⟨rfl, ho23⟩ rfl ?_
      refine TL.move (Value.int .i64 (x13 + 1)) rfl rfl ?_
      refine TL.nil ?_
      exact ⟨_, _, hp.2, rfl, xs18, x21, (x13 + 1), _, o20, rfl, hp.1, hsv19, (by first | (simp only [List.set_cons_succ, List.set_cons_zero]; exact .s rfl (.s rfl (.s rfl (.s rfl (.s rfl (.s rfl (.s rfl (.n (.s rfl (.s rfl (.s rfl (.s rfl (.n (.n (.n (.n (.n (.n (.n (.n (.n (.n (.n (.n (.n (.n (.n (.n (.n (.n (.n (.n (.n (.n (.n (.n (.n (.n (.n (.n (.n (.n (.n (.n (.n (.n (.n (.n (.n (.n (.s rfl (.s rfl (.s rfl (.s rfl (.s rfl (.s rfl (.s rfl (.z)))))))))))))))))))))))))))))))))))))))))))))))))))))))))) | exact .s rfl (.s rfl (.s rfl (.s rfl (.s rfl (.s rfl (.s rfl (.n (.s rfl (.s rfl (.s rfl (.s rfl (.n (.n (.n (.n (.n (.n (.n (.n (.n (.n (.n (.n (.n (.n (.n (.n (.n (.n (.n (.n (.n (.n (.n (.n (.n (.n (.n (.n (.n (.n (.n (.n (.n (.n (.n (.n (.n (.n (.s rfl (.s rfl (.s rfl (.s rfl (.s rfl (.s rfl (.s rfl (.z)))))))))))))))))))))))))))))))))))))))))))))))))))))))))), hst⟩
    refine wp_block ?_
    refine E.seq (fun K9 hK9 => ?_)
    refine rg ?_
    refine TL.move (Value.int .i64 x13) rfl rfl ?_
    refine TL.assign (Value.int .i64 x13) rfl rfl ?_
    refine TL.nil ?_
    refine hK9 _ _ ?_
    refine E.norm (by simp only [List.set_cons_succ, List.set_cons_zero]; rfl) ?_
    refine E.seq (fun K10 hK10 => ?_)
    obtain ⟨J29, hJ29, hp⟩ := hp
    have hJ29K : ∀ (xs25 : List T_api_Account) (x28 : Bool) (v26 : Value) (o27 : List (Nat × Obj)) (l : List Value) (w : World), (J29 xs25 x28) → (OwnS rT_api_Account 34 g xs25 v26 o27) → Fits [some (v1), some (Value.agg (iaC .u8 p1.fAddress ++ ([Value.int .u64 p1.fNonce] ++ (iaC .u64 p1.fBalance ++ ([v2] ++ ([v3]))))).toArray), some (undef), some (Value.pointer (some ⟨n4, 0, none⟩)), some (Value.slice none 0 0), some (v26), some (Value.bool x28), some (Value.int .i64 x13), some (Value.slice (some ⟨n5, 0, none⟩) 0 0), some (v1), some (Value.int .i64 ((p0.length : Int))), some (Value.int .i64 x13), some (Value.bool (decide (x13 < (p0.length : Int)))), some (Value.int .i64 x13), some (Value.bool x12), some (Value.bool (!x12)), none, none, none, none, none, none, none, none, none, none, none, none, none, none, some ((j8 30)), some ((j8 31)), some ((j8 32)), some ((j8 33)), some ((j8 34)), some ((j8 35)), some ((j8 36)), some ((j8 37)), some ((j8 38)), some ((j8 39)), some ((j8 40)), some ((j8 41)), some ((j8 42)), some ((j8 43)), some ((j8 44)), some ((j8 45)), some ((j8 46)), some ((j8 47)), some ((j8 48)), some ((j8 49)), some (undef), some (undef), some (undef), some (undef), some (undef), some (undef), some (undef)] l → St Non w0 w g ([(n4, .cells (iaC .u8 p1.fAddress ++ ([Value.int .u64 p1.fNonce] ++ (iaC .u64 p1.fBalance ++ ([v2] ++ ([v3]))))).toArray 34 (0, 0))] ++ (o27)) → K10 (F l) w := by
      rintro xs25 x28 v26 o27 _ w hp hsv26 hfit hst
      replace hp := hJ29 _ _ hp
      obtain ⟨jj24, rfl⟩ := hfit.ex
      refine hK10 _ _ ?_
      refine E.norm (l' := [v1, Value.agg (iaC .u8 p1.fAddress ++ ([Value.int .u64 p1.fNonce] ++ (iaC .u64 p1.fBalance ++ ([v2] ++ ([v3]))))).toArray, undef, Value.pointer (some ⟨n4, 0, none⟩), Value.slice none 0 0, v26, Value.bool x28, Value.int .i64 x13, Value.slice (some ⟨n5, 0, none⟩) 0 0, v1, Value.int .i64 ((p0.length : Int)), Value.int .i64 x13, Value.bool (decide (x13 < (p0.length : Int))), Value.int .i64 x13, Value.bool x12, Value.bool (!x12), (jj24 16), (jj24 17), (jj24 18), (jj24 19), (jj24 20), (jj24 21), (jj24 22), (jj24 23), (jj24 24), (jj24 25), (jj24 26), (jj24 27), (jj24 28), (jj24 29), (j8 30), (j8 31), (j8 32), (j8 33), (j8 34), (j8 35), (j8 36), (j8 37), (j8 38), (j8 39), (j8 40), (j8 41), (j8 42), (j8 43), (j8 44), (j8 45), (j8 46), (j8 47), (j8 48), (j8 49), undef, undef, undef, undef, undef, undef, undef]) rfl ?_
      refine E.seq (fun K11 hK11 => ?_)
      refine E.seq (fun K12 hK12 => ?_)
      refine rgD mixed #[0, 0, 3, 7, 15, 0, 32, 127] (by kernel_rfl) ?_
      replace hst := hst.drew
      refine TL.move (v1) rfl rfl ?_
      refine TL.move (Value.int .i64 x13) rfl rfl ?_
      obtain ⟨ho30, ho31, hp⟩ := hp
      refine TL.indexL (hv1) sl22 rfl rfl ho30 ho31 rfl ?_
      rintro b32 o33 _ ⟨v37, v38, rfl, hv37, hv38⟩ hq36
      refine TL.norm (by simp only [List.set_cons_succ, List.set_cons_zero]; rfl) ?_
      refine TL.fieldA (o33) fa34_0 rfl (by first | rfl | omega) rfl ?_
      refine TL.ldG b32 (o33 + (0)) (iaC .u8 ((nth p0 x13).fAddress)) (fun _ h => h ▸ hst) (hq36.sub (Seg.here _ _)) (ta28.of (by simp)) rfl rfl ?_
      refine TL.fieldA (0) fa34_0 rfl (by first | rfl | omega) rfl ?_
      refine TL.norm (by simp only [List.set_cons_succ, List.set_cons_zero]; rfl) ?_
      refine TL.ldL 0 n4 (0) (iaC .u8 p1.fAddress) (fun _ h => h ▸ hst) rfl (Seg.here _ _) (ta28.of (by simp)) rfl rfl ?_
      refine TL.eqlIA eqa28 rfl rfl rfl ?_
      refine TL.nil ?_
      refine hK12 _ _ ?_
      refine E.norm (by simp only [List.set_cons_succ, List.set_cons_zero]; rfl) ?_
      refine E.cond rfl (fun hc39 => ?_) (fun hc39 => ?_)
      · replace hp := hp.1 (of_decide_eq_true hc39)
        refine E.seq (fun K13 hK13 => ?_)
        refine rg ?_
        refine TL.move (v26) rfl rfl ?_
        refine TL.ldL 0 n4 (0) (iaC .u8 p1.fAddress ++ ([Value.int .u64 p1.fNonce] ++ (iaC .u64 p1.fBalance ++ ([v2] ++ ([v3]))))) (fun _ h => h ▸ hst) rfl (Seg.all _) (ta34.of (by simp)) rfl rfl ?_
        refine TL.buildSl [(Value.agg (iaC .u8 p1.fAddress ++ ([Value.int .u64 p1.fNonce] ++ (iaC .u64 p1.fBalance ++ ([v2] ++ ([v3]))))).toArray)] [(iaC .u8 p1.fAddress ++ ([Value.int .u64 p1.fNonce] ++ (iaC .u64 p1.fBalance ++ ([v2] ++ ([v3])))))] hst sl22 zv34 rfl rfl (by simp) rfl (by decide) rfl ?_
        intro w n40 hst
        refine ⟨trivial, ?_⟩
        refine TL.norm (by simp only [List.set_cons_succ, List.set_cons_zero]; rfl) ?_
        obtain ⟨ho41, hp⟩ := hp
        refine TL.pushL (ls := [(n40, .cells ([(iaC .u8 p1.fAddress ++ ([Value.int .u64 p1.fNonce] ++ (iaC .u64 p1.fBalance ++ ([v2] ++ ([v3])))))].flatten).toArray 34 (0, 0)), (n4, .cells (iaC .u8 p1.fAddress ++ ([Value.int .u64 p1.fNonce] ++ (iaC .u64 p1.fBalance ++ ([v2] ++ ([v3]))))).toArray 34 (0, 0))]) hst (List.Perm.refl _) ae22 (hsv26) (SrcAt.box hst rfl fun r hr => ((Rws.cons (⟨v2, v3, rfl, hv2, hv3⟩) (Rws.nil) : Rws rT_api_Account g ([p1]) _).ok r hr).1) (Rws.cons (⟨v2, v3, rfl, hv2, hv3⟩) (Rws.nil) : Rws rT_api_Account g ([p1]) _) ho41 rfl rfl rfl ?_
        intro w v42 o43 hsv42 hst
        replace hst := hst.sub (.cons _ (.cons_cons _ (List.Sublist.refl _)))
        change St Non _ _ _ ([(n4, .cells (iaC .u8 p1.fAddress ++ ([Value.int .u64 p1.fNonce] ++ (iaC .u64 p1.fBalance ++ ([v2] ++ ([v3]))))).toArray 34 (0, 0))] ++ (o43)) at hst
        refine ⟨trivial, ?_⟩
        refine TL.assign (v42) rfl rfl ?_
        refine TL.nil ?_
        refine hK13 _ _ ?_
        refine E.norm (by simp only [List.set_cons_succ, List.set_cons_zero]; rfl) ?_
        refine E.seq (fun K14 hK14 => ?_)
        refine rg ?_
        refine TL.assign (Value.bool true) rfl rfl ?_
        refine TL.nil ?_
        refine hK14 _ _ ?_
        refine E.norm (by simp only [List.set_cons_succ, List.set_cons_zero]; rfl) ?_
        refine wp_exit ?_
        refine hJ22K (xs25 ++ ([p1])) true _ o43 _ _ hp (hsv42) (by first | (simp only [List.set_cons_succ, List.set_cons_zero]; exact .s rfl (.s rfl (.s rfl (.s rfl (.s rfl (.s rfl (.s rfl (.s rfl (.s rfl (.s rfl (.s rfl (.s rfl (.s rfl (.s rfl (.s rfl (.s rfl (.n (.n (.n (.n (.n (.n (.n (.n (.n (.n (.n (.n (.n (.n (.s rfl (.s rfl (.n (.n (.s rfl (.s rfl (.s rfl (.s rfl (.n (.n (.n (.n (.n (.n (.n (.n (.n (.n (.n (.s rfl (.s rfl (.s rfl (.s rfl (.s rfl (.s rfl (.s rfl (.s rfl (.z)))))))))))))))))))))))))))))))))))))))))))))))))))))))))) | exact .s rfl (.s rfl (.s rfl (.s rfl (.s rfl (.s rfl (.s rfl (.s rfl (.s rfl (.s rfl (.s rfl (.s rfl (.s rfl (.s rfl (.s rfl (.s rfl (.n (.n (.n (.n (.n (.n (.n (.n (.n (.n (.n (.n (.n (.n (.s rfl (.s rfl (.n (.n (.s rfl (.s rfl (.s rfl (.s rfl (.n (.n (.n (.n (.n (.n (.n (.n (.n (.n (.n (.s rfl (.s rfl (.s rfl (.s rfl (.s rfl (.s rfl (.s rfl (.s rfl (.z)))))))))))))))))))))))))))))))))))))))))))))))))))))))))) (hst)
      · replace hp := hp.2 (of_decide_eq_false hc39)
        refine wp_skip ?_
        refine hK11 _ _ ?_
        refine rg ?_
        refine TL.move (v26) rfl rfl ?_
        refine TL.move (v1) rfl rfl ?_
        refine TL.move (Value.int .i64 x13) rfl rfl ?_
        refine TL.norm (by simp only [List.set_cons_succ, List.set_cons_zero]; rfl) ?_
        obtain ⟨ho44, ho45, hp⟩ := hp
        refine TL.indexL (hv1) sl22 rfl rfl ho44 ho45 rfl ?_
        rintro b46 o47 _ ⟨v51, v52, rfl, hv51, hv52⟩ hq50
        refine TL.ldG b46 (o47 + (0)) (iaC .u8 ((nth p0 x13).fAddress) ++ ([Value.int .u64 ((nth p0 x13).fNonce)] ++ (iaC .u64 ((nth p0 x13).fBalance) ++ ([v51] ++ ([v52]))))) (fun _ h => h ▸ hst) (hq50.sub (Seg.all _)) (ta34.of (by simp)) rfl rfl ?_
        refine TL.buildSl [(Value.agg (iaC .u8 ((nth p0 x13).fAddress) ++ ([Value.int .u64 ((nth p0 x13).fNonce)] ++ (iaC .u64 ((nth p0 x13).fBalance) ++ ([v51] ++ ([v52]))))).toArray)] [(iaC .u8 ((nth p0 x13).fAddress) ++ ([Value.int .u64 ((nth p0 x13).fNonce)] ++ (iaC .u64 ((nth p0 x13).fBalance) ++ ([v51] ++ ([v52])))))] hst sl22 zv34 rfl rfl (by simp) rfl (by decide) rfl ?_
        intro w n53 hst
        refine ⟨trivial, ?_⟩
        refine TL.norm (by simp only [List.set_cons_succ, List.set_cons_zero]; rfl) ?_
        obtain ⟨ho54, hp⟩ := hp
        refine TL.pushL (ls := [(n53, .cells ([(iaC .u8 ((nth p0 x13).fAddress) ++ ([Value.int .u64 ((nth p0 x13).fNonce)] ++ (iaC .u64 ((nth p0 x13).fBalance) ++ ([v51] ++ ([v52])))))].flatten).toArray 34 (0, 0)), (n4, .cells (iaC .u8 p1.fAddress ++ ([Value.int .u64 p1.fNonce] ++ (iaC .u64 p1.fBalance ++ ([v2] ++ ([v3]))))).toArray 34 (0, 0))]) hst (List.Perm.refl _) ae22 (hsv26) (SrcAt.box hst rfl fun r hr => ((Rws.cons (⟨v51, v52, rfl, hv51, hv52⟩) (Rws.nil) : Rws rT_api_Account g ([(nth p0 x13)]) _).ok r hr).1) (Rws.cons (⟨v51, v52, rfl, hv51, hv52⟩) (Rws.nil) : Rws rT_api_Account g ([(nth p0 x13)]) _) ho54 rfl rfl rfl ?_
        intro w v55 o56 hsv55 hst
        replace hst := hst.sub (.cons _ (.cons_cons _ (List.Sublist.refl _)))
        change St Non _ _ _ ([(n4, .cells (iaC .u8 p1.fAddress ++ ([Value.int .u64 p1.fNonce] ++ (iaC .u64 p1.fBalance ++ ([v2] ++ ([v3]))))).toArray 34 (0, 0))] ++ (o56)) at hst
        refine ⟨trivial, ?_⟩
        refine TL.assign (v55) rfl rfl ?_
        refine TL.nil ?_
        refine hJ22K (xs25 ++ ([(nth p0 x13)])) x28 _ o56 _ _ hp (hsv55) (by first | (simp only [List.set_cons_succ, List.set_cons_zero]; exact .s rfl (.s rfl (.s rfl (.s rfl (.s rfl (.s rfl (.s rfl (.s rfl (.s rfl (.s rfl (.s rfl (.s rfl (.s rfl (.s rfl (.s rfl (.s rfl (.n (.n (.n (.n (.n (.n (.n (.n (.n (.n (.n (.n (.n (.n (.s rfl (.s rfl (.n (.n (.s rfl (.s rfl (.s rfl (.s rfl (.n (.n (.n (.n (.n (.n (.n (.n (.n (.n (.n (.s rfl (.s rfl (.s rfl (.s rfl (.s rfl (.s rfl (.s rfl (.s rfl (.z)))))))))))))))))))))))))))))))))))))))))))))))))))))))))) | exact .s rfl (.s rfl (.s rfl (.s rfl (.s rfl (.s rfl (.s rfl (.s rfl (.s rfl (.s rfl (.s rfl (.s rfl (.s rfl (.s rfl (.s rfl (.s rfl (.n (.n (.n (.n (.n (.n (.n (.n (.n (.n (.n (.n (.n (.n (.s rfl (.s rfl (.n (.n (.s rfl (.s rfl (.s rfl (.s rfl (.n (.n (.n (.n (.n (.n (.n (.n (.n (.n (.n (.s rfl (.s rfl (.s rfl (.s rfl (.s rfl (.s rfl (.s rfl (.s rfl (.z)))))))))))))))))))))))))))))))))))))))))))))))))))))))))) (hst)
    refine E.seq (fun K15 hK15 => ?_)
    refine rgD mixed #[0, 1, 3, 7, 15, 7, 7, 103, 231, 487, 1023, 2047] (by kernel_rfl) ?_
    replace hst := hst.drew
    refine TL.move (Value.bool x12) rfl rfl ?_
    refine TL.notB rfl rfl ?_
    refine TL.move (Value.bool (!x12)) rfl rfl ?_
    refine TL.norm (by simp only [List.set_cons_succ, List.set_cons_zero]; rfl) ?_
    refine TL.case 16 (!x12) rfl (fun hc57 => ?_) (fun hc57 => ?_)
    · replace hp := hp.1 ((notT hc57))
      refine TL.norm (by simp only [List.set_cons_succ, List.set_cons_zero]; rfl) ?_
      refine TL.fieldA (0) fa34_0 rfl (by first | rfl | omega) rfl ?_
      refine TL.ldL 0 n4 (0) (iaC .u8 p1.fAddress) (fun _ h => h ▸ hst) rfl (Seg.here _ _) (ta28.of (by simp)) rfl rfl ?_
      refine TL.move (v1) rfl rfl ?_
      refine TL.norm (by simp only [List.set_cons_succ, List.set_cons_zero]; rfl) ?_
      refine TL.move (Value.int .i64 x13) rfl rfl ?_
      obtain ⟨ho58, ho59, hp⟩ := hp
      refine TL.indexL (hv1) sl22 rfl rfl ho58 ho59 rfl ?_
      rintro b60 o61 _ ⟨v65, v66, rfl, hv65, hv66⟩ hq64
      refine TL.fieldA (o61) fa34_0 rfl (by first | rfl | omega) rfl ?_
      refine TL.norm (by simp only [List.set_cons_succ, List.set_cons_zero]; rfl) ?_
      refine TL.ldG b60 (o61 + (0)) (iaC .u8 ((nth p0 x13).fAddress)) (fun _ h => h ▸ hst) (hq64.sub (Seg.here _ _)) (ta28.of (by simp)) rfl rfl ?_
      refine TL.callS #[Value.agg (iaC .u8 p1.fAddress).toArray, Value.agg (iaC .u8 ((nth p0 x13).fAddress)).toArray] co111 rfl (w_smithyref08_Less p1.fAddress ((nth p0 x13).fAddress) g _ hst.has _ hp) rfl ?_
      rintro _ w ⟨hk, r67, hp, rfl⟩
      replace hst := hst.call hk
      refine ⟨trivial, ?_⟩
      refine TL.pick (Value.bool r67) rfl rfl rfl ?_
      refine TL.norm (by simp only [List.set_cons_succ, List.set_cons_zero]; rfl) ?_
      refine TL.nil ?_
      refine hK15 _ _ ?_
      refine E.cond rfl (fun hc68 => ?_) (fun hc68 => ?_)
      · replace hp := hp.1 (hc68)
        refine E.seq (fun K16 hK16 => ?_)
        refine rg ?_
        refine TL.move (v10) rfl rfl ?_
        refine TL.ldL 0 n4 (0) (iaC .u8 p1.fAddress ++ ([Value.int .u64 p1.fNonce] ++ (iaC .u64 p1.fBalance ++ ([v2] ++ ([v3]))))) (fun _ h => h ▸ hst) rfl (Seg.all _) (ta34.of (by simp)) rfl rfl ?_
        refine TL.buildSl [(Value.agg (iaC .u8 p1.fAddress ++ ([Value.int .u64 p1.fNonce] ++ (iaC .u64 p1.fBalance ++ ([v2] ++ ([v3]))))).toArray)] [(iaC .u8 p1.fAddress ++ ([Value.int .u64 p1.fNonce] ++ (iaC .u64 p1.fBalance ++ ([v2] ++ ([v3])))))] hst sl22 zv34 rfl rfl (by simp) rfl (by decide) rfl ?_
        intro w n69 hst
        refine ⟨trivial, ?_⟩
        refine TL.norm (by simp only [List.set_cons_succ, List.set_cons_zero]; rfl) ?_
        obtain ⟨ho70, hp⟩ := hp
        refine TL.pushL (ls := [(n69, .cells ([(iaC .u8 p1.fAddress ++ ([Value.int .u64 p1.fNonce] ++ (iaC .u64 p1.fBalance ++ ([v2] ++ ([v3])))))].flatten).toArray 34 (0, 0)), (n4, .cells (iaC .u8 p1.fAddress ++ ([Value.int .u64 p1.fNonce] ++ (iaC .u64 p1.fBalance ++ ([v2] ++ ([v3]))))).toArray 34 (0, 0))]) hst (List.Perm.refl _) ae22 (hsv10) (SrcAt.box hst rfl fun r hr => ((Rws.cons (⟨v2, v3, rfl, hv2, hv3⟩) (Rws.nil) : Rws rT_api_Account g ([p1]) _).ok r hr).1) (Rws.cons (⟨v2, v3, rfl, hv2, hv3⟩) (Rws.nil) : Rws rT_api_Account g ([p1]) _) ho70 rfl rfl rfl ?_
        intro w v71 o72 hsv71 hst
        replace hst := hst.sub (.cons _ (.cons_cons _ (List.Sublist.refl _)))
        change St Non _ _ _ ([(n4, .cells (iaC .u8 p1.fAddress ++ ([Value.int .u64 p1.fNonce] ++ (iaC .u64 p1.fBalance ++ ([v2] ++ ([v3]))))).toArray 34 (0, 0))] ++ (o72)) at hst
        refine ⟨trivial, ?_⟩
        refine TL.assign (v71) rfl rfl ?_
        refine TL.nil ?_
        refine hK16 _ _ ?_
        refine E.norm (by simp only [List.set_cons_succ, List.set_cons_zero]; rfl) ?_
        refine rg ?_
        refine TL.assign (Value.bool true) rfl rfl ?_
        refine TL.nil ?_
        refine hJ29K (xs9 ++ ([p1])) true _ o72 _ _ hp (hsv71) (by first | (simp only [List.set_cons_succ, List.set_cons_zero]; exact .s rfl (.s rfl (.s rfl (.s rfl (.s rfl (.s rfl (.s rfl (.s rfl (.s rfl (.s rfl (.s rfl (.s rfl (.s rfl (.s rfl (.s rfl (.s rfl (.n (.n (.n (.n (.n (.n (.n (.n (.n (.n (.n (.n (.n (.n (.s rfl (.s rfl (.s rfl (.s rfl (.s rfl (.s rfl (.s rfl (.s rfl (.s rfl (.s rfl (.s rfl (.s rfl (.s rfl (.s rfl (.s rfl (.s rfl (.s rfl (.s rfl (.s rfl (.s rfl (.s rfl (.s rfl (.s rfl (.s rfl (.s rfl (.s rfl (.s rfl (.z)))))))))))))))))))))))))))))))))))))))))))))))))))))))))) | exact .s rfl (.s rfl (.s rfl (.s rfl (.s rfl (.s rfl (.s rfl (.s rfl (.s rfl (.s rfl (.s rfl (.s rfl (.s rfl (.s rfl (.s rfl (.s rfl (.n (.n (.n (.n (.n (.n (.n (.n (.n (.n (.n (.n (.n (.n (.s rfl (.s rfl (.s rfl (.s rfl (.s rfl (.s rfl (.s rfl (.s rfl (.s rfl (.s rfl (.s rfl (.s rfl (.s rfl (.s rfl (.s rfl (.s rfl (.s rfl (.s rfl (.s rfl (.s rfl (.s rfl (.s rfl (.s rfl (.s rfl (.s rfl (.s rfl (.s rfl (.z)))))))))))))))))))))))))))))))))))))))))))))))))))))))))) (hst)
      · replace hp := hp.2 (hc68)
        refine wp_skip ?_
        refine hJ29K xs9 x12 _ o11 _ _ hp (hsv10) (by first | (simp only [List.set_cons_succ, List.set_cons_zero]; exact .s rfl (.s rfl (.s rfl (.s rfl (.s rfl (.s rfl (.s rfl (.s rfl (.s rfl (.s rfl (.s rfl (.s rfl (.s rfl (.s rfl (.s rfl (.s rfl (.n (.n (.n (.n (.n (.n (.n (.n (.n (.n (.n (.n (.n (.n (.s rfl (.s rfl (.s rfl (.s rfl (.s rfl (.s rfl (.s rfl (.s rfl (.s rfl (.s rfl (.s rfl (.s rfl (.s rfl (.s rfl (.s rfl (.s rfl (.s rfl (.s rfl (.s rfl (.s rfl (.s rfl (.s rfl (.s rfl (.s rfl (.s rfl (.s rfl (.s rfl (.z)))))))))))))))))))))))))))))))))))))))))))))))))))))))))) | exact .s rfl (.s rfl (.s rfl (.s rfl (.s rfl (.s rfl (.s rfl (.s rfl (.s rfl (.s rfl (.s rfl (.s rfl (.s rfl (.s rfl (.s rfl (.s rfl (.n (.n (.n (.n (.n (.n (.n (.n (.n (.n (.n (.n (.n (.n (.s rfl (.s rfl (.s rfl (.s rfl (.s rfl (.s rfl (.s rfl (.s rfl (.s rfl (.s rfl (.s rfl (.s rfl (.s rfl (.s rfl (.s rfl (.s rfl (.s rfl (.s rfl (.s rfl (.s rfl (.s rfl (.s rfl (.s rfl (.s rfl (.s rfl (.s rfl (.s rfl (.z)))))))))))))))))))))))))))))))))))))))))))))))))))))))))) (hst)
    · replace hp := hp.2 ((notF hc57))
      refine TL.norm (by simp only [List.set_cons_succ, List.set_cons_zero]; rfl) ?_
      refine TL.noF trivial rfl ?_
      refine TL.noF trivial rfl ?_
      refine TL.noF trivial rfl ?_
      refine TL.norm (by simp only [List.set_cons_succ, List.set_cons_zero]; rfl) ?_
      refine TL.noF trivial rfl ?_
      refine TL.noF trivial rfl ?_
      refine TL.noF trivial rfl ?_
      refine TL.norm (by simp only [List.set_cons_succ, List.set_cons_zero]; rfl) ?_
      refine TL.noF trivial rfl ?_
      refine TL.noF trivial rfl ?_
      refine TL.pick (Value.bool false) rfl rfl rfl ?_
      refine TL.norm (by simp only [List.set_cons_succ, List.set_cons_zero]; rfl) ?_
      refine TL.nil ?_
      refine hK15 _ _ ?_
      refine E.condF rfl ?_
      refine wp_skip ?_
      refine hJ29K xs9 x12 _ o11 _ _ hp (hsv10) (by first | (simp only [List.set_cons_succ, List.set_cons_zero]; exact .s rfl (.s rfl (.s rfl (.s rfl (.s rfl (.s rfl (.s rfl (.s rfl (.s rfl (.s rfl (.s rfl (.s rfl (.s rfl (.s rfl (.s rfl (.s rfl (.n (.n (.n (.n (.n (.n (.n (.n (.n (.n (.n (.n (.n (.n (.s rfl (.s rfl (.s rfl (.s rfl (.s rfl (.s rfl (.s rfl (.s rfl (.s rfl (.s rfl (.s rfl (.s rfl (.s rfl (.s rfl (.s rfl (.s rfl (.s rfl (.s rfl (.s rfl (.s rfl (.s rfl (.s rfl (.s rfl (.s rfl (.s rfl (.s rfl (.s rfl (.z)))))))))))))))))))))))))))))))))))))))))))))))))))))))))) | exact .s rfl (.s rfl (.s rfl (.s rfl (.s rfl (.s rfl (.s rfl (.s rfl (.s rfl (.s rfl (.s rfl (.s rfl (.s rfl (.s rfl (.s rfl (.s rfl (.n (.n (.n (.n (.n (.n (.n (.n (.n (.n (.n (.n (.n (.n (.s rfl (.s rfl (.s rfl (.s rfl (.s rfl (.s rfl (.s rfl (.s rfl (.s rfl (.s rfl (.s rfl (.s rfl (.s rfl (.s rfl (.s rfl (.s rfl (.s rfl (.s rfl (.s rfl (.s rfl (.s rfl (.s rfl (.s rfl (.s rfl (.s rfl (.s rfl (.s rfl (.z)))))))))))))))))))))))))))))))))))))))))))))))))))))))))) (hst)
  · replace hp := hp.2 (of_decide_eq_false hc16)
    refine wp_exit ?_
    refine hK4 _ _ ?_
    refine E.seq (fun K17 hK17 => ?_)
    obtain ⟨J77, hJ77, hp⟩ := hp
    have hJ77K : ∀ (xs74 : List T_api_Account) (v75 : Value) (o76 : List (Nat × Obj)) (l : List Value) (w : World), (J77 xs74) → (OwnS rT_api_Account 34 g xs74 v75 o76) → Fits [some (v1), some (Value.agg (iaC .u8 p1.fAddress ++ ([Value.int .u64 p1.fNonce] ++ (iaC .u64 p1.fBalance ++ ([v2] ++ ([v3]))))).toArray), some (undef), some (Value.pointer (some ⟨n4, 0, none⟩)), some (Value.slice none 0 0), some (v75), some (Value.bool x12), some ((j8 7)), some (Value.slice (some ⟨n5, 0, none⟩) 0 0), some (v1), some (Value.int .i64 ((p0.length : Int))), some (Value.int .i64 x13), some (Value.bool (decide (x13 < (p0.length : Int)))), some ((j8 13)), some ((j8 14)), some ((j8 15)), some ((j8 16)), some ((j8 17)), some ((j8 18)), some ((j8 19)), some ((j8 20)), some ((j8 21)), some ((j8 22)), some ((j8 23)), some ((j8 24)), some ((j8 25)), some ((j8 26)), some ((j8 27)), some ((j8 28)), some ((j8 29)), some ((j8 30)), some ((j8 31)), some ((j8 32)), some ((j8 33)), some ((j8 34)), some ((j8 35)), some ((j8 36)), some ((j8 37)), some ((j8 38)), some ((j8 39)), some ((j8 40)), some ((j8 41)), some ((j8 42)), some ((j8 43)), some ((j8 44)), some ((j8 45)), some ((j8 46)), some ((j8 47)), some ((j8 48)), some ((j8 49)), some (Value.bool x12), some (Value.bool (!x12)), none, none, none, none, some (undef)] l → St Non w0 w g ([] ++ (o76)) → K17 (F l) w := by
      rintro xs74 v75 o76 _ w hp hsv75 hfit hst
      replace hp := hJ77 _ hp
      obtain ⟨jj73, rfl⟩ := hfit.ex
      refine hK17 _ _ ?_
      refine E.norm (l' := [v1, Value.agg (iaC .u8 p1.fAddress ++ ([Value.int .u64 p1.fNonce] ++ (iaC .u64 p1.fBalance ++ ([v2] ++ ([v3]))))).toArray, undef, Value.pointer (some ⟨n4, 0, none⟩), Value.slice none 0 0, v75, Value.bool x12, (j8 7), Value.slice (some ⟨n5, 0, none⟩) 0 0, v1, Value.int .i64 ((p0.length : Int)), Value.int .i64 x13, Value.bool (decide (x13 < (p0.length : Int))), (j8 13), (j8 14), (j8 15), (j8 16), (j8 17), (j8 18), (j8 19), (j8 20), (j8 21), (j8 22), (j8 23), (j8 24), (j8 25), (j8 26), (j8 27), (j8 28), (j8 29), (j8 30), (j8 31), (j8 32), (j8 33), (j8 34), (j8 35), (j8 36), (j8 37), (j8 38), (j8 39), (j8 40), (j8 41), (j8 42), (j8 43), (j8 44), (j8 45), (j8 46), (j8 47), (j8 48), (j8 49), Value.bool x12, Value.bool (!x12), (jj73 52), (jj73 53), (jj73 54), (jj73 55), undef]) rfl ?_
      refine E.seq (fun K18 hK18 => ?_)
      refine rg ?_
      refine TL.move (v75) rfl rfl ?_
      refine TL.assign (v75) rfl rfl ?_
      refine TL.nil ?_
      refine hK18 _ _ ?_
      refine E.norm (by simp only [List.set_cons_succ, List.set_cons_zero]; rfl) ?_
      refine wp_ret ?_
      obtain ⟨g78, hleg78, hst, hsg78, hgn0⟩ := hst.freezeS (ls := []) (List.Perm.refl _) hsv75 hgn0
      replace hle0 := Gh.le_trans hle0 hleg78
      refine E.ret _ (Rs.t (v75) rfl rfl) ?_
      exact ⟨g78, ⟨hst.keep, hst.has, hle0, hgn0.new⟩, xs74, hp, _, rfl, hsg78⟩
    refine E.seq (fun K19 hK19 => ?_)
    refine rg ?_
    refine TL.move (Value.bool x12) rfl rfl ?_
    refine TL.notB rfl rfl ?_
    refine TL.nil ?_
    refine hK19 _ _ ?_
    refine E.norm (by simp only [List.set_cons_succ, List.set_cons_zero]; rfl) ?_
    refine E.cond rfl (fun hc79 => ?_) (fun hc79 => ?_)
    · replace hp := hp.1 ((notT hc79))
      refine rg ?_
      refine TL.move (v10) rfl rfl ?_
      refine TL.ldL 0 n4 (0) (iaC .u8 p1.fAddress ++ ([Value.int .u64 p1.fNonce] ++ (iaC .u64 p1.fBalance ++ ([v2] ++ ([v3]))))) (fun _ h => h ▸ hst) rfl (Seg.all _) (ta34.of (by simp)) rfl rfl ?_
      refine TL.buildSl [(Value.agg (iaC .u8 p1.fAddress ++ ([Value.int .u64 p1.fNonce] ++ (iaC .u64 p1.fBalance ++ ([v2] ++ ([v3]))))).toArray)] [(iaC .u8 p1.fAddress ++ ([Value.int .u64 p1.fNonce] ++ (iaC .u64 p1.fBalance ++ ([v2] ++ ([v3])))))] hst sl22 zv34 rfl rfl (by simp) rfl (by decide) rfl ?_
      intro w n80 hst
      refine ⟨trivial, ?_⟩
      refine TL.norm (by simp only [List.set_cons_succ, List.set_cons_zero]; rfl) ?_
      obtain ⟨ho81, hp⟩ := hp
      refine TL.pushL (ls := [(n80, .cells ([(iaC .u8 p1.fAddress ++ ([Value.int .u64 p1.fNonce] ++ (iaC .u64 p1.fBalance ++ ([v2] ++ ([v3])))))].flatten).toArray 34 (0, 0)), (n4, .cells (iaC .u8 p1.fAddress ++ ([Value.int .u64 p1.fNonce] ++ (iaC .u64 p1.fBalance ++ ([v2] ++ ([v3]))))).toArray 34 (0, 0))]) hst (List.Perm.refl _) ae22 (hsv10) (SrcAt.box hst rfl fun r hr => ((Rws.cons (⟨v2, v3, rfl, hv2, hv3⟩) (Rws.nil) : Rws rT_api_Account g ([p1]) _).ok r hr).1) (Rws.cons (⟨v2, v3, rfl, hv2, hv3⟩) (Rws.nil) : Rws rT_api_Account g ([p1]) _) ho81 rfl rfl rfl ?_
      intro w v82 o83 hsv82 hst
      replace hst := hst.sub (.cons _ (.cons_cons _ (List.Sublist.refl _)))
      change St Non _ _ _ ([(n4, .cells (iaC .u8 p1.fAddress ++ ([Value.int .u64 p1.fNonce] ++ (iaC .u64 p1.fBalance ++ ([v2] ++ ([v3]))))).toArray 34 (0, 0))] ++ (o83)) at hst
      refine ⟨trivial, ?_⟩
      refine TL.assign (v82) rfl rfl ?_
      refine TL.nil ?_
      refine hJ77K (xs9 ++ ([p1])) _ o83 _ _ hp (hsv82) (by first | (simp only [List.set_cons_succ, List.set_cons_zero]; exact .s rfl (.s rfl (.s rfl (.s rfl (.s rfl (.s rfl (.s rfl (.s rfl (.s rfl (.s rfl (.s rfl (.s rfl (.s rfl (.s rfl (.s rfl (.s rfl (.s rfl (.s rfl (.s rfl (.s rfl (.s rfl (.s rfl (.s rfl (.s rfl (.s rfl (.s rfl (.s rfl (.s rfl (.s rfl (.s rfl (.s rfl (.s rfl (.s rfl (.s rfl (.s rfl (.s rfl (.s rfl (.s rfl (.s rfl (.s rfl (.s rfl (.s rfl (.s rfl (.s rfl (.s rfl (.s rfl (.s rfl (.s rfl (.s rfl (.s rfl (.s rfl (.s rfl (.n (.n (.n (.n (.s rfl (.z)))))))))))))))))))))))))))))))))))))))))))))))))))))))))) | exact .s rfl (.s rfl (.s rfl (.s rfl (.s rfl (.s rfl (.s rfl (.s rfl (.s rfl (.s rfl (.s rfl (.s rfl (.s rfl (.s rfl (.s rfl (.s rfl (.s rfl (.s rfl (.s rfl (.s rfl (.s rfl (.s rfl (.s rfl (.s rfl (.s rfl (.s rfl (.s rfl (.s rfl (.s rfl (.s rfl (.s rfl (.s rfl (.s rfl (.s rfl (.s rfl (.s rfl (.s rfl (.s rfl (.s rfl (.s rfl (.s rfl (.s rfl (.s rfl (.s rfl (.s rfl (.s rfl (.s rfl (.s rfl (.s rfl (.s rfl (.s rfl (.s rfl (.n (.n (.n (.n (.s rfl (.z)))))))))))))))))))))))))))))))))))))))))))))))))))))))))) (hst.sub (.cons _ (List.Sublist.refl _)))
    · replace hp := hp.2 ((notF hc79))
      refine wp_skip ?_
      refine hJ77K xs9 _ o11 _ _ hp (hsv10) (by first | (simp only [List.set_cons_succ, List.set_cons_zero]; exact .s rfl (.s rfl (.s rfl (.s rfl (.s rfl (.s rfl (.s rfl (.s rfl (.s rfl (.s rfl (.s rfl (.s rfl (.s rfl (.s rfl (.s rfl (.s rfl (.s rfl (.s rfl (.s rfl (.s rfl (.s rfl (.s rfl (.s rfl (.s rfl (.s rfl (.s rfl (.s rfl (.s rfl (.s rfl (.s rfl (.s rfl (.s rfl (.s rfl (.s rfl (.s rfl (.s rfl (.s rfl (.s rfl (.s rfl (.s rfl (.s rfl (.s rfl (.s rfl (.s rfl (.s rfl (.s rfl (.s rfl (.s rfl (.s rfl (.s rfl (.s rfl (.s rfl (.n (.n (.n (.n (.s rfl (.z)))))))))))))))))))))))))))))))))))))))))))))))))))))))))) | exact .s rfl (.s rfl (.s rfl (.s rfl (.s rfl (.s rfl (.s rfl (.s rfl (.s rfl (.s rfl (.s rfl (.s rfl (.s rfl (.s rfl (.s rfl (.s rfl (.s rfl (.s rfl (.s rfl (.s rfl (.s rfl (.s rfl (.s rfl (.s rfl (.s rfl (.s rfl (.s rfl (.s rfl (.s rfl (.s rfl (.s rfl (.s rfl (.s rfl (.s rfl (.s rfl (.s rfl (.s rfl (.s rfl (.s rfl (.s rfl (.s rfl (.s rfl (.s rfl (.s rfl (.s rfl (.s rfl (.s rfl (.s rfl (.s rfl (.s rfl (.s rfl (.s rfl (.n (.n (.n (.n (.s rfl (.z)))))))))))))))))))))))))))))))))))))))))))))))))))))))))) (hst.sub (.cons _ (List.Sublist.refl _)))

def smithyref13_Same (p0 : T_api_Account) (p1 : T_api_Account) (Q : Bool → Prop) : Prop :=
  ((p0.fAddress ≠ p1.fAddress) → (Q false)) ∧ ((¬ (p0.fAddress ≠ p1.fAddress)) → (((p0.fNonce ≠ p1.fNonce) → (Q false)) ∧ ((¬ (p0.fNonce ≠ p1.fNonce)) → (((p0.fBalance ≠ p1.fBalance) → (Q false)) ∧ ((¬ (p0.fBalance ≠ p1.fBalance)) → (((bstr p0.fCode ≠ bstr p1.fCode) → (Q false)) ∧ ((¬ (bstr p0.fCode ≠ bstr p1.fCode)) → ((((p0.fStorage.length : Int) ≠ (p1.fStorage.length : Int)) → (Q false)) ∧ ((¬ ((p0.fStorage.length : Int) ≠ (p1.fStorage.length : Int))) → (∃ (I14 : Int → Prop) (m15 : Int → Nat), (I14 0) ∧ ∀ (x13 : Int), (I14 x13 → (((x13 < (p0.fStorage.length : Int)) → ((0 ≤ x13) ∧ (x13 < (p0.fStorage.length : Int)) ∧ ((0 ≤ x13) ∧ (x13 < (p1.fStorage.length : Int)) ∧ ((((nth p0.fStorage x13) ≠ (nth p1.fStorage x13)) → (Q false)) ∧ ((¬ ((nth p0.fStorage x13) ≠ (nth p1.fStorage x13))) → ((inR .i64 (x13 + 1)) ∧ (I14 (x13 + 1) ∧ m15 (x13 + 1) < m15 x13))))))) ∧ ((¬ (x13 < (p0.fStorage.length : Int))) → (Q true))))))))))))))
theorem w_smithyref13_Same (p0 : T_api_Account) (p1 : T_api_Account) (v1 : Value) (v2 : Value) (v3 : Value) (v4 : Value) (g : Gh) (w0 : World) (hg : Has w0 g) (hv1 : Sl (rtI .u8) g p0.fCode v1) (hv2 : Sl rT_api_Slot g p0.fStorage v2) (hv3 : Sl (rtI .u8) g p1.fCode v3) (hv4 : Sl rT_api_Slot g p1.fStorage v4) (Q : Bool → Prop) (hp : smithyref13_Same p0 p1 Q) : Calls Try.prog 22 #[Value.agg (iaC .u8 p0.fAddress ++ ([Value.int .u64 p0.fNonce] ++ (iaC .u64 p0.fBalance ++ ([v1] ++ ([v2]))))).toArray, Value.agg (iaC .u8 p1.fAddress ++ ([Value.int .u64 p1.fNonce] ++ (iaC .u64 p1.fBalance ++ ([v3] ++ ([v4]))))).toArray] w0 (Ret fun u w => Keep Non w0 w ∧ ∃ (r1 : Bool), Q r1 ∧ u = Value.bool r1) := by
  unfold smithyref13_Same at hp
  go_enter Try.func22, Try.ntmps22
  change Code.wp _ _ _ (F [Value.agg (iaC .u8 p0.fAddress ++ ([Value.int .u64 p0.fNonce] ++ (iaC .u64 p0.fBalance ++ ([v1] ++ ([v2]))))).toArray, Value.agg (iaC .u8 p1.fAddress ++ ([Value.int .u64 p1.fNonce] ++ (iaC .u64 p1.fBalance ++ ([v3] ++ ([v4]))))).toArray, undef, undef, undef, undef, undef, undef, undef, undef, undef, undef, undef, undef, undef, undef, undef, undef, undef, undef, undef, undef, undef, undef, undef, undef, undef, undef, undef, undef, undef, undef, undef, undef, undef, undef, undef, undef, undef, undef, undef, undef, undef, undef, undef, undef, undef, undef, undef, undef, undef, undef, undef, undef, undef, undef, undef, undef, undef, undef, undef]) _
  have hst := St.start Non hg
  have hgn0 : GN Non w0 g g := GN.refl _ _ _
  have hle0 : g.le g := Gh.le_refl _
  refine E.seq (fun K1 hK1 => ?_)
  refine rg ?_
  refine TL.box (vs := iaC .u8 p0.fAddress ++ ([Value.int .u64 p0.fNonce] ++ (iaC .u64 p0.fBalance ++ ([v1] ++ ([v2]))))) hst rfl rfl ?_
  intro w n5 hst
  refine ⟨trivial, ?_⟩
  refine TL.box (vs := iaC .u8 p1.fAddress ++ ([Value.int .u64 p1.fNonce] ++ (iaC .u64 p1.fBalance ++ ([v3] ++ ([v4]))))) hst rfl rfl ?_
  intro w n6 hst
  refine ⟨trivial, ?_⟩
  refine TL.assign (Value.bool false) rfl rfl ?_
  refine TL.norm (by simp only [List.set_cons_succ, List.set_cons_zero]; rfl) ?_
  refine TL.nil ?_
  refine hK1 _ _ ?_
  refine E.seq (fun K2 hK2 => ?_)
  refine E.seq (fun K3 hK3 => ?_)
  refine rg ?_
  refine TL.fieldA (0) fa34_0 rfl (by first | rfl | omega) rfl ?_
  refine TL.ldL 1 n5 (0) (iaC .u8 p0.fAddress) (fun _ h => h ▸ hst) rfl (Seg.here _ _) (ta28.of (by simp)) rfl rfl ?_
  refine TL.fieldA (0) fa34_0 rfl (by first | rfl | omega) rfl ?_
  refine TL.norm (by simp only [List.set_cons_succ, List.set_cons_zero]; rfl) ?_
  refine TL.ldL 0 n6 (0) (iaC .u8 p1.fAddress) (fun _ h => h ▸ hst) rfl (Seg.here _ _) (ta28.of (by simp)) rfl rfl ?_
  refine TL.neqIA eqa28 rfl rfl rfl ?_
  refine TL.move (Value.bool (decide (p0.fAddress ≠ p1.fAddress))) rfl rfl ?_
  refine TL.norm (by simp only [List.set_cons_succ, List.set_cons_zero]; rfl) ?_
  refine TL.case 11 (decide (p0.fAddress ≠ p1.fAddress)) rfl (fun hc7 => ?_) (fun hc7 => ?_)
  · replace hp := hp.1 (of_decide_eq_true hc7)
    refine TL.norm (by simp only [List.set_cons_succ, List.set_cons_zero]; rfl) ?_
    refine TL.noU rfl trivial rfl ?_
    refine TL.noU rfl trivial rfl ?_
    refine TL.noU rfl trivial rfl ?_
    refine TL.noU rfl trivial rfl ?_
    refine TL.noU rfl trivial rfl ?_
    refine TL.pick (Value.bool true) rfl rfl rfl ?_
    refine TL.move (Value.bool true) rfl rfl ?_
    refine TL.noU rfl trivial rfl ?_
    refine TL.noU rfl trivial rfl ?_
    refine TL.noU rfl trivial rfl ?_
    refine TL.noU rfl trivial rfl ?_
    refine TL.noU rfl trivial rfl ?_
    refine TL.pick (Value.bool true) rfl rfl rfl ?_
    refine TL.norm (by simp only [List.set_cons_succ, List.set_cons_zero]; rfl) ?_
    refine TL.move (Value.bool true) rfl rfl ?_
    refine TL.noU rfl trivial rfl ?_
    refine TL.noU rfl trivial rfl ?_
    refine TL.noU rfl trivial rfl ?_
    refine TL.noU rfl trivial rfl ?_
    refine TL.noU rfl trivial rfl ?_
    refine TL.noU rfl trivial rfl ?_
    refine TL.noU rfl trivial rfl ?_
    refine TL.pick (Value.bool true) rfl rfl rfl ?_
    refine TL.move (Value.bool true) rfl rfl ?_
    refine TL.norm (by simp only [List.set_cons_succ, List.set_cons_zero]; rfl) ?_
    refine TL.noU rfl trivial rfl ?_
    refine TL.noU rfl trivial rfl ?_
    refine TL.noU rfl trivial rfl ?_
    refine TL.noU rfl trivial rfl ?_
    refine TL.noU rfl trivial rfl ?_
    refine TL.noU rfl trivial rfl ?_
    refine TL.noU rfl trivial rfl ?_
    refine TL.pick (Value.bool true) rfl rfl rfl ?_
    refine TL.nil ?_
    refine hK3 _ _ ?_
    refine E.norm (by simp only [List.set_cons_succ, List.set_cons_zero]; rfl) ?_
    refine E.condT rfl ?_
    refine E.seq (fun K4 hK4 => ?_)
    refine rg ?_
    refine TL.assign (Value.bool false) rfl rfl ?_
    refine TL.nil ?_
    refine hK4 _ _ ?_
    refine E.norm (by simp only [List.set_cons_succ, List.set_cons_zero]; rfl) ?_
    refine wp_ret ?_
    refine E.ret _ (Rs.t (Value.bool false) rfl rfl) ?_
    exact ⟨hst.keep, false, hp, rfl⟩
  · replace hp := hp.2 (of_decide_eq_false hc7)
    refine TL.norm (by simp only [List.set_cons_succ, List.set_cons_zero]; rfl) ?_
    refine TL.fieldA (20) fa34_1 rfl (by first | rfl | omega) rfl ?_
    refine TL.ldL1 1 n5 (20 + (0)) (Value.int .u64 p0.fNonce) (fun _ h => h ▸ hst) rfl (Seg.skip (m := 20) (by simp) (Seg.here _ _)) ts29 rfl rfl ?_
    refine TL.fieldA (20) fa34_1 rfl (by first | rfl | omega) rfl ?_
    refine TL.norm (by simp only [List.set_cons_succ, List.set_cons_zero]; rfl) ?_
    refine TL.ldL1 0 n6 (20 + (0)) (Value.int .u64 p1.fNonce) (fun _ h => h ▸ hst) rfl (Seg.skip (m := 20) (by simp) (Seg.here _ _)) ts29 rfl rfl ?_
    refine TL.neqD rfl rfl rfl ?_
    refine TL.pick (Value.bool (decide (p0.fNonce ≠ p1.fNonce))) rfl rfl rfl ?_
    refine TL.norm (by simp only [List.set_cons_succ, List.set_cons_zero]; rfl) ?_
    refine TL.move (Value.bool (decide (p0.fNonce ≠ p1.fNonce))) rfl rfl ?_
    refine TL.case 18 (decide (p0.fNonce ≠ p1.fNonce)) rfl (fun hc8 => ?_) (fun hc8 => ?_)
    · replace hp := hp.1 (of_decide_eq_true hc8)
      refine TL.norm (by simp only [List.set_cons_succ, List.set_cons_zero]; rfl) ?_
      refine TL.noU rfl trivial rfl ?_
      refine TL.noU rfl trivial rfl ?_
      refine TL.noU rfl trivial rfl ?_
      refine TL.noU rfl trivial rfl ?_
      refine TL.noU rfl trivial rfl ?_
      refine TL.pick (Value.bool true) rfl rfl rfl ?_
      refine TL.move (Value.bool true) rfl rfl ?_
      refine TL.noU rfl trivial rfl ?_
      refine TL.noU rfl trivial rfl ?_
      refine TL.noU rfl trivial rfl ?_
      refine TL.noU rfl trivial rfl ?_
      refine TL.noU rfl trivial rfl ?_
      refine TL.noU rfl trivial rfl ?_
      refine TL.noU rfl trivial rfl ?_
      refine TL.pick (Value.bool true) rfl rfl rfl ?_
      refine TL.norm (by simp only [List.set_cons_succ, List.set_cons_zero]; rfl) ?_
      refine TL.move (Value.bool true) rfl rfl ?_
      refine TL.noU rfl trivial rfl ?_
      refine TL.noU rfl trivial rfl ?_
      refine TL.noU rfl trivial rfl ?_
      refine TL.noU rfl trivial rfl ?_
      refine TL.noU rfl trivial rfl ?_
      refine TL.noU rfl trivial rfl ?_
      refine TL.noU rfl trivial rfl ?_
      refine TL.pick (Value.bool true) rfl rfl rfl ?_
      refine TL.nil ?_
      refine hK3 _ _ ?_
      refine E.norm (by simp only [List.set_cons_succ, List.set_cons_zero]; rfl) ?_
      refine E.condT rfl ?_
      refine E.seq (fun K5 hK5 => ?_)
      refine rg ?_
      refine TL.assign (Value.bool false) rfl rfl ?_
      refine TL.nil ?_
      refine hK5 _ _ ?_
      refine E.norm (by simp only [List.set_cons_succ, List.set_cons_zero]; rfl) ?_
      refine wp_ret ?_
      refine E.ret _ (Rs.t (Value.bool false) rfl rfl) ?_
      exact ⟨hst.keep, false, hp, rfl⟩
    · replace hp := hp.2 (of_decide_eq_false hc8)
      refine TL.norm (by simp only [List.set_cons_succ, List.set_cons_zero]; rfl) ?_
      refine TL.fieldA (21) fa34_2 rfl (by first | rfl | omega) rfl ?_
      refine TL.ldL 1 n5 (20 + (1 + (0))) (iaC .u64 p0.fBalance) (fun _ h => h ▸ hst) rfl (Seg.skip (m := 20) (by simp) (Seg.skip (m := 1) (by simp) (Seg.here _ _))) (ta31.of (by simp)) rfl rfl ?_
      refine TL.fieldA (21) fa34_2 rfl (by first | rfl | omega) rfl ?_
      refine TL.norm (by simp only [List.set_cons_succ, List.set_cons_zero]; rfl) ?_
      refine TL.ldL 0 n6 (20 + (1 + (0))) (iaC .u64 p1.fBalance) (fun _ h => h ▸ hst) rfl (Seg.skip (m := 20) (by simp) (Seg.skip (m := 1) (by simp) (Seg.here _ _))) (ta31.of (by simp)) rfl rfl ?_
      refine TL.neqIA eqa31 rfl rfl rfl ?_
      refine TL.pick (Value.bool (decide (p0.fBalance ≠ p1.fBalance))) rfl rfl rfl ?_
      refine TL.norm (by simp only [List.set_cons_succ, List.set_cons_zero]; rfl) ?_
      refine TL.move (Value.bool (decide (p0.fBalance ≠ p1.fBalance))) rfl rfl ?_
      refine TL.case 25 (decide (p0.fBalance ≠ p1.fBalance)) rfl (fun hc9 => ?_) (fun hc9 => ?_)
      · replace hp := hp.1 (of_decide_eq_true hc9)
        refine TL.norm (by simp only [List.set_cons_succ, List.set_cons_zero]; rfl) ?_
        refine TL.noU rfl trivial rfl ?_
        refine TL.noU rfl trivial rfl ?_
        refine TL.noU rfl trivial rfl ?_
        refine TL.noU rfl trivial rfl ?_
        refine TL.noU rfl trivial rfl ?_
        refine TL.noU rfl trivial rfl ?_
        refine TL.noU rfl trivial rfl ?_
        refine TL.pick (Value.bool true) rfl rfl rfl ?_
        refine TL.move (Value.bool true) rfl rfl ?_
        refine TL.noU rfl trivial rfl ?_
        refine TL.noU rfl trivial rfl ?_
        refine TL.noU rfl trivial rfl ?_
        refine TL.noU rfl trivial rfl ?_
        refine TL.noU rfl trivial rfl ?_
        refine TL.noU rfl trivial rfl ?_
        refine TL.noU rfl trivial rfl ?_
        refine TL.pick (Value.bool true) rfl rfl rfl ?_
        refine TL.norm (by simp only [List.set_cons_succ, List.set_cons_zero]; rfl) ?_
        refine TL.nil ?_
        refine hK3 _ _ ?_
        refine E.condT rfl ?_
        refine E.seq (fun K6 hK6 => ?_)
        refine rg ?_
        refine TL.assign (Value.bool false) rfl rfl ?_
        refine TL.nil ?_
        refine hK6 _ _ ?_
        refine E.norm (by simp only [List.set_cons_succ, List.set_cons_zero]; rfl) ?_
        refine wp_ret ?_
        refine E.ret _ (Rs.t (Value.bool false) rfl rfl) ?_
        exact ⟨hst.keep, false, hp, rfl⟩
      · replace hp := hp.2 (of_decide_eq_false hc9)
        refine TL.norm (by simp only [List.set_cons_succ, List.set_cons_zero]; rfl) ?_
        refine TL.fieldA (25) fa34_3 rfl (by first | rfl | omega) rfl ?_
        refine TL.ldL1 1 n5 (20 + (1 + (4 + (0)))) (v1) (fun _ h => h ▸ hst) rfl (Seg.skip (m := 20) (by simp) (Seg.skip (m := 1) (by simp) (Seg.skip (m := 4) (by simp) (Seg.here _ _)))) ts24 rfl rfl ?_
        refine TL.convSl (fun _ h => h ▸ hst) (hv1) Try.underlying24 Try.underlying5 Try.underlying9 rfl rfl ?_
        refine TL.norm (by simp only [List.set_cons_succ, List.set_cons_zero]; rfl) ?_
        refine TL.fieldA (25) fa34_3 rfl (by first | rfl | omega) rfl ?_
        refine TL.ldL1 0 n6 (20 + (1 + (4 + (0)))) (v3) (fun _ h => h ▸ hst) rfl (Seg.skip (m := 20) (by simp) (Seg.skip (m := 1) (by simp) (Seg.skip (m := 4) (by simp) (Seg.here _ _)))) ts24 rfl rfl ?_
        refine TL.convSl (fun _ h => h ▸ hst) (hv3) Try.underlying24 Try.underlying5 Try.underlying9 rfl rfl ?_
        refine TL.norm (by simp only [List.set_cons_succ, List.set_cons_zero]; rfl) ?_
        refine TL.neqST rfl rfl rfl ?_
        refine TL.pick (Value.bool (decide (bstr p0.fCode ≠ bstr p1.fCode))) rfl rfl rfl ?_
        refine TL.move (Value.bool (decide (bstr p0.fCode ≠ bstr p1.fCode))) rfl rfl ?_
        refine TL.norm (by simp only [List.set_cons_succ, List.set_cons_zero]; rfl) ?_
        refine TL.case 34 (decide (bstr p0.fCode ≠ bstr p1.fCode)) rfl (fun hc10 => ?_) (fun hc10 => ?_)
        · replace hp := hp.1 (of_decide_eq_true hc10)
          refine TL.norm (by simp only [List.set_cons_succ, List.set_cons_zero]; rfl) ?_
          refine TL.noU rfl trivial rfl ?_
          refine TL.noU rfl trivial rfl ?_
          refine TL.noU rfl trivial rfl ?_
          refine TL.noU rfl trivial rfl ?_
          refine TL.noU rfl trivial rfl ?_
          refine TL.noU rfl trivial rfl ?_
          refine TL.noU rfl trivial rfl ?_
          refine TL.pick (Value.bool true) rfl rfl rfl ?_
          refine TL.nil ?_
          refine hK3 _ _ ?_
          refine E.norm (by simp only [List.set_cons_succ, List.set_cons_zero]; rfl) ?_
          refine E.condT rfl ?_
          refine E.seq (fun K7 hK7 => ?_)
          refine rg ?_
          refine TL.assign (Value.bool false) rfl rfl ?_
          refine TL.nil ?_
          refine hK7 _ _ ?_
          refine E.norm (by simp only [List.set_cons_succ, List.set_cons_zero]; rfl) ?_
          refine wp_ret ?_
          refine E.ret _ (Rs.t (Value.bool false) rfl rfl) ?_
          exact ⟨hst.keep, false, hp, rfl⟩
        · replace hp := hp.2 (of_decide_eq_false hc10)
          refine TL.norm (by simp only [List.set_cons_succ, List.set_cons_zero]; rfl) ?_
          refine TL.fieldA (26) fa34_4 rfl (by first | rfl | omega) rfl ?_
          refine TL.ldL1 1 n5 (20 + (1 + (4 + (1 + (0))))) (v2) (fun _ h => h ▸ hst) rfl (Seg.skip (m := 20) (by simp) (Seg.skip (m := 1) (by simp) (Seg.skip (m := 4) (by simp) (Seg.skip (m := 1) (by simp) (Seg.all _))))) ts32 rfl rfl ?_
          refine TL.lenL (hv2) Try.underlying32 rfl rfl ?_
          refine TL.norm (by simp only [List.set_cons_succ, List.set_cons_zero]; rfl) ?_
          refine TL.fieldA (26) fa34_4 rfl (by first | rfl | omega) rfl ?_
          refine TL.ldL1 0 n6 (20 + (1 + (4 + (1 + (0))))) (v4) (fun _ h => h ▸ hst) rfl (Seg.skip (m := 20) (by simp) (Seg.skip (m := 1) (by simp) (Seg.skip (m := 4) (by simp) (Seg.skip (m := 1) (by simp) (Seg.all _))))) ts32 rfl rfl ?_
          refine TL.lenL (hv4) Try.underlying32 rfl rfl ?_
          refine TL.norm (by simp only [List.set_cons_succ, List.set_cons_zero]; rfl) ?_
          refine TL.neqD rfl rfl rfl ?_
          refine TL.pick (Value.bool (decide ((p0.fStorage.length : Int) ≠ (p1.fStorage.length : Int)))) rfl rfl rfl ?_
          refine TL.nil ?_
          refine hK3 _ _ ?_
          refine E.norm (by simp only [List.set_cons_succ, List.set_cons_zero]; rfl) ?_
          refine E.cond rfl (fun hc11 => ?_) (fun hc11 => ?_)
          · replace hp := hp.1 (of_decide_eq_true hc11)
            refine E.seq (fun K8 hK8 => ?_)
            refine rg ?_
            refine TL.assign (Value.bool false) rfl rfl ?_
            refine TL.nil ?_
            refine hK8 _ _ ?_
            refine E.norm (by simp only [List.set_cons_succ, List.set_cons_zero]; rfl) ?_
            refine wp_ret ?_
            refine E.ret _ (Rs.t (Value.bool false) rfl rfl) ?_
            exact ⟨hst.keep, false, hp, rfl⟩
          · replace hp := hp.2 (of_decide_eq_false hc11)
            refine wp_skip ?_
            refine hK2 _ _ ?_
            refine E.seq (fun K9 hK9 => ?_)
            refine E.seq (fun K10 hK10 => ?_)
            refine rg ?_
            refine TL.fieldA (26) fa34_4 rfl (by first | rfl | omega) rfl ?_
            refine TL.ldL1 1 n5 (20 + (1 + (4 + (1 + (0))))) (v2) (fun _ h => h ▸ hst) rfl (Seg.skip (m := 20) (by simp) (Seg.skip (m := 1) (by simp) (Seg.skip (m := 4) (by simp) (Seg.skip (m := 1) (by simp) (Seg.all _))))) ts32 rfl rfl ?_
            refine TL.lenL (hv2) Try.underlying32 rfl rfl ?_
            refine TL.norm (by simp only [List.set_cons_succ, List.set_cons_zero]; rfl) ?_
            refine TL.move (Value.int .i64 0) rfl rfl ?_
            refine TL.nil ?_
            refine hK10 _ _ ?_
            refine E.norm (by simp only [List.set_cons_succ, List.set_cons_zero]; rfl) ?_
            refine wp_block ?_
            obtain ⟨I14, m15, hI0, hI⟩ := hp
            refine E.loop (fun mm l w => ∃ (x13 : Int), (mm = m15 x13) ∧ (I14 x13) ∧ Fits [some (Value.agg (iaC .u8 p0.fAddress ++ ([Value.int .u64 p0.fNonce] ++ (iaC .u64 p0.fBalance ++ ([v1] ++ ([v2]))))).toArray), some (Value.agg (iaC .u8 p1.fAddress ++ ([Value.int .u64 p1.fNonce] ++ (iaC .u64 p1.fBalance ++ ([v3] ++ ([v4]))))).toArray), some (Value.pointer (some ⟨n5, 0, none⟩)), some (Value.pointer (some ⟨n6, 0, none⟩)), some (Value.bool false), none, some (Value.pointer (some ⟨n5, 0, none⟩)), some (Value.agg (iaC .u8 p0.fAddress).toArray), some (Value.pointer (some ⟨n6, 0, none⟩)), some (Value.agg (iaC .u8 p1.fAddress).toArray), some (Value.bool (decide (p0.fAddress ≠ p1.fAddress))), some (Value.bool false), some (Value.pointer (some ⟨n5, 20, none⟩)), some (Value.int .u64 p0.fNonce), some (Value.pointer (some ⟨n6, 20, none⟩)), some (Value.int .u64 p1.fNonce), some (Value.bool (decide (p0.fNonce ≠ p1.fNonce))), some (Value.bool (decide (p0.fNonce ≠ p1.fNonce))), some (Value.bool false), some (Value.pointer (some ⟨n5, 21, none⟩)), some (Value.agg (iaC .u64 p0.fBalance).toArray), some (Value.pointer (some ⟨n6, 21, none⟩)), some (Value.agg (iaC .u64 p1.fBalance).toArray), some (Value.bool (decide (p0.fBalance ≠ p1.fBalance))), some (Value.bool (decide (p0.fBalance ≠ p1.fBalance))), some (Value.bool false), some (Value.pointer (some ⟨n5, 25, none⟩)), some (v1), some (Value.string (bstr p0.fCode)), some (Value.pointer (some ⟨n6, 25, none⟩)), some (v3), some (Value.string (bstr p1.fCode)), some (Value.bool (decide (bstr p0.fCode ≠ bstr p1.fCode))), some (Value.bool (decide (bstr p0.fCode ≠ bstr p1.fCode))), some (Value.bool false), some (Value.pointer (some ⟨n5, 26, none⟩)), some (v2), some (Value.int .i64 ((p0.fStorage.length : Int))), some (Value.pointer (some ⟨n6, 26, none⟩)), some (v4), some (Value.int .i64 ((p1.fStorage.length : Int))), some (Value.bool (decide ((p0.fStorage.length : Int) ≠ (p1.fStorage.length : Int)))), some (Value.bool (decide ((p0.fStorage.length : Int) ≠ (p1.fStorage.length : Int)))), some (Value.pointer (some ⟨n5, 26, none⟩)), some (v2), some (Value.int .i64 ((p0.fStorage.length : Int))), some (Value.int .i64 x13), none, none, none, none, none, none, none, none, none, none, none, none, none, none] l ∧ St Non w0 w g ([(n6, .cells (iaC .u8 p1.fAddress ++ ([Value.int .u64 p1.fNonce] ++ (iaC .u64 p1.fBalance ++ ([v3] ++ ([v4]))))).toArray 34 (0, 0)), (n5, .cells (iaC .u8 p0.fAddress ++ ([Value.int .u64 p0.fNonce] ++ (iaC .u64 p0.fBalance ++ ([v1] ++ ([v2]))))).toArray 34 (0, 0))])) _ ⟨0, rfl, hI0, (by first | (simp only [List.set_cons_succ, List.set_cons_zero]; exact .s rfl (.s rfl (.s rfl (.s rfl (.s rfl (.n (.s rfl (.s rfl (.s rfl (.s rfl (.s rfl (.s rfl (.s rfl (.s rfl (.s rfl (.s rfl (.s rfl (.s rfl (.s rfl (.s rfl (.s rfl (.s rfl (.s rfl (.s rfl (.s rfl (.s rfl (.s rfl (.s rfl (.s rfl (.s rfl (.s rfl (.s rfl (.s rfl (.s rfl (.s rfl (.s rfl (.s rfl (.s rfl (.s rfl (.s rfl (.s rfl (.s rfl (.s rfl (.s rfl (.s rfl (.s rfl (.s rfl (.n (.n (.n (.n (.n (.n (.n (.n (.n (.n (.n (.n (.n (.n (.z)))))))))))))))))))))))))))))))))))))))))))))))))))))))))))))) | exact .s rfl (.s rfl (.s rfl (.s rfl (.s rfl (.n (.s rfl (.s rfl (.s rfl (.s rfl (.s rfl (.s rfl (.s rfl (.s rfl (.s rfl (.s rfl (.s rfl (.s rfl (.s rfl (.s rfl (.s rfl (.s rfl (.s rfl (.s rfl (.s rfl (.s rfl (.s rfl (.s rfl (.s rfl (.s rfl (.s rfl (.s rfl (.s rfl (.s rfl (.s rfl (.s rfl (.s rfl (.s rfl (.s rfl (.s rfl (.s rfl (.s rfl (.s rfl (.s rfl (.s rfl (.s rfl (.s rfl (.n (.n (.n (.n (.n (.n (.n (.n (.n (.n (.n (.n (.n (.n (.z)))))))))))))))))))))))))))))))))))))))))))))))))))))))))))))), hst⟩ ?_
            rintro _ _ w ⟨x13, rfl, hI1, hfit, hst⟩
            have hp := hI _ hI1
            obtain ⟨j12, rfl⟩ := hfit.ex
            refine E.norm (l' := [Value.agg (iaC .u8 p0.fAddress ++ ([Value.int .u64 p0.fNonce] ++ (iaC .u64 p0.fBalance ++ ([v1] ++ ([v2]))))).toArray, Value.agg (iaC .u8 p1.fAddress ++ ([Value.int .u64 p1.fNonce] ++ (iaC .u64 p1.fBalance ++ ([v3] ++ ([v4]))))).toArray, Value.pointer (some ⟨n5, 0, none⟩), Value.pointer (some ⟨n6, 0, none⟩), Value.bool false, (j12 5), Value.pointer (some ⟨n5, 0, none⟩), Value.agg (iaC .u8 p0.fAddress).toArray, Value.pointer (some ⟨n6, 0, none⟩), Value.agg (iaC .u8 p1.fAddress).toArray, Value.bool (decide (p0.fAddress ≠ p1.fAddress)), Value.bool false, Value.pointer (some ⟨n5, 20, none⟩), Value.int .u64 p0.fNonce, Value.pointer (some ⟨n6, 20, none⟩), Value.int .u64 p1.fNonce, Value.bool (decide (p0.fNonce ≠ p1.fNonce)), Value.bool (decide (p0.fNonce ≠ p1.fNonce)), Value.bool false, Value.pointer (some ⟨n5, 21, none⟩), Value.agg (iaC .u64 p0.fBalance).toArray, Value.pointer (some ⟨n6, 21, none⟩), Value.agg (iaC .u64 p1.fBalance).toArray, Value.bool (decide (p0.fBalance ≠ p1.fBalance)), Value.bool (decide (p0.fBalance ≠ p1.fBalance)), Value.bool false, Value.pointer (some ⟨n5, 25, none⟩), v1, Value.string (bstr p0.fCode), Value.pointer (some ⟨n6, 25, none⟩), v3, Value.string (bstr p1.fCode), Value.bool (decide (bstr p0.fCode ≠ bstr p1.fCode)), Value.bool (decide (bstr p0.fCode ≠ bstr p1.fCode)), Value.bool false, Value.pointer (some ⟨n5, 26, none⟩), v2, Value.int .i64 ((p0.fStorage.length : Int)), Value.pointer (some ⟨n6, 26, none⟩), v4, Value.int .i64 ((p1.fStorage.length : Int)), Value.bool (decide ((p0.fStorage.length : Int) ≠ (p1.fStorage.length : Int))), Value.bool (decide ((p0.fStorage.length : Int) ≠ (p1.fStorage.length : Int))), Value.pointer (some ⟨n5, 26, none⟩), v2, Value.int .i64 ((p0.fStorage.length : Int)), Value.int .i64 x13, (j12 47), (j12 48), (j12 49), (j12 50), (j12 51), (j12 52), (j12 53), (j12 54), (j12 55), (j12 56), (j12 57), (j12 58), (j12 59), (j12 60)]) rfl ?_
            refine E.seq (fun K11 hK11 => ?_)
            refine rg ?_
            refine TL.lss rfl rfl rfl ?_
            refine TL.nil ?_
            refine hK11 _ _ ?_
            refine E.norm (by simp only [List.set_cons_succ, List.set_cons_zero]; rfl) ?_
            refine E.seq (fun K12 hK12 => ?_)
            refine E.cond rfl (fun hc16 => ?_) (fun hc16 => ?_)
            · replace hp := hp.1 (of_decide_eq_true hc16)
              refine wp_skip ?_
              refine hK12 _ _ ?_
              refine E.seq (fun K13 hK13 => ?_)
              refine wp_block ?_
              refine E.seq (fun K14 hK14 => ?_)
              refine rg ?_
              refine TL.move (Value.int .i64 x13) rfl rfl ?_
              refine TL.assign (Value.int .i64 x13) rfl rfl ?_
              refine TL.nil ?_
              refine hK14 _ _ ?_
              refine E.norm (by simp only [List.set_cons_succ, List.set_cons_zero]; rfl) ?_
              refine E.seq (fun K15 hK15 => ?_)
              refine rgD mixed #[0, 1, 0, 7, 15, 0, 32, 0, 224, 480, 1023] (by kernel_rfl) ?_
              replace hst := hst.drew
              refine TL.fieldA (26) fa34_4 rfl (by first | rfl | omega) rfl ?_
              refine TL.ldL1 1 n5 (20 + (1 + (4 + (1 + (0))))) (v2) (fun _ h => h ▸ hst) rfl (Seg.skip (m := 20) (by simp) (Seg.skip (m := 1) (by simp) (Seg.skip (m := 4) (by simp) (Seg.skip (m := 1) (by simp) (Seg.all _))))) ts32 rfl rfl ?_
              refine TL.move (Value.int .i64 x13) rfl rfl ?_
              refine TL.norm (by simp only [List.set_cons_succ, List.set_cons_zero]; rfl) ?_
              obtain ⟨ho17, ho18, hp⟩ := hp
              refine TL.indexL (hv2) sl32 rfl rfl ho17 ho18 rfl ?_
              rintro b19 o20 _ rfl hq23
              refine TL.ldG b19 (o20 + (0)) (iaC .u64 ((nth p0.fStorage x13).fKey) ++ (iaC .u64 ((nth p0.fStorage x13).fValue))) (fun _ h => h ▸ hst) (hq23.sub (Seg.all _)) (ta131.of (by simp)) rfl rfl ?_
              refine TL.fieldA (26) fa34_4 rfl (by first | rfl | omega) rfl ?_
              refine TL.norm (by simp only [List.set_cons_succ, List.set_cons_zero]; rfl) ?_
              refine TL.ldL1 0 n6 (20 + (1 + (4 + (1 + (0))))) (v4) (fun _ h => h ▸ hst) rfl (Seg.skip (m := 20) (by simp) (Seg.skip (m := 1) (by simp) (Seg.skip (m := 4) (by simp) (Seg.skip (m := 1) (by simp) (Seg.all _))))) ts32 rfl rfl ?_
              refine TL.move (Value.int .i64 x13) rfl rfl ?_
              obtain ⟨ho24, ho25, hp⟩ := hp
              refine TL.indexL (hv4) sl32 rfl rfl ho24 ho25 rfl ?_
              rintro b26 o27 _ rfl hq30
              refine TL.norm (by simp only [List.set_cons_succ, List.set_cons_zero]; rfl) ?_
              refine TL.ldG b26 (o27 + (0)) (iaC .u64 ((nth p1.fStorage x13).fKey) ++ (iaC .u64 ((nth p1.fStorage x13).fValue))) (fun _ h => h ▸ hst) (hq30.sub (Seg.all _)) (ta131.of (by simp)) rfl rfl ?_
              refine TL.neqV (a := (nth p0.fStorage x13)) (b := (nth p1.fStorage x13)) ev131 (by decide) (by kernel_rfl) rfl rfl rfl ?_
              refine TL.nil ?_
              refine hK15 _ _ ?_
              refine E.norm (by simp only [List.set_cons_succ, List.set_cons_zero]; rfl) ?_
              refine E.cond rfl (fun hc31 => ?_) (fun hc31 => ?_)
              · replace hp := hp.1 (of_decide_eq_true hc31)
                refine E.seq (fun K16 hK16 => ?_)
                refine rg ?_
                refine TL.assign (Value.bool false) rfl rfl ?_
                refine TL.nil ?_
                refine hK16 _ _ ?_
                refine E.norm (by simp only [List.set_cons_succ, List.set_cons_zero]; rfl) ?_
                refine wp_ret ?_
                refine E.ret _ (Rs.t (Value.bool false) rfl rfl) ?_
                exact ⟨hst.keep, false, hp, rfl⟩
              · replace hp := hp.2 (of_decide_eq_false hc31)
                refine wp_skip ?_
                refine hK13 _ _ ?_
                refine rg ?_
                obtain ⟨ho32, hp⟩ := hp
                refine TL.add (x13 + 1) rfl rfl ⟨rfl, ho32⟩ rfl ?_
                refine TL.move (Value.int .i64 (x13 + 1)) rfl rfl ?_
                refine TL.nil ?_
                exact ⟨_, _, hp.2, rfl, (x13 + 1), rfl, hp.1, (by first | (simp only [List.set_cons_succ, List.set_cons_zero]; exact .s rfl (.s rfl (.s rfl (.s rfl (.s rfl (.n (.s rfl (.s rfl (.s rfl (.s rfl (.s rfl (.s rfl (.s rfl (.s rfl (.s rfl (.s rfl (.s rfl (.s rfl (.s rfl (.s rfl (.s rfl (.s rfl (.s rfl (.s rfl (.s rfl (.s rfl (.s rfl (.s rfl (.s rfl (.s rfl (.s rfl (.s rfl (.s rfl (.s rfl (.s rfl (.s rfl (.s rfl (.s rfl (.s rfl (.s rfl (.s rfl (.s rfl (.s rfl (.s rfl (.s rfl (.s rfl (.s rfl (.n (.n (.n (.n (.n (.n (.n (.n (.n (.n (.n (.n (.n (.n (.z)))))))))))))))))))))))))))))))))))))))))))))))))))))))))))))) | exact .s rfl (.s rfl (.s rfl (.s rfl (.s rfl (.n (.s rfl (.s rfl (.s rfl (.s rfl (.s rfl (.s rfl (.s rfl (.s rfl (.s rfl (.s rfl (.s rfl (.s rfl (.s rfl (.s rfl (.s rfl (.s rfl (.s rfl (.s rfl (.s rfl (.s rfl (.s rfl (.s rfl (.s rfl (.s rfl (.s rfl (.s rfl (.s rfl (.s rfl (.s rfl (.s rfl (.s rfl (.s rfl (.s rfl (.s rfl (.s rfl (.s rfl (.s rfl (.s rfl (.s rfl (.s rfl (.s rfl (.n (.n (.n (.n (.n (.n (.n (.n (.n (.n (.n (.n (.n (.n (.z)))))))))))))))))))))))))))))))))))))))))))))))))))))))))))))), hst⟩
            · replace hp := hp.2 (of_decide_eq_false hc16)
              refine wp_exit ?_
              refine hK9 _ _ ?_
              refine E.seq (fun K17 hK17 => ?_)
              refine rg ?_
              refine TL.assign (Value.bool true) rfl rfl ?_
              refine TL.nil ?_
              refine hK17 _ _ ?_
              refine E.norm (by simp only [List.set_cons_succ, List.set_cons_zero]; rfl) ?_
              refine wp_ret ?_
              refine E.ret _ (Rs.t (Value.bool true) rfl rfl) ?_
              exact ⟨hst.keep, true, hp, rfl⟩

def smithyref13_Great (p0 : List T_api_Account) (Q : Bool → Prop) : Prop :=
  ((50 < (p0.length : Int)) → (Q true)) ∧ ((¬ (50 < (p0.length : Int))) → (∃ (I5 : Int → Prop) (m6 : Int → Nat), (I5 0) ∧ ∀ (x4 : Int), (I5 x4 → (((x4 < (p0.length : Int)) → ((0 ≤ x4) ∧ (x4 < (p0.length : Int)) ∧ (((3000 < (((nth p0 x4).fCode).length : Int)) → (Q true)) ∧ ((¬ (3000 < (((nth p0 x4).fCode).length : Int))) → ((0 ≤ x4) ∧ (x4 < (p0.length : Int)) ∧ (((100 < (((nth p0 x4).fStorage).length : Int)) → (Q true)) ∧ ((¬ (100 < (((nth p0 x4).fStorage).length : Int))) → ((inR .i64 (x4 + 1)) ∧ (I5 (x4 + 1) ∧ m6 (x4 + 1) < m6 x4))))))))) ∧ ((¬ (x4 < (p0.length : Int))) → (Q false))))))
theorem w_smithyref13_Great (p0 : List T_api_Account) (v1 : Value) (g : Gh) (w0 : World) (hg : Has w0 g) (hv1 : Sl rT_api_Account g p0 v1) (Q : Bool → Prop) (hp : smithyref13_Great p0 Q) : Calls Try.prog 13 #[v1] w0 (Ret fun u w => Keep Non w0 w ∧ ∃ (r1 : Bool), Q r1 ∧ u = Value.bool r1) := by
  unfold smithyref13_Great at hp
  go_enter Try.func13, Try.ntmps13
  change Code.wp _ _ _ (F [v1, undef, undef, undef, undef, undef, undef, undef, undef, undef, undef, undef, undef, undef, undef, undef, undef, undef, undef, undef, undef, undef, undef, undef, undef, undef, undef, undef, undef]) _
  have hst := St.start Non hg
  have hgn0 : GN Non w0 g g := GN.refl _ _ _
  have hle0 : g.le g := Gh.le_refl _
  refine E.seq (fun K1 hK1 => ?_)
  refine rg ?_
  refine TL.assign (Value.bool false) rfl rfl ?_
  refine TL.nil ?_
  refine hK1 _ _ ?_
  refine E.norm (by simp only [List.set_cons_succ, List.set_cons_zero]; rfl) ?_
  refine E.seq (fun K2 hK2 => ?_)
  refine E.seq (fun K3 hK3 => ?_)
  refine rg ?_
  refine TL.move (v1) rfl rfl ?_
  refine TL.lenL (hv1) Try.underlying22 rfl rfl ?_
  refine TL.gtr rfl rfl rfl ?_
  refine TL.norm (by simp only [List.set_cons_succ, List.set_cons_zero]; rfl) ?_
  refine TL.nil ?_
  refine hK3 _ _ ?_
  refine E.cond rfl (fun hc2 => ?_) (fun hc2 => ?_)
  · replace hp := hp.1 (of_decide_eq_true hc2)
    refine E.seq (fun K4 hK4 => ?_)
    refine rg ?_
    refine TL.assign (Value.bool true) rfl rfl ?_
    refine TL.nil ?_
    refine hK4 _ _ ?_
    refine E.norm (by simp only [List.set_cons_succ, List.set_cons_zero]; rfl) ?_
    refine wp_ret ?_
    refine E.ret _ (Rs.t (Value.bool true) rfl rfl) ?_
    exact ⟨hst.keep, true, hp, rfl⟩
  · replace hp := hp.2 (of_decide_eq_false hc2)
    refine wp_skip ?_
    refine hK2 _ _ ?_
    refine E.seq (fun K5 hK5 => ?_)
    refine E.seq (fun K6 hK6 => ?_)
    refine rg ?_
    refine TL.move (v1) rfl rfl ?_
    refine TL.lenL (hv1) Try.underlying22 rfl rfl ?_
    refine TL.move (Value.int .i64 0) rfl rfl ?_
    refine TL.norm (by simp only [List.set_cons_succ, List.set_cons_zero]; rfl) ?_
    refine TL.nil ?_
    refine hK6 _ _ ?_
    refine wp_block ?_
    obtain ⟨I5, m6, hI0, hI⟩ := hp
    refine E.loop (fun mm l w => ∃ (x4 : Int), (mm = m6 x4) ∧ (I5 x4) ∧ Fits [some (v1), some (undef), some (Value.bool false), none, some (v1), some (Value.int .i64 ((p0.length : Int))), some (Value.bool (decide (50 < (p0.length : Int)))), some (v1), some (Value.int .i64 ((p0.length : Int))), some (Value.int .i64 x4), none, none, none, none, none, none, none, none, none, none, none, none, none, none, none, none, none, none, none] l ∧ St Non w0 w g ([])) _ ⟨0, rfl, hI0, (by first | (simp only [List.set_cons_succ, List.set_cons_zero]; exact .s rfl (.s rfl (.s rfl (.n (.s rfl (.s rfl (.s rfl (.s rfl (.s rfl (.s rfl (.n (.n (.n (.n (.n (.n (.n (.n (.n (.n (.n (.n (.n (.n (.n (.n (.n (.n (.n (.z)))))))))))))))))))))))))))))) | exact .s rfl (.s rfl (.s rfl (.n (.s rfl (.s rfl (.s rfl (.s rfl (.s rfl (.s rfl (.n (.n (.n (.n (.n (.n (.n (.n (.n (.n (.n (.n (.n (.n (.n (.n (.n (.n (.n (.z)))))))))))))))))))))))))))))), hst⟩ ?_
    rintro _ _ w ⟨x4, rfl, hI1, hfit, hst⟩
    have hp := hI _ hI1
    obtain ⟨j3, rfl⟩ := hfit.ex
    refine E.norm (l' := [v1, undef, Value.bool false, (j3 3), v1, Value.int .i64 ((p0.length : Int)), Value.bool (decide (50 < (p0.length : Int))), v1, Value.int .i64 ((p0.length : Int)), Value.int .i64 x4, (j3 10), (j3 11), (j3 12), (j3 13), (j3 14), (j3 15), (j3 16), (j3 17), (j3 18), (j3 19), (j3 20), (j3 21), (j3 22), (j3 23), (j3 24), (j3 25), (j3 26), (j3 27), (j3 28)]) rfl ?_
    refine E.seq (fun K7 hK7 => ?_)
    refine rg ?_
    refine TL.lss rfl rfl rfl ?_
    refine TL.nil ?_
    refine hK7 _ _ ?_
    refine E.norm (by simp only [List.set_cons_succ, List.set_cons_zero]; rfl) ?_
    refine E.seq (fun K8 hK8 => ?_)
    refine E.cond rfl (fun hc7 => ?_) (fun hc7 => ?_)
    · replace hp := hp.1 (of_decide_eq_true hc7)
      refine wp_skip ?_
      refine hK8 _ _ ?_
      refine E.seq (fun K9 hK9 => ?_)
      refine wp_block ?_
      refine E.seq (fun K10 hK10 => ?_)
      refine rg ?_
      refine TL.move (Value.int .i64 x4) rfl rfl ?_
      refine TL.assign (Value.int .i64 x4) rfl rfl ?_
      refine TL.nil ?_
      refine hK10 _ _ ?_
      refine E.norm (by simp only [List.set_cons_succ, List.set_cons_zero]; rfl) ?_
      refine E.seq (fun K11 hK11 => ?_)
      refine rg ?_
      refine TL.move (v1) rfl rfl ?_
      refine TL.move (Value.int .i64 x4) rfl rfl ?_
      obtain ⟨ho8, ho9, hp⟩ := hp
      refine TL.indexL (hv1) sl22 rfl rfl ho8 ho9 rfl ?_
      rintro b10 o11 _ ⟨v15, v16, rfl, hv15, hv16⟩ hq14
      refine TL.norm (by simp only [List.set_cons_succ, List.set_cons_zero]; rfl) ?_
      refine TL.fieldA (o11 + 25) fa34_3 rfl (by first | rfl | omega) rfl ?_
      refine TL.ldG1 b10 (o11 + (20 + (1 + (4 + (0))))) (v15) (fun _ h => h ▸ hst) (hq14.sub (Seg.skip (m := 20) (by simp) (Seg.skip (m := 1) (by simp) (Seg.skip (m := 4) (by simp) (Seg.here _ _))))) ts24 rfl rfl ?_
      refine TL.lenL (hv15) Try.underlying24 rfl rfl ?_
      refine TL.norm (by simp only [List.set_cons_succ, List.set_cons_zero]; rfl) ?_
      refine TL.gtr rfl rfl rfl ?_
      refine TL.move (Value.bool (decide (3000 < (((nth p0 x4).fCode).length : Int)))) rfl rfl ?_
      refine TL.case 19 (decide (3000 < (((nth p0 x4).fCode).length : Int))) rfl (fun hc17 => ?_) (fun hc17 => ?_)
      · replace hp := hp.1 (of_decide_eq_true hc17)
        refine TL.norm (by simp only [List.set_cons_succ, List.set_cons_zero]; rfl) ?_
        refine TL.noF trivial rfl ?_
        refine TL.noF trivial rfl ?_
        refine TL.noF trivial rfl ?_
        refine TL.norm (by simp only [List.set_cons_succ, List.set_cons_zero]; rfl) ?_
        refine TL.noF trivial rfl ?_
        refine TL.noF trivial rfl ?_
        refine TL.noF trivial rfl ?_
        refine TL.norm (by simp only [List.set_cons_succ, List.set_cons_zero]; rfl) ?_
        refine TL.noF trivial rfl ?_
        refine TL.pick (Value.bool true) rfl rfl rfl ?_
        refine TL.nil ?_
        refine hK11 _ _ ?_
        refine E.norm (by simp only [List.set_cons_succ, List.set_cons_zero]; rfl) ?_
        refine E.condT rfl ?_
        refine E.seq (fun K12 hK12 => ?_)
        refine rg ?_
        refine TL.assign (Value.bool true) rfl rfl ?_
        refine TL.nil ?_
        refine hK12 _ _ ?_
        refine E.norm (by simp only [List.set_cons_succ, List.set_cons_zero]; rfl) ?_
        refine wp_ret ?_
        refine E.ret _ (Rs.t (Value.bool true) rfl rfl) ?_
        exact ⟨hst.keep, true, hp, rfl⟩
      · replace hp := hp.2 (of_decide_eq_false hc17)
        refine TL.norm (by simp only [List.set_cons_succ, List.set_cons_zero]; rfl) ?_
        refine TL.move (v1) rfl rfl ?_
        refine TL.move (Value.int .i64 x4) rfl rfl ?_
        obtain ⟨ho18, ho19, hp⟩ := hp
        refine TL.indexL (hv1) sl22 rfl rfl ho18 ho19 rfl ?_
        rintro b20 o21 _ ⟨v25, v26, rfl, hv25, hv26⟩ hq24
        refine TL.norm (by simp only [List.set_cons_succ, List.set_cons_zero]; rfl) ?_
        refine TL.fieldA (o21 + 26) fa34_4 rfl (by first | rfl | omega) rfl ?_
        refine TL.ldG1 b20 (o21 + (20 + (1 + (4 + (1 + (0)))))) (v26) (fun _ h => h ▸ hst) (hq24.sub (Seg.skip (m := 20) (by simp) (Seg.skip (m := 1) (by simp) (Seg.skip (m := 4) (by simp) (Seg.skip (m := 1) (by simp) (Seg.all _)))))) ts32 rfl rfl ?_
        refine TL.lenL (hv26) Try.underlying32 rfl rfl ?_
        refine TL.norm (by simp only [List.set_cons_succ, List.set_cons_zero]; rfl) ?_
        refine TL.gtr rfl rfl rfl ?_
        refine TL.pick (Value.bool (decide (100 < (((nth p0 x4).fStorage).length : Int)))) rfl rfl rfl ?_
        refine TL.nil ?_
        refine hK11 _ _ ?_
        refine E.norm (by simp only [List.set_cons_succ, List.set_cons_zero]; rfl) ?_
        refine E.cond rfl (fun hc27 => ?_) (fun hc27 => ?_)
        · replace hp := hp.1 (of_decide_eq_true hc27)
          refine E.seq (fun K13 hK13 => ?_)
          refine rg ?_
          refine TL.assign (Value.bool true) rfl rfl ?_
          refine TL.nil ?_
          refine hK13 _ _ ?_
          refine E.norm (by simp only [List.set_cons_succ, List.set_cons_zero]; rfl) ?_
          refine wp_ret ?_
          refine E.ret _ (Rs.t (Value.bool true) rfl rfl) ?_
          exact ⟨hst.keep, true, hp, rfl⟩
        · replace hp := hp.2 (of_decide_eq_false hc27)
          refine wp_skip ?_
          refine hK9 _ _ ?_
          refine rg ?_
          obtain ⟨ho28, hp⟩ := hp
          refine TL.add (x4 + 1) rfl rfl ⟨rfl, ho28⟩ rfl ?_
          refine TL.move (Value.int .i64 (x4 + 1)) rfl rfl ?_
          refine TL.nil ?_
          exact ⟨_, _, hp.2, rfl, (x4 + 1), rfl, hp.1, (by first | (simp only [List.set_cons_succ, List.set_cons_zero]; exact .s rfl (.s rfl (.s rfl (.n (.s rfl (.s rfl (.s rfl (.s rfl (.s rfl (.s rfl (.n (.n (.n (.n (.n (.n (.n (.n (.n (.n (.n (.n (.n (.n (.n (.n (.n (.n (.n (.z)))))))))))))))))))))))))))))) | exact .s rfl (.s rfl (.s rfl (.n (.s rfl (.s rfl (.s rfl (.s rfl (.s rfl (.s rfl (.n (.n (.n (.n (.n (.n (.n (.n (.n (.n (.n (.n (.n (.n (.n (.n (.n (.n (.n (.z)))))))))))))))))))))))))))))), hst⟩
    · replace hp := hp.2 (of_decide_eq_false hc7)
      refine wp_exit ?_
      refine hK5 _ _ ?_
      refine E.seq (fun K14 hK14 => ?_)
      refine rg ?_
      refine TL.assign (Value.bool false) rfl rfl ?_
      refine TL.nil ?_
      refine hK14 _ _ ?_
      refine E.norm (by simp only [List.set_cons_succ, List.set_cons_zero]; rfl) ?_
      refine wp_ret ?_
      refine E.ret _ (Rs.t (Value.bool false) rfl rfl) ?_
      exact ⟨hst.keep, false, hp, rfl⟩

def smithyref15_Cache_At (p0 : T_smithyref15_Cache) (p1 : Ar 20) (Q : Int → Prop) : Prop :=
  ∃ (I7 : Int → Prop) (m8 : Int → Nat), (I7 0) ∧ ∀ (x6 : Int), (I7 x6 → (((x6 < (p0.fAsked.length : Int)) → ((0 ≤ x6) ∧ (x6 < (p0.fAsked.length : Int)) ∧ ((((nth p0.fAsked x6).fA = p1) → (Q x6)) ∧ ((¬ ((nth p0.fAsked x6).fA = p1)) → ((inR .i64 (x6 + 1)) ∧ (I7 (x6 + 1) ∧ m8 (x6 + 1) < m8 x6)))))) ∧ ((¬ (x6 < (p0.fAsked.length : Int))) → (Q (-1)))))
theorem w_smithyref15_Cache_At (p0 : T_smithyref15_Cache) (p1 : Ar 20) (v1 : Value) (v2 : Value) (g : Gh) (w0 : World) (hg : Has w0 g) (hv1 : Sl rT_api_Account g p0.fKnown v1) (hv2 : Sl rT_smithyref15_Try g p0.fAsked v2) (Q : Int → Prop) (hp : smithyref15_Cache_At p0 p1 Q) : Calls Try.prog 30 #[Value.agg ([v1] ++ ([v2])).toArray, Value.agg (iaC .u8 p1).toArray] w0 (Ret fun u w => Keep Non w0 w ∧ ∃ (r1 : Int), Q r1 ∧ u = Value.int .i64 r1) := by
  unfold smithyref15_Cache_At at hp
  go_enter Try.func30, Try.ntmps30
  change Code.wp _ _ _ (F [Value.agg ([v1] ++ ([v2])).toArray, Value.agg (iaC .u8 p1).toArray, undef, undef, undef, undef, undef, undef, undef, undef, undef, undef, undef, undef, undef, undef, undef, undef, undef, undef, undef, undef]) _
  have hst := St.start Non hg
  have hgn0 : GN Non w0 g g := GN.refl _ _ _
  have hle0 : g.le g := Gh.le_refl _
  refine E.seq (fun K1 hK1 => ?_)
  refine rg ?_
  refine TL.box (vs := [v1] ++ ([v2])) hst rfl rfl ?_
  intro w n3 hst
  refine ⟨trivial, ?_⟩
  refine TL.box (vs := iaC .u8 p1) hst rfl rfl ?_
  intro w n4 hst
  refine ⟨trivial, ?_⟩
  refine TL.assign (Value.int .i64 0) rfl rfl ?_
  refine TL.norm (by simp only [List.set_cons_succ, List.set_cons_zero]; rfl) ?_
  refine TL.nil ?_
  refine hK1 _ _ ?_
  refine E.seq (fun K2 hK2 => ?_)
  refine E.seq (fun K3 hK3 => ?_)
  refine rg ?_
  refine TL.fieldA (1) fa51_1 rfl (by first | rfl | omega) rfl ?_
  refine TL.ldL1 1 n3 (1 + (0)) (v2) (fun _ h => h ▸ hst) rfl (Seg.skip (m := 1) (by simp) (Seg.all _)) ts49 rfl rfl ?_
  refine TL.lenL (hv2) Try.underlying49 rfl rfl ?_
  refine TL.norm (by simp only [List.set_cons_succ, List.set_cons_zero]; rfl) ?_
  refine TL.move (Value.int .i64 0) rfl rfl ?_
  refine TL.nil ?_
  refine hK3 _ _ ?_
  refine E.norm (by simp only [List.set_cons_succ, List.set_cons_zero]; rfl) ?_
  refine wp_block ?_
  obtain ⟨I7, m8, hI0, hI⟩ := hp
  refine E.loop (fun mm l w => ∃ (x6 : Int), (mm = m8 x6) ∧ (I7 x6) ∧ Fits [some (Value.agg ([v1] ++ ([v2])).toArray), some (Value.agg (iaC .u8 p1).toArray), some (Value.pointer (some ⟨n3, 0, none⟩)), some (Value.pointer (some ⟨n4, 0, none⟩)), some (Value.int .i64 0), none, some (Value.pointer (some ⟨n3, 1, none⟩)), some (v2), some (Value.int .i64 ((p0.fAsked.length : Int))), some (Value.int .i64 x6), none, none, none, none, none, none, none, none, none, none, some (undef), none] l ∧ St Non w0 w g ([(n4, .cells (iaC .u8 p1).toArray 28 (0, 0)), (n3, .cells ([v1] ++ ([v2])).toArray 51 (0, 0))])) _ ⟨0, rfl, hI0, (by first | (simp only [List.set_cons_succ, List.set_cons_zero]; exact .s rfl (.s rfl (.s rfl (.s rfl (.s rfl (.n (.s rfl (.s rfl (.s rfl (.s rfl (.n (.n (.n (.n (.n (.n (.n (.n (.n (.n (.s rfl (.n (.z))))))))))))))))))))))) | exact .s rfl (.s rfl (.s rfl (.s rfl (.s rfl (.n (.s rfl (.s rfl (.s rfl (.s rfl (.n (.n (.n (.n (.n (.n (.n (.n (.n (.n (.s rfl (.n (.z))))))))))))))))))))))), hst⟩ ?_
  rintro _ _ w ⟨x6, rfl, hI1, hfit, hst⟩
  have hp := hI _ hI1
  obtain ⟨j5, rfl⟩ := hfit.ex
  refine E.norm (l' := [Value.agg ([v1] ++ ([v2])).toArray, Value.agg (iaC .u8 p1).toArray, Value.pointer (some ⟨n3, 0, none⟩), Value.pointer (some ⟨n4, 0, none⟩), Value.int .i64 0, (j5 5), Value.pointer (some ⟨n3, 1, none⟩), v2, Value.int .i64 ((p0.fAsked.length : Int)), Value.int .i64 x6, (j5 10), (j5 11), (j5 12), (j5 13), (j5 14), (j5 15), (j5 16), (j5 17), (j5 18), (j5 19), undef, (j5 21)]) rfl ?_
  refine E.seq (fun K4 hK4 => ?_)
  refine rg ?_
  refine TL.lss rfl rfl rfl ?_
  refine TL.nil ?_
  refine hK4 _ _ ?_
  refine E.norm (by simp only [List.set_cons_succ, List.set_cons_zero]; rfl) ?_
  refine E.seq (fun K5 hK5 => ?_)
  refine E.cond rfl (fun hc9 => ?_) (fun hc9 => ?_)
  · replace hp := hp.1 (of_decide_eq_true hc9)
    refine wp_skip ?_
    refine hK5 _ _ ?_
    refine E.seq (fun K6 hK6 => ?_)
    refine wp_block ?_
    refine E.seq (fun K7 hK7 => ?_)
    refine rg ?_
    refine TL.move (Value.int .i64 x6) rfl rfl ?_
    refine TL.assign (Value.int .i64 x6) rfl rfl ?_
    refine TL.nil ?_
    refine hK7 _ _ ?_
    refine E.norm (by simp only [List.set_cons_succ, List.set_cons_zero]; rfl) ?_
    refine E.seq (fun K8 hK8 => ?_)
    refine rgD mixed #[0, 1, 0, 7, 15, 31, 0, 127] (by kernel_rfl) ?_
    replace hst := hst.drew
    refine TL.fieldA (1) fa51_1 rfl (by first | rfl | omega) rfl ?_
    refine TL.ldL1 1 n3 (1 + (0)) (v2) (fun _ h => h ▸ hst) rfl (Seg.skip (m := 1) (by simp) (Seg.all _)) ts49 rfl rfl ?_
    refine TL.move (Value.int .i64 x6) rfl rfl ?_
    refine TL.norm (by simp only [List.set_cons_succ, List.set_cons_zero]; rfl) ?_
    obtain ⟨ho10, ho11, hp⟩ := hp
    refine TL.indexL (hv2) sl49 rfl rfl ho10 ho11 rfl ?_
    rintro b12 o13 _ rfl hq16
    refine TL.fieldA (o13) fa66_0 rfl (by first | rfl | omega) rfl ?_
    refine TL.ldG b12 (o13 + (0)) (iaC .u8 ((nth p0.fAsked x6).fA)) (fun _ h => h ▸ hst) (hq16.sub (Seg.here _ _)) (ta28.of (by simp)) rfl rfl ?_
    refine TL.norm (by simp only [List.set_cons_succ, List.set_cons_zero]; rfl) ?_
    refine TL.ldL 0 n4 (0) (iaC .u8 p1) (fun _ h => h ▸ hst) rfl (Seg.all _) (ta28.of (by simp)) rfl rfl ?_
    refine TL.eqlIA eqa28 rfl rfl rfl ?_
    refine TL.nil ?_
    refine hK8 _ _ ?_
    refine E.norm (by simp only [List.set_cons_succ, List.set_cons_zero]; rfl) ?_
    refine E.cond rfl (fun hc17 => ?_) (fun hc17 => ?_)
    · replace hp := hp.1 (of_decide_eq_true hc17)
      refine E.seq (fun K9 hK9 => ?_)
      refine rg ?_
      refine TL.move (Value.int .i64 x6) rfl rfl ?_
      refine TL.assign (Value.int .i64 x6) rfl rfl ?_
      refine TL.nil ?_
      refine hK9 _ _ ?_
      refine E.norm (by simp only [List.set_cons_succ, List.set_cons_zero]; rfl) ?_
      refine wp_ret ?_
      refine E.ret _ (Rs.t (Value.int .i64 x6) rfl rfl) ?_
      exact ⟨hst.keep, x6, hp, rfl⟩
    · replace hp := hp.2 (of_decide_eq_false hc17)
      refine wp_skip ?_
      refine hK6 _ _ ?_
      refine rg ?_
      obtain ⟨ho18, hp⟩ := hp
      refine TL.add (x6 + 1) rfl rfl ⟨rfl, ho18⟩ rfl ?_
      refine TL.move (Value.int .i64 (x6 + 1)) rfl rfl ?_
      refine TL.nil ?_
      exact ⟨_, _, hp.2, rfl, (x6 + 1), rfl, hp.1, (by first | (simp only [List.set_cons_succ, List.set_cons_zero]; exact .s rfl (.s rfl (.s rfl (.s rfl (.s rfl (.n (.s rfl (.s rfl (.s rfl (.s rfl (.n (.n (.n (.n (.n (.n (.n (.n (.n (.n (.s rfl (.n (.z))))))))))))))))))))))) | exact .s rfl (.s rfl (.s rfl (.s rfl (.s rfl (.n (.s rfl (.s rfl (.s rfl (.s rfl (.n (.n (.n (.n (.n (.n (.n (.n (.n (.n (.s rfl (.n (.z))))))))))))))))))))))), hst⟩
  · replace hp := hp.2 (of_decide_eq_false hc9)
    refine wp_exit ?_
    refine hK2 _ _ ?_
    refine E.seq (fun K10 hK10 => ?_)
    refine rg ?_
    refine TL.assign (Value.int .i64 ((-1))) rfl rfl ?_
    refine TL.nil ?_
    refine hK10 _ _ ?_
    refine E.norm (by simp only [List.set_cons_succ, List.set_cons_zero]; rfl) ?_
    refine wp_ret ?_
    refine E.ret _ (Rs.t (Value.int .i64 ((-1))) rfl rfl) ?_
    exact ⟨hst.keep, (-1), hp, rfl⟩

def smithyref15_Cache_Want (p0 : T_smithyref15_Cache) (p1 : Ar 20) (Q : Int → T_smithyref15_Cache → Prop) : Prop :=
  smithyref13_Find p0.fKnown p1 (fun r6 r9 => ((r9 = true) → (Q 1 p0)) ∧ ((r9 = false) → (smithyref15_Cache_At p0 p1 (fun r12 => ((0 ≤ r12) → (Q 2 p0)) ∧ ((¬ (0 ≤ r12)) → (((([] : List T_smithyref15_Try).length + (p0.fAsked : List T_smithyref15_Try).length) * 32 ≤ 140737488355328) ∧ (((p0.fAsked.length + ([(T_smithyref15_Try.mk p1 0)] : List T_smithyref15_Try).length) * 32 ≤ 140737488355328) ∧ (Q 3 (T_smithyref15_Cache.mk p0.fKnown (p0.fAsked ++ ([(T_smithyref15_Try.mk p1 0)])))))))))))
theorem w_smithyref15_Cache_Want (p0 : T_smithyref15_Cache) (p1 : Ar 20) (v1 : Value) (v2 : Value) (g : Gh) (w0 : World) (hg : Has w0 g) (hv1 : Sl rT_api_Account g p0.fKnown v1) (hv2 : Sl rT_smithyref15_Try g p0.fAsked v2) (Q : Int → T_smithyref15_Cache → Prop) (hp : smithyref15_Cache_Want p0 p1 Q) : Calls Try.prog 25 #[Value.agg ([v1] ++ ([v2])).toArray, Value.agg (iaC .u8 p1).toArray] w0 (Ret fun u w => ∃ g', Gr w0 w g g' ∧ ∃ (r1 : Int) (r2 : T_smithyref15_Cache), Q r1 r2 ∧ ∃ (u1 : Value) (u2 : Value), u = Value.tuple #[Value.int .u8 r1, Value.agg ([u1] ++ ([u2])).toArray] ∧ Sl rT_api_Account g' r2.fKnown u1 ∧ Sl rT_smithyref15_Try g' r2.fAsked u2) := by
  unfold smithyref15_Cache_Want at hp
  go_enter Try.func25, Try.ntmps25
  change Code.wp _ _ _ (F [Value.agg ([v1] ++ ([v2])).toArray, Value.agg (iaC .u8 p1).toArray, undef, undef, undef, undef, undef, undef, undef, undef, undef, undef, undef, undef, undef, undef, undef, undef, undef, undef, undef, undef, undef, undef, undef, undef, undef, undef, undef, undef, undef, undef, undef, undef, undef, undef]) _
  have hst := St.start Non hg
  have hgn0 : GN Non w0 g g := GN.refl _ _ _
  have hle0 : g.le g := Gh.le_refl _
  refine E.seq (fun K1 hK1 => ?_)
  refine rg ?_
  refine TL.box (vs := [v1] ++ ([v2])) hst rfl rfl ?_
  intro w n3 hst
  refine ⟨trivial, ?_⟩
  refine TL.box (vs := iaC .u8 p1) hst rfl rfl ?_
  intro w n4 hst
  refine ⟨trivial, ?_⟩
  refine TL.assign (Value.int .u8 0) rfl rfl ?_
  refine TL.norm (by simp only [List.set_cons_succ, List.set_cons_zero]; rfl) ?_
  refine TL.alloc hst zv51 rfl ?_
  intro w n5 hst
  refine ⟨trivial, ?_⟩
  refine TL.nil ?_
  refine hK1 _ _ ?_
  refine E.norm (by simp only [List.set_cons_succ, List.set_cons_zero]; rfl) ?_
  refine E.seq (fun K2 hK2 => ?_)
  refine rg ?_
  refine TL.fieldA (0) fa51_0 rfl (by first | rfl | omega) rfl ?_
  refine TL.ldL1 2 n3 (0) (v1) (fun _ h => h ▸ hst) rfl (Seg.here _ _) ts22 rfl rfl ?_
  refine TL.ldL 1 n4 (0) (iaC .u8 p1) (fun _ h => h ▸ hst) rfl (Seg.all _) (ta28.of (by simp)) rfl rfl ?_
  refine TL.norm (by simp only [List.set_cons_succ, List.set_cons_zero]; rfl) ?_
  refine TL.callS #[v1, Value.agg (iaC .u8 p1).toArray] co17 rfl (w_smithyref13_Find p0.fKnown p1 v1 g _ hst.has (hv1) _ hp) rfl ?_
  rintro _ w ⟨hk, r6, r9, hp, v7, v8, rfl, hv7, hv8⟩
  replace hst := hst.call hk
  refine ⟨trivial, ?_⟩
  refine TL.move (Value.tuple #[Value.agg (iaC .u8 r6.fAddress ++ ([Value.int .u64 r6.fNonce] ++ (iaC .u64 r6.fBalance ++ ([v7] ++ ([v8]))))).toArray, Value.bool r9]) rfl rfl ?_
  refine TL.extract (Value.agg (iaC .u8 r6.fAddress ++ ([Value.int .u64 r6.fNonce] ++ (iaC .u64 r6.fBalance ++ ([v7] ++ ([v8]))))).toArray) rfl rfl rfl ?_
  refine TL.norm (by simp only [List.set_cons_succ, List.set_cons_zero]; rfl) ?_
  refine TL.extract (Value.bool r9) rfl rfl rfl ?_
  refine TL.alloc hst zv34 rfl ?_
  intro w n10 hst
  refine ⟨trivial, ?_⟩
  refine TL.stA 0 n10 (0) _ (vs := iaC .u8 r6.fAddress ++ ([Value.int .u64 r6.fNonce] ++ (iaC .u64 r6.fBalance ++ ([v7] ++ ([v8]))))) hst rfl (Put.all (by simp)) (by first | rfl | omega) rfl (One.app (One.ia _ _) (One.app (One.one rfl) (One.app (One.ia _ _) (One.app (One.one (hv7).one) (One.one (hv8).one))))) (tzof tz34 (by simp)) rfl rfl ?_
  intro w hst
  refine ⟨trivial, ?_⟩
  refine TL.assign (Value.bool r9) rfl rfl ?_
  refine TL.norm (by simp only [List.set_cons_succ, List.set_cons_zero]; rfl) ?_
  refine TL.nil ?_
  refine hK2 _ _ ?_
  refine E.seq (fun K3 hK3 => ?_)
  refine E.seq (fun K4 hK4 => ?_)
  refine rg ?_
  refine TL.move (Value.bool r9) rfl rfl ?_
  refine TL.nil ?_
  refine hK4 _ _ ?_
  refine E.norm (by simp only [List.set_cons_succ, List.set_cons_zero]; rfl) ?_
  refine E.cond rfl (fun hc11 => ?_) (fun hc11 => ?_)
  · replace hp := hp.1 (hc11)
    refine E.seq (fun K5 hK5 => ?_)
    refine rgD mixed #[0, 0, 3] (by kernel_rfl) ?_
    replace hst := hst.drew
    refine TL.ldL 3 n3 (0) ([v1] ++ ([v2])) (fun _ h => h ▸ hst) rfl (Seg.all _) (ta51.of (by simp)) rfl rfl ?_
    refine TL.assign (Value.int .u8 1) rfl rfl ?_
    refine TL.stA 1 n5 (0) _ (vs := [v1] ++ ([v2])) hst rfl (Put.all (by simp)) (by first | rfl | omega) rfl (One.app (One.one (hv1).one) (One.one (hv2).one)) (tzof tz51 (by simp)) rfl rfl ?_
    intro w hst
    refine ⟨trivial, ?_⟩
    refine TL.nil ?_
    refine hK5 _ _ ?_
    refine E.norm (by simp only [List.set_cons_succ, List.set_cons_zero]; rfl) ?_
    refine wp_ret ?_
    refine E.ret _ (Rs.tc ([v1] ++ ([v2])) (Value.int .u8 1) rfl rfl (ta51.of (by simp)) (rangeAt_of_block (hst.mem (i := 1) rfl) (Seg.all _)) rfl) ?_
    exact ⟨g, ⟨hst.keep, hst.has, hle0, hgn0.new⟩, 1, p0, hp, _, _, rfl, hv1, hv2⟩
  · replace hp := hp.2 (hc11)
    refine wp_skip ?_
    refine hK3 _ _ ?_
    refine E.seq (fun K6 hK6 => ?_)
    refine E.seq (fun K7 hK7 => ?_)
    refine rg ?_
    refine TL.ldL 3 n3 (0) ([v1] ++ ([v2])) (fun _ h => h ▸ hst) rfl (Seg.all _) (ta51.of (by simp)) rfl rfl ?_
    refine TL.ldL 2 n4 (0) (iaC .u8 p1) (fun _ h => h ▸ hst) rfl (Seg.all _) (ta28.of (by simp)) rfl rfl ?_
    refine TL.callS #[Value.agg ([v1] ++ ([v2])).toArray, Value.agg (iaC .u8 p1).toArray] co30 rfl (w_smithyref15_Cache_At p0 p1 v1 v2 g _ hst.has (hv1) (hv2) _ hp) rfl ?_
    rintro _ w ⟨hk, r12, hp, rfl⟩
    replace hst := hst.call hk
    refine ⟨trivial, ?_⟩
    refine TL.norm (by simp only [List.set_cons_succ, List.set_cons_zero]; rfl) ?_
    refine TL.geq rfl rfl rfl ?_
    refine TL.nil ?_
    refine hK7 _ _ ?_
    refine E.norm (by simp only [List.set_cons_succ, List.set_cons_zero]; rfl) ?_
    refine E.cond rfl (fun hc13 => ?_) (fun hc13 => ?_)
    · replace hp := hp.1 (of_decide_eq_true hc13)
      refine E.seq (fun K8 hK8 => ?_)
      refine rgD mixed #[0, 0, 3] (by kernel_rfl) ?_
      replace hst := hst.drew
      refine TL.ldL 3 n3 (0) ([v1] ++ ([v2])) (fun _ h => h ▸ hst) rfl (Seg.all _) (ta51.of (by simp)) rfl rfl ?_
      refine TL.assign (Value.int .u8 2) rfl rfl ?_
      refine TL.stA 1 n5 (0) _ (vs := [v1] ++ ([v2])) hst rfl (Put.all (by simp)) (by first | rfl | omega) rfl (One.app (One.one (hv1).one) (One.one (hv2).one)) (tzof tz51 (by simp)) rfl rfl ?_
      intro w hst
      refine ⟨trivial, ?_⟩
      refine TL.nil ?_
      refine hK8 _ _ ?_
      refine E.norm (by simp only [List.set_cons_succ, List.set_cons_zero]; rfl) ?_
      refine wp_ret ?_
      refine E.ret _ (Rs.tc ([v1] ++ ([v2])) (Value.int .u8 2) rfl rfl (ta51.of (by simp)) (rangeAt_of_block (hst.mem (i := 1) rfl) (Seg.all _)) rfl) ?_
      exact ⟨g, ⟨hst.keep, hst.has, hle0, hgn0.new⟩, 2, p0, hp, _, _, rfl, hv1, hv2⟩
    · replace hp := hp.2 (of_decide_eq_false hc13)
      refine wp_skip ?_
      refine hK6 _ _ ?_
      refine E.seq (fun K9 hK9 => ?_)
      refine rg ?_
      refine TL.buildSl [] [] hst sl49 zv66 rfl rfl (by simp) rfl (by decide) rfl ?_
      intro w n14 hst
      refine ⟨trivial, ?_⟩
      obtain ⟨o16, hsv15, hst⟩ := hst.ownB (A := rT_smithyref15_Try) (n := 0) (xs := []) rfl (Rws.nil)
      refine TL.assign (Value.slice (some ⟨n14, 0, none⟩) 0 0) rfl rfl ?_
      refine TL.nil ?_
      refine hK9 _ _ ?_
      refine E.norm (by simp only [List.set_cons_succ, List.set_cons_zero]; rfl) ?_
      refine E.seq (fun K10 hK10 => ?_)
      refine rg ?_
      refine TL.move (Value.slice (some ⟨n14, 0, none⟩) 0 0) rfl rfl ?_
      refine TL.fieldA (1) fa51_1 rfl (by first | rfl | omega) rfl ?_
      refine TL.ldL1 3 n3 (1 + (0)) (v2) (fun _ h => h ▸ hst) rfl (Seg.skip (m := 1) (by simp) (Seg.all _)) ts49 rfl rfl ?_
      refine TL.norm (by simp only [List.set_cons_succ, List.set_cons_zero]; rfl) ?_
      obtain ⟨_, hz17a, hz17b⟩ := (hv2).src hst.has
      obtain ⟨ho18, hp⟩ := hp
      refine TL.pushL (ls := [(n10, .cells (iaC .u8 r6.fAddress ++ ([Value.int .u64 r6.fNonce] ++ (iaC .u64 r6.fBalance ++ ([v7] ++ ([v8]))))).toArray 34 (0, 0)), (n5, .cells ([Value.slice none 0 0] ++ ([Value.slice none 0 0])).toArray 51 (0, 0)), (n4, .cells (iaC .u8 p1).toArray 28 (0, 0)), (n3, .cells ([v1] ++ ([v2])).toArray 51 (0, 0))]) hst (List.Perm.refl _) ae49 (hsv15) hz17a hz17b ho18 rfl rfl rfl ?_
      intro w v19 o20 hsv19 hst
      rw [List.nil_append] at hsv19
      refine ⟨trivial, ?_⟩
      refine TL.assign (v19) rfl rfl ?_
      refine TL.nil ?_
      refine hK10 _ _ ?_
      refine E.norm (by simp only [List.set_cons_succ, List.set_cons_zero]; rfl) ?_
      refine E.seq (fun K11 hK11 => ?_)
      refine rg ?_
      refine TL.move (v19) rfl rfl ?_
      refine TL.ldL 2 n4 (0) (iaC .u8 p1) (fun _ h => h ▸ hst) rfl (Seg.all _) (ta28.of (by simp)) rfl rfl ?_
      refine TL.buildS (ps := [(0, Value.agg (iaC .u8 p1).toArray)]) bs66 zv66 rfl (Fl.cons (vs := iaC .u8 p1) (by simp) rfl (Put.here (by simp)) (Fl.nil _)) rfl ?_
      refine TL.norm (by simp only [List.set_cons_succ, List.set_cons_zero]; rfl) ?_
      refine TL.buildSl [(Value.agg (iaC .u8 p1 ++ ([Value.int .i64 0])).toArray)] [(iaC .u8 p1 ++ ([Value.int .i64 0]))] hst sl49 zv66 rfl rfl (by simp) rfl (by decide) rfl ?_
      intro w n21 hst
      refine ⟨trivial, ?_⟩
      obtain ⟨ho22, hp⟩ := hp
      refine TL.pushL (ls := [(n21, .cells ([(iaC .u8 p1 ++ ([Value.int .i64 0]))].flatten).toArray 66 (0, 0)), (n10, .cells (iaC .u8 r6.fAddress ++ ([Value.int .u64 r6.fNonce] ++ (iaC .u64 r6.fBalance ++ ([v7] ++ ([v8]))))).toArray 34 (0, 0)), (n5, .cells ([Value.slice none 0 0] ++ ([Value.slice none 0 0])).toArray 51 (0, 0)), (n4, .cells (iaC .u8 p1).toArray 28 (0, 0)), (n3, .cells ([v1] ++ ([v2])).toArray 51 (0, 0))]) hst (List.Perm.refl _) ae49 (hsv19) (SrcAt.box hst rfl fun r hr => ((Rws.cons (rfl) (Rws.nil) : Rws rT_smithyref15_Try g ([(T_smithyref15_Try.mk p1 0)]) _).ok r hr).1) (Rws.cons (rfl) (Rws.nil) : Rws rT_smithyref15_Try g ([(T_smithyref15_Try.mk p1 0)]) _) ho22 rfl rfl rfl ?_
      intro w v23 o24 hsv23 hst
      replace hst := hst.sub (.cons _ (.cons_cons _ (.cons_cons _ (.cons_cons _ (.cons_cons _ (List.Sublist.refl _))))))
      change St Non _ _ _ ([(n10, .cells (iaC .u8 r6.fAddress ++ ([Value.int .u64 r6.fNonce] ++ (iaC .u64 r6.fBalance ++ ([v7] ++ ([v8]))))).toArray 34 (0, 0)), (n5, .cells ([Value.slice none 0 0] ++ ([Value.slice none 0 0])).toArray 51 (0, 0)), (n4, .cells (iaC .u8 p1).toArray 28 (0, 0)), (n3, .cells ([v1] ++ ([v2])).toArray 51 (0, 0))] ++ (o24)) at hst
      refine ⟨trivial, ?_⟩
      refine TL.assign (v23) rfl rfl ?_
      refine TL.norm (by simp only [List.set_cons_succ, List.set_cons_zero]; rfl) ?_
      refine TL.nil ?_
      refine hK11 _ _ ?_
      refine E.seq (fun K12 hK12 => ?_)
      refine rg ?_
      refine TL.move (v23) rfl rfl ?_
      refine TL.fieldA (1) fa51_1 rfl (by first | rfl | omega) rfl ?_
      refine TL.stA 3 n3 (1 + (0)) _ (vs := [v23]) hst rfl (Put.skip (m := 1) (by simp) (Put.all (by simp))) (by first | rfl | omega) (by obtain ⟨_, _, hq⟩ := hsv23.shape; subst hq; rfl) (One.one (hsv23).one) (tzof tz49 (by simp)) rfl rfl ?_
      intro w hst
      refine ⟨trivial, ?_⟩
      refine TL.nil ?_
      refine hK12 _ _ ?_
      refine E.norm (by simp only [List.set_cons_succ, List.set_cons_zero]; rfl) ?_
      refine E.seq (fun K13 hK13 => ?_)
      refine rgD mixed #[0, 0, 3] (by kernel_rfl) ?_
      replace hst := hst.drew
      refine TL.ldL 3 n3 (0) ([v1] ++ ([v23])) (fun _ h => h ▸ hst) rfl (Seg.all _) (ta51.of (by simp)) rfl rfl ?_
      refine TL.assign (Value.int .u8 3) rfl rfl ?_
      refine TL.stA 1 n5 (0) _ (vs := [v1] ++ ([v23])) hst rfl (Put.all (by simp)) (by first | rfl | omega) rfl (One.app (One.one (hv1).one) (One.one (hsv23).one)) (tzof tz51 (by simp)) rfl rfl ?_
      intro w hst
      refine ⟨trivial, ?_⟩
      refine TL.nil ?_
      refine hK13 _ _ ?_
      refine E.norm (by simp only [List.set_cons_succ, List.set_cons_zero]; rfl) ?_
      refine wp_ret ?_
      obtain ⟨g25, hleg25, hst, hsg25, hgn0⟩ := hst.freezeS (ls := [(n10, .cells (iaC .u8 r6.fAddress ++ ([Value.int .u64 r6.fNonce] ++ (iaC .u64 r6.fBalance ++ ([v7] ++ ([v8]))))).toArray 34 (0, 0)), (n5, .cells ([v1] ++ ([v23])).toArray 51 (0, 0)), (n4, .cells (iaC .u8 p1).toArray 28 (0, 0)), (n3, .cells ([v1] ++ ([v23])).toArray 51 (0, 0))]) (List.Perm.refl _) hsv23 hgn0
      replace hle0 := Gh.le_trans hle0 hleg25
      refine E.ret _ (Rs.tc ([v1] ++ ([v23])) (Value.int .u8 3) rfl rfl (ta51.of (by simp)) (rangeAt_of_block (hst.mem (i := 1) rfl) (Seg.all _)) rfl) ?_
      exact ⟨g25, ⟨hst.keep, hst.has, hle0, hgn0.new⟩, 3, (T_smithyref15_Cache.mk p0.fKnown (p0.fAsked ++ ([(T_smithyref15_Try.mk p1 0)]))), hp, _, _, rfl, (hv1.mono (hleg25)), hsg25⟩

def smithyref15_Cache_without (p0 : T_smithyref15_Cache) (p1 : Int) (Q : T_smithyref15_Cache → Prop) : Prop :=
  ∃ (I13 : (List T_smithyref15_Try) → Int → Prop) (m14 : (List T_smithyref15_Try) → Int → Nat), (I13 ([]) 0) ∧ ∀ (xs9 : List T_smithyref15_Try) (x12 : Int), (I13 xs9 x12 → (((x12 < (p0.fAsked.length : Int)) → (∃ J20 : (List T_smithyref15_Try) → Prop, (∀ (xs17 : List T_smithyref15_Try), J20 xs17 → ((inR .i64 (x12 + 1)) ∧ (I13 xs17 (x12 + 1) ∧ m14 xs17 (x12 + 1) < m14 xs9 x12))) ∧ (((x12 ≠ p1) → ((0 ≤ x12) ∧ (x12 < (p0.fAsked.length : Int)) ∧ (((xs9.length + ([(nth p0.fAsked x12)] : List T_smithyref15_Try).length) * 32 ≤ 140737488355328) ∧ (J20 (xs9 ++ ([(nth p0.fAsked x12)])))))) ∧ ((¬ (x12 ≠ p1)) → (J20 xs9))))) ∧ ((¬ (x12 < (p0.fAsked.length : Int))) → (Q (T_smithyref15_Cache.mk p0.fKnown xs9)))))
theorem w_smithyref15_Cache_without (p0 : T_smithyref15_Cache) (p1 : Int) (v1 : Value) (v2 : Value) (g : Gh) (w0 : World) (hg : Has w0 g) (hv1 : Sl rT_api_Account g p0.fKnown v1) (hv2 : Sl rT_smithyref15_Try g p0.fAsked v2) (Q : T_smithyref15_Cache → Prop) (hp : smithyref15_Cache_without p0 p1 Q) : Calls Try.prog 77 #[Value.agg ([v1] ++ ([v2])).toArray, Value.int .i64 p1] w0 (Ret fun u w => ∃ g', Gr w0 w g g' ∧ ∃ (r1 : T_smithyref15_Cache), Q r1 ∧ ∃ (u1 : Value) (u2 : Value), u = Value.agg ([u1] ++ ([u2])).toArray ∧ Sl rT_api_Account g' r1.fKnown u1 ∧ Sl rT_smithyref15_Try g' r1.fAsked u2) := by
  unfold smithyref15_Cache_without at hp
  go_enter Try.func77, Try.ntmps77
  change Code.wp _ _ _ (F [Value.agg ([v1] ++ ([v2])).toArray, Value.int .i64 p1, undef, undef, undef, undef, undef, undef, undef, undef, undef, undef, undef, undef, undef, undef, undef, undef, undef, undef, undef, undef, undef, undef, undef, undef, undef, undef, undef]) _
  have hst := St.start Non hg
  have hgn0 : GN Non w0 g g := GN.refl _ _ _
  have hle0 : g.le g := Gh.le_refl _
  refine E.seq (fun K1 hK1 => ?_)
  refine rg ?_
  refine TL.box (vs := [v1] ++ ([v2])) hst rfl rfl ?_
  intro w n3 hst
  refine ⟨trivial, ?_⟩
  refine TL.alloc hst zv51 rfl ?_
  intro w n4 hst
  refine ⟨trivial, ?_⟩
  refine TL.nil ?_
  refine hK1 _ _ ?_
  refine E.norm (by simp only [List.set_cons_succ, List.set_cons_zero]; rfl) ?_
  refine E.seq (fun K2 hK2 => ?_)
  refine rg ?_
  refine TL.buildSl [] [] hst sl49 zv66 rfl rfl (by simp) rfl (by decide) rfl ?_
  intro w n5 hst
  refine ⟨trivial, ?_⟩
  obtain ⟨o7, hsv6, hst⟩ := hst.ownB (A := rT_smithyref15_Try) (n := 0) (xs := []) rfl (Rws.nil)
  refine TL.assign (Value.slice (some ⟨n5, 0, none⟩) 0 0) rfl rfl ?_
  refine TL.nil ?_
  refine hK2 _ _ ?_
  refine E.norm (by simp only [List.set_cons_succ, List.set_cons_zero]; rfl) ?_
  refine E.seq (fun K3 hK3 => ?_)
  refine E.seq (fun K4 hK4 => ?_)
  refine rg ?_
  refine TL.fieldA (1) fa51_1 rfl (by first | rfl | omega) rfl ?_
  refine TL.ldL1 1 n3 (1 + (0)) (v2) (fun _ h => h ▸ hst) rfl (Seg.skip (m := 1) (by simp) (Seg.all _)) ts49 rfl rfl ?_
  refine TL.lenL (hv2) Try.underlying49 rfl rfl ?_
  refine TL.norm (by simp only [List.set_cons_succ, List.set_cons_zero]; rfl) ?_
  refine TL.move (Value.int .i64 0) rfl rfl ?_
  refine TL.nil ?_
  refine hK4 _ _ ?_
  refine E.norm (by simp only [List.set_cons_succ, List.set_cons_zero]; rfl) ?_
  refine wp_block ?_
  obtain ⟨I13, m14, hI0, hI⟩ := hp
  refine E.loop (fun mm l w => ∃ (xs9 : List T_smithyref15_Try) (x12 : Int) (v10 : Value) (o11 : List (Nat × Obj)), (mm = m14 xs9 x12) ∧ (I13 xs9 x12) ∧ (OwnS rT_smithyref15_Try 66 g xs9 v10 o11) ∧ Fits [some (Value.agg ([v1] ++ ([v2])).toArray), some (Value.int .i64 p1), some (Value.pointer (some ⟨n3, 0, none⟩)), some (undef), some (Value.pointer (some ⟨n4, 0, none⟩)), some (v10), none, some (Value.slice (some ⟨n5, 0, none⟩) 0 0), some (Value.pointer (some ⟨n3, 1, none⟩)), some (v2), some (Value.int .i64 ((p0.fAsked.length : Int))), some (Value.int .i64 x12), none, none, none, none, none, none, none, none, none, none, none, none, none, none, some (undef), some (undef), some (undef)] l ∧ St Non w0 w g ([(n4, .cells ([Value.slice none 0 0] ++ ([Value.slice none 0 0])).toArray 51 (0, 0)), (n3, .cells ([v1] ++ ([v2])).toArray 51 (0, 0))] ++ (o11))) _ ⟨([]), 0, _, o7, rfl, hI0, hsv6, (by first | (simp only [List.set_cons_succ, List.set_cons_zero]; exact .s rfl (.s rfl (.s rfl (.s rfl (.s rfl (.s rfl (.n (.s rfl (.s rfl (.s rfl (.s rfl (.s rfl (.n (.n (.n (.n (.n (.n (.n (.n (.n (.n (.n (.n (.n (.n (.s rfl (.s rfl (.s rfl (.z)))))))))))))))))))))))))))))) | exact .s rfl (.s rfl (.s rfl (.s rfl (.s rfl (.s rfl (.n (.s rfl (.s rfl (.s rfl (.s rfl (.s rfl (.n (.n (.n (.n (.n (.n (.n (.n (.n (.n (.n (.n (.n (.n (.s rfl (.s rfl (.s rfl (.z)))))))))))))))))))))))))))))), hst⟩ ?_
  rintro _ _ w ⟨xs9, x12, v10, o11, rfl, hI1, hsv10, hfit, hst⟩
  have hp := hI _ _ hI1
  obtain ⟨j8, rfl⟩ := hfit.ex
  refine E.norm (l' := [Value.agg ([v1] ++ ([v2])).toArray, Value.int .i64 p1, Value.pointer (some ⟨n3, 0, none⟩), undef, Value.pointer (some ⟨n4, 0, none⟩), v10, (j8 6), Value.slice (some ⟨n5, 0, none⟩) 0 0, Value.pointer (some ⟨n3, 1, none⟩), v2, Value.int .i64 ((p0.fAsked.length : Int)), Value.int .i64 x12, (j8 12), (j8 13), (j8 14), (j8 15), (j8 16), (j8 17), (j8 18), (j8 19), (j8 20), (j8 21), (j8 22), (j8 23), (j8 24), (j8 25), undef, undef, undef]) rfl ?_
  refine E.seq (fun K5 hK5 => ?_)
  refine rg ?_
  refine TL.lss rfl rfl rfl ?_
  refine TL.nil ?_
  refine hK5 _ _ ?_
  refine E.norm (by simp only [List.set_cons_succ, List.set_cons_zero]; rfl) ?_
  refine E.seq (fun K6 hK6 => ?_)
  refine E.cond rfl (fun hc15 => ?_) (fun hc15 => ?_)
  · replace hp := hp.1 (of_decide_eq_true hc15)
    refine wp_skip ?_
    refine hK6 _ _ ?_
    refine E.seq (fun K7 hK7 => ?_)
    obtain ⟨J20, hJ20, hp⟩ := hp
    have hJ20K : ∀ (xs17 : List T_smithyref15_Try) (v18 : Value) (o19 : List (Nat × Obj)) (l : List Value) (w : World), (J20 xs17) → (OwnS rT_smithyref15_Try 66 g xs17 v18 o19) → Fits [some (Value.agg ([v1] ++ ([v2])).toArray), some (Value.int .i64 p1), some (Value.pointer (some ⟨n3, 0, none⟩)), some (undef), some (Value.pointer (some ⟨n4, 0, none⟩)), some (v18), some (Value.int .i64 x12), some (Value.slice (some ⟨n5, 0, none⟩) 0 0), some (Value.pointer (some ⟨n3, 1, none⟩)), some (v2), some (Value.int .i64 ((p0.fAsked.length : Int))), some (Value.int .i64 x12), some (Value.bool (decide (x12 < (p0.fAsked.length : Int)))), some (Value.int .i64 x12), some (Value.int .i64 x12), some (Value.int .i64 p1), some (Value.bool (decide (x12 ≠ p1))), none, none, none, none, none, none, none, none, some ((j8 25)), some (undef), some (undef), some (undef)] l → St Non w0 w g ([(n4, .cells ([Value.slice none 0 0] ++ ([Value.slice none 0 0])).toArray 51 (0, 0)), (n3, .cells ([v1] ++ ([v2])).toArray 51 (0, 0))] ++ (o19)) → K7 (F l) w := by
      rintro xs17 v18 o19 _ w hp hsv18 hfit hst
      replace hp := hJ20 _ hp
      obtain ⟨jj16, rfl⟩ := hfit.ex
      refine hK7 _ _ ?_
      refine E.norm (l' := [Value.agg ([v1] ++ ([v2])).toArray, Value.int .i64 p1, Value.pointer (some ⟨n3, 0, none⟩), undef, Value.pointer (some ⟨n4, 0, none⟩), v18, Value.int .i64 x12, Value.slice (some ⟨n5, 0, none⟩) 0 0, Value.pointer (some ⟨n3, 1, none⟩), v2, Value.int .i64 ((p0.fAsked.length : Int)), Value.int .i64 x12, Value.bool (decide (x12 < (p0.fAsked.length : Int))), Value.int .i64 x12, Value.int .i64 x12, Value.int .i64 p1, Value.bool (decide (x12 ≠ p1)), (jj16 17), (jj16 18), (jj16 19), (jj16 20), (jj16 21), (jj16 22), (jj16 23), (jj16 24), (j8 25), undef, undef, undef]) rfl ?_
      refine rg ?_
      obtain ⟨ho21, hp⟩ := hp
      refine TL.add (x12 + 1) rfl rfl ⟨rfl, ho21⟩ rfl ?_
      refine TL.move (Value.int .i64 (x12 + 1)) rfl rfl ?_
      refine TL.nil ?_
      exact ⟨_, _, hp.2, rfl, xs17, (x12 + 1), _, o19, rfl, hp.1, hsv18, (by first | (simp only [List.set_cons_succ, List.set_cons_zero]; exact .s rfl (.s rfl (.s rfl (.s rfl (.s rfl (.s rfl (.n (.s rfl (.s rfl (.s rfl (.s rfl (.s rfl (.n (.n (.n (.n (.n (.n (.n (.n (.n (.n (.n (.n (.n (.n (.s rfl (.s rfl (.s rfl (.z)))))))))))))))))))))))))))))) | exact .s rfl (.s rfl (.s rfl (.s rfl (.s rfl (.s rfl (.n (.s rfl (.s rfl (.s rfl (.s rfl (.s rfl (.n (.n (.n (.n (.n (.n (.n (.n (.n (.n (.n (.n (.n (.n (.s rfl (.s rfl (.s rfl (.z)))))))))))))))))))))))))))))), hst⟩
    refine wp_block ?_
    refine E.seq (fun K8 hK8 => ?_)
    refine rg ?_
    refine TL.move (Value.int .i64 x12) rfl rfl ?_
    refine TL.assign (Value.int .i64 x12) rfl rfl ?_
    refine TL.nil ?_
    refine hK8 _ _ ?_
    refine E.norm (by simp only [List.set_cons_succ, List.set_cons_zero]; rfl) ?_
    refine E.seq (fun K9 hK9 => ?_)
    refine rg ?_
    refine TL.move (Value.int .i64 x12) rfl rfl ?_
    refine TL.move (Value.int .i64 p1) rfl rfl ?_
    refine TL.neqD rfl rfl rfl ?_
    refine TL.norm (by simp only [List.set_cons_succ, List.set_cons_zero]; rfl) ?_
    refine TL.nil ?_
    refine hK9 _ _ ?_
    refine E.cond rfl (fun hc22 => ?_) (fun hc22 => ?_)
    · replace hp := hp.1 (of_decide_eq_true hc22)
      refine rg ?_
      refine TL.move (v10) rfl rfl ?_
      refine TL.fieldA (1) fa51_1 rfl (by first | rfl | omega) rfl ?_
      refine TL.ldL1 1 n3 (1 + (0)) (v2) (fun _ h => h ▸ hst) rfl (Seg.skip (m := 1) (by simp) (Seg.all _)) ts49 rfl rfl ?_
      refine TL.norm (by simp only [List.set_cons_succ, List.set_cons_zero]; rfl) ?_
      refine TL.move (Value.int .i64 x12) rfl rfl ?_
      obtain ⟨ho23, ho24, hp⟩ := hp
      refine TL.indexL (hv2) sl49 rfl rfl ho23 ho24 rfl ?_
      rintro b25 o26 _ rfl hq29
      refine TL.ldG b25 (o26 + (0)) (iaC .u8 ((nth p0.fAsked x12).fA) ++ ([Value.int .i64 ((nth p0.fAsked x12).fN)])) (fun _ h => h ▸ hst) (hq29.sub (Seg.all _)) (ta66.of (by simp)) rfl rfl ?_
      refine TL.norm (by simp only [List.set_cons_succ, List.set_cons_zero]; rfl) ?_
      refine TL.buildSl [(Value.agg (iaC .u8 ((nth p0.fAsked x12).fA) ++ ([Value.int .i64 ((nth p0.fAsked x12).fN)])).toArray)] [(iaC .u8 ((nth p0.fAsked x12).fA) ++ ([Value.int .i64 ((nth p0.fAsked x12).fN)]))] hst sl49 zv66 rfl rfl (by simp) rfl (by decide) rfl ?_
      intro w n30 hst
      refine ⟨trivial, ?_⟩
      obtain ⟨ho31, hp⟩ := hp
      refine TL.pushL (ls := [(n30, .cells ([(iaC .u8 ((nth p0.fAsked x12).fA) ++ ([Value.int .i64 ((nth p0.fAsked x12).fN)]))].flatten).toArray 66 (0, 0)), (n4, .cells ([Value.slice none 0 0] ++ ([Value.slice none 0 0])).toArray 51 (0, 0)), (n3, .cells ([v1] ++ ([v2])).toArray 51 (0, 0))]) hst (List.Perm.refl _) ae49 (hsv10) (SrcAt.box hst rfl fun r hr => ((Rws.cons (rfl) (Rws.nil) : Rws rT_smithyref15_Try g ([(nth p0.fAsked x12)]) _).ok r hr).1) (Rws.cons (rfl) (Rws.nil) : Rws rT_smithyref15_Try g ([(nth p0.fAsked x12)]) _) ho31 rfl rfl rfl ?_
      intro w v32 o33 hsv32 hst
      replace hst := hst.sub (.cons _ (.cons_cons _ (.cons_cons _ (List.Sublist.refl _))))
      change St Non _ _ _ ([(n4, .cells ([Value.slice none 0 0] ++ ([Value.slice none 0 0])).toArray 51 (0, 0)), (n3, .cells ([v1] ++ ([v2])).toArray 51 (0, 0))] ++ (o33)) at hst
      refine ⟨trivial, ?_⟩
      refine TL.assign (v32) rfl rfl ?_
      refine TL.norm (by simp only [List.set_cons_succ, List.set_cons_zero]; rfl) ?_
      refine TL.nil ?_
      refine hJ20K (xs9 ++ ([(nth p0.fAsked x12)])) _ o33 _ _ hp (hsv32) (by first | (simp only [List.set_cons_succ, List.set_cons_zero]; exact .s rfl (.s rfl (.s rfl (.s rfl (.s rfl (.s rfl (.s rfl (.s rfl (.s rfl (.s rfl (.s rfl (.s rfl (.s rfl (.s rfl (.s rfl (.s rfl (.s rfl (.n (.n (.n (.n (.n (.n (.n (.n (.s rfl (.s rfl (.s rfl (.s rfl (.z)))))))))))))))))))))))))))))) | exact .s rfl (.s rfl (.s rfl (.s rfl (.s rfl (.s rfl (.s rfl (.s rfl (.s rfl (.s rfl (.s rfl (.s rfl (.s rfl (.s rfl (.s rfl (.s rfl (.s rfl (.n (.n (.n (.n (.n (.n (.n (.n (.s rfl (.s rfl (.s rfl (.s rfl (.z)))))))))))))))))))))))))))))) (hst)
    · replace hp := hp.2 (of_decide_eq_false hc22)
      refine wp_skip ?_
      refine hJ20K xs9 _ o11 _ _ hp (hsv10) (by first | (simp only [List.set_cons_succ, List.set_cons_zero]; exact .s rfl (.s rfl (.s rfl (.s rfl (.s rfl (.s rfl (.s rfl (.s rfl (.s rfl (.s rfl (.s rfl (.s rfl (.s rfl (.s rfl (.s rfl (.s rfl (.s rfl (.n (.n (.n (.n (.n (.n (.n (.n (.s rfl (.s rfl (.s rfl (.s rfl (.z)))))))))))))))))))))))))))))) | exact .s rfl (.s rfl (.s rfl (.s rfl (.s rfl (.s rfl (.s rfl (.s rfl (.s rfl (.s rfl (.s rfl (.s rfl (.s rfl (.s rfl (.s rfl (.s rfl (.s rfl (.n (.n (.n (.n (.n (.n (.n (.n (.s rfl (.s rfl (.s rfl (.s rfl (.z)))))))))))))))))))))))))))))) (hst)
  · replace hp := hp.2 (of_decide_eq_false hc15)
    refine wp_exit ?_
    refine hK3 _ _ ?_
    refine E.seq (fun K10 hK10 => ?_)
    refine rg ?_
    refine TL.move (v10) rfl rfl ?_
    refine TL.fieldA (1) fa51_1 rfl (by first | rfl | omega) rfl ?_
    refine TL.stA 1 n3 (1 + (0)) _ (vs := [v10]) hst rfl (Put.skip (m := 1) (by simp) (Put.all (by simp))) (by first | rfl | omega) (by obtain ⟨_, _, hq⟩ := hsv10.shape; subst hq; rfl) (One.one (hsv10).one) (tzof tz49 (by simp)) rfl rfl ?_
    intro w hst
    refine ⟨trivial, ?_⟩
    refine TL.nil ?_
    refine hK10 _ _ ?_
    refine E.norm (by simp only [List.set_cons_succ, List.set_cons_zero]; rfl) ?_
    refine E.seq (fun K11 hK11 => ?_)
    refine rg ?_
    refine TL.ldL 1 n3 (0) ([v1] ++ ([v10])) (fun _ h => h ▸ hst) rfl (Seg.all _) (ta51.of (by simp)) rfl rfl ?_
    refine TL.stA 0 n4 (0) _ (vs := [v1] ++ ([v10])) hst rfl (Put.all (by simp)) (by first | rfl | omega) rfl (One.app (One.one (hv1).one) (One.one (hsv10).one)) (tzof tz51 (by simp)) rfl rfl ?_
    intro w hst
    refine ⟨trivial, ?_⟩
    refine TL.nil ?_
    refine hK11 _ _ ?_
    refine E.norm (by simp only [List.set_cons_succ, List.set_cons_zero]; rfl) ?_
    refine wp_ret ?_
    obtain ⟨g34, hleg34, hst, hsg34, hgn0⟩ := hst.freezeS (ls := [(n4, .cells ([v1] ++ ([v10])).toArray 51 (0, 0)), (n3, .cells ([v1] ++ ([v10])).toArray 51 (0, 0))]) (List.Perm.refl _) hsv10 hgn0
    replace hle0 := Gh.le_trans hle0 hleg34
    refine E.ret _ (Rs.c ([v1] ++ ([v10])) rfl rfl (ta51.of (by simp)) (rangeAt_of_block (hst.mem (i := 0) rfl) (Seg.all _))) ?_
    exact ⟨g34, ⟨hst.keep, hst.has, hle0, hgn0.new⟩, (T_smithyref15_Cache.mk p0.fKnown xs9), hp, _, _, rfl, (hv1.mono (hleg34)), hsg34⟩

def smithyref15_Cache_Fill (p0 : T_smithyref15_Cache) (p1 : T_api_Account) (Q : Bool → T_smithyref15_Cache → Prop) : Prop :=
  smithyref15_Cache_At p0 p1.fAddress (fun r8 => ((r8 < 0) → (Q false p0)) ∧ ((¬ (r8 < 0)) → (smithyref13_Right p1 (fun r10 => ((r10 = false) → (Q false p0)) ∧ ((r10 = true) → (smithyref15_Cache_without p0 r8 (fun r12 => smithyref13_Put r12.fKnown p1 (fun r16 => Q true (T_smithyref15_Cache.mk r16 r12.fAsked)))))))))
theorem w_smithyref15_Cache_Fill (p0 : T_smithyref15_Cache) (p1 : T_api_Account) (v1 : Value) (v2 : Value) (v3 : Value) (v4 : Value) (g : Gh) (w0 : World) (hg : Has w0 g) (hv1 : Sl rT_api_Account g p0.fKnown v1) (hv2 : Sl rT_smithyref15_Try g p0.fAsked v2) (hv3 : Sl (rtI .u8) g p1.fCode v3) (hv4 : Sl rT_api_Slot g p1.fStorage v4) (Q : Bool → T_smithyref15_Cache → Prop) (hp : smithyref15_Cache_Fill p0 p1 Q) : Calls Try.prog 26 #[Value.agg ([v1] ++ ([v2])).toArray, Value.agg (iaC .u8 p1.fAddress ++ ([Value.int .u64 p1.fNonce] ++ (iaC .u64 p1.fBalance ++ ([v3] ++ ([v4]))))).toArray] w0 (Ret fun u w => ∃ g', Gr w0 w g g' ∧ ∃ (r1 : Bool) (r2 : T_smithyref15_Cache), Q r1 r2 ∧ ∃ (u1 : Value) (u2 : Value), u = Value.tuple #[Value.bool r1, Value.agg ([u1] ++ ([u2])).toArray] ∧ Sl rT_api_Account g' r2.fKnown u1 ∧ Sl rT_smithyref15_Try g' r2.fAsked u2) := by
  unfold smithyref15_Cache_Fill at hp
  go_enter Try.func26, Try.ntmps26
  change Code.wp _ _ _ (F [Value.agg ([v1] ++ ([v2])).toArray, Value.agg (iaC .u8 p1.fAddress ++ ([Value.int .u64 p1.fNonce] ++ (iaC .u64 p1.fBalance ++ ([v3] ++ ([v4]))))).toArray, undef, undef, undef, undef, undef, undef, undef, undef, undef, undef, undef, undef, undef, undef, undef, undef, undef, undef, undef, undef, undef, undef, undef, undef, undef, undef]) _
  have hst := St.start Non hg
  have hgn0 : GN Non w0 g g := GN.refl _ _ _
  have hle0 : g.le g := Gh.le_refl _
  refine E.seq (fun K1 hK1 => ?_)
  refine rg ?_
  refine TL.box (vs := [v1] ++ ([v2])) hst rfl rfl ?_
  intro w n5 hst
  refine ⟨trivial, ?_⟩
  refine TL.box (vs := iaC .u8 p1.fAddress ++ ([Value.int .u64 p1.fNonce] ++ (iaC .u64 p1.fBalance ++ ([v3] ++ ([v4]))))) hst rfl rfl ?_
  intro w n6 hst
  refine ⟨trivial, ?_⟩
  refine TL.assign (Value.bool false) rfl rfl ?_
  refine TL.norm (by simp only [List.set_cons_succ, List.set_cons_zero]; rfl) ?_
  refine TL.alloc hst zv51 rfl ?_
  intro w n7 hst
  refine ⟨trivial, ?_⟩
  refine TL.nil ?_
  refine hK1 _ _ ?_
  refine E.norm (by simp only [List.set_cons_succ, List.set_cons_zero]; rfl) ?_
  refine E.seq (fun K2 hK2 => ?_)
  refine rg ?_
  refine TL.ldL 2 n5 (0) ([v1] ++ ([v2])) (fun _ h => h ▸ hst) rfl (Seg.all _) (ta51.of (by simp)) rfl rfl ?_
  refine TL.fieldA (0) fa34_0 rfl (by first | rfl | omega) rfl ?_
  refine TL.ldL 1 n6 (0) (iaC .u8 p1.fAddress) (fun _ h => h ▸ hst) rfl (Seg.here _ _) (ta28.of (by simp)) rfl rfl ?_
  refine TL.norm (by simp only [List.set_cons_succ, List.set_cons_zero]; rfl) ?_
  refine TL.callS #[Value.agg ([v1] ++ ([v2])).toArray, Value.agg (iaC .u8 p1.fAddress).toArray] co30 rfl (w_smithyref15_Cache_At p0 p1.fAddress v1 v2 g _ hst.has (hv1) (hv2) _ hp) rfl ?_
  rintro _ w ⟨hk, r8, hp, rfl⟩
  replace hst := hst.call hk
  refine ⟨trivial, ?_⟩
  refine TL.assign (Value.int .i64 r8) rfl rfl ?_
  refine TL.nil ?_
  refine hK2 _ _ ?_
  refine E.norm (by simp only [List.set_cons_succ, List.set_cons_zero]; rfl) ?_
  refine E.seq (fun K3 hK3 => ?_)
  refine E.seq (fun K4 hK4 => ?_)
  refine rg ?_
  refine TL.move (Value.int .i64 r8) rfl rfl ?_
  refine TL.lss rfl rfl rfl ?_
  refine TL.move (Value.bool (decide (r8 < 0))) rfl rfl ?_
  refine TL.norm (by simp only [List.set_cons_succ, List.set_cons_zero]; rfl) ?_
  refine TL.case 13 (decide (r8 < 0)) rfl (fun hc9 => ?_) (fun hc9 => ?_)
  · replace hp := hp.1 (of_decide_eq_true hc9)
    refine TL.norm (by simp only [List.set_cons_succ, List.set_cons_zero]; rfl) ?_
    refine TL.noU rfl trivial rfl ?_
    refine TL.noU rfl trivial rfl ?_
    refine TL.noU rfl trivial rfl ?_
    refine TL.pick (Value.bool true) rfl rfl rfl ?_
    refine TL.nil ?_
    refine hK4 _ _ ?_
    refine E.norm (by simp only [List.set_cons_succ, List.set_cons_zero]; rfl) ?_
    refine E.condT rfl ?_
    refine E.seq (fun K5 hK5 => ?_)
    refine rgD mixed #[0, 0, 3] (by kernel_rfl) ?_
    replace hst := hst.drew
    refine TL.ldL 2 n5 (0) ([v1] ++ ([v2])) (fun _ h => h ▸ hst) rfl (Seg.all _) (ta51.of (by simp)) rfl rfl ?_
    refine TL.assign (Value.bool false) rfl rfl ?_
    refine TL.stA 0 n7 (0) _ (vs := [v1] ++ ([v2])) hst rfl (Put.all (by simp)) (by first | rfl | omega) rfl (One.app (One.one (hv1).one) (One.one (hv2).one)) (tzof tz51 (by simp)) rfl rfl ?_
    intro w hst
    refine ⟨trivial, ?_⟩
    refine TL.nil ?_
    refine hK5 _ _ ?_
    refine E.norm (by simp only [List.set_cons_succ, List.set_cons_zero]; rfl) ?_
    refine wp_ret ?_
    refine E.ret _ (Rs.tc ([v1] ++ ([v2])) (Value.bool false) rfl rfl (ta51.of (by simp)) (rangeAt_of_block (hst.mem (i := 0) rfl) (Seg.all _)) rfl) ?_
    exact ⟨g, ⟨hst.keep, hst.has, hle0, hgn0.new⟩, false, p0, hp, _, _, rfl, hv1, hv2⟩
  · replace hp := hp.2 (of_decide_eq_false hc9)
    refine TL.norm (by simp only [List.set_cons_succ, List.set_cons_zero]; rfl) ?_
    refine TL.ldL 1 n6 (0) (iaC .u8 p1.fAddress ++ ([Value.int .u64 p1.fNonce] ++ (iaC .u64 p1.fBalance ++ ([v3] ++ ([v4]))))) (fun _ h => h ▸ hst) rfl (Seg.all _) (ta34.of (by simp)) rfl rfl ?_
    refine TL.callS #[Value.agg (iaC .u8 p1.fAddress ++ ([Value.int .u64 p1.fNonce] ++ (iaC .u64 p1.fBalance ++ ([v3] ++ ([v4]))))).toArray] co15 rfl (w_smithyref13_Right p1 v3 v4 g _ hst.has (hv3) (hv4) _ hp) rfl ?_
    rintro _ w ⟨hk, r10, hp, rfl⟩
    replace hst := hst.call hk
    refine ⟨trivial, ?_⟩
    refine TL.notB rfl rfl ?_
    refine TL.norm (by simp only [List.set_cons_succ, List.set_cons_zero]; rfl) ?_
    refine TL.pick (Value.bool (!r10)) rfl rfl rfl ?_
    refine TL.nil ?_
    refine hK4 _ _ ?_
    refine E.norm (by simp only [List.set_cons_succ, List.set_cons_zero]; rfl) ?_
    refine E.cond rfl (fun hc11 => ?_) (fun hc11 => ?_)
    · replace hp := hp.1 ((notT hc11))
      refine E.seq (fun K6 hK6 => ?_)
      refine rgD mixed #[0, 0, 3] (by kernel_rfl) ?_
      replace hst := hst.drew
      refine TL.ldL 2 n5 (0) ([v1] ++ ([v2])) (fun _ h => h ▸ hst) rfl (Seg.all _) (ta51.of (by simp)) rfl rfl ?_
      refine TL.assign (Value.bool false) rfl rfl ?_
      refine TL.stA 0 n7 (0) _ (vs := [v1] ++ ([v2])) hst rfl (Put.all (by simp)) (by first | rfl | omega) rfl (One.app (One.one (hv1).one) (One.one (hv2).one)) (tzof tz51 (by simp)) rfl rfl ?_
      intro w hst
      refine ⟨trivial, ?_⟩
      refine TL.nil ?_
      refine hK6 _ _ ?_
      refine E.norm (by simp only [List.set_cons_succ, List.set_cons_zero]; rfl) ?_
      refine wp_ret ?_
      refine E.ret _ (Rs.tc ([v1] ++ ([v2])) (Value.bool false) rfl rfl (ta51.of (by simp)) (rangeAt_of_block (hst.mem (i := 0) rfl) (Seg.all _)) rfl) ?_
      exact ⟨g, ⟨hst.keep, hst.has, hle0, hgn0.new⟩, false, p0, hp, _, _, rfl, hv1, hv2⟩
    · replace hp := hp.2 ((notF hc11))
      refine wp_skip ?_
      refine hK3 _ _ ?_
      refine E.seq (fun K7 hK7 => ?_)
      refine rg ?_
      refine TL.ldL 2 n5 (0) ([v1] ++ ([v2])) (fun _ h => h ▸ hst) rfl (Seg.all _) (ta51.of (by simp)) rfl rfl ?_
      refine TL.move (Value.int .i64 r8) rfl rfl ?_
      refine TL.callS #[Value.agg ([v1] ++ ([v2])).toArray, Value.int .i64 r8] co77 rfl (w_smithyref15_Cache_without p0 r8 v1 v2 g _ hst.has (hv1) (hv2) _ hp) rfl ?_
      rintro _ w ⟨g15, hgrg15, r12, hp, v13, v14, rfl, hv13, hv14⟩
      have hleg15 := hgrg15.le
      replace hgn0 := hgn0.call hgrg15.new hst.keep.size
      replace hle0 := Gh.le_trans hle0 hleg15
      replace hst := hst.callG hgrg15.keep hgrg15.has hgrg15.new
      refine ⟨trivial, ?_⟩
      refine TL.norm (by simp only [List.set_cons_succ, List.set_cons_zero]; rfl) ?_
      refine TL.stA 2 n5 (0) _ (vs := [v13] ++ ([v14])) hst rfl (Put.all (by simp)) (by first | rfl | omega) rfl (One.app (One.one (hv13).one) (One.one (hv14).one)) (tzof tz51 (by simp)) rfl rfl ?_
      intro w hst
      refine ⟨trivial, ?_⟩
      refine TL.nil ?_
      refine hK7 _ _ ?_
      refine E.seq (fun K8 hK8 => ?_)
      refine rg ?_
      refine TL.fieldA (0) fa51_0 rfl (by first | rfl | omega) rfl ?_
      refine TL.ldL1 2 n5 (0) (v13) (fun _ h => h ▸ hst) rfl (Seg.here _ _) ts22 rfl rfl ?_
      refine TL.ldL 1 n6 (0) (iaC .u8 p1.fAddress ++ ([Value.int .u64 p1.fNonce] ++ (iaC .u64 p1.fBalance ++ ([v3] ++ ([v4]))))) (fun _ h => h ▸ hst) rfl (Seg.all _) (ta34.of (by simp)) rfl rfl ?_
      refine TL.norm (by simp only [List.set_cons_succ, List.set_cons_zero]; rfl) ?_
      refine TL.callS #[v13, Value.agg (iaC .u8 p1.fAddress ++ ([Value.int .u64 p1.fNonce] ++ (iaC .u64 p1.fBalance ++ ([v3] ++ ([v4]))))).toArray] co78 rfl (w_smithyref13_Put r12.fKnown p1 v13 v3 v4 g15 _ hst.has (hv13) ((hv3.mono (hleg15))) ((hv4.mono (hleg15))) _ hp) rfl ?_
      rintro v17 w ⟨g18, hgrg18, r16, hp, _, rfl, hv17⟩
      have hleg18 := hgrg18.le
      replace hgn0 := hgn0.call hgrg18.new hst.keep.size
      replace hle0 := Gh.le_trans hle0 hleg18
      replace hst := hst.callG hgrg18.keep hgrg18.has hgrg18.new
      refine ⟨trivial, ?_⟩
      refine TL.fieldA (0) fa51_0 rfl (by first | rfl | omega) rfl ?_
      refine TL.stA 2 n5 (0) _ (vs := [v17]) hst rfl (Put.here (by simp)) (by first | rfl | omega) (hv17.cell) (One.one (hv17).one) (tzof tz22 (by simp)) rfl rfl ?_
      intro w hst
      refine ⟨trivial, ?_⟩
      refine TL.nil ?_
      refine hK8 _ _ ?_
      refine E.norm (by simp only [List.set_cons_succ, List.set_cons_zero]; rfl) ?_
      refine E.seq (fun K9 hK9 => ?_)
      refine rgD mixed #[0, 0, 3] (by kernel_rfl) ?_
      replace hst := hst.drew
      refine TL.ldL 2 n5 (0) ([v17] ++ ([v14])) (fun _ h => h ▸ hst) rfl (Seg.all _) (ta51.of (by simp)) rfl rfl ?_
      refine TL.assign (Value.bool true) rfl rfl ?_
      refine TL.stA 0 n7 (0) _ (vs := [v17] ++ ([v14])) hst rfl (Put.all (by simp)) (by first | rfl | omega) rfl (One.app (One.one (hv17).one) (One.one (hv14).one)) (tzof tz51 (by simp)) rfl rfl ?_
      intro w hst
      refine ⟨trivial, ?_⟩
      refine TL.nil ?_
      refine hK9 _ _ ?_
      refine E.norm (by simp only [List.set_cons_succ, List.set_cons_zero]; rfl) ?_
      refine wp_ret ?_
      refine E.ret _ (Rs.tc ([v17] ++ ([v14])) (Value.bool true) rfl rfl (ta51.of (by simp)) (rangeAt_of_block (hst.mem (i := 0) rfl) (Seg.all _)) rfl) ?_
      exact ⟨g18, ⟨hst.keep, hst.has, hle0, hgn0.new⟩, true, (T_smithyref15_Cache.mk r16 r12.fAsked), hp, _, _, rfl, hv17, (hv14.mono (hleg18))⟩

def smithylaw15_fixed (Q : Bool → Prop) : Prop :=
  fork_New  (fun x2_fknown x2_ftries => fork_Cache_Want x2_fknown x2_ftries ((Ar.zero 20).s 19 1) (fun r5 x6_fknown x6_ftries => fork_Cache_Want x6_fknown x6_ftries ((Ar.zero 20).s 19 1) (fun r8 x9_fknown x9_ftries => ∃ (I16 : Int → (List (Ar 20 × T_api_Account)) → (List (Ar 20 × Int)) → Prop) (m17 : Int → (List (Ar 20 × T_api_Account)) → (List (Ar 20 × Int)) → Nat), (I16 0 x9_fknown x9_ftries) ∧ ∀ (x11 : Int) (m12 : List (Ar 20 × T_api_Account)) (m14 : List (Ar 20 × Int)), (I16 x11 m12 m14 → (((x11 < 7) → (fork_Cache_Fail m12 m14 ((Ar.zero 20).s 19 1) (fun r20 x21_fknown x21_ftries => ((r20 ≠ 4) → (Q false)) ∧ ((¬ (r20 ≠ 4)) → ((inR .i64 (x11 + 1)) ∧ (I16 (x11 + 1) x21_fknown x21_ftries ∧ m17 (x11 + 1) x21_fknown x21_ftries < m17 x11 m12 m14)))))) ∧ ((¬ (x11 < 7)) → (((r5 = 3) → (((r8 = 2) → (fork_Cache_Fail m12 m14 ((Ar.zero 20).s 19 1) (fun r27 x28_fknown x28_ftries => ((r27 = 5) → (fork_Cache_Want x28_fknown x28_ftries ((Ar.zero 20).s 19 1) (fun r31 x32_fknown x32_ftries => Q (decide (r31 = 3))))) ∧ ((¬ (r27 = 5)) → (Q false))))) ∧ ((¬ (r8 = 2)) → (Q false)))) ∧ ((¬ (r5 = 3)) → (Q false)))))))))
theorem w_smithylaw15_fixed (g : Gh) (w0 : World) (hg : Has w0 g) (Q : Bool → Prop) (hp : smithylaw15_fixed Q) : Calls Try.prog 14 #[] w0 (Ret fun u w => Keep Non w0 w ∧ ∃ (r1 : Bool), Q r1 ∧ u = Value.bool r1) := by
  unfold smithylaw15_fixed at hp
  go_enter Try.func14, Try.ntmps14
  change Code.wp _ _ _ (F [undef, undef, undef, undef, undef, undef, undef, undef, undef, undef, undef, undef, undef, undef, undef, undef, undef, undef, undef, undef, undef, undef, undef, undef, undef, undef, undef, undef, undef, undef, undef, undef, undef, undef, undef, undef, undef, undef]) _
  have hst := St.start Non hg
  have hgn0 : GN Non w0 g g := GN.refl _ _ _
  have hle0 : g.le g := Gh.le_refl _
  refine E.seq (fun K1 hK1 => ?_)
  refine rg ?_
  refine TL.assign (Value.bool false) rfl rfl ?_
  refine TL.nil ?_
  refine hK1 _ _ ?_
  refine E.norm (by simp only [List.set_cons_succ, List.set_cons_zero]; rfl) ?_
  refine E.seq (fun K2 hK2 => ?_)
  refine rg ?_
  refine TL.callS #[] co16 rfl (w_fork_New g _ hst.has _ hp) rfl ?_
  rintro _ w ⟨x2_fknown, x2_ftries, hp, n1, x2m_fknown, x2q_fknown, x2m_ftries, x2q_ftries, rfl, hmx2q_fknown, hmx2q_ftries, hst2⟩
  replace hst := hst.join0 hst2
  change St Non _ _ _ ([(n1, .cells ([Value.map (some x2m_fknown)] ++ ([Value.map (some x2m_ftries)])).toArray 136 (0, 0)), (x2m_fknown, x2q_fknown), (x2m_ftries, x2q_ftries)]) at hst
  refine ⟨trivial, ?_⟩
  refine TL.assign (Value.pointer (some ⟨n1, 0, none⟩)) rfl rfl ?_
  refine TL.nil ?_
  refine hK2 _ _ ?_
  refine E.norm (by simp only [List.set_cons_succ, List.set_cons_zero]; rfl) ?_
  refine E.seq (fun K3 hK3 => ?_)
  refine rg ?_
  refine TL.buildA (ps := [(19, Value.int .u8 1)]) ar28 zv28 rfl (Fl.cons (vs := [Value.int .u8 1]) rfl rfl (by simpa using Put.iaE (Ar.zero 20) 1 (j := 19) (by decide) (by decide)) (Fl.nil _)) rfl ?_
  refine TL.alloc hst zv28 rfl ?_
  intro w n3 hst
  refine ⟨trivial, ?_⟩
  refine TL.stA 0 n3 (0) _ (vs := iaC .u8 ((Ar.zero 20).s 19 1)) hst rfl (Put.all (by simp)) (by first | rfl | omega) rfl (One.ia _ _) (tzof tz28 (by simp)) rfl rfl ?_
  intro w hst
  refine ⟨trivial, ?_⟩
  refine TL.nil ?_
  refine hK3 _ _ ?_
  refine E.norm (by simp only [List.set_cons_succ, List.set_cons_zero]; rfl) ?_
  refine E.seq (fun K4 hK4 => ?_)
  refine rgM [8] (fun w' => St Non w0 w' g ([(n3, .cells (iaC .u8 ((Ar.zero 20).s 19 1)).toArray 28 (0, 0))])) mixed #[0, 0, 3, 0, 0, 31, 63, 127] (by kernel_rfl) (hst.drew.sub (.cons_cons _ (.cons _ (.cons _ (.cons _ (List.Sublist.refl _)))))) ?_
  replace hst := hst.drew
  refine TL.move (Value.pointer (some ⟨n1, 0, none⟩)) rfl rfl ?_
  refine TL.ldL 0 n3 (0) (iaC .u8 ((Ar.zero 20).s 19 1)) (fun _ h => h ▸ hst) rfl (Seg.all _) (ta28.of (by simp)) rfl rfl ?_
  have pm4 : ([(n3, .cells (iaC .u8 ((Ar.zero 20).s 19 1)).toArray 28 (0, 0)), (n1, .cells ([Value.map (some x2m_fknown)] ++ ([Value.map (some x2m_ftries)])).toArray 136 (0, 0)), (x2m_fknown, x2q_fknown), (x2m_ftries, x2q_ftries)] : List (Nat × Obj)).Perm (([(n3, .cells (iaC .u8 ((Ar.zero 20).s 19 1)).toArray 28 (0, 0))]) ++ ([(n1, .cells ([Value.map (some x2m_fknown)] ++ ([Value.map (some x2m_ftries)])).toArray 136 (0, 0)), (x2m_fknown, x2q_fknown), (x2m_ftries, x2q_ftries)])) := (permC fun _ => by simp only [List.count_append, List.count_cons, List.count_nil, Nat.zero_add, Nat.add_zero] <;> ac_rfl)
  refine TL.callS #[Value.pointer (some ⟨n1, 0, none⟩), Value.agg (iaC .u8 ((Ar.zero 20).s 19 1)).toArray] co18 rfl (w_fork_Cache_Want x2_fknown x2_ftries ((Ar.zero 20).s 19 1) n1 x2m_fknown x2q_fknown x2m_ftries x2q_ftries g _ (hst.enterO pm4) hmx2q_fknown hmx2q_ftries _ hp) rfl ?_
  rintro _ w ⟨r5, x6_fknown, x6_ftries, hp, x6q_fknown, x6q_ftries, rfl, hmx6q_fknown, hmx6q_ftries, hst2⟩
  replace hst := hst.leaveO pm4 hst2 (GN.refl _ _ _)
  replace hst : St Non _ _ _ ([(n3, .cells (iaC .u8 ((Ar.zero 20).s 19 1)).toArray 28 (0, 0)), (n1, .cells ([Value.map (some x2m_fknown)] ++ ([Value.map (some x2m_ftries)])).toArray 136 (0, 0)), (x2m_fknown, x6q_fknown), (x2m_ftries, x6q_ftries)]) := hst.perm (permC fun _ => by simp only [List.count_append, List.count_cons, List.count_nil, Nat.zero_add, Nat.add_zero] <;> ac_rfl)
  refine ⟨hst.sub (.cons_cons _ (.cons _ (.cons _ (.cons _ (List.Sublist.refl _))))), ?_⟩
  refine TL.norm (by simp only [List.set_cons_succ, List.set_cons_zero]; rfl) ?_
  refine TL.move (Value.pointer (some ⟨n1, 0, none⟩)) rfl rfl ?_
  refine TL.ldL 0 n3 (0) (iaC .u8 ((Ar.zero 20).s 19 1)) (fun _ h => h) rfl (Seg.all _) (ta28.of (by simp)) rfl rfl ?_
  have pm7 : ([(n3, .cells (iaC .u8 ((Ar.zero 20).s 19 1)).toArray 28 (0, 0)), (n1, .cells ([Value.map (some x2m_fknown)] ++ ([Value.map (some x2m_ftries)])).toArray 136 (0, 0)), (x2m_fknown, x6q_fknown), (x2m_ftries, x6q_ftries)] : List (Nat × Obj)).Perm (([(n3, .cells (iaC .u8 ((Ar.zero 20).s 19 1)).toArray 28 (0, 0))]) ++ ([(n1, .cells ([Value.map (some x2m_fknown)] ++ ([Value.map (some x2m_ftries)])).toArray 136 (0, 0)), (x2m_fknown, x6q_fknown), (x2m_ftries, x6q_ftries)])) := (permC fun _ => by simp only [List.count_append, List.count_cons, List.count_nil, Nat.zero_add, Nat.add_zero] <;> ac_rfl)
  refine TL.callS #[Value.pointer (some ⟨n1, 0, none⟩), Value.agg (iaC .u8 ((Ar.zero 20).s 19 1)).toArray] co18 rfl (w_fork_Cache_Want x6_fknown x6_ftries ((Ar.zero 20).s 19 1) n1 x2m_fknown x6q_fknown x2m_ftries x6q_ftries g _ (hst.enterO pm7) hmx6q_fknown hmx6q_ftries _ hp) rfl ?_
  rintro _ w ⟨r8, x9_fknown, x9_ftries, hp, x9q_fknown, x9q_ftries, rfl, hmx9q_fknown, hmx9q_ftries, hst2⟩
  replace hst := hst.leaveO pm7 hst2 (GN.refl _ _ _)
  replace hst : St Non _ _ _ ([(n3, .cells (iaC .u8 ((Ar.zero 20).s 19 1)).toArray 28 (0, 0)), (n1, .cells ([Value.map (some x2m_fknown)] ++ ([Value.map (some x2m_ftries)])).toArray 136 (0, 0)), (x2m_fknown, x9q_fknown), (x2m_ftries, x9q_ftries)]) := hst.perm (permC fun _ => by simp only [List.count_append, List.count_cons, List.count_nil, Nat.zero_add, Nat.add_zero] <;> ac_rfl)
  refine ⟨hst.sub (.cons_cons _ (.cons _ (.cons _ (.cons _ (List.Sublist.refl _))))), ?_⟩
  refine TL.norm (by simp only [List.set_cons_succ, List.set_cons_zero]; rfl) ?_
  refine TL.assign (Value.int .u8 r5) rfl rfl ?_
  refine TL.assign (Value.int .u8 r8) rfl rfl ?_
  refine TL.nil ?_
  refine hK4 _ _ ?_
  refine E.norm (by simp only [List.set_cons_succ, List.set_cons_zero]; rfl) ?_
  refine E.seq (fun K5 hK5 => ?_)
  refine E.seq (fun K6 hK6 => ?_)
  refine rg ?_
  refine TL.move (Value.int .i64 0) rfl rfl ?_
  refine TL.nil ?_
  refine hK6 _ _ ?_
  refine E.norm (by simp only [List.set_cons_succ, List.set_cons_zero]; rfl) ?_
  refine wp_block ?_
  obtain ⟨I16, m17, hI0, hI⟩ := hp
  refine E.loop (fun mm l w => ∃ (x11 : Int) (m12 : List (Ar 20 × T_api_Account)) (m14 : List (Ar 20 × Int)) (q13 : Obj) (q15 : Obj), (mm = m17 x11 m12 m14) ∧ (I16 x11 m12 m14) ∧ (Mp.MR rT_api_Account true (Mp.kvA .u8 20) g m12 q13) ∧ (Mp.MR (rtI .i64) false (Mp.kvA .u8 20) g m14 q15) ∧ Fits [some (Value.bool false), some (Value.pointer (some ⟨n1, 0, none⟩)), some (Value.pointer (some ⟨n3, 0, none⟩)), some (Value.int .u8 r5), some (Value.int .u8 r8), some (Value.pointer (some ⟨n1, 0, none⟩)), some (Value.agg (iaC .u8 ((Ar.zero 20).s 19 1)).toArray), some (Value.pointer (some ⟨n1, 0, none⟩)), some (Value.agg (iaC .u8 ((Ar.zero 20).s 19 1)).toArray), some (Value.int .u8 r5), some (Value.pointer (some ⟨n1, 0, none⟩)), some (Value.agg (iaC .u8 ((Ar.zero 20).s 19 1)).toArray), some (Value.int .u8 r8), some (Value.int .i64 x11), none, none, none, none, none, none, some (undef), some (undef), some (undef), some (undef), some (undef), some (undef), some (undef), some (undef), some (undef), some (undef), some (undef), some (undef), some (undef), some (undef), some (undef), some (undef), some (undef), some (undef)] l ∧ St Non w0 w g ([(n3, .cells (iaC .u8 ((Ar.zero 20).s 19 1)).toArray 28 (0, 0)), (n1, .cells ([Value.map (some x2m_fknown)] ++ ([Value.map (some x2m_ftries)])).toArray 136 (0, 0)), (x2m_fknown, q13), (x2m_ftries, q15)])) _ ⟨0, x9_fknown, x9_ftries, _, _, rfl, hI0, hmx9q_fknown, hmx9q_ftries, (by first | (simp only [List.set_cons_succ, List.set_cons_zero]; exact .s rfl (.s rfl (.s rfl (.s rfl (.s rfl (.s rfl (.s rfl (.s rfl (.s rfl (.s rfl (.s rfl (.s rfl (.s rfl (.s rfl (.n (.n (.n (.n (.n (.n (.s rfl (.s rfl (.s rfl (.s rfl (.s rfl (.s rfl (.s rfl (.s rfl (.s rfl (.s rfl (.s rfl (.s rfl (.s rfl (.s rfl (.s rfl (.s rfl (.s rfl (.s rfl (.z))))))))))))))))))))))))))))))))))))))) | exact .s rfl (.s rfl (.s rfl (.s rfl (.s rfl (.s rfl (.s rfl (.s rfl (.s rfl (.s rfl (.s rfl (.s rfl (.s rfl (.s rfl (.n (.n (.n (.n (.n (.n (.s rfl (.s rfl (.s rfl (.s rfl (.s rfl (.s rfl (.s rfl (.s rfl (.s rfl (.s rfl (.s rfl (.s rfl (.s rfl (.s rfl (.s rfl (.s rfl (.s rfl (.s rfl (.z))))))))))))))))))))))))))))))))))))))), hst⟩ ?_
  rintro _ _ w ⟨x11, m12, m14, q13, q15, rfl, hI1, hmq13, hmq15, hfit, hst⟩
  have hp := hI _ _ _ hI1
  obtain ⟨j10, rfl⟩ := hfit.ex
  refine E.norm (l' := [Value.bool false, Value.pointer (some ⟨n1, 0, none⟩), Value.pointer (some ⟨n3, 0, none⟩), Value.int .u8 r5, Value.int .u8 r8, Value.pointer (some ⟨n1, 0, none⟩), Value.agg (iaC .u8 ((Ar.zero 20).s 19 1)).toArray, Value.pointer (some ⟨n1, 0, none⟩), Value.agg (iaC .u8 ((Ar.zero 20).s 19 1)).toArray, Value.int .u8 r5, Value.pointer (some ⟨n1, 0, none⟩), Value.agg (iaC .u8 ((Ar.zero 20).s 19 1)).toArray, Value.int .u8 r8, Value.int .i64 x11, (j10 14), (j10 15), (j10 16), (j10 17), (j10 18), (j10 19), undef, undef, undef, undef, undef, undef, undef, undef, undef, undef, undef, undef, undef, undef, undef, undef, undef, undef]) rfl ?_
  refine E.seq (fun K7 hK7 => ?_)
  refine rg ?_
  refine TL.lss rfl rfl rfl ?_
  refine TL.nil ?_
  refine hK7 _ _ ?_
  refine E.norm (by simp only [List.set_cons_succ, List.set_cons_zero]; rfl) ?_
  refine E.seq (fun K8 hK8 => ?_)
  refine E.cond rfl (fun hc18 => ?_) (fun hc18 => ?_)
  · replace hp := hp.1 (of_decide_eq_true hc18)
    refine wp_skip ?_
    refine hK8 _ _ ?_
    refine E.seq (fun K9 hK9 => ?_)
    refine wp_block ?_
    refine E.seq (fun K10 hK10 => ?_)
    refine rg ?_
    refine TL.move (Value.pointer (some ⟨n1, 0, none⟩)) rfl rfl ?_
    refine TL.ldL 0 n3 (0) (iaC .u8 ((Ar.zero 20).s 19 1)) (fun _ h => h ▸ hst) rfl (Seg.all _) (ta28.of (by simp)) rfl rfl ?_
    have pm19 : ([(n3, .cells (iaC .u8 ((Ar.zero 20).s 19 1)).toArray 28 (0, 0)), (n1, .cells ([Value.map (some x2m_fknown)] ++ ([Value.map (some x2m_ftries)])).toArray 136 (0, 0)), (x2m_fknown, q13), (x2m_ftries, q15)] : List (Nat × Obj)).Perm (([(n3, .cells (iaC .u8 ((Ar.zero 20).s 19 1)).toArray 28 (0, 0))]) ++ ([(n1, .cells ([Value.map (some x2m_fknown)] ++ ([Value.map (some x2m_ftries)])).toArray 136 (0, 0)), (x2m_fknown, q13), (x2m_ftries, q15)])) := (permC fun _ => by simp only [List.count_append, List.count_cons, List.count_nil, Nat.zero_add, Nat.add_zero] <;> ac_rfl)
    refine TL.callS #[Value.pointer (some ⟨n1, 0, none⟩), Value.agg (iaC .u8 ((Ar.zero 20).s 19 1)).toArray] co19 rfl (w_fork_Cache_Fail m12 m14 ((Ar.zero 20).s 19 1) n1 x2m_fknown q13 x2m_ftries q15 g _ (hst.enterO pm19) hmq13 hmq15 _ hp) rfl ?_
    rintro _ w ⟨r20, x21_fknown, x21_ftries, hp, x21q_fknown, x21q_ftries, rfl, hmx21q_fknown, hmx21q_ftries, hst2⟩
    replace hst := hst.leaveO pm19 hst2 (GN.refl _ _ _)
    replace hst : St Non _ _ _ ([(n3, .cells (iaC .u8 ((Ar.zero 20).s 19 1)).toArray 28 (0, 0)), (n1, .cells ([Value.map (some x2m_fknown)] ++ ([Value.map (some x2m_ftries)])).toArray 136 (0, 0)), (x2m_fknown, x21q_fknown), (x2m_ftries, x21q_ftries)]) := hst.perm (permC fun _ => by simp only [List.count_append, List.count_cons, List.count_nil, Nat.zero_add, Nat.add_zero] <;> ac_rfl)
    refine ⟨trivial, ?_⟩
    refine TL.norm (by simp only [List.set_cons_succ, List.set_cons_zero]; rfl) ?_
    refine TL.neqD rfl rfl rfl ?_
    refine TL.nil ?_
    refine hK10 _ _ ?_
    refine E.norm (by simp only [List.set_cons_succ, List.set_cons_zero]; rfl) ?_
    refine E.cond rfl (fun hc22 => ?_) (fun hc22 => ?_)
    · replace hp := hp.1 (of_decide_eq_true hc22)
      refine E.seq (fun K11 hK11 => ?_)
      refine rg ?_
      refine TL.assign (Value.bool false) rfl rfl ?_
      refine TL.nil ?_
      refine hK11 _ _ ?_
      refine E.norm (by simp only [List.set_cons_succ, List.set_cons_zero]; rfl) ?_
      refine wp_ret ?_
      refine E.ret _ (Rs.t (Value.bool false) rfl rfl) ?_
      exact ⟨hst.keep, false, hp, rfl⟩
    · replace hp := hp.2 (of_decide_eq_false hc22)
      refine wp_skip ?_
      refine hK9 _ _ ?_
      refine rg ?_
      obtain ⟨ho23, hp⟩ := hp
      refine TL.add (x11 + 1) rfl rfl ⟨rfl, ho23⟩ rfl ?_
      refine TL.move (Value.int .i64 (x11 + 1)) rfl rfl ?_
      refine TL.nil ?_
      exact ⟨_, _, hp.2, rfl, (x11 + 1), x21_fknown, x21_ftries, _, _, rfl, hp.1, hmx21q_fknown, hmx21q_ftries, (by first | (simp only [List.set_cons_succ, List.set_cons_zero]; exact .s rfl (.s rfl (.s rfl (.s rfl (.s rfl (.s rfl (.s rfl (.s rfl (.s rfl (.s rfl (.s rfl (.s rfl (.s rfl (.s rfl (.n (.n (.n (.n (.n (.n (.s rfl (.s rfl (.s rfl (.s rfl (.s rfl (.s rfl (.s rfl (.s rfl (.s rfl (.s rfl (.s rfl (.s rfl (.s rfl (.s rfl (.s rfl (.s rfl (.s rfl (.s rfl (.z))))))))))))))))))))))))))))))))))))))) | exact .s rfl (.s rfl (.s rfl (.s rfl (.s rfl (.s rfl (.s rfl (.s rfl (.s rfl (.s rfl (.s rfl (.s rfl (.s rfl (.s rfl (.n (.n (.n (.n (.n (.n (.s rfl (.s rfl (.s rfl (.s rfl (.s rfl (.s rfl (.s rfl (.s rfl (.s rfl (.s rfl (.s rfl (.s rfl (.s rfl (.s rfl (.s rfl (.s rfl (.s rfl (.s rfl (.z))))))))))))))))))))))))))))))))))))))), hst⟩
  · replace hp := hp.2 (of_decide_eq_false hc18)
    refine wp_exit ?_
    refine hK5 _ _ ?_
    refine E.seq (fun K12 hK12 => ?_)
    refine rg ?_
    refine TL.move (Value.int .u8 r5) rfl rfl ?_
    refine TL.eqlD rfl rfl rfl ?_
    refine TL.move (Value.bool (decide (r5 = 3))) rfl rfl ?_
    refine TL.norm (by simp only [List.set_cons_succ, List.set_cons_zero]; rfl) ?_
    refine TL.case 22 (decide (r5 = 3)) rfl (fun hc24 => ?_) (fun hc24 => ?_)
    · replace hp := hp.1 (of_decide_eq_true hc24)
      refine TL.norm (by simp only [List.set_cons_succ, List.set_cons_zero]; rfl) ?_
      refine TL.move (Value.int .u8 r8) rfl rfl ?_
      refine TL.eqlD rfl rfl rfl ?_
      refine TL.pick (Value.bool (decide (r8 = 2))) rfl rfl rfl ?_
      refine TL.norm (by simp only [List.set_cons_succ, List.set_cons_zero]; rfl) ?_
      refine TL.move (Value.bool (decide (r8 = 2))) rfl rfl ?_
      refine TL.case 26 (decide (r8 = 2)) rfl (fun hc25 => ?_) (fun hc25 => ?_)
      · replace hp := hp.1 (of_decide_eq_true hc25)
        refine TL.norm (by simp only [List.set_cons_succ, List.set_cons_zero]; rfl) ?_
        refine TL.move (Value.pointer (some ⟨n1, 0, none⟩)) rfl rfl ?_
        refine TL.ldL 0 n3 (0) (iaC .u8 ((Ar.zero 20).s 19 1)) (fun _ h => h ▸ hst) rfl (Seg.all _) (ta28.of (by simp)) rfl rfl ?_
        have pm26 : ([(n3, .cells (iaC .u8 ((Ar.zero 20).s 19 1)).toArray 28 (0, 0)), (n1, .cells ([Value.map (some x2m_fknown)] ++ ([Value.map (some x2m_ftries)])).toArray 136 (0, 0)), (x2m_fknown, q13), (x2m_ftries, q15)] : List (Nat × Obj)).Perm (([(n3, .cells (iaC .u8 ((Ar.zero 20).s 19 1)).toArray 28 (0, 0))]) ++ ([(n1, .cells ([Value.map (some x2m_fknown)] ++ ([Value.map (some x2m_ftries)])).toArray 136 (0, 0)), (x2m_fknown, q13), (x2m_ftries, q15)])) := (permC fun _ => by simp only [List.count_append, List.count_cons, List.count_nil, Nat.zero_add, Nat.add_zero] <;> ac_rfl)
        refine TL.callS #[Value.pointer (some ⟨n1, 0, none⟩), Value.agg (iaC .u8 ((Ar.zero 20).s 19 1)).toArray] co19 rfl (w_fork_Cache_Fail m12 m14 ((Ar.zero 20).s 19 1) n1 x2m_fknown q13 x2m_ftries q15 g _ (hst.enterO pm26) hmq13 hmq15 _ hp) rfl ?_
        rintro _ w ⟨r27, x28_fknown, x28_ftries, hp, x28q_fknown, x28q_ftries, rfl, hmx28q_fknown, hmx28q_ftries, hst2⟩
        replace hst := hst.leaveO pm26 hst2 (GN.refl _ _ _)
        replace hst : St Non _ _ _ ([(n3, .cells (iaC .u8 ((Ar.zero 20).s 19 1)).toArray 28 (0, 0)), (n1, .cells ([Value.map (some x2m_fknown)] ++ ([Value.map (some x2m_ftries)])).toArray 136 (0, 0)), (x2m_fknown, x28q_fknown), (x2m_ftries, x28q_ftries)]) := hst.perm (permC fun _ => by simp only [List.count_append, List.count_cons, List.count_nil, Nat.zero_add, Nat.add_zero] <;> ac_rfl)
        refine ⟨trivial, ?_⟩
        refine TL.norm (by simp only [List.set_cons_succ, List.set_cons_zero]; rfl) ?_
        refine TL.eqlD rfl rfl rfl ?_
        refine TL.pick (Value.bool (decide (r27 = 5))) rfl rfl rfl ?_
        refine TL.move (Value.bool (decide (r27 = 5))) rfl rfl ?_
        refine TL.norm (by simp only [List.set_cons_succ, List.set_cons_zero]; rfl) ?_
        refine TL.case 32 (decide (r27 = 5)) rfl (fun hc29 => ?_) (fun hc29 => ?_)
        · replace hp := hp.1 (of_decide_eq_true hc29)
          refine TL.norm (by simp only [List.set_cons_succ, List.set_cons_zero]; rfl) ?_
          refine TL.move (Value.pointer (some ⟨n1, 0, none⟩)) rfl rfl ?_
          refine TL.ldL 0 n3 (0) (iaC .u8 ((Ar.zero 20).s 19 1)) (fun _ h => h ▸ hst) rfl (Seg.all _) (ta28.of (by simp)) rfl rfl ?_
          have pm30 : ([(n3, .cells (iaC .u8 ((Ar.zero 20).s 19 1)).toArray 28 (0, 0)), (n1, .cells ([Value.map (some x2m_fknown)] ++ ([Value.map (some x2m_ftries)])).toArray 136 (0, 0)), (x2m_fknown, x28q_fknown), (x2m_ftries, x28q_ftries)] : List (Nat × Obj)).Perm (([(n3, .cells (iaC .u8 ((Ar.zero 20).s 19 1)).toArray 28 (0, 0))]) ++ ([(n1, .cells ([Value.map (some x2m_fknown)] ++ ([Value.map (some x2m_ftries)])).toArray 136 (0, 0)), (x2m_fknown, x28q_fknown), (x2m_ftries, x28q_ftries)])) := (permC fun _ => by simp only [List.count_append, List.count_cons, List.count_nil, Nat.zero_add, Nat.add_zero] <;> ac_rfl)
          refine TL.callS #[Value.pointer (some ⟨n1, 0, none⟩), Value.agg (iaC .u8 ((Ar.zero 20).s 19 1)).toArray] co18 rfl (w_fork_Cache_Want x28_fknown x28_ftries ((Ar.zero 20).s 19 1) n1 x2m_fknown x28q_fknown x2m_ftries x28q_ftries g _ (hst.enterO pm30) hmx28q_fknown hmx28q_ftries _ hp) rfl ?_
          rintro _ w ⟨r31, x32_fknown, x32_ftries, hp, x32q_fknown, x32q_ftries, rfl, hmx32q_fknown, hmx32q_ftries, hst2⟩
          replace hst := hst.leaveO pm30 hst2 (GN.refl _ _ _)
          replace hst : St Non _ _ _ ([(n3, .cells (iaC .u8 ((Ar.zero 20).s 19 1)).toArray 28 (0, 0)), (n1, .cells ([Value.map (some x2m_fknown)] ++ ([Value.map (some x2m_ftries)])).toArray 136 (0, 0)), (x2m_fknown, x32q_fknown), (x2m_ftries, x32q_ftries)]) := hst.perm (permC fun _ => by simp only [List.count_append, List.count_cons, List.count_nil, Nat.zero_add, Nat.add_zero] <;> ac_rfl)
          refine ⟨trivial, ?_⟩
          refine TL.norm (by simp only [List.set_cons_succ, List.set_cons_zero]; rfl) ?_
          refine TL.eqlD rfl rfl rfl ?_
          refine TL.pick (Value.bool (decide (r31 = 3))) rfl rfl rfl ?_
          refine TL.assign (Value.bool (decide (r31 = 3))) rfl rfl ?_
          refine TL.norm (by simp only [List.set_cons_succ, List.set_cons_zero]; rfl) ?_
          refine TL.nil ?_
          refine hK12 _ _ ?_
          refine wp_ret ?_
          refine E.ret _ (Rs.t (Value.bool (decide (r31 = 3))) rfl rfl) ?_
          exact ⟨hst.keep, decide (r31 = 3), hp, rfl⟩
        · replace hp := hp.2 (of_decide_eq_false hc29)
          refine TL.norm (by simp only [List.set_cons_succ, List.set_cons_zero]; rfl) ?_
          refine TL.noU rfl trivial rfl ?_
          refine TL.noU rfl trivial rfl ?_
          refine TL.noU rfl trivial rfl ?_
          refine TL.noU rfl trivial rfl ?_
          refine TL.pick (Value.bool false) rfl rfl rfl ?_
          refine TL.assign (Value.bool false) rfl rfl ?_
          refine TL.nil ?_
          refine hK12 _ _ ?_
          refine E.norm (by simp only [List.set_cons_succ, List.set_cons_zero]; rfl) ?_
          refine wp_ret ?_
          refine E.ret _ (Rs.t (Value.bool false) rfl rfl) ?_
          exact ⟨hst.keep, false, hp, rfl⟩
      · replace hp := hp.2 (of_decide_eq_false hc25)
        refine TL.norm (by simp only [List.set_cons_succ, List.set_cons_zero]; rfl) ?_
        refine TL.noU rfl trivial rfl ?_
        refine TL.noU rfl trivial rfl ?_
        refine TL.noU rfl trivial rfl ?_
        refine TL.noU rfl trivial rfl ?_
        refine TL.pick (Value.bool false) rfl rfl rfl ?_
        refine TL.move (Value.bool false) rfl rfl ?_
        refine TL.noU rfl trivial rfl ?_
        refine TL.noU rfl trivial rfl ?_
        refine TL.noU rfl trivial rfl ?_
        refine TL.noU rfl trivial rfl ?_
        refine TL.pick (Value.bool false) rfl rfl rfl ?_
        refine TL.norm (by simp only [List.set_cons_succ, List.set_cons_zero]; rfl) ?_
        refine TL.assign (Value.bool false) rfl rfl ?_
        refine TL.nil ?_
        refine hK12 _ _ ?_
        refine E.norm (by simp only [List.set_cons_succ, List.set_cons_zero]; rfl) ?_
        refine wp_ret ?_
        refine E.ret _ (Rs.t (Value.bool false) rfl rfl) ?_
        exact ⟨hst.keep, false, hp, rfl⟩
    · replace hp := hp.2 (of_decide_eq_false hc24)
      refine TL.norm (by simp only [List.set_cons_succ, List.set_cons_zero]; rfl) ?_
      refine TL.noU rfl trivial rfl ?_
      refine TL.noU rfl trivial rfl ?_
      refine TL.pick (Value.bool false) rfl rfl rfl ?_
      refine TL.move (Value.bool false) rfl rfl ?_
      refine TL.noU rfl trivial rfl ?_
      refine TL.noU rfl trivial rfl ?_
      refine TL.noU rfl trivial rfl ?_
      refine TL.noU rfl trivial rfl ?_
      refine TL.pick (Value.bool false) rfl rfl rfl ?_
      refine TL.norm (by simp only [List.set_cons_succ, List.set_cons_zero]; rfl) ?_
      refine TL.move (Value.bool false) rfl rfl ?_
      refine TL.noU rfl trivial rfl ?_
      refine TL.noU rfl trivial rfl ?_
      refine TL.noU rfl trivial rfl ?_
      refine TL.noU rfl trivial rfl ?_
      refine TL.pick (Value.bool false) rfl rfl rfl ?_
      refine TL.assign (Value.bool false) rfl rfl ?_
      refine TL.norm (by simp only [List.set_cons_succ, List.set_cons_zero]; rfl) ?_
      refine TL.nil ?_
      refine hK12 _ _ ?_
      refine wp_ret ?_
      refine E.ret _ (Rs.t (Value.bool false) rfl rfl) ?_
      exact ⟨hst.keep, false, hp, rfl⟩
end Go.Proofs.Ytafmgghpcneoeaa
