/- Walks, printed by wip/tools/lift.py: what each function comes to, and that it does. -/
import Derived.Test.YtafmgghpcneoeaaMp
import Derived.Test.YtafmgghpcneoeaaProg
import Derived.KernelRfl
import Derived.Test.YtafmgghpcneoeaaF1
namespace Go.Proofs.Ytafmgghpcneoeaa
open Go Go.RowKit
set_option maxRecDepth 100000
set_option maxHeartbeats 4000000
structure T_store_node where
  fparent : Int
  fset : List (Ar 20 × T_api_Account)
instance : Inhabited T_store_node := ⟨⟨default, default⟩⟩
def rT_store_node : RT T_store_node := ⟨2, fun g x cs => ∃ (v1 : Value), cs = [Value.int .i64 x.fparent] ++ ([v1]) ∧ Mp.MV rT_api_Account true (Mp.kvA .u8 20) g x.fset v1, fun ⟨v1, h, h1⟩ hg => ⟨v1, h, h1.mono hg⟩, fun ⟨v1, h, h1⟩ => by subst h; exact ⟨by simp, (One.one rfl).app (One.one h1.one)⟩⟩

theorem tz3 : (Try.prog.info? 3).map (·.size) = some 1 := by kernel_rfl
theorem bs139 : BS Try.prog 139 [(0, 1), (1, 1)] := ⟨_, Try.underlying139, fun w => by simp [Sem.run_bind, run_sizeOf' tz3, run_sizeOf' tz133]⟩
theorem zv139 : ZV Try.prog 139 ([Value.int .i64 0] ++ ([Value.map none])) := ⟨.agg ([Value.int .i64 0] ++ ([Value.map none])).toArray, by kernel_rfl, rfl⟩
theorem sl140 : SL Try.prog 140 139 2 := ⟨Try.underlying140, by kernel_rfl⟩
theorem tz140 : (Try.prog.info? 140).map (·.size) = some 1 := by kernel_rfl
theorem bs142 : BS Try.prog 142 [(0, 1)] := ⟨_, Try.underlying142, fun w => by simp [Sem.run_bind, run_sizeOf' tz140]⟩
theorem zv142 : ZV Try.prog 142 ([Value.slice none 0 0]) := ⟨.agg ([Value.slice none 0 0]).toArray, by kernel_rfl, rfl⟩
theorem fa142_0 : FA Try.prog 142 0 0 := ⟨_, _, Try.underlying142, rfl, rfl, 0, by kernel_rfl⟩
theorem ts140 : TS Try.prog 140 := ⟨⟨_, Try.underlying140, rfl⟩, by kernel_rfl⟩
theorem co73 : CO Try.prog 73 := ⟨_, Try.func73, by kernel_rfl, by kernel_rfl⟩
theorem fa139_1 : FA Try.prog 139 1 1 := ⟨_, _, Try.underlying139, rfl, rfl, 0, by kernel_rfl⟩
theorem fa139_0 : FA Try.prog 139 0 0 := ⟨_, _, Try.underlying139, rfl, rfl, 0, by kernel_rfl⟩
theorem ts3 : TS Try.prog 3 := ⟨⟨_, Try.underlying3, rfl⟩, by kernel_rfl⟩
theorem co84 : CO Try.prog 84 := ⟨_, Try.func84, by kernel_rfl, by kernel_rfl⟩
theorem co76 : CO Try.prog 76 := ⟨_, Try.func76, by kernel_rfl, by kernel_rfl⟩
theorem sl22 : SL Try.prog 22 34 27 := ⟨Try.underlying22, by kernel_rfl⟩
theorem co75 : CO Try.prog 75 := ⟨_, Try.func75, by kernel_rfl, by kernel_rfl⟩
theorem co110 : CO Try.prog 110 := ⟨_, Try.func110, by kernel_rfl, by kernel_rfl⟩
theorem co74 : CO Try.prog 74 := ⟨_, Try.func74, by kernel_rfl, by kernel_rfl⟩
theorem tz139 : (Try.prog.info? 139).map (·.size) = some 2 := by kernel_rfl
theorem ta139 : TA Try.prog 139 2 := ⟨⟨_, Try.underlying139, rfl⟩, by kernel_rfl⟩
theorem ae140 : AE Try.prog 140 139 2 16 := ⟨Try.underlying140, by kernel_rfl, by kernel_rfl, ⟨.agg ([Value.int .i64 0] ++ ([Value.map none])).toArray, by kernel_rfl, by kernel_rfl⟩, by decide⟩

def store_New (Q : (List T_store_node) → Prop) : Prop :=
  Q ([(T_store_node.mk (-1) ([]))])
theorem w_store_New (g : Gh) (w0 : World) (hg : Has w0 g) (Q : (List T_store_node) → Prop) (hp : store_New Q) : Calls Try.prog 23 #[] w0 (Ret fun u w => ∃ (r0_fl : List T_store_node), Q r0_fl ∧ ∃ (rb0 : Nat) (r0v_fl : Value) (r0o_fl : List (Nat × Obj)), u = Value.pointer (some ⟨rb0, 0, none⟩) ∧ OwnS rT_store_node 139 g r0_fl r0v_fl r0o_fl ∧ St Non w0 w g ([(rb0, .cells ([r0v_fl]).toArray 142 (0, 0))] ++ (r0o_fl))) := by
  unfold store_New at hp
  go_enter Try.func23, Try.ntmps23
  change Code.wp _ _ _ (F [undef, undef, undef, undef, undef]) _
  have hst := St.start Non hg
  have hgn0 : GN Non w0 g g := GN.refl _ _ _
  have hle0 : g.le g := Gh.le_refl _
  refine E.seq (fun K1 hK1 => ?_)
  refine rg ?_
  refine TL.assign (Value.pointer none) rfl rfl ?_
  refine TL.nil ?_
  refine hK1 _ _ ?_
  refine E.norm (by simp only [List.set_cons_succ, List.set_cons_zero]; rfl) ?_
  refine E.seq (fun K2 hK2 => ?_)
  refine rg ?_
  refine TL.buildS (ps := [(0, Value.int .i64 ((-1)))]) bs139 zv139 rfl (Fl.cons (vs := [Value.int .i64 ((-1))]) (by simp) rfl (Put.here (by simp)) (Fl.nil _)) rfl ?_
  refine TL.buildSl [(Value.agg ([Value.int .i64 ((-1))] ++ ([Value.map none])).toArray)] [([Value.int .i64 ((-1))] ++ ([Value.map none]))] hst sl140 zv139 rfl rfl (by simp) rfl (by decide) rfl ?_
  intro w n1 hst
  refine ⟨trivial, ?_⟩
  obtain ⟨o3, hsv2, hst⟩ := hst.ownB (A := rT_store_node) (n := 1) (xs := [(T_store_node.mk (-1) ([]))]) rfl (Rws.cons (⟨Value.map none, rfl, Mp.MV.nil _ _ _ _⟩) (Rws.nil))
  refine TL.buildS (ps := [(0, Value.slice (some ⟨n1, 0, none⟩) 1 1)]) bs142 zv142 rfl (Fl.cons (vs := [Value.slice (some ⟨n1, 0, none⟩) 1 1]) (by simp) rfl (Put.all (by simp)) (Fl.nil _)) rfl ?_
  refine TL.norm (by simp only [List.set_cons_succ, List.set_cons_zero]; rfl) ?_
  refine TL.box (vs := [Value.slice (some ⟨n1, 0, none⟩) 1 1]) hst rfl rfl ?_
  intro w n4 hst
  refine ⟨trivial, ?_⟩
  refine TL.assign (Value.pointer (some ⟨n4, 0, none⟩)) rfl rfl ?_
  refine TL.nil ?_
  refine hK2 _ _ ?_
  refine E.norm (by simp only [List.set_cons_succ, List.set_cons_zero]; rfl) ?_
  refine wp_ret ?_
  refine E.ret _ (Rs.t (Value.pointer (some ⟨n4, 0, none⟩)) rfl rfl) ?_
  exact ⟨[(T_store_node.mk (-1) ([]))], hp, _, _, _, rfl, hsv2, hst.sub (.cons_cons _ (List.Sublist.refl _))⟩

def store_Store_has (p0_fl : List T_store_node) (p1 : Int) (Q : Bool → (List T_store_node) → Prop) : Prop :=
  ((0 ≤ p1) → (Q (decide (p1 < (p0_fl.length : Int))) p0_fl)) ∧ ((¬ (0 ≤ p1)) → (Q false p0_fl))
theorem w_store_Store_has (p0_fl : List T_store_node) (p1 : Int) (pb0 : Nat) (p0v_fl : Value) (p0o_fl : List (Nat × Obj)) (g : Gh) (w0 : World) (hst0 : St (Mof ([(pb0, .cells ([p0v_fl]).toArray 142 (0, 0))] ++ (p0o_fl))) w0 w0 g ([(pb0, .cells ([p0v_fl]).toArray 142 (0, 0))] ++ (p0o_fl))) (hp0v_fl : OwnS rT_store_node 139 g p0_fl p0v_fl p0o_fl) (Q : Bool → (List T_store_node) → Prop) (hp : store_Store_has p0_fl p1 Q) : Calls Try.prog 73 #[Value.pointer (some ⟨pb0, 0, none⟩), Value.int .i64 p1] w0 (Ret fun u w => ∃ (r1 : Bool) (z0_fl : List T_store_node), Q r1 z0_fl ∧ ∃ (z0v_fl : Value) (z0o_fl : List (Nat × Obj)), u = Value.bool r1 ∧ OwnS rT_store_node 139 g z0_fl z0v_fl z0o_fl ∧ St (Mof ([(pb0, .cells ([p0v_fl]).toArray 142 (0, 0))] ++ (p0o_fl))) w0 w g ([(pb0, .cells ([z0v_fl]).toArray 142 (0, 0))] ++ (z0o_fl))) := by
  unfold store_Store_has at hp
  go_enter Try.func73, Try.ntmps73
  change Code.wp _ _ _ (F [Value.pointer (some ⟨pb0, 0, none⟩), Value.int .i64 p1, undef, undef, undef, undef, undef, undef, undef, undef, undef, undef, undef, undef, undef, undef, undef, undef, undef, undef]) _
  have hst := hst0
  have hgn0 : GN (Mof ([(pb0, .cells ([p0v_fl]).toArray 142 (0, 0))] ++ (p0o_fl))) w0 g g := GN.refl _ _ _
  have hle0 : g.le g := Gh.le_refl _
  refine E.seq (fun K1 hK1 => ?_)
  refine rg ?_
  refine TL.assign (Value.bool false) rfl rfl ?_
  refine TL.nil ?_
  refine hK1 _ _ ?_
  refine E.norm (by simp only [List.set_cons_succ, List.set_cons_zero]; rfl) ?_
  refine E.seq (fun K2 hK2 => ?_)
  refine rg ?_
  refine TL.move (Value.pointer (some ⟨pb0, 0, none⟩)) rfl rfl ?_
  refine TL.ptrNil true Try.underlying44 rfl rfl (.inr ⟨rfl, rfl⟩) rfl ?_
  refine TL.move (Value.bool true) rfl rfl ?_
  refine TL.norm (by simp only [List.set_cons_succ, List.set_cons_zero]; rfl) ?_
  refine TL.move (Value.int .i64 p1) rfl rfl ?_
  refine TL.geq rfl rfl rfl ?_
  refine TL.pick (Value.bool (decide (0 ≤ p1))) rfl rfl rfl ?_
  refine TL.norm (by simp only [List.set_cons_succ, List.set_cons_zero]; rfl) ?_
  refine TL.move (Value.bool (decide (0 ≤ p1))) rfl rfl ?_
  refine TL.case 11 (decide (0 ≤ p1)) rfl (fun hc1 => ?_) (fun hc1 => ?_)
  · replace hp := hp.1 (of_decide_eq_true hc1)
    refine TL.norm (by simp only [List.set_cons_succ, List.set_cons_zero]; rfl) ?_
    refine TL.move (Value.int .i64 p1) rfl rfl ?_
    refine TL.move (Value.pointer (some ⟨pb0, 0, none⟩)) rfl rfl ?_
    refine TL.nilCheck rfl rfl ?_
    refine TL.norm (by simp only [List.set_cons_succ, List.set_cons_zero]; rfl) ?_
    refine TL.fieldA (0) fa142_0 rfl (by first | rfl | omega) rfl ?_
    refine TL.ldL1 0 pb0 (0) (p0v_fl) (fun _ h => by subst h; exact hst) rfl (Seg.all _) ts140 rfl rfl ?_
    refine TL.lenO (hp0v_fl) Try.underlying140 rfl rfl ?_
    refine TL.norm (by simp only [List.set_cons_succ, List.set_cons_zero]; rfl) ?_
    refine TL.lss rfl rfl rfl ?_
    refine TL.pick (Value.bool (decide (p1 < (p0_fl.length : Int)))) rfl rfl rfl ?_
    refine TL.assign (Value.bool (decide (p1 < (p0_fl.length : Int)))) rfl rfl ?_
    refine TL.norm (by simp only [List.set_cons_succ, List.set_cons_zero]; rfl) ?_
    refine TL.nil ?_
    refine hK2 _ _ ?_
    refine wp_ret ?_
    refine E.ret _ (Rs.t (Value.bool (decide (p1 < (p0_fl.length : Int)))) rfl rfl) ?_
    exact ⟨decide (p1 < (p0_fl.length : Int)), p0_fl, hp, _, _, rfl, hp0v_fl, hst.sub (.cons_cons _ (List.Sublist.refl _))⟩
  · replace hp := hp.2 (of_decide_eq_false hc1)
    refine TL.norm (by simp only [List.set_cons_succ, List.set_cons_zero]; rfl) ?_
    refine TL.noU rfl trivial rfl ?_
    refine TL.noU rfl trivial rfl ?_
    refine TL.noU rfl trivial rfl ?_
    refine TL.noU rfl trivial rfl ?_
    refine TL.noU rfl trivial rfl ?_
    refine TL.noU rfl trivial rfl ?_
    refine TL.noU rfl trivial rfl ?_
    refine TL.pick (Value.bool false) rfl rfl rfl ?_
    refine TL.assign (Value.bool false) rfl rfl ?_
    refine TL.nil ?_
    refine hK2 _ _ ?_
    refine E.norm (by simp only [List.set_cons_succ, List.set_cons_zero]; rfl) ?_
    refine wp_ret ?_
    refine E.ret _ (Rs.t (Value.bool false) rfl rfl) ?_
    exact ⟨false, p0_fl, hp, _, _, rfl, hp0v_fl, hst.sub (.cons_cons _ (List.Sublist.refl _))⟩

def store_Store_find (p0_fl : List T_store_node) (p1 : Int) (p2 : Ar 20) (Q : T_api_Account → Bool → (List T_store_node) → Prop) : Prop :=
  store_Store_has p0_fl p1 (fun r4 x5_fl => ((r4 = false) → (Q (T_api_Account.mk (Ar.zero 20) 0 (Ar.zero 4) ([]) ([])) false x5_fl)) ∧ ((r4 = true) → (∃ (I9 : Int → Prop) (m10 : Int → Nat), (I9 p1) ∧ ∀ (x8 : Int), (I9 x8 → (((0 ≤ x8) → ((0 ≤ x8) ∧ (x8 < (x5_fl.length : Int)) ∧ ((Mp.pget ((nth x5_fl x8).fset) p2 = none → ((0 ≤ x8) ∧ (x8 < (x5_fl.length : Int)) ∧ (I9 ((nth x5_fl x8).fparent) ∧ m10 ((nth x5_fl x8).fparent) < m10 x8))) ∧ (∀ x25, Mp.pget ((nth x5_fl x8).fset) p2 = some x25 → (Q x25 true x5_fl))))) ∧ ((¬ (0 ≤ x8)) → (Q (T_api_Account.mk (Ar.zero 20) 0 (Ar.zero 4) ([]) ([])) false x5_fl)))))))
theorem w_store_Store_find (p0_fl : List T_store_node) (p1 : Int) (p2 : Ar 20) (pb0 : Nat) (p0v_fl : Value) (p0o_fl : List (Nat × Obj)) (g : Gh) (w0 : World) (hst0 : St (Mof ([(pb0, .cells ([p0v_fl]).toArray 142 (0, 0))] ++ (p0o_fl))) w0 w0 g ([(pb0, .cells ([p0v_fl]).toArray 142 (0, 0))] ++ (p0o_fl))) (hp0v_fl : OwnS rT_store_node 139 g p0_fl p0v_fl p0o_fl) (Q : T_api_Account → Bool → (List T_store_node) → Prop) (hp : store_Store_find p0_fl p1 p2 Q) : Calls Try.prog 84 #[Value.pointer (some ⟨pb0, 0, none⟩), Value.int .i64 p1, Value.agg (iaC .u8 p2).toArray] w0 (Ret fun u w => ∃ (r1 : T_api_Account) (r2 : Bool) (z0_fl : List T_store_node), Q r1 r2 z0_fl ∧ ∃ (u1 : Value) (u2 : Value) (z0v_fl : Value) (z0o_fl : List (Nat × Obj)), u = Value.tuple #[Value.agg (iaC .u8 r1.fAddress ++ ([Value.int .u64 r1.fNonce] ++ (iaC .u64 r1.fBalance ++ ([u1] ++ ([u2]))))).toArray, Value.bool r2] ∧ Sl (rtI .u8) g r1.fCode u1 ∧ Sl rT_api_Slot g r1.fStorage u2 ∧ OwnS rT_store_node 139 g z0_fl z0v_fl z0o_fl ∧ St (Mof ([(pb0, .cells ([p0v_fl]).toArray 142 (0, 0))] ++ (p0o_fl))) w0 w g ([(pb0, .cells ([z0v_fl]).toArray 142 (0, 0))] ++ (z0o_fl))) := by
  unfold store_Store_find at hp
  go_enter Try.func84, Try.ntmps84
  change Code.wp _ _ _ (F [Value.pointer (some ⟨pb0, 0, none⟩), Value.int .i64 p1, Value.agg (iaC .u8 p2).toArray, undef, undef, undef, undef, undef, undef, undef, undef, undef, undef, undef, undef, undef, undef, undef, undef, undef, undef, undef, undef, undef, undef, undef, undef, undef, undef, undef, undef, undef, undef, undef, undef, undef, undef, undef, undef, undef, undef]) _
  have hst := hst0
  have hgn0 : GN (Mof ([(pb0, .cells ([p0v_fl]).toArray 142 (0, 0))] ++ (p0o_fl))) w0 g g := GN.refl _ _ _
  have hle0 : g.le g := Gh.le_refl _
  refine E.seq (fun K1 hK1 => ?_)
  refine rg ?_
  refine TL.box (vs := iaC .u8 p2) hst rfl rfl ?_
  intro w n1 hst
  refine ⟨trivial, ?_⟩
  refine TL.alloc hst zv34 rfl ?_
  intro w n2 hst
  refine ⟨trivial, ?_⟩
  refine TL.assign (Value.bool false) rfl rfl ?_
  refine TL.norm (by simp only [List.set_cons_succ, List.set_cons_zero]; rfl) ?_
  refine TL.nil ?_
  refine hK1 _ _ ?_
  refine E.seq (fun K2 hK2 => ?_)
  refine E.seq (fun K3 hK3 => ?_)
  refine rg ?_
  refine TL.move (Value.pointer (some ⟨pb0, 0, none⟩)) rfl rfl ?_
  refine TL.move (Value.int .i64 p1) rfl rfl ?_
  have pm3 : ([(n2, .cells (iaC .u8 (Ar.zero 20) ++ ([Value.int .u64 0] ++ (iaC .u64 (Ar.zero 4) ++ ([Value.slice none 0 0] ++ ([Value.slice none 0 0]))))).toArray 34 (0, 0)), (n1, .cells (iaC .u8 p2).toArray 28 (0, 0)), (pb0, .cells ([p0v_fl]).toArray 142 (0, 0))] ++ (p0o_fl) : List (Nat × Obj)).Perm (([(n2, .cells (iaC .u8 (Ar.zero 20) ++ ([Value.int .u64 0] ++ (iaC .u64 (Ar.zero 4) ++ ([Value.slice none 0 0] ++ ([Value.slice none 0 0]))))).toArray 34 (0, 0)), (n1, .cells (iaC .u8 p2).toArray 28 (0, 0))]) ++ ([(pb0, .cells ([p0v_fl]).toArray 142 (0, 0))] ++ (p0o_fl))) := (permC fun _ => by simp only [List.count_append, List.count_cons, List.count_nil, Nat.zero_add, Nat.add_zero] <;> ac_rfl)
  refine TL.callS #[Value.pointer (some ⟨pb0, 0, none⟩), Value.int .i64 p1] co73 rfl (w_store_Store_has p0_fl p1 pb0 p0v_fl p0o_fl g _ (hst.enterO pm3) hp0v_fl _ hp) rfl ?_
  rintro _ w ⟨r4, x5_fl, hp, x5v_fl, x5o_fl, rfl, hx5v_fl, hst2⟩
  replace hst := hst.leaveO pm3 hst2 (GN.refl _ _ _)
  replace hst : St (Mof ([(pb0, .cells ([p0v_fl]).toArray 142 (0, 0))] ++ (p0o_fl))) _ _ _ ([(n2, .cells (iaC .u8 (Ar.zero 20) ++ ([Value.int .u64 0] ++ (iaC .u64 (Ar.zero 4) ++ ([Value.slice none 0 0] ++ ([Value.slice none 0 0]))))).toArray 34 (0, 0)), (n1, .cells (iaC .u8 p2).toArray 28 (0, 0)), (pb0, .cells ([x5v_fl]).toArray 142 (0, 0))] ++ (x5o_fl)) := hst.perm (permC fun _ => by simp only [List.count_append, List.count_cons, List.count_nil, Nat.zero_add, Nat.add_zero] <;> ac_rfl)
  refine ⟨trivial, ?_⟩
  refine TL.norm (by simp only [List.set_cons_succ, List.set_cons_zero]; rfl) ?_
  refine TL.notB rfl rfl ?_
  refine TL.nil ?_
  refine hK3 _ _ ?_
  refine E.norm (by simp only [List.set_cons_succ, List.set_cons_zero]; rfl) ?_
  refine E.cond rfl (fun hc6 => ?_) (fun hc6 => ?_)
  · replace hp := hp.1 ((notT hc6))
    refine E.seq (fun K4 hK4 => ?_)
    refine rg ?_
    refine TL.buildS (ps := []) bs34 zv34 rfl (Fl.nil _) rfl ?_
    refine TL.stA 0 n2 (0) _ (vs := iaC .u8 (Ar.zero 20) ++ ([Value.int .u64 0] ++ (iaC .u64 (Ar.zero 4) ++ ([Value.slice none 0 0] ++ ([Value.slice none 0 0]))))) hst rfl (Put.all (by simp)) (by first | rfl | omega) rfl (One.app (One.ia _ _) (One.app (One.one rfl) (One.app (One.ia _ _) (One.app (One.one rfl) (One.one rfl))))) (tzof tz34 (by simp)) rfl rfl ?_
    intro w hst
    refine ⟨trivial, ?_⟩
    refine TL.assign (Value.bool false) rfl rfl ?_
    refine TL.nil ?_
    refine hK4 _ _ ?_
    refine E.norm (by simp only [List.set_cons_succ, List.set_cons_zero]; rfl) ?_
    refine wp_ret ?_
    refine E.ret _ (Rs.ct (iaC .u8 (Ar.zero 20) ++ ([Value.int .u64 0] ++ (iaC .u64 (Ar.zero 4) ++ ([Value.slice none 0 0] ++ ([Value.slice none 0 0]))))) (Value.bool false) rfl rfl (ta34.of (by simp)) (rangeAt_of_block (hst.mem (i := 0) rfl) (Seg.all _)) rfl) ?_
    exact ⟨(T_api_Account.mk (Ar.zero 20) 0 (Ar.zero 4) ([]) ([])), false, x5_fl, hp, _, _, _, _, rfl, Sl.nil _ _, Sl.nil _ _, hx5v_fl, hst.sub (.cons _ (.cons _ (.cons_cons _ (List.Sublist.refl _))))⟩
  · replace hp := hp.2 ((notF hc6))
    refine wp_skip ?_
    refine hK2 _ _ ?_
    refine E.seq (fun K5 hK5 => ?_)
    refine wp_block ?_
    obtain ⟨I9, m10, hI0, hI⟩ := hp
    refine E.loop (fun mm l w => ∃ (x8 : Int), (mm = m10 x8) ∧ (I9 x8) ∧ Fits [some (Value.pointer (some ⟨pb0, 0, none⟩)), some (Value.int .i64 x8), some (Value.agg (iaC .u8 p2).toArray), some (undef), some (undef), some (Value.pointer (some ⟨n1, 0, none⟩)), some (Value.pointer (some ⟨n2, 0, none⟩)), some (Value.bool false), none, none, some (Value.pointer (some ⟨pb0, 0, none⟩)), some (Value.int .i64 p1), some (Value.bool r4), some (Value.bool (!r4)), some (undef), none, none, none, none, none, none, none, none, none, none, none, none, none, none, none, none, none, none, none, none, none, none, none, none, some (undef), some (undef)] l ∧ St (Mof ([(pb0, .cells ([p0v_fl]).toArray 142 (0, 0))] ++ (p0o_fl))) w0 w g ([(n2, .cells (iaC .u8 (Ar.zero 20) ++ ([Value.int .u64 0] ++ (iaC .u64 (Ar.zero 4) ++ ([Value.slice none 0 0] ++ ([Value.slice none 0 0]))))).toArray 34 (0, 0)), (n1, .cells (iaC .u8 p2).toArray 28 (0, 0)), (pb0, .cells ([x5v_fl]).toArray 142 (0, 0))] ++ (x5o_fl))) _ ⟨p1, rfl, hI0, (by first | (simp only [List.set_cons_succ, List.set_cons_zero]; exact .s rfl (.s rfl (.s rfl (.s rfl (.s rfl (.s rfl (.s rfl (.s rfl (.n (.n (.s rfl (.s rfl (.s rfl (.s rfl (.s rfl (.n (.n (.n (.n (.n (.n (.n (.n (.n (.n (.n (.n (.n (.n (.n (.n (.n (.n (.n (.n (.n (.n (.n (.n (.s rfl (.s rfl (.z)))))))))))))))))))))))))))))))))))))))))) | exact .s rfl (.s rfl (.s rfl (.s rfl (.s rfl (.s rfl (.s rfl (.s rfl (.n (.n (.s rfl (.s rfl (.s rfl (.s rfl (.s rfl (.n (.n (.n (.n (.n (.n (.n (.n (.n (.n (.n (.n (.n (.n (.n (.n (.n (.n (.n (.n (.n (.n (.n (.n (.s rfl (.s rfl (.z)))))))))))))))))))))))))))))))))))))))))), hst⟩ ?_
    rintro _ _ w ⟨x8, rfl, hI1, hfit, hst⟩
    have hp := hI _ hI1
    obtain ⟨j7, rfl⟩ := hfit.ex
    refine E.norm (l' := [Value.pointer (some ⟨pb0, 0, none⟩), Value.int .i64 x8, Value.agg (iaC .u8 p2).toArray, undef, undef, Value.pointer (some ⟨n1, 0, none⟩), Value.pointer (some ⟨n2, 0, none⟩), Value.bool false, (j7 8), (j7 9), Value.pointer (some ⟨pb0, 0, none⟩), Value.int .i64 p1, Value.bool r4, Value.bool (!r4), undef, (j7 15), (j7 16), (j7 17), (j7 18), (j7 19), (j7 20), (j7 21), (j7 22), (j7 23), (j7 24), (j7 25), (j7 26), (j7 27), (j7 28), (j7 29), (j7 30), (j7 31), (j7 32), (j7 33), (j7 34), (j7 35), (j7 36), (j7 37), (j7 38), undef, undef]) rfl ?_
    refine E.seq (fun K6 hK6 => ?_)
    refine E.seq (fun K7 hK7 => ?_)
    refine rg ?_
    refine TL.move (Value.int .i64 x8) rfl rfl ?_
    refine TL.geq rfl rfl rfl ?_
    refine TL.nil ?_
    refine hK7 _ _ ?_
    refine E.norm (by simp only [List.set_cons_succ, List.set_cons_zero]; rfl) ?_
    refine E.cond rfl (fun hc11 => ?_) (fun hc11 => ?_)
    · replace hp := hp.1 (of_decide_eq_true hc11)
      refine wp_skip ?_
      refine hK6 _ _ ?_
      refine E.seq (fun K8 hK8 => ?_)
      refine wp_block ?_
      refine E.seq (fun K9 hK9 => ?_)
      refine rgM [] (fun w' => St (Mof ([(pb0, .cells ([p0v_fl]).toArray 142 (0, 0))] ++ (p0o_fl))) w0 w' g ([(n2, .cells (iaC .u8 (Ar.zero 20) ++ ([Value.int .u64 0] ++ (iaC .u64 (Ar.zero 4) ++ ([Value.slice none 0 0] ++ ([Value.slice none 0 0]))))).toArray 34 (0, 0)), (n1, .cells (iaC .u8 p2).toArray 28 (0, 0)), (pb0, .cells ([x5v_fl]).toArray 142 (0, 0))] ++ (x5o_fl))) mixed #[0, 1, 3, 7, 0, 31, 63, 127, 0, 511, 1023, 2047, 2047, 0, 12287, 32767] (by kernel_rfl) hst.drew ?_
      replace hst := hst.drew
      refine TL.move (Value.pointer (some ⟨pb0, 0, none⟩)) rfl rfl ?_
      refine TL.nilCheck rfl rfl ?_
      refine TL.fieldA (0) fa142_0 rfl (by first | rfl | omega) rfl ?_
      refine TL.norm (by simp only [List.set_cons_succ, List.set_cons_zero]; rfl) ?_
      refine TL.ldL1 2 pb0 (0) (x5v_fl) (fun _ h => h) rfl (Seg.all _) ts140 rfl rfl ?_
      refine TL.move (Value.int .i64 x8) rfl rfl ?_
      obtain ⟨ho12, ho13, hp⟩ := hp
      refine TL.indexO (hx5v_fl) sl140 rfl rfl ho12 ho13 rfl ?_
      rintro b14 o15 _ ⟨v17, rfl, hv17⟩ hq16
      refine TL.norm (by simp only [List.set_cons_succ, List.set_cons_zero]; rfl) ?_
      refine TL.fieldA (o15 + 1) fa139_1 rfl (by first | rfl | omega) rfl ?_
      refine TL.ldO1 b14 (o15 + (1 + (0))) (v17) (fun _ h => h) (fun p hp => by simp [hp]) (hq16.sub (Seg.skip (m := 1) (by simp) (Seg.all _))) ts133 rfl rfl ?_
      refine TL.ldL 1 n1 (0) (iaC .u8 p2) (fun _ h => h) rfl (Seg.all _) (ta28.of (by simp)) rfl rfl ?_
      refine TL.norm (by simp only [List.set_cons_succ, List.set_cons_zero]; rfl) ?_
      refine Mp.TL.flook (a := p2) (.agg (iaC .u8 (Ar.zero 20) ++ ([Value.int .u64 0] ++ (iaC .u64 (Ar.zero 4) ++ ([Value.slice none 0 0] ++ ([Value.slice none 0 0]))))).toArray) Try.underlying133 kt28 (fun _ h => h) (hv17) zi34 rfl rfl rfl (fun hn => ?_) ?_
      · replace hp := hp.1 hn
        refine TL.move (Value.tuple #[Value.agg (iaC .u8 (Ar.zero 20) ++ ([Value.int .u64 0] ++ (iaC .u64 (Ar.zero 4) ++ ([Value.slice none 0 0] ++ ([Value.slice none 0 0]))))).toArray, Value.bool false]) rfl rfl ?_
        refine TL.extract (Value.agg (iaC .u8 (Ar.zero 20) ++ ([Value.int .u64 0] ++ (iaC .u64 (Ar.zero 4) ++ ([Value.slice none 0 0] ++ ([Value.slice none 0 0]))))).toArray) rfl rfl rfl ?_
        refine TL.norm (by simp only [List.set_cons_succ, List.set_cons_zero]; rfl) ?_
        refine TL.extract (Value.bool false) rfl rfl rfl ?_
        refine TL.alloc hst zv34 rfl ?_
        intro w n18 hst
        refine ⟨hst.sub (.cons _ (.cons_cons _ (.cons_cons _ (.cons_cons _ (List.Sublist.refl _))))), ?_⟩
        refine TL.stA 0 n18 (0) _ (vs := iaC .u8 (Ar.zero 20) ++ ([Value.int .u64 0] ++ (iaC .u64 (Ar.zero 4) ++ ([Value.slice none 0 0] ++ ([Value.slice none 0 0]))))) hst rfl (Put.all (by simp)) (by first | rfl | omega) rfl (One.app (One.ia _ _) (One.app (One.one rfl) (One.app (One.ia _ _) (One.app (One.one rfl) (One.one rfl))))) (tzof tz34 (by simp)) rfl rfl ?_
        intro w hst
        refine ⟨hst.sub (.cons _ (.cons_cons _ (.cons_cons _ (.cons_cons _ (List.Sublist.refl _))))), ?_⟩
        refine TL.assign (Value.bool false) rfl rfl ?_
        refine TL.norm (by simp only [List.set_cons_succ, List.set_cons_zero]; rfl) ?_
        refine TL.nil ?_
        refine hK9 _ _ ?_
        refine E.seq (fun K10 hK10 => ?_)
        refine rg ?_
        refine TL.move (Value.bool false) rfl rfl ?_
        refine TL.nil ?_
        refine hK10 _ _ ?_
        refine E.norm (by simp only [List.set_cons_succ, List.set_cons_zero]; rfl) ?_
        refine E.condF rfl ?_
        refine wp_skip ?_
        refine hK8 _ _ ?_
        refine rg ?_
        refine TL.move (Value.pointer (some ⟨pb0, 0, none⟩)) rfl rfl ?_
        refine TL.nilCheck rfl rfl ?_
        refine TL.fieldA (0) fa142_0 rfl (by first | rfl | omega) rfl ?_
        refine TL.norm (by simp only [List.set_cons_succ, List.set_cons_zero]; rfl) ?_
        refine TL.ldL1 3 pb0 (0) (x5v_fl) (fun _ h => h ▸ hst) rfl (Seg.all _) ts140 rfl rfl ?_
        refine TL.move (Value.int .i64 x8) rfl rfl ?_
        obtain ⟨ho19, ho20, hp⟩ := hp
        refine TL.indexO (hx5v_fl) sl140 rfl rfl ho19 ho20 rfl ?_
        rintro b21 o22 _ ⟨v24, rfl, hv24⟩ hq23
        refine TL.norm (by simp only [List.set_cons_succ, List.set_cons_zero]; rfl) ?_
        refine TL.fieldA (o22) fa139_0 rfl (by first | rfl | omega) rfl ?_
        refine TL.ldO1 b21 (o22 + (0)) (Value.int .i64 ((nth x5_fl x8).fparent)) (fun _ h => h ▸ hst) (fun p hp => by simp [hp]) (hq23.sub (Seg.here _ _)) ts3 rfl rfl ?_
        refine TL.assign (Value.int .i64 ((nth x5_fl x8).fparent)) rfl rfl ?_
        refine TL.norm (by simp only [List.set_cons_succ, List.set_cons_zero]; rfl) ?_
        refine TL.nil ?_
        exact ⟨_, _, hp.2, rfl, ((nth x5_fl x8).fparent), rfl, hp.1, (by first | (simp only [List.set_cons_succ, List.set_cons_zero]; exact .s rfl (.s rfl (.s rfl (.s rfl (.s rfl (.s rfl (.s rfl (.s rfl (.n (.n (.s rfl (.s rfl (.s rfl (.s rfl (.s rfl (.n (.n (.n (.n (.n (.n (.n (.n (.n (.n (.n (.n (.n (.n (.n (.n (.n (.n (.n (.n (.n (.n (.n (.n (.s rfl (.s rfl (.z)))))))))))))))))))))))))))))))))))))))))) | exact .s rfl (.s rfl (.s rfl (.s rfl (.s rfl (.s rfl (.s rfl (.s rfl (.n (.n (.s rfl (.s rfl (.s rfl (.s rfl (.s rfl (.n (.n (.n (.n (.n (.n (.n (.n (.n (.n (.n (.n (.n (.n (.n (.n (.n (.n (.n (.n (.n (.n (.n (.n (.s rfl (.s rfl (.z)))))))))))))))))))))))))))))))))))))))))), hst.sub (.cons _ (.cons_cons _ (.cons_cons _ (.cons_cons _ (List.Sublist.refl _)))))⟩
      · rintro x25 _ hn hvr
        replace hp := hp.2 x25 hn
        obtain ⟨_, rfl, hrow⟩ := hvr.invA
        obtain ⟨v26, v27, rfl, hv26, hv27⟩ := hrow
        refine TL.move (Value.tuple #[Value.agg (iaC .u8 x25.fAddress ++ ([Value.int .u64 x25.fNonce] ++ (iaC .u64 x25.fBalance ++ ([v26] ++ ([v27]))))).toArray, Value.bool true]) rfl rfl ?_
        refine TL.extract (Value.agg (iaC .u8 x25.fAddress ++ ([Value.int .u64 x25.fNonce] ++ (iaC .u64 x25.fBalance ++ ([v26] ++ ([v27]))))).toArray) rfl rfl rfl ?_
        refine TL.norm (by simp only [List.set_cons_succ, List.set_cons_zero]; rfl) ?_
        refine TL.extract (Value.bool true) rfl rfl rfl ?_
        refine TL.alloc hst zv34 rfl ?_
        intro w n28 hst
        refine ⟨hst.sub (.cons _ (.cons_cons _ (.cons_cons _ (.cons_cons _ (List.Sublist.refl _))))), ?_⟩
        refine TL.stA 0 n28 (0) _ (vs := iaC .u8 x25.fAddress ++ ([Value.int .u64 x25.fNonce] ++ (iaC .u64 x25.fBalance ++ ([v26] ++ ([v27]))))) hst rfl (Put.all (by simp)) (by first | rfl | omega) rfl (One.app (One.ia _ _) (One.app (One.one rfl) (One.app (One.ia _ _) (One.app (One.one (hv26).one) (One.one (hv27).one))))) (tzof tz34 (by simp)) rfl rfl ?_
        intro w hst
        refine ⟨hst.sub (.cons _ (.cons_cons _ (.cons_cons _ (.cons_cons _ (List.Sublist.refl _))))), ?_⟩
        refine TL.assign (Value.bool true) rfl rfl ?_
        refine TL.norm (by simp only [List.set_cons_succ, List.set_cons_zero]; rfl) ?_
        refine TL.nil ?_
        refine hK9 _ _ ?_
        refine E.seq (fun K11 hK11 => ?_)
        refine rg ?_
        refine TL.move (Value.bool true) rfl rfl ?_
        refine TL.nil ?_
        refine hK11 _ _ ?_
        refine E.norm (by simp only [List.set_cons_succ, List.set_cons_zero]; rfl) ?_
        refine E.condT rfl ?_
        refine E.seq (fun K12 hK12 => ?_)
        refine rg ?_
        refine TL.ldL 0 n28 (0) (iaC .u8 x25.fAddress ++ ([Value.int .u64 x25.fNonce] ++ (iaC .u64 x25.fBalance ++ ([v26] ++ ([v27]))))) (fun _ h => h ▸ hst) rfl (Seg.all _) (ta34.of (by simp)) rfl rfl ?_
        refine TL.stA 1 n2 (0) _ (vs := iaC .u8 x25.fAddress ++ ([Value.int .u64 x25.fNonce] ++ (iaC .u64 x25.fBalance ++ ([v26] ++ ([v27]))))) hst rfl (Put.all (by simp)) (by first | rfl | omega) rfl (One.app (One.ia _ _) (One.app (One.one rfl) (One.app (One.ia _ _) (One.app (One.one (hv26).one) (One.one (hv27).one))))) (tzof tz34 (by simp)) rfl rfl ?_
        intro w hst
        refine ⟨trivial, ?_⟩
        refine TL.assign (Value.bool true) rfl rfl ?_
        refine TL.nil ?_
        refine hK12 _ _ ?_
        refine E.norm (by simp only [List.set_cons_succ, List.set_cons_zero]; rfl) ?_
        refine wp_ret ?_
        refine E.ret _ (Rs.ct (iaC .u8 x25.fAddress ++ ([Value.int .u64 x25.fNonce] ++ (iaC .u64 x25.fBalance ++ ([v26] ++ ([v27]))))) (Value.bool true) rfl rfl (ta34.of (by simp)) (rangeAt_of_block (hst.mem (i := 1) rfl) (Seg.all _)) rfl) ?_
        exact ⟨x25, true, x5_fl, hp, _, _, _, _, rfl, hv26, hv27, hx5v_fl, hst.sub (.cons _ (.cons _ (.cons _ (.cons_cons _ (List.Sublist.refl _)))))⟩
    · replace hp := hp.2 (of_decide_eq_false hc11)
      refine wp_exit ?_
      refine hK5 _ _ ?_
      refine E.seq (fun K13 hK13 => ?_)
      refine rg ?_
      refine TL.buildS (ps := []) bs34 zv34 rfl (Fl.nil _) rfl ?_
      refine TL.stA 0 n2 (0) _ (vs := iaC .u8 (Ar.zero 20) ++ ([Value.int .u64 0] ++ (iaC .u64 (Ar.zero 4) ++ ([Value.slice none 0 0] ++ ([Value.slice none 0 0]))))) hst rfl (Put.all (by simp)) (by first | rfl | omega) rfl (One.app (One.ia _ _) (One.app (One.one rfl) (One.app (One.ia _ _) (One.app (One.one rfl) (One.one rfl))))) (tzof tz34 (by simp)) rfl rfl ?_
      intro w hst
      refine ⟨trivial, ?_⟩
      refine TL.assign (Value.bool false) rfl rfl ?_
      refine TL.nil ?_
      refine hK13 _ _ ?_
      refine E.norm (by simp only [List.set_cons_succ, List.set_cons_zero]; rfl) ?_
      refine wp_ret ?_
      refine E.ret _ (Rs.ct (iaC .u8 (Ar.zero 20) ++ ([Value.int .u64 0] ++ (iaC .u64 (Ar.zero 4) ++ ([Value.slice none 0 0] ++ ([Value.slice none 0 0]))))) (Value.bool false) rfl rfl (ta34.of (by simp)) (rangeAt_of_block (hst.mem (i := 0) rfl) (Seg.all _)) rfl) ?_
      exact ⟨(T_api_Account.mk (Ar.zero 20) 0 (Ar.zero 4) ([]) ([])), false, x5_fl, hp, _, _, _, _, rfl, Sl.nil _ _, Sl.nil _ _, hx5v_fl, hst.sub (.cons _ (.cons _ (.cons_cons _ (List.Sublist.refl _))))⟩

def store_Store_Find (p0_fl : List T_store_node) (p1 : Int) (p2 : Ar 20) (Q : T_api_Account → Bool → (List T_store_node) → Prop) : Prop :=
  store_Store_find p0_fl p1 p2 (fun r4 r7 x8_fl => store_own r4 (fun r10 => Q r10 r7 x8_fl))
theorem w_store_Store_Find (p0_fl : List T_store_node) (p1 : Int) (p2 : Ar 20) (pb0 : Nat) (p0v_fl : Value) (p0o_fl : List (Nat × Obj)) (g : Gh) (w0 : World) (hst0 : St (Mof ([(pb0, .cells ([p0v_fl]).toArray 142 (0, 0))] ++ (p0o_fl))) w0 w0 g ([(pb0, .cells ([p0v_fl]).toArray 142 (0, 0))] ++ (p0o_fl))) (hp0v_fl : OwnS rT_store_node 139 g p0_fl p0v_fl p0o_fl) (Q : T_api_Account → Bool → (List T_store_node) → Prop) (hp : store_Store_Find p0_fl p1 p2 Q) : Calls Try.prog 40 #[Value.pointer (some ⟨pb0, 0, none⟩), Value.int .i64 p1, Value.agg (iaC .u8 p2).toArray] w0 (Ret fun u w => ∃ g', g.le g' ∧ GN (Mof ([(pb0, .cells ([p0v_fl]).toArray 142 (0, 0))] ++ (p0o_fl))) w0 g g' ∧ ∃ (r1 : T_api_Account) (r2 : Bool) (z0_fl : List T_store_node), Q r1 r2 z0_fl ∧ ∃ (u1 : Value) (u2 : Value) (z0v_fl : Value) (z0o_fl : List (Nat × Obj)), u = Value.tuple #[Value.agg (iaC .u8 r1.fAddress ++ ([Value.int .u64 r1.fNonce] ++ (iaC .u64 r1.fBalance ++ ([u1] ++ ([u2]))))).toArray, Value.bool r2] ∧ Sl (rtI .u8) g' r1.fCode u1 ∧ Sl rT_api_Slot g' r1.fStorage u2 ∧ OwnS rT_store_node 139 g' z0_fl z0v_fl z0o_fl ∧ St (Mof ([(pb0, .cells ([p0v_fl]).toArray 142 (0, 0))] ++ (p0o_fl))) w0 w g' ([(pb0, .cells ([z0v_fl]).toArray 142 (0, 0))] ++ (z0o_fl))) := by
  unfold store_Store_Find at hp
  go_enter Try.func40, Try.ntmps40
  change Code.wp _ _ _ (F [Value.pointer (some ⟨pb0, 0, none⟩), Value.int .i64 p1, Value.agg (iaC .u8 p2).toArray, undef, undef, undef, undef, undef, undef, undef, undef, undef, undef, undef, undef, undef, undef, undef, undef, undef]) _
  have hst := hst0
  have hgn0 : GN (Mof ([(pb0, .cells ([p0v_fl]).toArray 142 (0, 0))] ++ (p0o_fl))) w0 g g := GN.refl _ _ _
  have hle0 : g.le g := Gh.le_refl _
  refine E.seq (fun K1 hK1 => ?_)
  refine rg ?_
  refine TL.box (vs := iaC .u8 p2) hst rfl rfl ?_
  intro w n1 hst
  refine ⟨trivial, ?_⟩
  refine TL.alloc hst zv34 rfl ?_
  intro w n2 hst
  refine ⟨trivial, ?_⟩
  refine TL.assign (Value.bool false) rfl rfl ?_
  refine TL.norm (by simp only [List.set_cons_succ, List.set_cons_zero]; rfl) ?_
  refine TL.nil ?_
  refine hK1 _ _ ?_
  refine E.seq (fun K2 hK2 => ?_)
  refine rg ?_
  refine TL.move (Value.pointer (some ⟨pb0, 0, none⟩)) rfl rfl ?_
  refine TL.move (Value.int .i64 p1) rfl rfl ?_
  refine TL.ldL 1 n1 (0) (iaC .u8 p2) (fun _ h => h ▸ hst) rfl (Seg.all _) (ta28.of (by simp)) rfl rfl ?_
  refine TL.norm (by simp only [List.set_cons_succ, List.set_cons_zero]; rfl) ?_
  have pm3 : ([(n2, .cells (iaC .u8 (Ar.zero 20) ++ ([Value.int .u64 0] ++ (iaC .u64 (Ar.zero 4) ++ ([Value.slice none 0 0] ++ ([Value.slice none 0 0]))))).toArray 34 (0, 0)), (n1, .cells (iaC .u8 p2).toArray 28 (0, 0)), (pb0, .cells ([p0v_fl]).toArray 142 (0, 0))] ++ (p0o_fl) : List (Nat × Obj)).Perm (([(n2, .cells (iaC .u8 (Ar.zero 20) ++ ([Value.int .u64 0] ++ (iaC .u64 (Ar.zero 4) ++ ([Value.slice none 0 0] ++ ([Value.slice none 0 0]))))).toArray 34 (0, 0)), (n1, .cells (iaC .u8 p2).toArray 28 (0, 0))]) ++ ([(pb0, .cells ([p0v_fl]).toArray 142 (0, 0))] ++ (p0o_fl))) := (permC fun _ => by simp only [List.count_append, List.count_cons, List.count_nil, Nat.zero_add, Nat.add_zero] <;> ac_rfl)
  refine TL.callS #[Value.pointer (some ⟨pb0, 0, none⟩), Value.int .i64 p1, Value.agg (iaC .u8 p2).toArray] co84 rfl (w_store_Store_find p0_fl p1 p2 pb0 p0v_fl p0o_fl g _ (hst.enterO pm3) hp0v_fl _ hp) rfl ?_
  rintro _ w ⟨r4, r7, x8_fl, hp, v5, v6, x8v_fl, x8o_fl, rfl, hv5, hv6, hx8v_fl, hst2⟩
  replace hst := hst.leaveO pm3 hst2 (GN.refl _ _ _)
  replace hst : St (Mof ([(pb0, .cells ([p0v_fl]).toArray 142 (0, 0))] ++ (p0o_fl))) _ _ _ ([(n2, .cells (iaC .u8 (Ar.zero 20) ++ ([Value.int .u64 0] ++ (iaC .u64 (Ar.zero 4) ++ ([Value.slice none 0 0] ++ ([Value.slice none 0 0]))))).toArray 34 (0, 0)), (n1, .cells (iaC .u8 p2).toArray 28 (0, 0)), (pb0, .cells ([x8v_fl]).toArray 142 (0, 0))] ++ (x8o_fl)) := hst.perm (permC fun _ => by simp only [List.count_append, List.count_cons, List.count_nil, Nat.zero_add, Nat.add_zero] <;> ac_rfl)
  refine ⟨trivial, ?_⟩
  refine TL.move (Value.tuple #[Value.agg (iaC .u8 r4.fAddress ++ ([Value.int .u64 r4.fNonce] ++ (iaC .u64 r4.fBalance ++ ([v5] ++ ([v6]))))).toArray, Value.bool r7]) rfl rfl ?_
  refine TL.extract (Value.agg (iaC .u8 r4.fAddress ++ ([Value.int .u64 r4.fNonce] ++ (iaC .u64 r4.fBalance ++ ([v5] ++ ([v6]))))).toArray) rfl rfl rfl ?_
  refine TL.norm (by simp only [List.set_cons_succ, List.set_cons_zero]; rfl) ?_
  refine TL.extract (Value.bool r7) rfl rfl rfl ?_
  refine TL.alloc hst zv34 rfl ?_
  intro w n9 hst
  refine ⟨trivial, ?_⟩
  refine TL.stA 0 n9 (0) _ (vs := iaC .u8 r4.fAddress ++ ([Value.int .u64 r4.fNonce] ++ (iaC .u64 r4.fBalance ++ ([v5] ++ ([v6]))))) hst rfl (Put.all (by simp)) (by first | rfl | omega) rfl (One.app (One.ia _ _) (One.app (One.one rfl) (One.app (One.ia _ _) (One.app (One.one (hv5).one) (One.one (hv6).one))))) (tzof tz34 (by simp)) rfl rfl ?_
  intro w hst
  refine ⟨trivial, ?_⟩
  refine TL.assign (Value.bool r7) rfl rfl ?_
  refine TL.norm (by simp only [List.set_cons_succ, List.set_cons_zero]; rfl) ?_
  refine TL.nil ?_
  refine hK2 _ _ ?_
  refine E.seq (fun K3 hK3 => ?_)
  refine rg ?_
  refine TL.ldL 0 n9 (0) (iaC .u8 r4.fAddress ++ ([Value.int .u64 r4.fNonce] ++ (iaC .u64 r4.fBalance ++ ([v5] ++ ([v6]))))) (fun _ h => h ▸ hst) rfl (Seg.all _) (ta34.of (by simp)) rfl rfl ?_
  refine TL.callS #[Value.agg (iaC .u8 r4.fAddress ++ ([Value.int .u64 r4.fNonce] ++ (iaC .u64 r4.fBalance ++ ([v5] ++ ([v6]))))).toArray] co76 rfl (w_store_own r4 v5 v6 g _ hst.has (hv5) (hv6) _ hp) rfl ?_
  rintro _ w ⟨g13, hgrg13, r10, hp, v11, v12, rfl, hv11, hv12⟩
  have hleg13 := hgrg13.le
  replace hgn0 := hgn0.call hgrg13.new hst.keep.size
  replace hle0 := Gh.le_trans hle0 hleg13
  replace hst := hst.callG hgrg13.keep hgrg13.has hgrg13.new
  refine ⟨trivial, ?_⟩
  refine TL.move (Value.bool r7) rfl rfl ?_
  refine TL.norm (by simp only [List.set_cons_succ, List.set_cons_zero]; rfl) ?_
  refine TL.stA 1 n2 (0) _ (vs := iaC .u8 r10.fAddress ++ ([Value.int .u64 r10.fNonce] ++ (iaC .u64 r10.fBalance ++ ([v11] ++ ([v12]))))) hst rfl (Put.all (by simp)) (by first | rfl | omega) rfl (One.app (One.ia _ _) (One.app (One.one rfl) (One.app (One.ia _ _) (One.app (One.one (hv11).one) (One.one (hv12).one))))) (tzof tz34 (by simp)) rfl rfl ?_
  intro w hst
  refine ⟨trivial, ?_⟩
  refine TL.assign (Value.bool r7) rfl rfl ?_
  refine TL.nil ?_
  refine hK3 _ _ ?_
  refine E.norm (by simp only [List.set_cons_succ, List.set_cons_zero]; rfl) ?_
  refine wp_ret ?_
  refine E.ret _ (Rs.ct (iaC .u8 r10.fAddress ++ ([Value.int .u64 r10.fNonce] ++ (iaC .u64 r10.fBalance ++ ([v11] ++ ([v12]))))) (Value.bool r7) rfl rfl (ta34.of (by simp)) (rangeAt_of_block (hst.mem (i := 1) rfl) (Seg.all _)) rfl) ?_
  exact ⟨g13, hle0, hgn0, r10, r7, x8_fl, hp, _, _, _, _, rfl, hv11, hv12, (hx8v_fl.mono (hleg13)), hst.sub (.cons _ (.cons _ (.cons _ (.cons_cons _ (List.Sublist.refl _)))))⟩

def store_Store_Commit_1 (p0 : T_api_Account) (Q : Bool → Prop) : Prop :=
  store_Right p0 (fun r4 => Q (!r4))
theorem w_store_Store_Commit_1 (p0 : T_api_Account) (v1 : Value) (v2 : Value) (g : Gh) (w0 : World) (hg : Has w0 g) (hv1 : Sl (rtI .u8) g p0.fCode v1) (hv2 : Sl rT_api_Slot g p0.fStorage v2) (Q : Bool → Prop) (hp : store_Store_Commit_1 p0 Q) : Calls Try.prog 75 #[Value.agg (iaC .u8 p0.fAddress ++ ([Value.int .u64 p0.fNonce] ++ (iaC .u64 p0.fBalance ++ ([v1] ++ ([v2]))))).toArray] w0 (Ret fun u w => Keep Non w0 w ∧ ∃ (r1 : Bool), Q r1 ∧ u = Value.bool r1) := by
  unfold store_Store_Commit_1 at hp
  go_enter Try.func75, Try.ntmps75
  change Code.wp _ _ _ (F [Value.agg (iaC .u8 p0.fAddress ++ ([Value.int .u64 p0.fNonce] ++ (iaC .u64 p0.fBalance ++ ([v1] ++ ([v2]))))).toArray, undef, undef, undef, undef, undef]) _
  have hst := St.start Non hg
  have hgn0 : GN Non w0 g g := GN.refl _ _ _
  have hle0 : g.le g := Gh.le_refl _
  refine E.seq (fun K1 hK1 => ?_)
  refine rg ?_
  refine TL.box (vs := iaC .u8 p0.fAddress ++ ([Value.int .u64 p0.fNonce] ++ (iaC .u64 p0.fBalance ++ ([v1] ++ ([v2]))))) hst rfl rfl ?_
  intro w n3 hst
  refine ⟨trivial, ?_⟩
  refine TL.assign (Value.bool false) rfl rfl ?_
  refine TL.nil ?_
  refine hK1 _ _ ?_
  refine E.norm (by simp only [List.set_cons_succ, List.set_cons_zero]; rfl) ?_
  refine E.seq (fun K2 hK2 => ?_)
  refine rg ?_
  refine TL.ldL 0 n3 (0) (iaC .u8 p0.fAddress ++ ([Value.int .u64 p0.fNonce] ++ (iaC .u64 p0.fBalance ++ ([v1] ++ ([v2]))))) (fun _ h => h ▸ hst) rfl (Seg.all _) (ta34.of (by simp)) rfl rfl ?_
  refine TL.callS #[Value.agg (iaC .u8 p0.fAddress ++ ([Value.int .u64 p0.fNonce] ++ (iaC .u64 p0.fBalance ++ ([v1] ++ ([v2]))))).toArray] co71 rfl (w_store_Right p0 v1 v2 g _ hst.has (hv1) (hv2) _ hp) rfl ?_
  rintro _ w ⟨hk, r4, hp, rfl⟩
  replace hst := hst.call hk
  refine ⟨trivial, ?_⟩
  refine TL.notB rfl rfl ?_
  refine TL.norm (by simp only [List.set_cons_succ, List.set_cons_zero]; rfl) ?_
  refine TL.assign (Value.bool (!r4)) rfl rfl ?_
  refine TL.nil ?_
  refine hK2 _ _ ?_
  refine E.norm (by simp only [List.set_cons_succ, List.set_cons_zero]; rfl) ?_
  refine wp_ret ?_
  refine E.ret _ (Rs.t (Value.bool (!r4)) rfl rfl) ?_
  exact ⟨hst.keep, !r4, hp, rfl⟩

def slices_IndexFunc_l_api_Account_api_Account_store_Store_Commit_1 (p0 : List T_api_Account) (Q : Int → Prop) : Prop :=
  ∃ (I4 : Int → Prop) (m5 : Int → Nat), (I4 0) ∧ ∀ (x3 : Int), (I4 x3 → (((x3 < (p0.length : Int)) → ((0 ≤ x3) ∧ (x3 < (p0.length : Int)) ∧ (store_Store_Commit_1 (nth p0 x3) (fun r16 => ((r16 = true) → (Q x3)) ∧ ((r16 = false) → ((inR .i64 (x3 + 1)) ∧ (I4 (x3 + 1) ∧ m5 (x3 + 1) < m5 x3))))))) ∧ ((¬ (x3 < (p0.length : Int))) → (Q (-1)))))
theorem w_slices_IndexFunc_l_api_Account_api_Account_store_Store_Commit_1 (p0 : List T_api_Account) (v1 : Value) (g : Gh) (w0 : World) (hg : Has w0 g) (hv1 : Sl rT_api_Account g p0 v1) (Q : Int → Prop) (hp : slices_IndexFunc_l_api_Account_api_Account_store_Store_Commit_1 p0 Q) : Calls Try.prog 110 #[v1, Value.func (.func 75) #[] #[]] w0 (Ret fun u w => Keep Non w0 w ∧ ∃ (r1 : Int), Q r1 ∧ u = Value.int .i64 r1) := by
  unfold slices_IndexFunc_l_api_Account_api_Account_store_Store_Commit_1 at hp
  go_enter Try.func110, Try.ntmps110
  change Code.wp _ _ _ (F [v1, Value.func (.func 75) #[] #[], undef, undef, undef, undef, undef, undef, undef, undef, undef, undef, undef, undef, undef, undef, undef, undef, undef]) _
  have hst := St.start Non hg
  have hgn0 : GN Non w0 g g := GN.refl _ _ _
  have hle0 : g.le g := Gh.le_refl _
  refine E.seq (fun K1 hK1 => ?_)
  refine rg ?_
  refine TL.assign (Value.int .i64 0) rfl rfl ?_
  refine TL.nil ?_
  refine hK1 _ _ ?_
  refine E.norm (by simp only [List.set_cons_succ, List.set_cons_zero]; rfl) ?_
  refine E.seq (fun K2 hK2 => ?_)
  refine E.seq (fun K3 hK3 => ?_)
  refine rg ?_
  refine TL.move (v1) rfl rfl ?_
  refine TL.lenL (hv1) Try.underlying22 rfl rfl ?_
  refine TL.move (Value.int .i64 0) rfl rfl ?_
  refine TL.norm (by simp only [List.set_cons_succ, List.set_cons_zero]; rfl) ?_
  refine TL.nil ?_
  refine hK3 _ _ ?_
  refine wp_block ?_
  obtain ⟨I4, m5, hI0, hI⟩ := hp
  refine E.loop (fun mm l w => ∃ (x3 : Int), (mm = m5 x3) ∧ (I4 x3) ∧ Fits [some (v1), some (Value.func (.func 75) #[] #[]), some (undef), some (undef), some (Value.int .i64 0), none, some (v1), some (Value.int .i64 ((p0.length : Int))), some (Value.int .i64 x3), none, none, none, none, none, none, none, none, some (undef), none] l ∧ St Non w0 w g ([])) _ ⟨0, rfl, hI0, (by first | (simp only [List.set_cons_succ, List.set_cons_zero]; exact .s rfl (.s rfl (.s rfl (.s rfl (.s rfl (.n (.s rfl (.s rfl (.s rfl (.n (.n (.n (.n (.n (.n (.n (.n (.s rfl (.n (.z)))))))))))))))))))) | exact .s rfl (.s rfl (.s rfl (.s rfl (.s rfl (.n (.s rfl (.s rfl (.s rfl (.n (.n (.n (.n (.n (.n (.n (.n (.s rfl (.n (.z)))))))))))))))))))), hst⟩ ?_
  rintro _ _ w ⟨x3, rfl, hI1, hfit, hst⟩
  have hp := hI _ hI1
  obtain ⟨j2, rfl⟩ := hfit.ex
  refine E.norm (l' := [v1, Value.func (.func 75) #[] #[], undef, undef, Value.int .i64 0, (j2 5), v1, Value.int .i64 ((p0.length : Int)), Value.int .i64 x3, (j2 9), (j2 10), (j2 11), (j2 12), (j2 13), (j2 14), (j2 15), (j2 16), undef, (j2 18)]) rfl ?_
  refine E.seq (fun K4 hK4 => ?_)
  refine rg ?_
  refine TL.lss rfl rfl rfl ?_
  refine TL.nil ?_
  refine hK4 _ _ ?_
  refine E.norm (by simp only [List.set_cons_succ, List.set_cons_zero]; rfl) ?_
  refine E.seq (fun K5 hK5 => ?_)
  refine E.cond rfl (fun hc6 => ?_) (fun hc6 => ?_)
  · replace hp := hp.1 (of_decide_eq_true hc6)
    refine wp_skip ?_
    refine hK5 _ _ ?_
    refine E.seq (fun K6 hK6 => ?_)
    refine wp_block ?_
    refine E.seq (fun K7 hK7 => ?_)
    refine rg ?_
    refine TL.move (Value.int .i64 x3) rfl rfl ?_
    refine TL.assign (Value.int .i64 x3) rfl rfl ?_
    refine TL.nil ?_
    refine hK7 _ _ ?_
    refine E.norm (by simp only [List.set_cons_succ, List.set_cons_zero]; rfl) ?_
    refine E.seq (fun K8 hK8 => ?_)
    refine rg ?_
    refine TL.move (Value.func (.func 75) #[] #[]) rfl rfl ?_
    refine TL.move (v1) rfl rfl ?_
    refine TL.move (Value.int .i64 x3) rfl rfl ?_
    refine TL.norm (by simp only [List.set_cons_succ, List.set_cons_zero]; rfl) ?_
    obtain ⟨ho7, ho8, hp⟩ := hp
    refine TL.indexL (hv1) sl22 rfl rfl ho7 ho8 rfl ?_
    rintro b9 o10 _ ⟨v14, v15, rfl, hv14, hv15⟩ hq13
    refine TL.ldG b9 (o10 + (0)) (iaC .u8 ((nth p0 x3).fAddress) ++ ([Value.int .u64 ((nth p0 x3).fNonce)] ++ (iaC .u64 ((nth p0 x3).fBalance) ++ ([v14] ++ ([v15]))))) (fun _ h => h ▸ hst) (hq13.sub (Seg.all _)) (ta34.of (by simp)) rfl rfl ?_
    refine TL.callV #[Value.agg (iaC .u8 ((nth p0 x3).fAddress) ++ ([Value.int .u64 ((nth p0 x3).fNonce)] ++ (iaC .u64 ((nth p0 x3).fBalance) ++ ([v14] ++ ([v15]))))).toArray] rfl co75 rfl (w_store_Store_Commit_1 (nth p0 x3) v14 v15 g _ hst.has (hv14) (hv15) _ hp) rfl ?_
    rintro _ w ⟨hk, r16, hp, rfl⟩
    replace hst := hst.call hk
    refine ⟨trivial, ?_⟩
    refine TL.norm (by simp only [List.set_cons_succ, List.set_cons_zero]; rfl) ?_
    refine TL.nil ?_
    refine hK8 _ _ ?_
    refine E.cond rfl (fun hc17 => ?_) (fun hc17 => ?_)
    · replace hp := hp.1 (hc17)
      refine E.seq (fun K9 hK9 => ?_)
      refine rg ?_
      refine TL.move (Value.int .i64 x3) rfl rfl ?_
      refine TL.assign (Value.int .i64 x3) rfl rfl ?_
      refine TL.nil ?_
      refine hK9 _ _ ?_
      refine E.norm (by simp only [List.set_cons_succ, List.set_cons_zero]; rfl) ?_
      refine wp_ret ?_
      refine E.ret _ (Rs.t (Value.int .i64 x3) rfl rfl) ?_
      exact ⟨hst.keep, x3, hp, rfl⟩
    · replace hp := hp.2 (hc17)
      refine wp_skip ?_
      refine hK6 _ _ ?_
      refine rg ?_
      obtain ⟨ho18, hp⟩ := hp
      refine TL.add (x3 + 1) rfl rfl ⟨rfl, ho18⟩ rfl ?_
      refine TL.move (Value.int .i64 (x3 + 1)) rfl rfl ?_
      refine TL.nil ?_
      exact ⟨_, _, hp.2, rfl, (x3 + 1), rfl, hp.1, (by first | (simp only [List.set_cons_succ, List.set_cons_zero]; exact .s rfl (.s rfl (.s rfl (.s rfl (.s rfl (.n (.s rfl (.s rfl (.s rfl (.n (.n (.n (.n (.n (.n (.n (.n (.s rfl (.n (.z)))))))))))))))))))) | exact .s rfl (.s rfl (.s rfl (.s rfl (.s rfl (.n (.s rfl (.s rfl (.s rfl (.n (.n (.n (.n (.n (.n (.n (.n (.s rfl (.n (.z)))))))))))))))))))), hst⟩
  · replace hp := hp.2 (of_decide_eq_false hc6)
    refine wp_exit ?_
    refine hK2 _ _ ?_
    refine E.seq (fun K10 hK10 => ?_)
    refine rg ?_
    refine TL.assign (Value.int .i64 ((-1))) rfl rfl ?_
    refine TL.nil ?_
    refine hK10 _ _ ?_
    refine E.norm (by simp only [List.set_cons_succ, List.set_cons_zero]; rfl) ?_
    refine wp_ret ?_
    refine E.ret _ (Rs.t (Value.int .i64 ((-1))) rfl rfl) ?_
    exact ⟨hst.keep, (-1), hp, rfl⟩

def slices_ContainsFunc_l_api_Account_api_Account_store_Store_Commit_1 (p0 : List T_api_Account) (Q : Bool → Prop) : Prop :=
  slices_IndexFunc_l_api_Account_api_Account_store_Store_Commit_1 p0 (fun r2 => Q (decide (0 ≤ r2)))
theorem w_slices_ContainsFunc_l_api_Account_api_Account_store_Store_Commit_1 (p0 : List T_api_Account) (v1 : Value) (g : Gh) (w0 : World) (hg : Has w0 g) (hv1 : Sl rT_api_Account g p0 v1) (Q : Bool → Prop) (hp : slices_ContainsFunc_l_api_Account_api_Account_store_Store_Commit_1 p0 Q) : Calls Try.prog 74 #[v1, Value.func (.func 75) #[] #[]] w0 (Ret fun u w => Keep Non w0 w ∧ ∃ (r1 : Bool), Q r1 ∧ u = Value.bool r1) := by
  unfold slices_ContainsFunc_l_api_Account_api_Account_store_Store_Commit_1 at hp
  go_enter Try.func74, Try.ntmps74
  change Code.wp _ _ _ (F [v1, Value.func (.func 75) #[] #[], undef, undef, undef, undef, undef, undef, undef]) _
  have hst := St.start Non hg
  have hgn0 : GN Non w0 g g := GN.refl _ _ _
  have hle0 : g.le g := Gh.le_refl _
  refine E.seq (fun K1 hK1 => ?_)
  refine rg ?_
  refine TL.assign (Value.bool false) rfl rfl ?_
  refine TL.nil ?_
  refine hK1 _ _ ?_
  refine E.norm (by simp only [List.set_cons_succ, List.set_cons_zero]; rfl) ?_
  refine E.seq (fun K2 hK2 => ?_)
  refine rg ?_
  refine TL.move (v1) rfl rfl ?_
  refine TL.move (Value.func (.func 75) #[] #[]) rfl rfl ?_
  refine TL.callS #[v1, Value.func (.func 75) #[] #[]] co110 rfl (w_slices_IndexFunc_l_api_Account_api_Account_store_Store_Commit_1 p0 v1 g _ hst.has (hv1) _ hp) rfl ?_
  rintro _ w ⟨hk, r2, hp, rfl⟩
  replace hst := hst.call hk
  refine ⟨trivial, ?_⟩
  refine TL.norm (by simp only [List.set_cons_succ, List.set_cons_zero]; rfl) ?_
  refine TL.geq rfl rfl rfl ?_
  refine TL.assign (Value.bool (decide (0 ≤ r2))) rfl rfl ?_
  refine TL.nil ?_
  refine hK2 _ _ ?_
  refine E.norm (by simp only [List.set_cons_succ, List.set_cons_zero]; rfl) ?_
  refine wp_ret ?_
  refine E.ret _ (Rs.t (Value.bool (decide (0 ≤ r2))) rfl rfl) ?_
  exact ⟨hst.keep, decide (0 ≤ r2), hp, rfl⟩

def store_Store_Commit (p0_fl : List T_store_node) (p1 : Int) (p2 : List T_api_Account) (Q : Int → Int → (List T_store_node) → Prop) : Prop :=
  store_Store_has p0_fl p1 (fun r3 x4_fl => ((r3 = false) → (Q 0 12 x4_fl)) ∧ ((r3 = true) → (slices_ContainsFunc_l_api_Account_api_Account_store_Store_Commit_1 p2 (fun r6 => ((r6 = true) → (Q 0 1 x4_fl)) ∧ ((r6 = false) → ((((x4_fl.length : Int) = 1048576) → (Q 0 11 x4_fl)) ∧ ((¬ ((x4_fl.length : Int) = 1048576)) → (∃ (I17 : Int → (List (Ar 20 × T_api_Account)) → Prop) (m18 : Int → (List (Ar 20 × T_api_Account)) → Nat), (I17 0 ([])) ∧ ∀ (x13 : Int) (m14 : List (Ar 20 × T_api_Account)), (I17 x13 m14 → (((x13 < (p2.length : Int)) → ((0 ≤ x13) ∧ (x13 < (p2.length : Int)) ∧ (store_own (nth p2 x13) (fun r30 => (inR .i64 (x13 + 1)) ∧ (I17 (x13 + 1) (Mp.pset m14 ((nth p2 x13).fAddress) r30) ∧ m18 (x13 + 1) (Mp.pset m14 ((nth p2 x13).fAddress) r30) < m18 x13 m14))))) ∧ ((¬ (x13 < (p2.length : Int))) → (((x4_fl.length + ([(T_store_node.mk p1 m14)] : List T_store_node).length) * 16 ≤ 140737488355328) ∧ ((inR .i64 ((((x4_fl ++ ([(T_store_node.mk p1 m14)])).length : Int)) - 1)) ∧ (Q ((((x4_fl ++ ([(T_store_node.mk p1 m14)])).length : Int)) - 1) 0 (x4_fl ++ ([(T_store_node.mk p1 m14)]))))))))))))))))
theorem w_store_Store_Commit (p0_fl : List T_store_node) (p1 : Int) (p2 : List T_api_Account) (pb0 : Nat) (p0v_fl : Value) (p0o_fl : List (Nat × Obj)) (v1 : Value) (g : Gh) (w0 : World) (hst0 : St (Mof ([(pb0, .cells ([p0v_fl]).toArray 142 (0, 0))] ++ (p0o_fl))) w0 w0 g ([(pb0, .cells ([p0v_fl]).toArray 142 (0, 0))] ++ (p0o_fl))) (hp0v_fl : OwnS rT_store_node 139 g p0_fl p0v_fl p0o_fl) (hv1 : Sl rT_api_Account g p2 v1) (Q : Int → Int → (List T_store_node) → Prop) (hp : store_Store_Commit p0_fl p1 p2 Q) : Calls Try.prog 24 #[Value.pointer (some ⟨pb0, 0, none⟩), Value.int .i64 p1, v1] w0 (Ret fun u w => ∃ g', g.le g' ∧ GN (Mof ([(pb0, .cells ([p0v_fl]).toArray 142 (0, 0))] ++ (p0o_fl))) w0 g g' ∧ ∃ (r1 : Int) (r2 : Int) (z0_fl : List T_store_node), Q r1 r2 z0_fl ∧ ∃ (z0v_fl : Value) (z0o_fl : List (Nat × Obj)), u = Value.tuple #[Value.int .i64 r1, Value.int .i64 r2] ∧ OwnS rT_store_node 139 g' z0_fl z0v_fl z0o_fl ∧ St (Mof ([(pb0, .cells ([p0v_fl]).toArray 142 (0, 0))] ++ (p0o_fl))) w0 w g' ([(pb0, .cells ([z0v_fl]).toArray 142 (0, 0))] ++ (z0o_fl))) := by
  unfold store_Store_Commit at hp
  go_enter Try.func24, Try.ntmps24
  change Code.wp _ _ _ (F [Value.pointer (some ⟨pb0, 0, none⟩), Value.int .i64 p1, v1, undef, undef, undef, undef, undef, undef, undef, undef, undef, undef, undef, undef, undef, undef, undef, undef, undef, undef, undef, undef, undef, undef, undef, undef, undef, undef, undef, undef, undef, undef, undef, undef, undef, undef, undef, undef, undef, undef, undef, undef, undef, undef, undef, undef, undef, undef, undef, undef, undef, undef, undef, undef, undef, undef, undef, undef, undef, undef]) _
  have hst := hst0
  have hgn0 : GN (Mof ([(pb0, .cells ([p0v_fl]).toArray 142 (0, 0))] ++ (p0o_fl))) w0 g g := GN.refl _ _ _
  have hle0 : g.le g := Gh.le_refl _
  refine E.seq (fun K1 hK1 => ?_)
  refine rg ?_
  refine TL.assign (Value.int .i64 0) rfl rfl ?_
  refine TL.assign (Value.int .i64 0) rfl rfl ?_
  refine TL.nil ?_
  refine hK1 _ _ ?_
  refine E.norm (by simp only [List.set_cons_succ, List.set_cons_zero]; rfl) ?_
  refine E.seq (fun K2 hK2 => ?_)
  refine wp_block ?_
  refine E.seq (fun K3 hK3 => ?_)
  refine rg ?_
  refine TL.move (Value.pointer (some ⟨pb0, 0, none⟩)) rfl rfl ?_
  refine TL.ptrNil false Try.underlying44 rfl rfl (.inl ⟨rfl, rfl⟩) rfl ?_
  refine TL.assign (Value.bool false) rfl rfl ?_
  refine TL.norm (by simp only [List.set_cons_succ, List.set_cons_zero]; rfl) ?_
  refine TL.nil ?_
  refine hK3 _ _ ?_
  refine E.condF rfl ?_
  refine E.seq (fun K4 hK4 => ?_)
  refine rg ?_
  refine TL.move (Value.pointer (some ⟨pb0, 0, none⟩)) rfl rfl ?_
  refine TL.move (Value.int .i64 p1) rfl rfl ?_
  have pm2 : ([(pb0, .cells ([p0v_fl]).toArray 142 (0, 0))] ++ (p0o_fl) : List (Nat × Obj)).Perm (([]) ++ ([(pb0, .cells ([p0v_fl]).toArray 142 (0, 0))] ++ (p0o_fl))) := (permC fun _ => by simp only [List.count_append, List.count_cons, List.count_nil, Nat.zero_add, Nat.add_zero] <;> ac_rfl)
  refine TL.callS #[Value.pointer (some ⟨pb0, 0, none⟩), Value.int .i64 p1] co73 rfl (w_store_Store_has p0_fl p1 pb0 p0v_fl p0o_fl g _ (hst.enterO pm2) hp0v_fl _ hp) rfl ?_
  rintro _ w ⟨r3, x4_fl, hp, x4v_fl, x4o_fl, rfl, hx4v_fl, hst2⟩
  replace hst := hst.leaveO pm2 hst2 (GN.refl _ _ _)
  replace hst : St (Mof ([(pb0, .cells ([p0v_fl]).toArray 142 (0, 0))] ++ (p0o_fl))) _ _ _ ([(pb0, .cells ([x4v_fl]).toArray 142 (0, 0))] ++ (x4o_fl)) := hst.perm (permC fun _ => by simp only [List.count_append, List.count_cons, List.count_nil, Nat.zero_add, Nat.add_zero] <;> ac_rfl)
  refine ⟨trivial, ?_⟩
  refine TL.norm (by simp only [List.set_cons_succ, List.set_cons_zero]; rfl) ?_
  refine TL.notB rfl rfl ?_
  refine TL.assign (Value.bool (!r3)) rfl rfl ?_
  refine TL.nil ?_
  refine hK4 _ _ ?_
  refine E.norm (by simp only [List.set_cons_succ, List.set_cons_zero]; rfl) ?_
  refine E.cond rfl (fun hc5 => ?_) (fun hc5 => ?_)
  · replace hp := hp.1 ((notT hc5))
    refine E.seq (fun K5 hK5 => ?_)
    refine rg ?_
    refine TL.assign (Value.int .i64 0) rfl rfl ?_
    refine TL.assign (Value.int .i64 12) rfl rfl ?_
    refine TL.nil ?_
    refine hK5 _ _ ?_
    refine E.norm (by simp only [List.set_cons_succ, List.set_cons_zero]; rfl) ?_
    refine wp_ret ?_
    refine E.ret _ (Rs.tt (Value.int .i64 0) (Value.int .i64 12) rfl rfl rfl) ?_
    exact ⟨g, hle0, hgn0, 0, 12, x4_fl, hp, _, _, rfl, hx4v_fl, hst.sub (.cons_cons _ (List.Sublist.refl _))⟩
  · replace hp := hp.2 ((notF hc5))
    refine E.seq (fun K6 hK6 => ?_)
    refine rg ?_
    refine TL.move (v1) rfl rfl ?_
    refine TL.callS #[v1, Value.func (.func 75) #[] #[]] co74 rfl (w_slices_ContainsFunc_l_api_Account_api_Account_store_Store_Commit_1 p2 v1 g _ hst.has (hv1) _ hp) rfl ?_
    rintro _ w ⟨hk, r6, hp, rfl⟩
    replace hst := hst.call hk
    refine ⟨trivial, ?_⟩
    refine TL.assign (Value.bool r6) rfl rfl ?_
    refine TL.norm (by simp only [List.set_cons_succ, List.set_cons_zero]; rfl) ?_
    refine TL.nil ?_
    refine hK6 _ _ ?_
    refine E.cond rfl (fun hc7 => ?_) (fun hc7 => ?_)
    · replace hp := hp.1 (hc7)
      refine E.seq (fun K7 hK7 => ?_)
      refine rg ?_
      refine TL.assign (Value.int .i64 0) rfl rfl ?_
      refine TL.assign (Value.int .i64 1) rfl rfl ?_
      refine TL.nil ?_
      refine hK7 _ _ ?_
      refine E.norm (by simp only [List.set_cons_succ, List.set_cons_zero]; rfl) ?_
      refine wp_ret ?_
      refine E.ret _ (Rs.tt (Value.int .i64 0) (Value.int .i64 1) rfl rfl rfl) ?_
      exact ⟨g, hle0, hgn0, 0, 1, x4_fl, hp, _, _, rfl, hx4v_fl, hst.sub (.cons_cons _ (List.Sublist.refl _))⟩
    · replace hp := hp.2 (hc7)
      refine E.seq (fun K8 hK8 => ?_)
      refine rg ?_
      refine TL.move (Value.pointer (some ⟨pb0, 0, none⟩)) rfl rfl ?_
      refine TL.nilCheck rfl rfl ?_
      refine TL.fieldA (0) fa142_0 rfl (by first | rfl | omega) rfl ?_
      refine TL.norm (by simp only [List.set_cons_succ, List.set_cons_zero]; rfl) ?_
      refine TL.ldL1 0 pb0 (0) (x4v_fl) (fun _ h => h ▸ hst) rfl (Seg.all _) ts140 rfl rfl ?_
      refine TL.lenO (hx4v_fl) Try.underlying140 rfl rfl ?_
      refine TL.eqlD rfl rfl rfl ?_
      refine TL.norm (by simp only [List.set_cons_succ, List.set_cons_zero]; rfl) ?_
      refine TL.assign (Value.bool (decide ((x4_fl.length : Int) = 1048576))) rfl rfl ?_
      refine TL.nil ?_
      refine hK8 _ _ ?_
      refine E.norm (by simp only [List.set_cons_succ, List.set_cons_zero]; rfl) ?_
      refine E.cond rfl (fun hc8 => ?_) (fun hc8 => ?_)
      · replace hp := hp.1 (of_decide_eq_true hc8)
        refine E.seq (fun K9 hK9 => ?_)
        refine rg ?_
        refine TL.assign (Value.int .i64 0) rfl rfl ?_
        refine TL.assign (Value.int .i64 11) rfl rfl ?_
        refine TL.nil ?_
        refine hK9 _ _ ?_
        refine E.norm (by simp only [List.set_cons_succ, List.set_cons_zero]; rfl) ?_
        refine wp_ret ?_
        refine E.ret _ (Rs.tt (Value.int .i64 0) (Value.int .i64 11) rfl rfl rfl) ?_
        exact ⟨g, hle0, hgn0, 0, 11, x4_fl, hp, _, _, rfl, hx4v_fl, hst.sub (.cons_cons _ (List.Sublist.refl _))⟩
      · replace hp := hp.2 (of_decide_eq_false hc8)
        refine wp_skip ?_
        refine hK2 _ _ ?_
        refine E.seq (fun K10 hK10 => ?_)
        refine rg ?_
        refine TL.move (Value.int .i64 p1) rfl rfl ?_
        refine Mp.TL.pmake rT_api_Account true (Mp.kvA .u8 20) hst rfl ?_
        intro w n9 q10 hmq10 hst
        refine ⟨trivial, ?_⟩
        refine TL.buildS (ps := [(0, Value.int .i64 p1), (1, Value.map (some n9))]) bs139 zv139 rfl (Fl.cons (vs := [Value.int .i64 p1]) (by simp) rfl (Put.here (by simp)) (Fl.cons (vs := [Value.map (some n9)]) (by simp) rfl (Put.skip (m := 1) (by simp) (Put.all (by simp))) (Fl.nil _))) rfl ?_
        refine TL.norm (by simp only [List.set_cons_succ, List.set_cons_zero]; rfl) ?_
        refine TL.alloc hst zv139 rfl ?_
        intro w n11 hst
        refine ⟨trivial, ?_⟩
        refine TL.stA 0 n11 (0) _ (vs := [Value.int .i64 p1] ++ ([Value.map (some n9)])) hst rfl (Put.all (by simp)) (by first | rfl | omega) rfl (One.app (One.one rfl) (One.one rfl)) (tzof tz139 (by simp)) rfl rfl ?_
        intro w hst
        refine ⟨trivial, ?_⟩
        refine TL.nil ?_
        refine hK10 _ _ ?_
        refine E.norm (by simp only [List.set_cons_succ, List.set_cons_zero]; rfl) ?_
        refine E.seq (fun K11 hK11 => ?_)
        refine E.seq (fun K12 hK12 => ?_)
        refine rg ?_
        refine TL.move (v1) rfl rfl ?_
        refine TL.lenL (hv1) Try.underlying22 rfl rfl ?_
        refine TL.move (Value.int .i64 0) rfl rfl ?_
        refine TL.norm (by simp only [List.set_cons_succ, List.set_cons_zero]; rfl) ?_
        refine TL.nil ?_
        refine hK12 _ _ ?_
        refine wp_block ?_
        obtain ⟨I17, m18, hI0, hI⟩ := hp
        refine E.loop (fun mm l w => ∃ (x13 : Int) (m14 : List (Ar 20 × T_api_Account)) (g16 : Gh) (q15 : Obj), (mm = m18 x13 m14) ∧ (I17 x13 m14) ∧ (g.le g16) ∧ (g.le g16) ∧ (GN (Mof ([(pb0, .cells ([p0v_fl]).toArray 142 (0, 0))] ++ (p0o_fl))) w0 g g16) ∧ (Mp.MR rT_api_Account true (Mp.kvA .u8 20) g16 m14 q15) ∧ Fits [some (Value.pointer (some ⟨pb0, 0, none⟩)), some (Value.int .i64 p1), some (v1), some (undef), some (undef), some (undef), some (Value.int .i64 0), some (Value.int .i64 0), some (Value.pointer (some ⟨n11, 0, none⟩)), some (undef), none, some (Value.bool false), some (Value.pointer (some ⟨pb0, 0, none⟩)), some (Value.bool false), some (Value.bool (!r3)), some (Value.pointer (some ⟨pb0, 0, none⟩)), some (Value.int .i64 p1), some (Value.bool r3), some (Value.bool (!r3)), some (Value.bool r6), some (v1), some (Value.bool r6), some (Value.bool (decide ((x4_fl.length : Int) = 1048576))), some (Value.pointer (some ⟨pb0, 0, none⟩)), some (Value.pointer (some ⟨pb0, 0, none⟩)), some (Value.pointer (some ⟨pb0, 0, none⟩)), some (x4v_fl), some (Value.int .i64 ((x4_fl.length : Int))), some (Value.bool (decide ((x4_fl.length : Int) = 1048576))), some (Value.int .i64 p1), some (Value.map (some n9)), some (Value.agg ([Value.int .i64 p1] ++ ([Value.map (some n9)])).toArray), some (v1), some (Value.int .i64 ((p2.length : Int))), some (Value.int .i64 x13), none, none, none, none, none, none, none, none, none, none, some (undef), some (undef), some (undef), some (undef), some (undef), some (undef), some (undef), some (undef), some (undef), some (undef), some (undef), some (undef), some (undef), some (undef), some (undef), some (undef)] l ∧ St (Mof ([(pb0, .cells ([p0v_fl]).toArray 142 (0, 0))] ++ (p0o_fl))) w0 w g16 ([(n11, .cells ([Value.int .i64 p1] ++ ([Value.map (some n9)])).toArray 139 (0, 0)), (n9, q15), (pb0, .cells ([x4v_fl]).toArray 142 (0, 0))] ++ (x4o_fl))) _ ⟨0, ([]), g, _, rfl, hI0, Gh.le_refl _, hle0, hgn0, hmq10, (by first | (simp only [List.set_cons_succ, List.set_cons_zero]; exact .s rfl (.s rfl (.s rfl (.s rfl (.s rfl (.s rfl (.s rfl (.s rfl (.s rfl (.s rfl (.n (.s rfl (.s rfl (.s rfl (.s rfl (.s rfl (.s rfl (.s rfl (.s rfl (.s rfl (.s rfl (.s rfl (.s rfl (.s rfl (.s rfl (.s rfl (.s rfl (.s rfl (.s rfl (.s rfl (.s rfl (.s rfl (.s rfl (.s rfl (.s rfl (.n (.n (.n (.n (.n (.n (.n (.n (.n (.n (.s rfl (.s rfl (.s rfl (.s rfl (.s rfl (.s rfl (.s rfl (.s rfl (.s rfl (.s rfl (.s rfl (.s rfl (.s rfl (.s rfl (.s rfl (.s rfl (.z)))))))))))))))))))))))))))))))))))))))))))))))))))))))))))))) | exact .s rfl (.s rfl (.s rfl (.s rfl (.s rfl (.s rfl (.s rfl (.s rfl (.s rfl (.s rfl (.n (.s rfl (.s rfl (.s rfl (.s rfl (.s rfl (.s rfl (.s rfl (.s rfl (.s rfl (.s rfl (.s rfl (.s rfl (.s rfl (.s rfl (.s rfl (.s rfl (.s rfl (.s rfl (.s rfl (.s rfl (.s rfl (.s rfl (.s rfl (.s rfl (.n (.n (.n (.n (.n (.n (.n (.n (.n (.n (.s rfl (.s rfl (.s rfl (.s rfl (.s rfl (.s rfl (.s rfl (.s rfl (.s rfl (.s rfl (.s rfl (.s rfl (.s rfl (.s rfl (.s rfl (.s rfl (.z)))))))))))))))))))))))))))))))))))))))))))))))))))))))))))))), hst⟩ ?_
        rintro _ _ w ⟨x13, m14, g16, q15, rfl, hI1, hleg16, hle0, hgn0, hmq15, hfit, hst⟩
        have hp := hI _ _ hI1
        obtain ⟨j12, rfl⟩ := hfit.ex
        refine E.norm (l' := [Value.pointer (some ⟨pb0, 0, none⟩), Value.int .i64 p1, v1, undef, undef, undef, Value.int .i64 0, Value.int .i64 0, Value.pointer (some ⟨n11, 0, none⟩), undef, (j12 10), Value.bool false, Value.pointer (some ⟨pb0, 0, none⟩), Value.bool false, Value.bool (!r3), Value.pointer (some ⟨pb0, 0, none⟩), Value.int .i64 p1, Value.bool r3, Value.bool (!r3), Value.bool r6, v1, Value.bool r6, Value.bool (decide ((x4_fl.length : Int) = 1048576)), Value.pointer (some ⟨pb0, 0, none⟩), Value.pointer (some ⟨pb0, 0, none⟩), Value.pointer (some ⟨pb0, 0, none⟩), x4v_fl, Value.int .i64 ((x4_fl.length : Int)), Value.bool (decide ((x4_fl.length : Int) = 1048576)), Value.int .i64 p1, Value.map (some n9), Value.agg ([Value.int .i64 p1] ++ ([Value.map (some n9)])).toArray, v1, Value.int .i64 ((p2.length : Int)), Value.int .i64 x13, (j12 35), (j12 36), (j12 37), (j12 38), (j12 39), (j12 40), (j12 41), (j12 42), (j12 43), (j12 44), undef, undef, undef, undef, undef, undef, undef, undef, undef, undef, undef, undef, undef, undef, undef, undef]) rfl ?_
        refine E.seq (fun K13 hK13 => ?_)
        refine rg ?_
        refine TL.lss rfl rfl rfl ?_
        refine TL.nil ?_
        refine hK13 _ _ ?_
        refine E.norm (by simp only [List.set_cons_succ, List.set_cons_zero]; rfl) ?_
        refine E.seq (fun K14 hK14 => ?_)
        refine E.cond rfl (fun hc19 => ?_) (fun hc19 => ?_)
        · replace hp := hp.1 (of_decide_eq_true hc19)
          refine wp_skip ?_
          refine hK14 _ _ ?_
          refine E.seq (fun K15 hK15 => ?_)
          refine wp_block ?_
          refine E.seq (fun K16 hK16 => ?_)
          refine rg ?_
          obtain ⟨ho20, ho21, hp⟩ := hp
          refine TL.indexL ((hv1.mono (hleg16))) sl22 rfl rfl ho20 ho21 rfl ?_
          rintro b22 o23 _ ⟨v27, v28, rfl, hv27, hv28⟩ hq26
          refine TL.ldG b22 (o23 + (0)) (iaC .u8 ((nth p2 x13).fAddress) ++ ([Value.int .u64 ((nth p2 x13).fNonce)] ++ (iaC .u64 ((nth p2 x13).fBalance) ++ ([v27] ++ ([v28]))))) (fun _ h => h ▸ hst) (hq26.sub (Seg.all _)) (ta34.of (by simp)) rfl rfl ?_
          refine TL.alloc hst zv34 rfl ?_
          intro w n29 hst
          refine ⟨trivial, ?_⟩
          refine TL.norm (by simp only [List.set_cons_succ, List.set_cons_zero]; rfl) ?_
          refine TL.stA 0 n29 (0) _ (vs := iaC .u8 ((nth p2 x13).fAddress) ++ ([Value.int .u64 ((nth p2 x13).fNonce)] ++ (iaC .u64 ((nth p2 x13).fBalance) ++ ([v27] ++ ([v28]))))) hst rfl (Put.all (by simp)) (by first | rfl | omega) rfl (One.app (One.ia _ _) (One.app (One.one rfl) (One.app (One.ia _ _) (One.app (One.one (hv27).one) (One.one (hv28).one))))) (tzof tz34 (by simp)) rfl rfl ?_
          intro w hst
          refine ⟨trivial, ?_⟩
          refine TL.nil ?_
          refine hK16 _ _ ?_
          refine rgL' [42] (fun w' => St (Mof ([(pb0, .cells ([p0v_fl]).toArray 142 (0, 0))] ++ (p0o_fl))) w0 w' g16 ([(n29, .cells (iaC .u8 ((nth p2 x13).fAddress) ++ ([Value.int .u64 ((nth p2 x13).fNonce)] ++ (iaC .u64 ((nth p2 x13).fBalance) ++ ([v27] ++ ([v28]))))).toArray 34 (0, 0)), (n11, .cells ([Value.int .i64 p1] ++ ([Value.map (some n9)])).toArray 139 (0, 0)), (n9, q15), (pb0, .cells ([x4v_fl]).toArray 142 (0, 0))] ++ (x4o_fl))) mixed #[0, 1, 0, 4, 0, 16, 63] (by simp) (by kernel_rfl) hst.drew ?_
          replace hst := hst.drew
          refine TL.fieldA (1) fa139_1 rfl (by first | rfl | omega) rfl ?_
          refine TL.ldL1 1 n11 (1 + (0)) (Value.map (some n9)) (fun _ h => h) rfl (Seg.skip (m := 1) (by simp) (Seg.all _)) ts133 rfl rfl ?_
          refine TL.fieldA (0) fa34_0 rfl (by first | rfl | omega) rfl ?_
          refine TL.norm (by simp only [List.set_cons_succ, List.set_cons_zero]; rfl) ?_
          refine TL.ldL 0 n29 (0) (iaC .u8 ((nth p2 x13).fAddress)) (fun _ h => h) rfl (Seg.here _ _) (ta28.of (by simp)) rfl rfl ?_
          refine TL.ldL 0 n29 (0) (iaC .u8 ((nth p2 x13).fAddress) ++ ([Value.int .u64 ((nth p2 x13).fNonce)] ++ (iaC .u64 ((nth p2 x13).fBalance) ++ ([v27] ++ ([v28]))))) (fun _ h => h ▸ hst) rfl (Seg.all _) (ta34.of (by simp)) rfl rfl ?_
          refine TL.callS #[Value.agg (iaC .u8 ((nth p2 x13).fAddress) ++ ([Value.int .u64 ((nth p2 x13).fNonce)] ++ (iaC .u64 ((nth p2 x13).fBalance) ++ ([v27] ++ ([v28]))))).toArray] co76 rfl (w_store_own (nth p2 x13) v27 v28 g16 _ hst.has (hv27) (hv28) _ hp) rfl ?_
          rintro _ w ⟨g33, hgrg33, r30, hp, v31, v32, rfl, hv31, hv32⟩
          have hleg33 := hgrg33.le
          replace hgn0 := hgn0.call hgrg33.new hst.keep.size
          replace hle0 := Gh.le_trans hle0 hleg33
          replace hst := hst.callG hgrg33.keep hgrg33.has hgrg33.new
          refine ⟨(hst.down (hleg33)), ?_⟩
          refine TL.norm (by simp only [List.set_cons_succ, List.set_cons_zero]; rfl) ?_
          refine TL.nil ?_
          refine Mp.TL.pset (a := (nth p2 x13).fAddress) (Value.agg (iaC .u8 r30.fAddress ++ ([Value.int .u64 r30.fNonce] ++ (iaC .u64 r30.fBalance ++ ([v31] ++ ([v32]))))).toArray) (r30 : T_api_Account) Try.underlying133 kt28 hst (i := 2) rfl ((hmq15.mono (hleg33))) (.agg (⟨v31, v32, rfl, hv31, hv32⟩)) rfl rfl rfl rfl ?_
          intro w q34 hmq34 hst
          refine ⟨trivial, ?_⟩
          refine TL.nil ?_
          refine hK15 _ _ ?_
          refine rg ?_
          obtain ⟨ho35, hp⟩ := hp
          refine TL.add (x13 + 1) rfl rfl ⟨rfl, ho35⟩ rfl ?_
          refine TL.move (Value.int .i64 (x13 + 1)) rfl rfl ?_
          refine TL.nil ?_
          exact ⟨_, _, hp.2, rfl, (x13 + 1), (Mp.pset m14 ((nth p2 x13).fAddress) r30), g33, _, rfl, hp.1, Gh.le_trans (hleg16) hleg33, hle0, hgn0, hmq34, (by first | (simp only [List.set_cons_succ, List.set_cons_zero]; exact .s rfl (.s rfl (.s rfl (.s rfl (.s rfl (.s rfl (.s rfl (.s rfl (.s rfl (.s rfl (.n (.s rfl (.s rfl (.s rfl (.s rfl (.s rfl (.s rfl (.s rfl (.s rfl (.s rfl (.s rfl (.s rfl (.s rfl (.s rfl (.s rfl (.s rfl (.s rfl (.s rfl (.s rfl (.s rfl (.s rfl (.s rfl (.s rfl (.s rfl (.s rfl (.n (.n (.n (.n (.n (.n (.n (.n (.n (.n (.s rfl (.s rfl (.s rfl (.s rfl (.s rfl (.s rfl (.s rfl (.s rfl (.s rfl (.s rfl (.s rfl (.s rfl (.s rfl (.s rfl (.s rfl (.s rfl (.z)))))))))))))))))))))))))))))))))))))))))))))))))))))))))))))) | exact .s rfl (.s rfl (.s rfl (.s rfl (.s rfl (.s rfl (.s rfl (.s rfl (.s rfl (.s rfl (.n (.s rfl (.s rfl (.s rfl (.s rfl (.s rfl (.s rfl (.s rfl (.s rfl (.s rfl (.s rfl (.s rfl (.s rfl (.s rfl (.s rfl (.s rfl (.s rfl (.s rfl (.s rfl (.s rfl (.s rfl (.s rfl (.s rfl (.s rfl (.s rfl (.n (.n (.n (.n (.n (.n (.n (.n (.n (.n (.s rfl (.s rfl (.s rfl (.s rfl (.s rfl (.s rfl (.s rfl (.s rfl (.s rfl (.s rfl (.s rfl (.s rfl (.s rfl (.s rfl (.s rfl (.s rfl (.z)))))))))))))))))))))))))))))))))))))))))))))))))))))))))))))), hst.sub (.cons _ (.cons_cons _ (.cons_cons _ (.cons_cons _ (List.Sublist.refl _)))))⟩
        · replace hp := hp.2 (of_decide_eq_false hc19)
          refine wp_exit ?_
          refine hK11 _ _ ?_
          refine E.seq (fun K17 hK17 => ?_)
          refine rgL' [50] (fun w' => St (Mof ([(pb0, .cells ([p0v_fl]).toArray 142 (0, 0))] ++ (p0o_fl))) w0 w' g16 ([(n11, .cells ([Value.int .i64 p1] ++ ([Value.map (some n9)])).toArray 139 (0, 0)), (pb0, .cells ([x4v_fl]).toArray 142 (0, 0))])) mixed #[0, 0, 2, 6, 14, 0, 32, 126, 255, 511, 1023] (by simp) (by kernel_rfl) (hst.drew.sub (.cons_cons _ (.cons _ (.cons_cons _ (List.nil_sublist _))))) ?_
          replace hst := hst.drew
          refine TL.move (Value.pointer (some ⟨pb0, 0, none⟩)) rfl rfl ?_
          refine TL.move (Value.pointer (some ⟨pb0, 0, none⟩)) rfl rfl ?_
          refine TL.nilCheck rfl rfl ?_
          refine TL.norm (by simp only [List.set_cons_succ, List.set_cons_zero]; rfl) ?_
          refine TL.fieldA (0) fa142_0 rfl (by first | rfl | omega) rfl ?_
          refine TL.ldL1 1 pb0 (0) (x4v_fl) (fun _ h => h) rfl (Seg.all _) ts140 rfl rfl ?_
          refine TL.ldL 0 n11 (0) ([Value.int .i64 p1] ++ ([Value.map (some n9)])) (fun _ h => h ▸ hst) rfl (Seg.all _) (ta139.of (by simp)) rfl rfl ?_
          refine TL.norm (by simp only [List.set_cons_succ, List.set_cons_zero]; rfl) ?_
          replace hst := hst.front (i := 1) rfl
          change St (Mof ([(pb0, .cells ([p0v_fl]).toArray 142 (0, 0))] ++ (p0o_fl))) _ _ _ ([(n9, q15), (n11, .cells ([Value.int .i64 p1] ++ ([Value.map (some n9)])).toArray 139 (0, 0)), (pb0, .cells ([x4v_fl]).toArray 142 (0, 0))] ++ (x4o_fl)) at hst
          obtain ⟨g36, hleg36, hst, hsv37, hgn0⟩ := hst.freezeM (hmq15) hgn0
          replace hle0 := Gh.le_trans hle0 hleg36
          refine TL.buildSl [(Value.agg ([Value.int .i64 p1] ++ ([Value.map (some n9)])).toArray)] [([Value.int .i64 p1] ++ ([Value.map (some n9)]))] hst sl140 zv139 rfl rfl (by simp) rfl (by decide) rfl ?_
          intro w n38 hst
          refine ⟨(hst.down (hleg36)).sub (.cons _ (.cons_cons _ (.cons_cons _ (List.nil_sublist _)))), ?_⟩
          obtain ⟨ho39, hp⟩ := hp
          refine TL.pushL (ls := [(n38, .cells ([([Value.int .i64 p1] ++ ([Value.map (some n9)]))].flatten).toArray 139 (0, 0)), (n11, .cells ([Value.int .i64 p1] ++ ([Value.map (some n9)])).toArray 139 (0, 0)), (pb0, .cells ([x4v_fl]).toArray 142 (0, 0))]) hst (List.Perm.refl _) ae140 ((hx4v_fl.mono (Gh.le_trans (hleg16) hleg36))) (SrcAt.box hst rfl fun r hr => ((Rws.cons (⟨(Value.map (some n9)), rfl, hsv37⟩) (Rws.nil) : Rws rT_store_node g36 ([(T_store_node.mk p1 m14)]) _).ok r hr).1) (Rws.cons (⟨(Value.map (some n9)), rfl, hsv37⟩) (Rws.nil) : Rws rT_store_node g36 ([(T_store_node.mk p1 m14)]) _) ho39 rfl rfl rfl ?_
          intro w v40 o41 hsv40 hst
          replace hst := hst.sub (.cons _ (.cons_cons _ (.cons_cons _ (List.Sublist.refl _))))
          change St (Mof ([(pb0, .cells ([p0v_fl]).toArray 142 (0, 0))] ++ (p0o_fl))) _ _ _ ([(n11, .cells ([Value.int .i64 p1] ++ ([Value.map (some n9)])).toArray 139 (0, 0)), (pb0, .cells ([x4v_fl]).toArray 142 (0, 0))] ++ (o41)) at hst
          refine ⟨(hst.down (hleg36)).sub (.cons_cons _ (.cons_cons _ (List.nil_sublist _))), ?_⟩
          refine TL.nilCheck rfl rfl ?_
          refine TL.norm (by simp only [List.set_cons_succ, List.set_cons_zero]; rfl) ?_
          refine TL.fieldA (0) fa142_0 rfl (by first | rfl | omega) rfl ?_
          refine TL.nil ?_
          refine TL.stA 1 pb0 (0) _ (vs := [v40]) hst rfl (Put.all (by simp)) (by first | rfl | omega) (by obtain ⟨_, _, hq⟩ := hsv40.shape; subst hq; rfl) (One.one (hsv40).one) (tzof tz140 (by simp)) rfl rfl ?_
          intro w hst
          refine ⟨trivial, ?_⟩
          refine TL.nil ?_
          refine hK17 _ _ ?_
          refine E.norm (by simp only [List.set_cons_succ, List.set_cons_zero]; rfl) ?_
          refine E.seq (fun K18 hK18 => ?_)
          refine rg ?_
          refine TL.move (Value.pointer (some ⟨pb0, 0, none⟩)) rfl rfl ?_
          refine TL.nilCheck rfl rfl ?_
          refine TL.fieldA (0) fa142_0 rfl (by first | rfl | omega) rfl ?_
          refine TL.norm (by simp only [List.set_cons_succ, List.set_cons_zero]; rfl) ?_
          refine TL.ldL1 1 pb0 (0) (v40) (fun _ h => h ▸ hst) rfl (Seg.all _) ts140 rfl rfl ?_
          refine TL.lenO (hsv40) Try.underlying140 rfl rfl ?_
          obtain ⟨ho42, hp⟩ := hp
          refine TL.sub ((((x4_fl ++ ([(T_store_node.mk p1 m14)])).length : Int)) - 1) rfl rfl ⟨rfl, ho42⟩ rfl ?_
          refine TL.norm (by simp only [List.set_cons_succ, List.set_cons_zero]; rfl) ?_
          refine TL.assign (Value.int .i64 ((((x4_fl ++ ([(T_store_node.mk p1 m14)])).length : Int)) - 1)) rfl rfl ?_
          refine TL.assign (Value.int .i64 0) rfl rfl ?_
          refine TL.nil ?_
          refine hK18 _ _ ?_
          refine E.norm (by simp only [List.set_cons_succ, List.set_cons_zero]; rfl) ?_
          refine wp_ret ?_
          refine E.ret _ (Rs.tt (Value.int .i64 ((((x4_fl ++ ([(T_store_node.mk p1 m14)])).length : Int)) - 1)) (Value.int .i64 0) rfl rfl rfl) ?_
          exact ⟨g36, hle0, hgn0, (((x4_fl ++ ([(T_store_node.mk p1 m14)])).length : Int)) - 1, 0, x4_fl ++ ([(T_store_node.mk p1 m14)]), hp, _, _, rfl, hsv40, hst.sub (.cons _ (.cons_cons _ (List.Sublist.refl _)))⟩
end Go.Proofs.Ytafmgghpcneoeaa
