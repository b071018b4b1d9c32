/- Walks, printed by wip/tools/lift.py: what each function comes to, and that it does. -/
import Derived.Test.YtafmgghpcneoeaaMp
import Derived.Test.YtafmgghpcneoeaaProg
import Derived.KernelRfl
import Derived.Test.YtafmgghpcneoeaaF1
import Derived.Test.YtafmgghpcneoeaaF3
import Derived.Test.YtafmgghpcneoeaaF2
namespace Go.Proofs.Ytafmgghpcneoeaa
open Go Go.RowKit
set_option maxRecDepth 100000
set_option maxHeartbeats 4000000

theorem tz44 : (Try.prog.info? 44).map (·.size) = some 1 := by kernel_rfl
theorem tz36 : (Try.prog.info? 36).map (·.size) = some 1 := by kernel_rfl
theorem bs148 : BS Try.prog 148 [(0, 1), (1, 1), (2, 1)] := ⟨_, Try.underlying148, fun w => by simp [Sem.run_bind, run_sizeOf' tz44, run_sizeOf' tz3, run_sizeOf' tz36]⟩
theorem zv148 : ZV Try.prog 148 ([Value.pointer none] ++ ([Value.int .i64 0] ++ ([Value.pointer none]))) := ⟨.agg ([Value.pointer none] ++ ([Value.int .i64 0] ++ ([Value.pointer none]))).toArray, by kernel_rfl, rfl⟩
theorem fa148_0 : FA Try.prog 148 0 0 := ⟨_, _, Try.underlying148, rfl, rfl, 0, by kernel_rfl⟩
theorem ts44 : TS Try.prog 44 := ⟨⟨_, Try.underlying44, rfl⟩, by kernel_rfl⟩
theorem fa148_1 : FA Try.prog 148 1 1 := ⟨_, _, Try.underlying148, rfl, rfl, 0, by kernel_rfl⟩
theorem co40 : CO Try.prog 40 := ⟨_, Try.func40, by kernel_rfl, by kernel_rfl⟩
theorem fa148_2 : FA Try.prog 148 2 2 := ⟨_, _, Try.underlying148, rfl, rfl, 0, by kernel_rfl⟩
theorem ts36 : TS Try.prog 36 := ⟨⟨_, Try.underlying36, rfl⟩, by kernel_rfl⟩
theorem co21 : CO Try.prog 21 := ⟨_, Try.func21, by kernel_rfl, by kernel_rfl⟩
theorem co13 : CO Try.prog 13 := ⟨_, Try.func13, by kernel_rfl, by kernel_rfl⟩
theorem co14 : CO Try.prog 14 := ⟨_, Try.func14, by kernel_rfl, by kernel_rfl⟩
theorem co23 : CO Try.prog 23 := ⟨_, Try.func23, by kernel_rfl, by kernel_rfl⟩
theorem co24 : CO Try.prog 24 := ⟨_, Try.func24, by kernel_rfl, by kernel_rfl⟩
theorem bs51 : BS Try.prog 51 [(0, 1), (1, 1)] := ⟨_, Try.underlying51, fun w => by simp [Sem.run_bind, run_sizeOf' tz22, run_sizeOf' tz49]⟩
theorem co20 : CO Try.prog 20 := ⟨_, Try.func20, by kernel_rfl, by kernel_rfl⟩
theorem co25 : CO Try.prog 25 := ⟨_, Try.func25, by kernel_rfl, by kernel_rfl⟩
theorem co26 : CO Try.prog 26 := ⟨_, Try.func26, by kernel_rfl, by kernel_rfl⟩
theorem co27 : CO Try.prog 27 := ⟨_, Try.func27, by kernel_rfl, by kernel_rfl⟩
theorem co22 : CO Try.prog 22 := ⟨_, Try.func22, by kernel_rfl, by kernel_rfl⟩

def fork_Over (p1 : Int) (Q : Prop) : Prop :=
  Q
theorem w_fork_Over (p1 : Int) (pb0 : Nat) (pb2 : Nat) (g : Gh) (w0 : World) (hg : Has w0 g) (Q : Prop) (hp : fork_Over p1 Q) : Calls Try.prog 27 #[Value.pointer (some ⟨pb0, 0, none⟩), Value.int .i64 p1, Value.pointer (some ⟨pb2, 0, none⟩)] w0 (Ret fun u w => Keep Non w0 w ∧ Q ∧ u = Value.iface 148 (Value.agg ([Value.pointer (some ⟨pb0, 0, none⟩)] ++ ([Value.int .i64 p1] ++ ([Value.pointer (some ⟨pb2, 0, none⟩)]))).toArray)) := by
  unfold fork_Over at hp
  go_enter Try.func27, Try.ntmps27
  change Code.wp _ _ _ (F [Value.pointer (some ⟨pb0, 0, none⟩), Value.int .i64 p1, Value.pointer (some ⟨pb2, 0, none⟩), undef, undef, undef, undef, undef, undef, undef, undef, undef]) _
  have hst := St.start Non hg
  have hgn0 : GN Non w0 g g := GN.refl _ _ _
  have hle0 : g.le g := Gh.le_refl _
  refine E.seq (fun K1 hK1 => ?_)
  refine rg ?_
  refine TL.assign (Value.nilIface) rfl rfl ?_
  refine TL.nil ?_
  refine hK1 _ _ ?_
  refine E.norm (by simp only [List.set_cons_succ, List.set_cons_zero]; rfl) ?_
  refine E.seq (fun K2 hK2 => ?_)
  refine rg ?_
  refine TL.move (Value.pointer (some ⟨pb0, 0, none⟩)) rfl rfl ?_
  refine TL.move (Value.int .i64 p1) rfl rfl ?_
  refine TL.move (Value.pointer (some ⟨pb2, 0, none⟩)) rfl rfl ?_
  refine TL.norm (by simp only [List.set_cons_succ, List.set_cons_zero]; rfl) ?_
  refine TL.buildS (ps := [(0, Value.pointer (some ⟨pb0, 0, none⟩)), (1, Value.int .i64 p1), (2, Value.pointer (some ⟨pb2, 0, none⟩))]) bs148 zv148 rfl (Fl.cons (vs := [Value.pointer (some ⟨pb0, 0, none⟩)]) (by simp) rfl (Put.here (by simp)) (Fl.cons (vs := [Value.int .i64 p1]) (by simp) rfl (Put.skip (m := 1) (by simp) (Put.here (by simp))) (Fl.cons (vs := [Value.pointer (some ⟨pb2, 0, none⟩)]) (by simp) rfl (Put.skip (m := 1) (by simp) (Put.skip (m := 1) (by simp) (Put.all (by simp)))) (Fl.nil _)))) rfl ?_
  refine TL.mkI (v := Value.agg ([Value.pointer (some ⟨pb0, 0, none⟩)] ++ ([Value.int .i64 p1] ++ ([Value.pointer (some ⟨pb2, 0, none⟩)]))).toArray) ⟨_, Try.underlying148, fun _ h => by cases h⟩ rfl rfl ?_
  refine TL.assign (Value.iface 148 (Value.agg ([Value.pointer (some ⟨pb0, 0, none⟩)] ++ ([Value.int .i64 p1] ++ ([Value.pointer (some ⟨pb2, 0, none⟩)]))).toArray)) rfl rfl ?_
  refine TL.norm (by simp only [List.set_cons_succ, List.set_cons_zero]; rfl) ?_
  refine TL.nil ?_
  refine hK2 _ _ ?_
  refine wp_ret ?_
  refine E.ret _ (Rs.t (Value.iface 148 (Value.agg ([Value.pointer (some ⟨pb0, 0, none⟩)] ++ ([Value.int .i64 p1] ++ ([Value.pointer (some ⟨pb2, 0, none⟩)]))).toArray)) rfl rfl) ?_
  exact ⟨hst.keep, hp, rfl⟩

def fork_over_Account (p0_fs_fl : List T_store_node) (p0_fv : Int) (p0_fc_fknown : List (Ar 20 × T_api_Account)) (p0_fc_ftries : List (Ar 20 × Int)) (p1 : Ar 20) (Q : T_api_Account → Bool → (List T_store_node) → (List (Ar 20 × T_api_Account)) → (List (Ar 20 × Int)) → Prop) : Prop :=
  store_Store_Find p0_fs_fl p0_fv p1 (fun r5 r8 x9_fl => ((r8 = true) → (Q r5 true x9_fl p0_fc_fknown p0_fc_ftries)) ∧ ((r8 = false) → (fork_Cache_Account p0_fc_fknown p0_fc_ftries p1 (fun r14 r17 x18_fknown x18_ftries => Q r14 r17 x9_fl x18_fknown x18_ftries))))
theorem w_fork_over_Account (p0_fs_fl : List T_store_node) (p0_fv : Int) (p0_fc_fknown : List (Ar 20 × T_api_Account)) (p0_fc_ftries : List (Ar 20 × Int)) (p1 : Ar 20) (pb0_fs : Nat) (p0_fsv_fl : Value) (p0_fso_fl : List (Nat × Obj)) (pb0_fc : Nat) (p0_fcm_fknown : Nat) (p0_fcq_fknown : Obj) (p0_fcm_ftries : Nat) (p0_fcq_ftries : Obj) (g : Gh) (w0 : World) (hst0 : St (Mof ([(pb0_fs, .cells ([p0_fsv_fl]).toArray 142 (0, 0)), (pb0_fc, .cells ([Value.map (some p0_fcm_fknown)] ++ ([Value.map (some p0_fcm_ftries)])).toArray 136 (0, 0)), (p0_fcm_fknown, p0_fcq_fknown), (p0_fcm_ftries, p0_fcq_ftries)] ++ (p0_fso_fl))) w0 w0 g ([(pb0_fs, .cells ([p0_fsv_fl]).toArray 142 (0, 0)), (pb0_fc, .cells ([Value.map (some p0_fcm_fknown)] ++ ([Value.map (some p0_fcm_ftries)])).toArray 136 (0, 0)), (p0_fcm_fknown, p0_fcq_fknown), (p0_fcm_ftries, p0_fcq_ftries)] ++ (p0_fso_fl))) (hp0_fsv_fl : OwnS rT_store_node 139 g p0_fs_fl p0_fsv_fl p0_fso_fl) (hmp0_fcq_fknown : Mp.MR rT_api_Account true (Mp.kvA .u8 20) g p0_fc_fknown p0_fcq_fknown) (hmp0_fcq_ftries : Mp.MR (rtI .i64) false (Mp.kvA .u8 20) g p0_fc_ftries p0_fcq_ftries) (Q : T_api_Account → Bool → (List T_store_node) → (List (Ar 20 × T_api_Account)) → (List (Ar 20 × Int)) → Prop) (hp : fork_over_Account p0_fs_fl p0_fv p0_fc_fknown p0_fc_ftries p1 Q) : Calls Try.prog 194 #[Value.agg ([Value.pointer (some ⟨pb0_fs, 0, none⟩)] ++ ([Value.int .i64 p0_fv] ++ ([Value.pointer (some ⟨pb0_fc, 0, none⟩)]))).toArray, Value.agg (iaC .u8 p1).toArray] w0 (Ret fun u w => ∃ g', g.le g' ∧ GN (Mof ([(pb0_fs, .cells ([p0_fsv_fl]).toArray 142 (0, 0)), (pb0_fc, .cells ([Value.map (some p0_fcm_fknown)] ++ ([Value.map (some p0_fcm_ftries)])).toArray 136 (0, 0)), (p0_fcm_fknown, p0_fcq_fknown), (p0_fcm_ftries, p0_fcq_ftries)] ++ (p0_fso_fl))) w0 g g' ∧ ∃ (r1 : T_api_Account) (r2 : Bool) (z0_fs_fl : List T_store_node) (z0_fc_fknown : List (Ar 20 × T_api_Account)) (z0_fc_ftries : List (Ar 20 × Int)), Q r1 r2 z0_fs_fl z0_fc_fknown z0_fc_ftries ∧ ∃ (u1 : Value) (u2 : Value) (z0_fsv_fl : Value) (z0_fso_fl : List (Nat × Obj)) (z0_fcq_fknown : Obj) (z0_fcq_ftries : Obj), u = Value.tuple #[Value.agg (iaC .u8 r1.fAddress ++ ([Value.int .u64 r1.fNonce] ++ (iaC .u64 r1.fBalance ++ ([u1] ++ ([u2]))))).toArray, Value.bool r2] ∧ Sl (rtI .u8) g' r1.fCode u1 ∧ Sl rT_api_Slot g' r1.fStorage u2 ∧ OwnS rT_store_node 139 g' z0_fs_fl z0_fsv_fl z0_fso_fl ∧ Mp.MR rT_api_Account true (Mp.kvA .u8 20) g' z0_fc_fknown z0_fcq_fknown ∧ Mp.MR (rtI .i64) false (Mp.kvA .u8 20) g' z0_fc_ftries z0_fcq_ftries ∧ St (Mof ([(pb0_fs, .cells ([p0_fsv_fl]).toArray 142 (0, 0)), (pb0_fc, .cells ([Value.map (some p0_fcm_fknown)] ++ ([Value.map (some p0_fcm_ftries)])).toArray 136 (0, 0)), (p0_fcm_fknown, p0_fcq_fknown), (p0_fcm_ftries, p0_fcq_ftries)] ++ (p0_fso_fl))) w0 w g' ([(pb0_fs, .cells ([z0_fsv_fl]).toArray 142 (0, 0)), (pb0_fc, .cells ([Value.map (some p0_fcm_fknown)] ++ ([Value.map (some p0_fcm_ftries)])).toArray 136 (0, 0)), (p0_fcm_fknown, z0_fcq_fknown), (p0_fcm_ftries, z0_fcq_ftries)] ++ (z0_fso_fl))) := by
  unfold fork_over_Account at hp
  go_enter Try.func194, Try.ntmps194
  change Code.wp _ _ _ (F [Value.agg ([Value.pointer (some ⟨pb0_fs, 0, none⟩)] ++ ([Value.int .i64 p0_fv] ++ ([Value.pointer (some ⟨pb0_fc, 0, none⟩)]))).toArray, Value.agg (iaC .u8 p1).toArray, undef, undef, undef, undef, undef, undef, undef, undef, undef, undef, undef, undef, undef, undef, undef, undef, undef, undef, undef, undef, undef, undef, undef]) _
  have hst := hst0
  have hgn0 : GN (Mof ([(pb0_fs, .cells ([p0_fsv_fl]).toArray 142 (0, 0)), (pb0_fc, .cells ([Value.map (some p0_fcm_fknown)] ++ ([Value.map (some p0_fcm_ftries)])).toArray 136 (0, 0)), (p0_fcm_fknown, p0_fcq_fknown), (p0_fcm_ftries, p0_fcq_ftries)] ++ (p0_fso_fl))) w0 g g := GN.refl _ _ _
  have hle0 : g.le g := Gh.le_refl _
  refine E.seq (fun K1 hK1 => ?_)
  refine rg ?_
  refine TL.box (vs := [Value.pointer (some ⟨pb0_fs, 0, none⟩)] ++ ([Value.int .i64 p0_fv] ++ ([Value.pointer (some ⟨pb0_fc, 0, none⟩)]))) hst rfl rfl ?_
  intro w n1 hst
  refine ⟨trivial, ?_⟩
  refine TL.box (vs := iaC .u8 p1) hst rfl rfl ?_
  intro w n2 hst
  refine ⟨trivial, ?_⟩
  refine TL.alloc hst zv34 rfl ?_
  intro w n3 hst
  refine ⟨trivial, ?_⟩
  refine TL.norm (by simp only [List.set_cons_succ, List.set_cons_zero]; rfl) ?_
  refine TL.assign (Value.bool false) rfl rfl ?_
  refine TL.nil ?_
  refine hK1 _ _ ?_
  refine E.norm (by simp only [List.set_cons_succ, List.set_cons_zero]; rfl) ?_
  refine E.seq (fun K2 hK2 => ?_)
  refine E.seq (fun K3 hK3 => ?_)
  refine rg ?_
  refine TL.fieldA (0) fa148_0 rfl (by first | rfl | omega) rfl ?_
  refine TL.ldL1 2 n1 (0) (Value.pointer (some ⟨pb0_fs, 0, none⟩)) (fun _ h => h ▸ hst) rfl (Seg.here _ _) ts44 rfl rfl ?_
  refine TL.fieldA (1) fa148_1 rfl (by first | rfl | omega) rfl ?_
  refine TL.norm (by simp only [List.set_cons_succ, List.set_cons_zero]; rfl) ?_
  refine TL.ldL1 2 n1 (1 + (0)) (Value.int .i64 p0_fv) (fun _ h => h ▸ hst) rfl (Seg.skip (m := 1) (by simp) (Seg.here _ _)) ts3 rfl rfl ?_
  refine TL.ldL 1 n2 (0) (iaC .u8 p1) (fun _ h => h ▸ hst) rfl (Seg.all _) (ta28.of (by simp)) rfl rfl ?_
  have pm4 : ([(n3, .cells (iaC .u8 (Ar.zero 20) ++ ([Value.int .u64 0] ++ (iaC .u64 (Ar.zero 4) ++ ([Value.slice none 0 0] ++ ([Value.slice none 0 0]))))).toArray 34 (0, 0)), (n2, .cells (iaC .u8 p1).toArray 28 (0, 0)), (n1, .cells ([Value.pointer (some ⟨pb0_fs, 0, none⟩)] ++ ([Value.int .i64 p0_fv] ++ ([Value.pointer (some ⟨pb0_fc, 0, none⟩)]))).toArray 148 (0, 0)), (pb0_fs, .cells ([p0_fsv_fl]).toArray 142 (0, 0)), (pb0_fc, .cells ([Value.map (some p0_fcm_fknown)] ++ ([Value.map (some p0_fcm_ftries)])).toArray 136 (0, 0)), (p0_fcm_fknown, p0_fcq_fknown), (p0_fcm_ftries, p0_fcq_ftries)] ++ (p0_fso_fl) : List (Nat × Obj)).Perm (([(n3, .cells (iaC .u8 (Ar.zero 20) ++ ([Value.int .u64 0] ++ (iaC .u64 (Ar.zero 4) ++ ([Value.slice none 0 0] ++ ([Value.slice none 0 0]))))).toArray 34 (0, 0)), (n2, .cells (iaC .u8 p1).toArray 28 (0, 0)), (n1, .cells ([Value.pointer (some ⟨pb0_fs, 0, none⟩)] ++ ([Value.int .i64 p0_fv] ++ ([Value.pointer (some ⟨pb0_fc, 0, none⟩)]))).toArray 148 (0, 0)), (pb0_fc, .cells ([Value.map (some p0_fcm_fknown)] ++ ([Value.map (some p0_fcm_ftries)])).toArray 136 (0, 0)), (p0_fcm_fknown, p0_fcq_fknown), (p0_fcm_ftries, p0_fcq_ftries)]) ++ ([(pb0_fs, .cells ([p0_fsv_fl]).toArray 142 (0, 0))] ++ (p0_fso_fl))) := (permC fun _ => by simp only [List.count_append, List.count_cons, List.count_nil, Nat.zero_add, Nat.add_zero] <;> ac_rfl)
  refine TL.callS #[Value.pointer (some ⟨pb0_fs, 0, none⟩), Value.int .i64 p0_fv, Value.agg (iaC .u8 p1).toArray] co40 rfl (w_store_Store_Find p0_fs_fl p0_fv p1 pb0_fs p0_fsv_fl p0_fso_fl g _ (hst.enterO pm4) hp0_fsv_fl _ hp) rfl ?_
  rintro _ w ⟨g10, hleg10, hgng10, r5, r8, x9_fl, hp, v6, v7, x9v_fl, x9o_fl, rfl, hv6, hv7, hx9v_fl, hst2⟩
  replace hgn0 := hgn0.callM hst pm4 hgng10
  replace hle0 := Gh.le_trans hle0 hleg10
  replace hst := hst.leaveO pm4 hst2 hgng10
  replace hst : St (Mof ([(pb0_fs, .cells ([p0_fsv_fl]).toArray 142 (0, 0)), (pb0_fc, .cells ([Value.map (some p0_fcm_fknown)] ++ ([Value.map (some p0_fcm_ftries)])).toArray 136 (0, 0)), (p0_fcm_fknown, p0_fcq_fknown), (p0_fcm_ftries, p0_fcq_ftries)] ++ (p0_fso_fl))) _ _ _ ([(n3, .cells (iaC .u8 (Ar.zero 20) ++ ([Value.int .u64 0] ++ (iaC .u64 (Ar.zero 4) ++ ([Value.slice none 0 0] ++ ([Value.slice none 0 0]))))).toArray 34 (0, 0)), (n2, .cells (iaC .u8 p1).toArray 28 (0, 0)), (n1, .cells ([Value.pointer (some ⟨pb0_fs, 0, none⟩)] ++ ([Value.int .i64 p0_fv] ++ ([Value.pointer (some ⟨pb0_fc, 0, none⟩)]))).toArray 148 (0, 0)), (pb0_fc, .cells ([Value.map (some p0_fcm_fknown)] ++ ([Value.map (some p0_fcm_ftries)])).toArray 136 (0, 0)), (p0_fcm_fknown, p0_fcq_fknown), (p0_fcm_ftries, p0_fcq_ftries), (pb0_fs, .cells ([x9v_fl]).toArray 142 (0, 0))] ++ (x9o_fl)) := hst.perm (permC fun _ => by simp only [List.count_append, List.count_cons, List.count_nil, Nat.zero_add, Nat.add_zero] <;> ac_rfl)
  refine ⟨trivial, ?_⟩
  refine TL.norm (by simp only [List.set_cons_succ, List.set_cons_zero]; rfl) ?_
  refine TL.move (Value.tuple #[Value.agg (iaC .u8 r5.fAddress ++ ([Value.int .u64 r5.fNonce] ++ (iaC .u64 r5.fBalance ++ ([v6] ++ ([v7]))))).toArray, Value.bool r8]) rfl rfl ?_
  refine TL.extract (Value.agg (iaC .u8 r5.fAddress ++ ([Value.int .u64 r5.fNonce] ++ (iaC .u64 r5.fBalance ++ ([v6] ++ ([v7]))))).toArray) rfl rfl rfl ?_
  refine TL.extract (Value.bool r8) rfl rfl rfl ?_
  refine TL.norm (by simp only [List.set_cons_succ, List.set_cons_zero]; rfl) ?_
  refine TL.alloc hst zv34 rfl ?_
  intro w n11 hst
  refine ⟨trivial, ?_⟩
  refine TL.stA 0 n11 (0) _ (vs := iaC .u8 r5.fAddress ++ ([Value.int .u64 r5.fNonce] ++ (iaC .u64 r5.fBalance ++ ([v6] ++ ([v7]))))) hst rfl (Put.all (by simp)) (by first | rfl | omega) rfl (One.app (One.ia _ _) (One.app (One.one rfl) (One.app (One.ia _ _) (One.app (One.one (hv6).one) (One.one (hv7).one))))) (tzof tz34 (by simp)) rfl rfl ?_
  intro w hst
  refine ⟨trivial, ?_⟩
  refine TL.assign (Value.bool r8) rfl rfl ?_
  refine TL.nil ?_
  refine hK3 _ _ ?_
  refine E.norm (by simp only [List.set_cons_succ, List.set_cons_zero]; rfl) ?_
  refine E.seq (fun K4 hK4 => ?_)
  refine rg ?_
  refine TL.move (Value.bool r8) rfl rfl ?_
  refine TL.nil ?_
  refine hK4 _ _ ?_
  refine E.norm (by simp only [List.set_cons_succ, List.set_cons_zero]; rfl) ?_
  refine E.cond rfl (fun hc12 => ?_) (fun hc12 => ?_)
  · replace hp := hp.1 (hc12)
    refine E.seq (fun K5 hK5 => ?_)
    refine rg ?_
    refine TL.ldL 0 n11 (0) (iaC .u8 r5.fAddress ++ ([Value.int .u64 r5.fNonce] ++ (iaC .u64 r5.fBalance ++ ([v6] ++ ([v7]))))) (fun _ h => h ▸ hst) rfl (Seg.all _) (ta34.of (by simp)) rfl rfl ?_
    refine TL.stA 1 n3 (0) _ (vs := iaC .u8 r5.fAddress ++ ([Value.int .u64 r5.fNonce] ++ (iaC .u64 r5.fBalance ++ ([v6] ++ ([v7]))))) hst rfl (Put.all (by simp)) (by first | rfl | omega) rfl (One.app (One.ia _ _) (One.app (One.one rfl) (One.app (One.ia _ _) (One.app (One.one (hv6).one) (One.one (hv7).one))))) (tzof tz34 (by simp)) rfl rfl ?_
    intro w hst
    refine ⟨trivial, ?_⟩
    refine TL.assign (Value.bool true) rfl rfl ?_
    refine TL.nil ?_
    refine hK5 _ _ ?_
    refine E.norm (by simp only [List.set_cons_succ, List.set_cons_zero]; rfl) ?_
    refine wp_ret ?_
    refine E.ret _ (Rs.ct (iaC .u8 r5.fAddress ++ ([Value.int .u64 r5.fNonce] ++ (iaC .u64 r5.fBalance ++ ([v6] ++ ([v7]))))) (Value.bool true) rfl rfl (ta34.of (by simp)) (rangeAt_of_block (hst.mem (i := 1) rfl) (Seg.all _)) rfl) ?_
    exact ⟨g10, hle0, hgn0, r5, true, x9_fl, p0_fc_fknown, p0_fc_ftries, hp, _, _, _, _, _, _, rfl, hv6, hv7, hx9v_fl, (hmp0_fcq_fknown.mono (hleg10)), (hmp0_fcq_ftries.mono (hleg10)), (hst.sub (.cons _ (.cons _ (.cons _ (.cons _ (.cons_cons _ (.cons_cons _ (.cons_cons _ (.cons_cons _ (List.Sublist.refl _)))))))))).perm (permC fun _ => by simp only [List.count_append, List.count_cons, List.count_nil, Nat.zero_add, Nat.add_zero] <;> ac_rfl)⟩
  · replace hp := hp.2 (hc12)
    refine wp_skip ?_
    refine hK2 _ _ ?_
    refine E.seq (fun K6 hK6 => ?_)
    refine rg ?_
    refine TL.fieldA (2) fa148_2 rfl (by first | rfl | omega) rfl ?_
    refine TL.ldL1 3 n1 (1 + (1 + (0))) (Value.pointer (some ⟨pb0_fc, 0, none⟩)) (fun _ h => h ▸ hst) rfl (Seg.skip (m := 1) (by simp) (Seg.skip (m := 1) (by simp) (Seg.all _))) ts36 rfl rfl ?_
    refine TL.ldL 2 n2 (0) (iaC .u8 p1) (fun _ h => h ▸ hst) rfl (Seg.all _) (ta28.of (by simp)) rfl rfl ?_
    refine TL.norm (by simp only [List.set_cons_succ, List.set_cons_zero]; rfl) ?_
    have pm13 : ([(n11, .cells (iaC .u8 r5.fAddress ++ ([Value.int .u64 r5.fNonce] ++ (iaC .u64 r5.fBalance ++ ([v6] ++ ([v7]))))).toArray 34 (0, 0)), (n3, .cells (iaC .u8 (Ar.zero 20) ++ ([Value.int .u64 0] ++ (iaC .u64 (Ar.zero 4) ++ ([Value.slice none 0 0] ++ ([Value.slice none 0 0]))))).toArray 34 (0, 0)), (n2, .cells (iaC .u8 p1).toArray 28 (0, 0)), (n1, .cells ([Value.pointer (some ⟨pb0_fs, 0, none⟩)] ++ ([Value.int .i64 p0_fv] ++ ([Value.pointer (some ⟨pb0_fc, 0, none⟩)]))).toArray 148 (0, 0)), (pb0_fc, .cells ([Value.map (some p0_fcm_fknown)] ++ ([Value.map (some p0_fcm_ftries)])).toArray 136 (0, 0)), (p0_fcm_fknown, p0_fcq_fknown), (p0_fcm_ftries, p0_fcq_ftries), (pb0_fs, .cells ([x9v_fl]).toArray 142 (0, 0))] ++ (x9o_fl) : List (Nat × Obj)).Perm (([(n11, .cells (iaC .u8 r5.fAddress ++ ([Value.int .u64 r5.fNonce] ++ (iaC .u64 r5.fBalance ++ ([v6] ++ ([v7]))))).toArray 34 (0, 0)), (n3, .cells (iaC .u8 (Ar.zero 20) ++ ([Value.int .u64 0] ++ (iaC .u64 (Ar.zero 4) ++ ([Value.slice none 0 0] ++ ([Value.slice none 0 0]))))).toArray 34 (0, 0)), (n2, .cells (iaC .u8 p1).toArray 28 (0, 0)), (n1, .cells ([Value.pointer (some ⟨pb0_fs, 0, none⟩)] ++ ([Value.int .i64 p0_fv] ++ ([Value.pointer (some ⟨pb0_fc, 0, none⟩)]))).toArray 148 (0, 0)), (pb0_fs, .cells ([x9v_fl]).toArray 142 (0, 0))] ++ (x9o_fl)) ++ ([(pb0_fc, .cells ([Value.map (some p0_fcm_fknown)] ++ ([Value.map (some p0_fcm_ftries)])).toArray 136 (0, 0)), (p0_fcm_fknown, p0_fcq_fknown), (p0_fcm_ftries, p0_fcq_ftries)])) := (permC fun _ => by simp only [List.count_append, List.count_cons, List.count_nil, Nat.zero_add, Nat.add_zero] <;> ac_rfl)
    refine TL.callS #[Value.pointer (some ⟨pb0_fc, 0, none⟩), Value.agg (iaC .u8 p1).toArray] co21 rfl (w_fork_Cache_Account p0_fc_fknown p0_fc_ftries p1 pb0_fc p0_fcm_fknown p0_fcq_fknown p0_fcm_ftries p0_fcq_ftries g10 _ (hst.enterO pm13) (hmp0_fcq_fknown.mono (hleg10)) (hmp0_fcq_ftries.mono (hleg10)) _ hp) rfl ?_
    rintro _ w ⟨g19, hleg19, hgng19, r14, r17, x18_fknown, x18_ftries, hp, v15, v16, x18q_fknown, x18q_ftries, rfl, hv15, hv16, hmx18q_fknown, hmx18q_ftries, hst2⟩
    replace hgn0 := hgn0.callM hst pm13 hgng19
    replace hle0 := Gh.le_trans hle0 hleg19
    replace hst := hst.leaveO pm13 hst2 hgng19
    replace hst : St (Mof ([(pb0_fs, .cells ([p0_fsv_fl]).toArray 142 (0, 0)), (pb0_fc, .cells ([Value.map (some p0_fcm_fknown)] ++ ([Value.map (some p0_fcm_ftries)])).toArray 136 (0, 0)), (p0_fcm_fknown, p0_fcq_fknown), (p0_fcm_ftries, p0_fcq_ftries)] ++ (p0_fso_fl))) _ _ _ ([(n11, .cells (iaC .u8 r5.fAddress ++ ([Value.int .u64 r5.fNonce] ++ (iaC .u64 r5.fBalance ++ ([v6] ++ ([v7]))))).toArray 34 (0, 0)), (n3, .cells (iaC .u8 (Ar.zero 20) ++ ([Value.int .u64 0] ++ (iaC .u64 (Ar.zero 4) ++ ([Value.slice none 0 0] ++ ([Value.slice none 0 0]))))).toArray 34 (0, 0)), (n2, .cells (iaC .u8 p1).toArray 28 (0, 0)), (n1, .cells ([Value.pointer (some ⟨pb0_fs, 0, none⟩)] ++ ([Value.int .i64 p0_fv] ++ ([Value.pointer (some ⟨pb0_fc, 0, none⟩)]))).toArray 148 (0, 0)), (pb0_fs, .cells ([x9v_fl]).toArray 142 (0, 0)), (pb0_fc, .cells ([Value.map (some p0_fcm_fknown)] ++ ([Value.map (some p0_fcm_ftries)])).toArray 136 (0, 0)), (p0_fcm_fknown, x18q_fknown), (p0_fcm_ftries, x18q_ftries)] ++ (x9o_fl)) := hst.perm (permC fun _ => by simp only [List.count_append, List.count_cons, List.count_nil, Nat.zero_add, Nat.add_zero] <;> ac_rfl)
    refine ⟨trivial, ?_⟩
    refine TL.extract (Value.agg (iaC .u8 r14.fAddress ++ ([Value.int .u64 r14.fNonce] ++ (iaC .u64 r14.fBalance ++ ([v15] ++ ([v16]))))).toArray) rfl rfl rfl ?_
    refine TL.extract (Value.bool r17) rfl rfl rfl ?_
    refine TL.norm (by simp only [List.set_cons_succ, List.set_cons_zero]; rfl) ?_
    refine TL.stA 1 n3 (0) _ (vs := iaC .u8 r14.fAddress ++ ([Value.int .u64 r14.fNonce] ++ (iaC .u64 r14.fBalance ++ ([v15] ++ ([v16]))))) hst rfl (Put.all (by simp)) (by first | rfl | omega) rfl (One.app (One.ia _ _) (One.app (One.one rfl) (One.app (One.ia _ _) (One.app (One.one (hv15).one) (One.one (hv16).one))))) (tzof tz34 (by simp)) rfl rfl ?_
    intro w hst
    refine ⟨trivial, ?_⟩
    refine TL.assign (Value.bool r17) rfl rfl ?_
    refine TL.nil ?_
    refine hK6 _ _ ?_
    refine E.norm (by simp only [List.set_cons_succ, List.set_cons_zero]; rfl) ?_
    refine wp_ret ?_
    refine E.ret _ (Rs.ct (iaC .u8 r14.fAddress ++ ([Value.int .u64 r14.fNonce] ++ (iaC .u64 r14.fBalance ++ ([v15] ++ ([v16]))))) (Value.bool r17) rfl rfl (ta34.of (by simp)) (rangeAt_of_block (hst.mem (i := 1) rfl) (Seg.all _)) rfl) ?_
    exact ⟨g19, hle0, hgn0, r14, r17, x9_fl, x18_fknown, x18_ftries, hp, _, _, _, _, _, _, rfl, hv15, hv16, (hx9v_fl.mono (hleg19)), hmx18q_fknown, hmx18q_ftries, hst.sub (.cons _ (.cons _ (.cons _ (.cons _ (.cons_cons _ (.cons_cons _ (.cons_cons _ (.cons_cons _ (List.Sublist.refl _)))))))))⟩

def smithylaw15_ForkOver (p0 : List T_api_Account) (p1 : List T_api_Account) (p2 : Ar 20) (Q : Bool → Prop) : Prop :=
  smithyref13_Great p0 (fun r4 => ((r4 = true) → (smithylaw15_fixed  (fun r6 => Q r6))) ∧ ((r4 = false) → (smithyref13_Great p1 (fun r7 => ((r7 = true) → (smithylaw15_fixed  (fun r9 => Q r9))) ∧ ((r7 = false) → (store_New  (fun x11_fl => fork_New  (fun x13_fknown x13_ftries => store_Store_Commit x11_fl 0 p0 (fun r15 r16 x17_fl => ∃ (I31 : Int → (List T_api_Account) → (List T_smithyref15_Try) → (List (Ar 20 × T_api_Account)) → (List (Ar 20 × Int)) → Prop) (m32 : Int → (List T_api_Account) → (List T_smithyref15_Try) → (List (Ar 20 × T_api_Account)) → (List (Ar 20 × Int)) → Nat), (I31 0 ([]) ([]) x13_fknown x13_ftries) ∧ ∀ (x21 : Int) (xs22 : List T_api_Account) (xs24 : List T_smithyref15_Try) (m26 : List (Ar 20 × T_api_Account)) (m28 : List (Ar 20 × Int)), (I31 x21 xs22 xs24 m26 m28 → (((x21 < (p1.length : Int)) → ((0 ≤ x21) ∧ (x21 < (p1.length : Int)) ∧ (fork_Cache_Want m26 m28 ((nth p1 x21).fAddress) (fun r45 x46_fknown x46_ftries => fork_Cache_Fill x46_fknown x46_ftries (nth p1 x21) (fun r48 x49_fknown x49_ftries => smithyref15_Cache_Want (T_smithyref15_Cache.mk xs22 xs24) ((nth p1 x21).fAddress) (fun r51 r52 => smithyref15_Cache_Fill r52 (nth p1 x21) (fun r56 r57 => (inR .i64 (x21 + 1)) ∧ (I31 (x21 + 1) r57.fKnown r57.fAsked x49_fknown x49_ftries ∧ m32 (x21 + 1) r57.fKnown r57.fAsked x49_fknown x49_ftries < m32 x21 xs22 xs24 m26 m28)))))))) ∧ ((¬ (x21 < (p1.length : Int))) → (∃ J64 : Int → Prop, (∀ (x63 : Int), J64 x63 → (∃ J75 : Bool → (Ar 20) → Int → (Ar 4) → (List Int) → (List T_api_Slot) → Prop, (∀ (x67 : Bool) (a68 : Ar 20) (x69 : Int) (a70 : Ar 4) (xs71 : List Int) (xs73 : List T_api_Slot), J75 x67 a68 x69 a70 xs71 xs73 → (∃ J85 : Bool → (Ar 20) → Int → (Ar 4) → (List Int) → (List T_api_Slot) → Prop, (∀ (x77 : Bool) (a78 : Ar 20) (x79 : Int) (a80 : Ar 4) (xs81 : List Int) (xs83 : List T_api_Slot), J85 x77 a78 x79 a80 xs81 xs83 → (fork_Over x63 (fork_over_Account x17_fl x63 m26 m28 p2 (fun r87 r90 x91_fl x92_fknown x92_ftries => smithylaw15_fixed  (fun r95 => ((r95 = true) → (((r90 = x77) → (smithyref13_Same r87 (T_api_Account.mk a78 x79 a80 xs81 xs83) (fun r98 => Q r98))) ∧ ((¬ (r90 = x77)) → (Q false)))) ∧ ((r95 = false) → (Q false))))))) ∧ (((r16 = 0) → (∃ (I110 : Bool → Int → (Ar 20) → Int → (Ar 4) → (List Int) → (List T_api_Slot) → Prop) (m111 : Bool → Int → (Ar 20) → Int → (Ar 4) → (List Int) → (List T_api_Slot) → Nat), (I110 x67 0 a68 x69 a70 xs71 xs73) ∧ ∀ (x101 : Bool) (x102 : Int) (a103 : Ar 20) (x104 : Int) (a105 : Ar 4) (xs106 : List Int) (xs108 : List T_api_Slot), (I110 x101 x102 a103 x104 a105 xs106 xs108 → (((x102 < (p0.length : Int)) → (∃ J122 : Bool → (Ar 20) → Int → (Ar 4) → (List Int) → (List T_api_Slot) → Prop, (∀ (x114 : Bool) (a115 : Ar 20) (x116 : Int) (a117 : Ar 4) (xs118 : List Int) (xs120 : List T_api_Slot), J122 x114 a115 x116 a117 xs118 xs120 → ((inR .i64 (x102 + 1)) ∧ (I110 x114 (x102 + 1) a115 x116 a117 xs118 xs120 ∧ m111 x114 (x102 + 1) a115 x116 a117 xs118 xs120 < m111 x101 x102 a103 x104 a105 xs106 xs108))) ∧ ((0 ≤ x102) ∧ (x102 < (p0.length : Int)) ∧ ((((nth p0 x102).fAddress = p2) → (J122 true ((nth p0 x102).fAddress) ((nth p0 x102).fNonce) ((nth p0 x102).fBalance) ((nth p0 x102).fCode) ((nth p0 x102).fStorage))) ∧ ((¬ ((nth p0 x102).fAddress = p2)) → (J122 x101 a103 x104 a105 xs106 xs108)))))) ∧ ((¬ (x102 < (p0.length : Int))) → (J85 x101 a103 x104 a105 xs106 xs108)))))) ∧ ((¬ (r16 = 0)) → (J85 x67 a68 x69 a70 xs71 xs73))))) ∧ (smithyref13_Find xs22 p2 (fun r135 r138 => ((r138 = true) → (J75 true r135.fAddress r135.fNonce r135.fBalance r135.fCode r135.fStorage)) ∧ ((r138 = false) → (J75 false p2 0 (Ar.zero 4) ([]) ([]))))))) ∧ (((r16 ≠ 0) → (J64 0)) ∧ ((¬ (r16 ≠ 0)) → (J64 r15))))))))))))))))
theorem w_smithylaw15_ForkOver (p0 : List T_api_Account) (p1 : List T_api_Account) (p2 : Ar 20) (v1 : Value) (v2 : Value) (g : Gh) (w0 : World) (hg : Has w0 g) (hv1 : Sl rT_api_Account g p0 v1) (hv2 : Sl rT_api_Account g p1 v2) (Q : Bool → Prop) (hp : smithylaw15_ForkOver p0 p1 p2 Q) : Calls Try.prog 4 #[v1, v2, Value.agg (iaC .u8 p2).toArray] w0 (Ret fun u w => ∃ g', Gr w0 w g g' ∧ ∃ (r1 : Bool), Q r1 ∧ u = Value.bool r1) := by
  unfold smithylaw15_ForkOver at hp
  go_enter Try.func4, Try.ntmps4
  change Code.wp _ _ _ (F [v1, v2, Value.agg (iaC .u8 p2).toArray, undef, undef, undef, undef, undef, undef, undef, undef, undef, undef, undef, undef, undef, undef, undef, undef, undef, undef, undef, undef, undef, undef, undef, undef, undef, undef, undef, undef, undef, undef, undef, undef, undef, undef, undef, undef, undef, undef, undef, undef, undef, undef, undef, undef, undef, undef, undef, undef, undef, undef, undef, undef, undef, undef, undef, undef, undef, undef, undef, undef, undef, undef, undef, undef, undef, undef, undef, undef, undef, undef, undef, undef, undef, undef, undef, undef, undef, undef, undef, undef, undef, undef, undef, undef, undef, undef, undef, undef, undef, undef, undef, undef, undef, undef, undef, undef, undef, undef, undef, undef, undef, undef, undef, undef, undef, undef, undef, undef, undef, undef, undef, undef, undef]) _
  have hst := St.start Non hg
  have hgn0 : GN Non w0 g g := GN.refl _ _ _
  have hle0 : g.le g := Gh.le_refl _
  refine E.seq (fun K1 hK1 => ?_)
  refine rg ?_
  refine TL.box (vs := iaC .u8 p2) hst rfl rfl ?_
  intro w n3 hst
  refine ⟨trivial, ?_⟩
  refine TL.assign (Value.bool false) rfl rfl ?_
  refine TL.nil ?_
  refine hK1 _ _ ?_
  refine E.norm (by simp only [List.set_cons_succ, List.set_cons_zero]; rfl) ?_
  refine E.seq (fun K2 hK2 => ?_)
  refine E.seq (fun K3 hK3 => ?_)
  refine rg ?_
  refine TL.move (v1) rfl rfl ?_
  refine TL.callS #[v1] co13 rfl (w_smithyref13_Great p0 v1 g _ hst.has (hv1) _ hp) rfl ?_
  rintro _ w ⟨hk, r4, hp, rfl⟩
  replace hst := hst.call hk
  refine ⟨trivial, ?_⟩
  refine TL.move (Value.bool r4) rfl rfl ?_
  refine TL.norm (by simp only [List.set_cons_succ, List.set_cons_zero]; rfl) ?_
  refine TL.case 25 (r4) rfl (fun hc5 => ?_) (fun hc5 => ?_)
  · replace hp := hp.1 (hc5)
    refine TL.norm (by simp only [List.set_cons_succ, List.set_cons_zero]; rfl) ?_
    refine TL.noU rfl trivial rfl ?_
    refine TL.noU rfl trivial rfl ?_
    refine TL.pick (Value.bool true) rfl rfl rfl ?_
    refine TL.nil ?_
    refine hK3 _ _ ?_
    refine E.norm (by simp only [List.set_cons_succ, List.set_cons_zero]; rfl) ?_
    refine E.condT rfl ?_
    refine E.seq (fun K4 hK4 => ?_)
    refine rg ?_
    refine TL.callS #[] co14 rfl (w_smithylaw15_fixed g _ hst.has _ hp) rfl ?_
    rintro _ w ⟨hk, r6, hp, rfl⟩
    replace hst := hst.call hk
    refine ⟨trivial, ?_⟩
    refine TL.assign (Value.bool r6) rfl rfl ?_
    refine TL.nil ?_
    refine hK4 _ _ ?_
    refine E.norm (by simp only [List.set_cons_succ, List.set_cons_zero]; rfl) ?_
    refine wp_ret ?_
    refine E.ret _ (Rs.t (Value.bool r6) rfl rfl) ?_
    exact ⟨g, ⟨hst.keep, hst.has, hle0, hgn0.new⟩, r6, hp, rfl⟩
  · replace hp := hp.2 (hc5)
    refine TL.norm (by simp only [List.set_cons_succ, List.set_cons_zero]; rfl) ?_
    refine TL.move (v2) rfl rfl ?_
    refine TL.callS #[v2] co13 rfl (w_smithyref13_Great p1 v2 g _ hst.has (hv2) _ hp) rfl ?_
    rintro _ w ⟨hk, r7, hp, rfl⟩
    replace hst := hst.call hk
    refine ⟨trivial, ?_⟩
    refine TL.pick (Value.bool r7) rfl rfl rfl ?_
    refine TL.norm (by simp only [List.set_cons_succ, List.set_cons_zero]; rfl) ?_
    refine TL.nil ?_
    refine hK3 _ _ ?_
    refine E.cond rfl (fun hc8 => ?_) (fun hc8 => ?_)
    · replace hp := hp.1 (hc8)
      refine E.seq (fun K5 hK5 => ?_)
      refine rg ?_
      refine TL.callS #[] co14 rfl (w_smithylaw15_fixed g _ hst.has _ hp) rfl ?_
      rintro _ w ⟨hk, r9, hp, rfl⟩
      replace hst := hst.call hk
      refine ⟨trivial, ?_⟩
      refine TL.assign (Value.bool r9) rfl rfl ?_
      refine TL.nil ?_
      refine hK5 _ _ ?_
      refine E.norm (by simp only [List.set_cons_succ, List.set_cons_zero]; rfl) ?_
      refine wp_ret ?_
      refine E.ret _ (Rs.t (Value.bool r9) rfl rfl) ?_
      exact ⟨g, ⟨hst.keep, hst.has, hle0, hgn0.new⟩, r9, hp, rfl⟩
    · replace hp := hp.2 (hc8)
      refine wp_skip ?_
      refine hK2 _ _ ?_
      refine E.seq (fun K6 hK6 => ?_)
      refine rg ?_
      refine TL.callS #[] co23 rfl (w_store_New g _ hst.has _ hp) rfl ?_
      rintro _ w ⟨x11_fl, hp, n10, x11v_fl, x11o_fl, rfl, hx11v_fl, hst2⟩
      replace hst := hst.join0 hst2
      replace hst : St Non _ _ _ ([(n10, .cells ([x11v_fl]).toArray 142 (0, 0)), (n3, .cells (iaC .u8 p2).toArray 28 (0, 0))] ++ (x11o_fl)) := hst.perm (permC fun _ => by simp only [List.count_append, List.count_cons, List.count_nil, Nat.zero_add, Nat.add_zero] <;> ac_rfl)
      refine ⟨trivial, ?_⟩
      refine TL.callS #[] co16 rfl (w_fork_New g _ hst.has _ hp) rfl ?_
      rintro _ w ⟨x13_fknown, x13_ftries, hp, n12, x13m_fknown, x13q_fknown, x13m_ftries, x13q_ftries, rfl, hmx13q_fknown, hmx13q_ftries, hst2⟩
      replace hst := hst.join0 hst2
      change St Non _ _ _ ([(n12, .cells ([Value.map (some x13m_fknown)] ++ ([Value.map (some x13m_ftries)])).toArray 136 (0, 0)), (x13m_fknown, x13q_fknown), (x13m_ftries, x13q_ftries), (n10, .cells ([x11v_fl]).toArray 142 (0, 0)), (n3, .cells (iaC .u8 p2).toArray 28 (0, 0))] ++ (x11o_fl)) at hst
      refine ⟨trivial, ?_⟩
      refine TL.assign (Value.pointer (some ⟨n10, 0, none⟩)) rfl rfl ?_
      refine TL.norm (by simp only [List.set_cons_succ, List.set_cons_zero]; rfl) ?_
      refine TL.assign (Value.pointer (some ⟨n12, 0, none⟩)) rfl rfl ?_
      refine TL.nil ?_
      refine hK6 _ _ ?_
      refine E.norm (by simp only [List.set_cons_succ, List.set_cons_zero]; rfl) ?_
      refine E.seq (fun K7 hK7 => ?_)
      refine rg ?_
      refine TL.move (Value.pointer (some ⟨n10, 0, none⟩)) rfl rfl ?_
      refine TL.move (v1) rfl rfl ?_
      have pm14 : ([(n12, .cells ([Value.map (some x13m_fknown)] ++ ([Value.map (some x13m_ftries)])).toArray 136 (0, 0)), (x13m_fknown, x13q_fknown), (x13m_ftries, x13q_ftries), (n10, .cells ([x11v_fl]).toArray 142 (0, 0)), (n3, .cells (iaC .u8 p2).toArray 28 (0, 0))] ++ (x11o_fl) : List (Nat × Obj)).Perm (([(n12, .cells ([Value.map (some x13m_fknown)] ++ ([Value.map (some x13m_ftries)])).toArray 136 (0, 0)), (x13m_fknown, x13q_fknown), (x13m_ftries, x13q_ftries), (n3, .cells (iaC .u8 p2).toArray 28 (0, 0))]) ++ ([(n10, .cells ([x11v_fl]).toArray 142 (0, 0))] ++ (x11o_fl))) := (permC fun _ => by simp only [List.count_append, List.count_cons, List.count_nil, Nat.zero_add, Nat.add_zero] <;> ac_rfl)
      refine TL.callS #[Value.pointer (some ⟨n10, 0, none⟩), Value.int .i64 0, v1] co24 rfl (w_store_Store_Commit x11_fl 0 p0 n10 x11v_fl x11o_fl v1 g _ (hst.enterO pm14) hx11v_fl (hv1) _ hp) rfl ?_
      rintro _ w ⟨g18, hleg18, hgng18, r15, r16, x17_fl, hp, x17v_fl, x17o_fl, rfl, hx17v_fl, hst2⟩
      replace hgn0 := hgn0.callM hst pm14 hgng18
      replace hle0 := Gh.le_trans hle0 hleg18
      replace hst := hst.leaveO pm14 hst2 hgng18
      replace hst : St Non _ _ _ ([(n12, .cells ([Value.map (some x13m_fknown)] ++ ([Value.map (some x13m_ftries)])).toArray 136 (0, 0)), (x13m_fknown, x13q_fknown), (x13m_ftries, x13q_ftries), (n3, .cells (iaC .u8 p2).toArray 28 (0, 0)), (n10, .cells ([x17v_fl]).toArray 142 (0, 0))] ++ (x17o_fl)) := hst.perm (permC fun _ => by simp only [List.count_append, List.count_cons, List.count_nil, Nat.zero_add, Nat.add_zero] <;> ac_rfl)
      refine ⟨trivial, ?_⟩
      refine TL.norm (by simp only [List.set_cons_succ, List.set_cons_zero]; rfl) ?_
      refine TL.move (Value.tuple #[Value.int .i64 r15, Value.int .i64 r16]) rfl rfl ?_
      refine TL.extract (Value.int .i64 r15) rfl rfl rfl ?_
      refine TL.extract (Value.int .i64 r16) rfl rfl rfl ?_
      refine TL.norm (by simp only [List.set_cons_succ, List.set_cons_zero]; rfl) ?_
      refine TL.assign (Value.int .i64 r15) rfl rfl ?_
      refine TL.assign (Value.int .i64 r16) rfl rfl ?_
      refine TL.nil ?_
      refine hK7 _ _ ?_
      refine E.norm (by simp only [List.set_cons_succ, List.set_cons_zero]; rfl) ?_
      refine E.seq (fun K8 hK8 => ?_)
      refine rg ?_
      refine TL.buildS (ps := []) bs51 zv51 rfl (Fl.nil _) rfl ?_
      refine TL.alloc hst zv51 rfl ?_
      intro w n19 hst
      refine ⟨trivial, ?_⟩
      refine TL.stA 0 n19 (0) _ (vs := [Value.slice none 0 0] ++ ([Value.slice none 0 0])) hst rfl (Put.all (by simp)) (by first | rfl | omega) rfl (One.app (One.one rfl) (One.one rfl)) (tzof tz51 (by simp)) rfl rfl ?_
      intro w hst
      refine ⟨trivial, ?_⟩
      refine TL.nil ?_
      refine hK8 _ _ ?_
      refine E.norm (by simp only [List.set_cons_succ, List.set_cons_zero]; rfl) ?_
      refine E.seq (fun K9 hK9 => ?_)
      refine E.seq (fun K10 hK10 => ?_)
      refine rg ?_
      refine TL.move (v2) rfl rfl ?_
      refine TL.lenL ((hv2.mono (hleg18))) Try.underlying22 rfl rfl ?_
      refine TL.move (Value.int .i64 0) rfl rfl ?_
      refine TL.norm (by simp only [List.set_cons_succ, List.set_cons_zero]; rfl) ?_
      refine TL.nil ?_
      refine hK10 _ _ ?_
      refine wp_block ?_
      obtain ⟨I31, m32, hI0, hI⟩ := hp
      refine E.loop (fun mm l w => ∃ (x21 : Int) (xs22 : List T_api_Account) (xs24 : List T_smithyref15_Try) (m26 : List (Ar 20 × T_api_Account)) (m28 : List (Ar 20 × Int)) (g30 : Gh) (v23 : Value) (v25 : Value) (q27 : Obj) (q29 : Obj), (mm = m32 x21 xs22 xs24 m26 m28) ∧ (I31 x21 xs22 xs24 m26 m28) ∧ (g18.le g30) ∧ (g.le g30) ∧ (GN Non w0 g g30) ∧ (Sl rT_api_Account g30 xs22 v23) ∧ (Sl rT_smithyref15_Try g30 xs24 v25) ∧ (Mp.MR rT_api_Account true (Mp.kvA .u8 20) g30 m26 q27) ∧ (Mp.MR (rtI .i64) false (Mp.kvA .u8 20) g30 m28 q29) ∧ Fits [some (v1), some (v2), some (Value.agg (iaC .u8 p2).toArray), some (undef), some (undef), some (Value.pointer (some ⟨n3, 0, none⟩)), some (Value.bool false), some (Value.pointer (some ⟨n10, 0, none⟩)), some (Value.pointer (some ⟨n12, 0, none⟩)), some (Value.int .i64 r15), some (Value.int .i64 r16), some (Value.pointer (some ⟨n19, 0, none⟩)), some (undef), none, some (undef), some (undef), some (undef), some (undef), some (undef), some (undef), some (undef), some (undef), some (undef), some (v1), some (Value.bool r4), some (Value.bool false), some (v2), some (Value.bool r7), some (Value.bool r7), some (undef), some (Value.pointer (some ⟨n10, 0, none⟩)), some (Value.pointer (some ⟨n12, 0, none⟩)), some (Value.tuple #[Value.int .i64 r15, Value.int .i64 r16]), some (Value.pointer (some ⟨n10, 0, none⟩)), some (v1), some (Value.tuple #[Value.int .i64 r15, Value.int .i64 r16]), some (Value.int .i64 r15), some (Value.int .i64 r16), some (Value.agg ([Value.slice none 0 0] ++ ([Value.slice none 0 0])).toArray), some (v2), some (Value.int .i64 ((p1.length : Int))), some (Value.int .i64 x21), none, none, none, none, none, none, none, none, none, none, none, none, none, none, none, none, none, none, none, none, none, none, none, none, some (undef), some (undef), some (undef), some (undef), some (undef), some (undef), some (undef), some (undef), some (undef), some (undef), some (undef), some (undef), some (undef), some (undef), some (undef), some (undef), some (undef), some (undef), some (undef), some (undef), some (undef), some (undef), some (undef), some (undef), some (undef), some (undef), some (undef), some (undef), some (undef), some (undef), some (undef), some (undef), some (undef), some (undef), some (undef), some (undef), some (undef), some (undef), some (undef), some (undef), some (undef), some (undef), some (undef), some (undef), some (undef), some (undef), some (undef), some (undef), some (undef), some (undef)] l ∧ St Non w0 w g30 ([(n19, .cells ([v23] ++ ([v25])).toArray 51 (0, 0)), (n12, .cells ([Value.map (some x13m_fknown)] ++ ([Value.map (some x13m_ftries)])).toArray 136 (0, 0)), (x13m_fknown, q27), (x13m_ftries, q29), (n3, .cells (iaC .u8 p2).toArray 28 (0, 0)), (n10, .cells ([x17v_fl]).toArray 142 (0, 0))] ++ (x17o_fl))) _ ⟨0, ([]), ([]), x13_fknown, x13_ftries, g18, _, _, _, _, rfl, hI0, Gh.le_refl _, hle0, hgn0, Sl.nil _ _, Sl.nil _ _, (hmx13q_fknown.mono (hleg18)), (hmx13q_ftries.mono (hleg18)), (by first | (simp only [List.set_cons_succ, List.set_cons_zero]; exact .s rfl (.s rfl (.s rfl (.s rfl (.s rfl (.s rfl (.s rfl (.s rfl (.s rfl (.s rfl (.s rfl (.s rfl (.s rfl (.n (.s rfl (.s rfl (.s rfl (.s rfl (.s rfl (.s rfl (.s rfl (.s rfl (.s rfl (.s rfl (.s rfl (.s rfl (.s rfl (.s rfl (.s rfl (.s rfl (.s rfl (.s rfl (.s rfl (.s rfl (.s rfl (.s rfl (.s rfl (.s rfl (.s rfl (.s rfl (.s rfl (.s rfl (.n (.n (.n (.n (.n (.n (.n (.n (.n (.n (.n (.n (.n (.n (.n (.n (.n (.n (.n (.n (.n (.n (.n (.n (.s rfl (.s rfl (.s rfl (.s rfl (.s rfl (.s rfl (.s rfl (.s rfl (.s rfl (.s rfl (.s rfl (.s rfl (.s rfl (.s rfl (.s rfl (.s rfl (.s rfl (.s rfl (.s rfl (.s rfl (.s rfl (.s rfl (.s rfl (.s rfl (.s rfl (.s rfl (.s rfl (.s rfl (.s rfl (.s rfl (.s rfl (.s rfl (.s rfl (.s rfl (.s rfl (.s rfl (.s rfl (.s rfl (.s rfl (.s rfl (.s rfl (.s rfl (.s rfl (.s rfl (.s rfl (.s rfl (.s rfl (.s rfl (.s rfl (.s rfl (.z))))))))))))))))))))))))))))))))))))))))))))))))))))))))))))))))))))))))))))))))))))))))))))))))))))))))))))))))))))) | exact .s rfl (.s rfl (.s rfl (.s rfl (.s rfl (.s rfl (.s rfl (.s rfl (.s rfl (.s rfl (.s rfl (.s rfl (.s rfl (.n (.s rfl (.s rfl (.s rfl (.s rfl (.s rfl (.s rfl (.s rfl (.s rfl (.s rfl (.s rfl (.s rfl (.s rfl (.s rfl (.s rfl (.s rfl (.s rfl (.s rfl (.s rfl (.s rfl (.s rfl (.s rfl (.s rfl (.s rfl (.s rfl (.s rfl (.s rfl (.s rfl (.s rfl (.n (.n (.n (.n (.n (.n (.n (.n (.n (.n (.n (.n (.n (.n (.n (.n (.n (.n (.n (.n (.n (.n (.n (.n (.s rfl (.s rfl (.s rfl (.s rfl (.s rfl (.s rfl (.s rfl (.s rfl (.s rfl (.s rfl (.s rfl (.s rfl (.s rfl (.s rfl (.s rfl (.s rfl (.s rfl (.s rfl (.s rfl (.s rfl (.s rfl (.s rfl (.s rfl (.s rfl (.s rfl (.s rfl (.s rfl (.s rfl (.s rfl (.s rfl (.s rfl (.s rfl (.s rfl (.s rfl (.s rfl (.s rfl (.s rfl (.s rfl (.s rfl (.s rfl (.s rfl (.s rfl (.s rfl (.s rfl (.s rfl (.s rfl (.s rfl (.s rfl (.s rfl (.s rfl (.z))))))))))))))))))))))))))))))))))))))))))))))))))))))))))))))))))))))))))))))))))))))))))))))))))))))))))))))))))))), hst⟩ ?_
      rintro _ _ w ⟨x21, xs22, xs24, m26, m28, g30, v23, v25, q27, q29, rfl, hI1, hleg30, hle0, hgn0, hsv23, hsv25, hmq27, hmq29, hfit, hst⟩
      have hp := hI _ _ _ _ _ hI1
      obtain ⟨j20, rfl⟩ := hfit.ex
      refine E.norm (l' := [v1, v2, Value.agg (iaC .u8 p2).toArray, undef, undef, Value.pointer (some ⟨n3, 0, none⟩), Value.bool false, Value.pointer (some ⟨n10, 0, none⟩), Value.pointer (some ⟨n12, 0, none⟩), Value.int .i64 r15, Value.int .i64 r16, Value.pointer (some ⟨n19, 0, none⟩), undef, (j20 13), undef, undef, undef, undef, undef, undef, undef, undef, undef, v1, Value.bool r4, Value.bool false, v2, Value.bool r7, Value.bool r7, undef, Value.pointer (some ⟨n10, 0, none⟩), Value.pointer (some ⟨n12, 0, none⟩), Value.tuple #[Value.int .i64 r15, Value.int .i64 r16], Value.pointer (some ⟨n10, 0, none⟩), v1, Value.tuple #[Value.int .i64 r15, Value.int .i64 r16], Value.int .i64 r15, Value.int .i64 r16, Value.agg ([Value.slice none 0 0] ++ ([Value.slice none 0 0])).toArray, v2, Value.int .i64 ((p1.length : Int)), Value.int .i64 x21, (j20 42), (j20 43), (j20 44), (j20 45), (j20 46), (j20 47), (j20 48), (j20 49), (j20 50), (j20 51), (j20 52), (j20 53), (j20 54), (j20 55), (j20 56), (j20 57), (j20 58), (j20 59), (j20 60), (j20 61), (j20 62), (j20 63), (j20 64), (j20 65), undef, undef, undef, undef, undef, undef, undef, undef, undef, undef, undef, undef, undef, undef, undef, undef, undef, undef, undef, undef, undef, undef, undef, undef, undef, undef, undef, undef, undef, undef, undef, undef, undef, undef, undef, undef, undef, undef, undef, undef, undef, undef, undef, undef, undef, undef, undef, undef, undef, undef]) rfl ?_
      refine E.seq (fun K11 hK11 => ?_)
      refine rg ?_
      refine TL.lss rfl rfl rfl ?_
      refine TL.nil ?_
      refine hK11 _ _ ?_
      refine E.norm (by simp only [List.set_cons_succ, List.set_cons_zero]; rfl) ?_
      refine E.seq (fun K12 hK12 => ?_)
      refine E.cond rfl (fun hc33 => ?_) (fun hc33 => ?_)
      · replace hp := hp.1 (of_decide_eq_true hc33)
        refine wp_skip ?_
        refine hK12 _ _ ?_
        refine E.seq (fun K13 hK13 => ?_)
        refine wp_block ?_
        refine E.seq (fun K14 hK14 => ?_)
        refine rg ?_
        obtain ⟨ho34, ho35, hp⟩ := hp
        refine TL.indexL ((hv2.mono (Gh.le_trans (hleg18) hleg30))) sl22 rfl rfl ho34 ho35 rfl ?_
        rintro b36 o37 _ ⟨v41, v42, rfl, hv41, hv42⟩ hq40
        refine TL.ldG b36 (o37 + (0)) (iaC .u8 ((nth p1 x21).fAddress) ++ ([Value.int .u64 ((nth p1 x21).fNonce)] ++ (iaC .u64 ((nth p1 x21).fBalance) ++ ([v41] ++ ([v42]))))) (fun _ h => h ▸ hst) (hq40.sub (Seg.all _)) (ta34.of (by simp)) rfl rfl ?_
        refine TL.alloc hst zv34 rfl ?_
        intro w n43 hst
        refine ⟨trivial, ?_⟩
        refine TL.norm (by simp only [List.set_cons_succ, List.set_cons_zero]; rfl) ?_
        refine TL.stA 0 n43 (0) _ (vs := iaC .u8 ((nth p1 x21).fAddress) ++ ([Value.int .u64 ((nth p1 x21).fNonce)] ++ (iaC .u64 ((nth p1 x21).fBalance) ++ ([v41] ++ ([v42]))))) hst rfl (Put.all (by simp)) (by first | rfl | omega) rfl (One.app (One.ia _ _) (One.app (One.one rfl) (One.app (One.ia _ _) (One.app (One.one (hv41).one) (One.one (hv42).one))))) (tzof tz34 (by simp)) rfl rfl ?_
        intro w hst
        refine ⟨trivial, ?_⟩
        refine TL.nil ?_
        refine hK14 _ _ ?_
        refine E.seq (fun K15 hK15 => ?_)
        refine rg ?_
        refine TL.move (Value.pointer (some ⟨n12, 0, none⟩)) rfl rfl ?_
        refine TL.fieldA (0) fa34_0 rfl (by first | rfl | omega) rfl ?_
        refine TL.ldL 0 n43 (0) (iaC .u8 ((nth p1 x21).fAddress)) (fun _ h => h ▸ hst) rfl (Seg.here _ _) (ta28.of (by simp)) rfl rfl ?_
        refine TL.norm (by simp only [List.set_cons_succ, List.set_cons_zero]; rfl) ?_
        have pm44 : ([(n43, .cells (iaC .u8 ((nth p1 x21).fAddress) ++ ([Value.int .u64 ((nth p1 x21).fNonce)] ++ (iaC .u64 ((nth p1 x21).fBalance) ++ ([v41] ++ ([v42]))))).toArray 34 (0, 0)), (n19, .cells ([v23] ++ ([v25])).toArray 51 (0, 0)), (n12, .cells ([Value.map (some x13m_fknown)] ++ ([Value.map (some x13m_ftries)])).toArray 136 (0, 0)), (x13m_fknown, q27), (x13m_ftries, q29), (n3, .cells (iaC .u8 p2).toArray 28 (0, 0)), (n10, .cells ([x17v_fl]).toArray 142 (0, 0))] ++ (x17o_fl) : List (Nat × Obj)).Perm (([(n43, .cells (iaC .u8 ((nth p1 x21).fAddress) ++ ([Value.int .u64 ((nth p1 x21).fNonce)] ++ (iaC .u64 ((nth p1 x21).fBalance) ++ ([v41] ++ ([v42]))))).toArray 34 (0, 0)), (n19, .cells ([v23] ++ ([v25])).toArray 51 (0, 0)), (n3, .cells (iaC .u8 p2).toArray 28 (0, 0)), (n10, .cells ([x17v_fl]).toArray 142 (0, 0))] ++ (x17o_fl)) ++ ([(n12, .cells ([Value.map (some x13m_fknown)] ++ ([Value.map (some x13m_ftries)])).toArray 136 (0, 0)), (x13m_fknown, q27), (x13m_ftries, q29)])) := (permC fun _ => by simp only [List.count_append, List.count_cons, List.count_nil, Nat.zero_add, Nat.add_zero] <;> ac_rfl)
        refine TL.callS #[Value.pointer (some ⟨n12, 0, none⟩), Value.agg (iaC .u8 ((nth p1 x21).fAddress)).toArray] co18 rfl (w_fork_Cache_Want m26 m28 ((nth p1 x21).fAddress) n12 x13m_fknown q27 x13m_ftries q29 g30 _ (hst.enterO pm44) hmq27 hmq29 _ hp) rfl ?_
        rintro _ w ⟨r45, x46_fknown, x46_ftries, hp, x46q_fknown, x46q_ftries, rfl, hmx46q_fknown, hmx46q_ftries, hst2⟩
        replace hst := hst.leaveO pm44 hst2 (GN.refl _ _ _)
        replace hst : St Non _ _ _ ([(n43, .cells (iaC .u8 ((nth p1 x21).fAddress) ++ ([Value.int .u64 ((nth p1 x21).fNonce)] ++ (iaC .u64 ((nth p1 x21).fBalance) ++ ([v41] ++ ([v42]))))).toArray 34 (0, 0)), (n19, .cells ([v23] ++ ([v25])).toArray 51 (0, 0)), (n3, .cells (iaC .u8 p2).toArray 28 (0, 0)), (n10, .cells ([x17v_fl]).toArray 142 (0, 0)), (n12, .cells ([Value.map (some x13m_fknown)] ++ ([Value.map (some x13m_ftries)])).toArray 136 (0, 0)), (x13m_fknown, x46q_fknown), (x13m_ftries, x46q_ftries)] ++ (x17o_fl)) := hst.perm (permC fun _ => by simp only [List.count_append, List.count_cons, List.count_nil, Nat.zero_add, Nat.add_zero] <;> ac_rfl)
        refine ⟨trivial, ?_⟩
        refine TL.nil ?_
        refine hK15 _ _ ?_
        refine E.norm (by simp only [List.set_cons_succ, List.set_cons_zero]; rfl) ?_
        refine E.seq (fun K16 hK16 => ?_)
        refine rg ?_
        refine TL.move (Value.pointer (some ⟨n12, 0, none⟩)) rfl rfl ?_
        refine TL.ldL 0 n43 (0) (iaC .u8 ((nth p1 x21).fAddress) ++ ([Value.int .u64 ((nth p1 x21).fNonce)] ++ (iaC .u64 ((nth p1 x21).fBalance) ++ ([v41] ++ ([v42]))))) (fun _ h => h ▸ hst) rfl (Seg.all _) (ta34.of (by simp)) rfl rfl ?_
        have pm47 : ([(n43, .cells (iaC .u8 ((nth p1 x21).fAddress) ++ ([Value.int .u64 ((nth p1 x21).fNonce)] ++ (iaC .u64 ((nth p1 x21).fBalance) ++ ([v41] ++ ([v42]))))).toArray 34 (0, 0)), (n19, .cells ([v23] ++ ([v25])).toArray 51 (0, 0)), (n3, .cells (iaC .u8 p2).toArray 28 (0, 0)), (n10, .cells ([x17v_fl]).toArray 142 (0, 0)), (n12, .cells ([Value.map (some x13m_fknown)] ++ ([Value.map (some x13m_ftries)])).toArray 136 (0, 0)), (x13m_fknown, x46q_fknown), (x13m_ftries, x46q_ftries)] ++ (x17o_fl) : List (Nat × Obj)).Perm (([(n43, .cells (iaC .u8 ((nth p1 x21).fAddress) ++ ([Value.int .u64 ((nth p1 x21).fNonce)] ++ (iaC .u64 ((nth p1 x21).fBalance) ++ ([v41] ++ ([v42]))))).toArray 34 (0, 0)), (n19, .cells ([v23] ++ ([v25])).toArray 51 (0, 0)), (n3, .cells (iaC .u8 p2).toArray 28 (0, 0)), (n10, .cells ([x17v_fl]).toArray 142 (0, 0))] ++ (x17o_fl)) ++ ([(n12, .cells ([Value.map (some x13m_fknown)] ++ ([Value.map (some x13m_ftries)])).toArray 136 (0, 0)), (x13m_fknown, x46q_fknown), (x13m_ftries, x46q_ftries)])) := (permC fun _ => by simp only [List.count_append, List.count_cons, List.count_nil, Nat.zero_add, Nat.add_zero] <;> ac_rfl)
        refine TL.callS #[Value.pointer (some ⟨n12, 0, none⟩), Value.agg (iaC .u8 ((nth p1 x21).fAddress) ++ ([Value.int .u64 ((nth p1 x21).fNonce)] ++ (iaC .u64 ((nth p1 x21).fBalance) ++ ([v41] ++ ([v42]))))).toArray] co20 rfl (w_fork_Cache_Fill x46_fknown x46_ftries (nth p1 x21) n12 x13m_fknown x46q_fknown x13m_ftries x46q_ftries v41 v42 g30 _ (hst.enterO pm47) hmx46q_fknown hmx46q_ftries (hv41) (hv42) _ hp) rfl ?_
        rintro _ w ⟨g50, hleg50, hgng50, r48, x49_fknown, x49_ftries, hp, x49q_fknown, x49q_ftries, rfl, hmx49q_fknown, hmx49q_ftries, hst2⟩
        replace hgn0 := hgn0.callM hst pm47 hgng50
        replace hle0 := Gh.le_trans hle0 hleg50
        replace hst := hst.leaveO pm47 hst2 hgng50
        replace hst : St Non _ _ _ ([(n43, .cells (iaC .u8 ((nth p1 x21).fAddress) ++ ([Value.int .u64 ((nth p1 x21).fNonce)] ++ (iaC .u64 ((nth p1 x21).fBalance) ++ ([v41] ++ ([v42]))))).toArray 34 (0, 0)), (n19, .cells ([v23] ++ ([v25])).toArray 51 (0, 0)), (n3, .cells (iaC .u8 p2).toArray 28 (0, 0)), (n10, .cells ([x17v_fl]).toArray 142 (0, 0)), (n12, .cells ([Value.map (some x13m_fknown)] ++ ([Value.map (some x13m_ftries)])).toArray 136 (0, 0)), (x13m_fknown, x49q_fknown), (x13m_ftries, x49q_ftries)] ++ (x17o_fl)) := hst.perm (permC fun _ => by simp only [List.count_append, List.count_cons, List.count_nil, Nat.zero_add, Nat.add_zero] <;> ac_rfl)
        refine ⟨trivial, ?_⟩
        refine TL.norm (by simp only [List.set_cons_succ, List.set_cons_zero]; rfl) ?_
        refine TL.nil ?_
        refine hK16 _ _ ?_
        refine E.seq (fun K17 hK17 => ?_)
        refine rg ?_
        refine TL.ldL 1 n19 (0) ([v23] ++ ([v25])) (fun _ h => h ▸ hst) rfl (Seg.all _) (ta51.of (by simp)) rfl rfl ?_
        refine TL.fieldA (0) fa34_0 rfl (by first | rfl | omega) rfl ?_
        refine TL.ldL 0 n43 (0) (iaC .u8 ((nth p1 x21).fAddress)) (fun _ h => h ▸ hst) rfl (Seg.here _ _) (ta28.of (by simp)) rfl rfl ?_
        refine TL.norm (by simp only [List.set_cons_succ, List.set_cons_zero]; rfl) ?_
        refine TL.callS #[Value.agg ([v23] ++ ([v25])).toArray, Value.agg (iaC .u8 ((nth p1 x21).fAddress)).toArray] co25 rfl (w_smithyref15_Cache_Want (T_smithyref15_Cache.mk xs22 xs24) ((nth p1 x21).fAddress) v23 v25 g50 _ hst.has ((hsv23.mono (hleg50))) ((hsv25.mono (hleg50))) _ hp) rfl ?_
        rintro _ w ⟨g55, hgrg55, r51, r52, hp, v53, v54, rfl, hv53, hv54⟩
        have hleg55 := hgrg55.le
        replace hgn0 := hgn0.call hgrg55.new hst.keep.size
        replace hle0 := Gh.le_trans hle0 hleg55
        replace hst := hst.callG hgrg55.keep hgrg55.has hgrg55.new
        refine ⟨trivial, ?_⟩
        refine TL.move (Value.tuple #[Value.int .u8 r51, Value.agg ([v53] ++ ([v54])).toArray]) rfl rfl ?_
        refine TL.extract (Value.int .u8 r51) rfl rfl rfl ?_
        refine TL.norm (by simp only [List.set_cons_succ, List.set_cons_zero]; rfl) ?_
        refine TL.extract (Value.agg ([v53] ++ ([v54])).toArray) rfl rfl rfl ?_
        refine TL.stA 1 n19 (0) _ (vs := [v53] ++ ([v54])) hst rfl (Put.all (by simp)) (by first | rfl | omega) rfl (One.app (One.one (hv53).one) (One.one (hv54).one)) (tzof tz51 (by simp)) rfl rfl ?_
        intro w hst
        refine ⟨trivial, ?_⟩
        refine TL.nil ?_
        refine hK17 _ _ ?_
        refine E.norm (by simp only [List.set_cons_succ, List.set_cons_zero]; rfl) ?_
        refine rg ?_
        refine TL.ldL 1 n19 (0) ([v53] ++ ([v54])) (fun _ h => h ▸ hst) rfl (Seg.all _) (ta51.of (by simp)) rfl rfl ?_
        refine TL.ldL 0 n43 (0) (iaC .u8 ((nth p1 x21).fAddress) ++ ([Value.int .u64 ((nth p1 x21).fNonce)] ++ (iaC .u64 ((nth p1 x21).fBalance) ++ ([v41] ++ ([v42]))))) (fun _ h => h ▸ hst) rfl (Seg.all _) (ta34.of (by simp)) rfl rfl ?_
        refine TL.callS #[Value.agg ([v53] ++ ([v54])).toArray, Value.agg (iaC .u8 ((nth p1 x21).fAddress) ++ ([Value.int .u64 ((nth p1 x21).fNonce)] ++ (iaC .u64 ((nth p1 x21).fBalance) ++ ([v41] ++ ([v42]))))).toArray] co26 rfl (w_smithyref15_Cache_Fill r52 (nth p1 x21) v53 v54 v41 v42 g55 _ hst.has (hv53) (hv54) ((hv41.mono (Gh.le_trans (hleg50) hleg55))) ((hv42.mono (Gh.le_trans (hleg50) hleg55))) _ hp) rfl ?_
        rintro _ w ⟨g60, hgrg60, r56, r57, hp, v58, v59, rfl, hv58, hv59⟩
        have hleg60 := hgrg60.le
        replace hgn0 := hgn0.call hgrg60.new hst.keep.size
        replace hle0 := Gh.le_trans hle0 hleg60
        replace hst := hst.callG hgrg60.keep hgrg60.has hgrg60.new
        refine ⟨trivial, ?_⟩
        refine TL.norm (by simp only [List.set_cons_succ, List.set_cons_zero]; rfl) ?_
        refine TL.move (Value.tuple #[Value.bool r56, Value.agg ([v58] ++ ([v59])).toArray]) rfl rfl ?_
        refine TL.extract (Value.bool r56) rfl rfl rfl ?_
        refine TL.extract (Value.agg ([v58] ++ ([v59])).toArray) rfl rfl rfl ?_
        refine TL.norm (by simp only [List.set_cons_succ, List.set_cons_zero]; rfl) ?_
        refine TL.stA 1 n19 (0) _ (vs := [v58] ++ ([v59])) hst rfl (Put.all (by simp)) (by first | rfl | omega) rfl (One.app (One.one (hv58).one) (One.one (hv59).one)) (tzof tz51 (by simp)) rfl rfl ?_
        intro w hst
        refine ⟨trivial, ?_⟩
        refine TL.nil ?_
        refine hK13 _ _ ?_
        refine rg ?_
        obtain ⟨ho61, hp⟩ := hp
        refine TL.add (x21 + 1) rfl rfl ⟨rfl, ho61⟩ rfl ?_
        refine TL.move (Value.int .i64 (x21 + 1)) rfl rfl ?_
        refine TL.nil ?_
        exact ⟨_, _, hp.2, rfl, (x21 + 1), r57.fKnown, r57.fAsked, x49_fknown, x49_ftries, g60, _, _, _, _, rfl, hp.1, Gh.le_trans (Gh.le_trans (Gh.le_trans (hleg30) hleg50) hleg55) hleg60, hle0, hgn0, hv58, hv59, (hmx49q_fknown.mono (Gh.le_trans (hleg55) hleg60)), (hmx49q_ftries.mono (Gh.le_trans (hleg55) hleg60)), (by first | (simp only [List.set_cons_succ, List.set_cons_zero]; exact .s rfl (.s rfl (.s rfl (.s rfl (.s rfl (.s rfl (.s rfl (.s rfl (.s rfl (.s rfl (.s rfl (.s rfl (.s rfl (.n (.s rfl (.s rfl (.s rfl (.s rfl (.s rfl (.s rfl (.s rfl (.s rfl (.s rfl (.s rfl (.s rfl (.s rfl (.s rfl (.s rfl (.s rfl (.s rfl (.s rfl (.s rfl (.s rfl (.s rfl (.s rfl (.s rfl (.s rfl (.s rfl (.s rfl (.s rfl (.s rfl (.s rfl (.n (.n (.n (.n (.n (.n (.n (.n (.n (.n (.n (.n (.n (.n (.n (.n (.n (.n (.n (.n (.n (.n (.n (.n (.s rfl (.s rfl (.s rfl (.s rfl (.s rfl (.s rfl (.s rfl (.s rfl (.s rfl (.s rfl (.s rfl (.s rfl (.s rfl (.s rfl (.s rfl (.s rfl (.s rfl (.s rfl (.s rfl (.s rfl (.s rfl (.s rfl (.s rfl (.s rfl (.s rfl (.s rfl (.s rfl (.s rfl (.s rfl (.s rfl (.s rfl (.s rfl (.s rfl (.s rfl (.s rfl (.s rfl (.s rfl (.s rfl (.s rfl (.s rfl (.s rfl (.s rfl (.s rfl (.s rfl (.s rfl (.s rfl (.s rfl (.s rfl (.s rfl (.s rfl (.z))))))))))))))))))))))))))))))))))))))))))))))))))))))))))))))))))))))))))))))))))))))))))))))))))))))))))))))))))))) | exact .s rfl (.s rfl (.s rfl (.s rfl (.s rfl (.s rfl (.s rfl (.s rfl (.s rfl (.s rfl (.s rfl (.s rfl (.s rfl (.n (.s rfl (.s rfl (.s rfl (.s rfl (.s rfl (.s rfl (.s rfl (.s rfl (.s rfl (.s rfl (.s rfl (.s rfl (.s rfl (.s rfl (.s rfl (.s rfl (.s rfl (.s rfl (.s rfl (.s rfl (.s rfl (.s rfl (.s rfl (.s rfl (.s rfl (.s rfl (.s rfl (.s rfl (.n (.n (.n (.n (.n (.n (.n (.n (.n (.n (.n (.n (.n (.n (.n (.n (.n (.n (.n (.n (.n (.n (.n (.n (.s rfl (.s rfl (.s rfl (.s rfl (.s rfl (.s rfl (.s rfl (.s rfl (.s rfl (.s rfl (.s rfl (.s rfl (.s rfl (.s rfl (.s rfl (.s rfl (.s rfl (.s rfl (.s rfl (.s rfl (.s rfl (.s rfl (.s rfl (.s rfl (.s rfl (.s rfl (.s rfl (.s rfl (.s rfl (.s rfl (.s rfl (.s rfl (.s rfl (.s rfl (.s rfl (.s rfl (.s rfl (.s rfl (.s rfl (.s rfl (.s rfl (.s rfl (.s rfl (.s rfl (.s rfl (.s rfl (.s rfl (.s rfl (.s rfl (.s rfl (.z))))))))))))))))))))))))))))))))))))))))))))))))))))))))))))))))))))))))))))))))))))))))))))))))))))))))))))))))))))), (show St _ _ _ _ ([(n19, .cells ([v58] ++ ([v59])).toArray 51 (0, 0)), (n12, .cells ([Value.map (some x13m_fknown)] ++ ([Value.map (some x13m_ftries)])).toArray 136 (0, 0)), (x13m_fknown, x49q_fknown), (x13m_ftries, x49q_ftries), (n3, .cells (iaC .u8 p2).toArray 28 (0, 0)), (n10, .cells ([x17v_fl]).toArray 142 (0, 0))] ++ (x17o_fl)) from St.perm (show St _ _ _ _ ([(n19, .cells ([v58] ++ ([v59])).toArray 51 (0, 0)), (n3, .cells (iaC .u8 p2).toArray 28 (0, 0)), (n10, .cells ([x17v_fl]).toArray 142 (0, 0)), (n12, .cells ([Value.map (some x13m_fknown)] ++ ([Value.map (some x13m_ftries)])).toArray 136 (0, 0)), (x13m_fknown, x49q_fknown), (x13m_ftries, x49q_ftries)] ++ (x17o_fl)) from hst.sub (.cons _ (.cons_cons _ (.cons_cons _ (.cons_cons _ (.cons_cons _ (.cons_cons _ (.cons_cons _ (List.Sublist.refl _))))))))) (permC fun _ => by simp only [List.count_append, List.count_cons, List.count_nil, Nat.zero_add, Nat.add_zero] <;> ac_rfl))⟩
      · replace hp := hp.2 (of_decide_eq_false hc33)
        refine wp_exit ?_
        refine hK9 _ _ ?_
        refine E.seq (fun K18 hK18 => ?_)
        obtain ⟨J64, hJ64, hp⟩ := hp
        have hJ64K : ∀ (x63 : Int) (l : List Value) (w : World), (J64 x63) → Fits [some (v1), some (v2), some (Value.agg (iaC .u8 p2).toArray), some (undef), some (undef), some (Value.pointer (some ⟨n3, 0, none⟩)), some (Value.bool false), some (Value.pointer (some ⟨n10, 0, none⟩)), some (Value.pointer (some ⟨n12, 0, none⟩)), some (Value.int .i64 x63), some (Value.int .i64 r16), some (Value.pointer (some ⟨n19, 0, none⟩)), some (undef), some ((j20 13)), some (undef), some (undef), some (undef), some (undef), some (undef), some (undef), some (undef), some (undef), some (undef), some (v1), some (Value.bool r4), some (Value.bool false), some (v2), some (Value.bool r7), some (Value.bool r7), some (undef), some (Value.pointer (some ⟨n10, 0, none⟩)), some (Value.pointer (some ⟨n12, 0, none⟩)), some (Value.tuple #[Value.int .i64 r15, Value.int .i64 r16]), some (Value.pointer (some ⟨n10, 0, none⟩)), some (v1), some (Value.tuple #[Value.int .i64 r15, Value.int .i64 r16]), some (Value.int .i64 r15), some (Value.int .i64 r16), some (Value.agg ([Value.slice none 0 0] ++ ([Value.slice none 0 0])).toArray), some (v2), some (Value.int .i64 ((p1.length : Int))), some (Value.int .i64 x21), some (Value.bool (decide (x21 < (p1.length : Int)))), some ((j20 43)), some ((j20 44)), some ((j20 45)), some ((j20 46)), some ((j20 47)), some ((j20 48)), some ((j20 49)), some ((j20 50)), some ((j20 51)), some ((j20 52)), some ((j20 53)), some ((j20 54)), some ((j20 55)), some ((j20 56)), some ((j20 57)), some ((j20 58)), some ((j20 59)), some ((j20 60)), some ((j20 61)), some ((j20 62)), some ((j20 63)), some ((j20 64)), some ((j20 65)), some (Value.int .i64 r16), some (Value.bool (decide (r16 ≠ 0))), some (undef), some (undef), some (undef), some (undef), some (undef), some (undef), some (undef), some (undef), some (undef), some (undef), some (undef), some (undef), some (undef), some (undef), some (undef), some (undef), some (undef), some (undef), some (undef), some (undef), some (undef), some (undef), some (undef), some (undef), some (undef), some (undef), some (undef), some (undef), some (undef), some (undef), some (undef), some (undef), some (undef), some (undef), some (undef), some (undef), some (undef), some (undef), some (undef), some (undef), some (undef), some (undef), some (undef), some (undef), some (undef), some (undef), some (undef), some (undef)] l → St Non w0 w g30 ([(n19, .cells ([v23] ++ ([v25])).toArray 51 (0, 0)), (n12, .cells ([Value.map (some x13m_fknown)] ++ ([Value.map (some x13m_ftries)])).toArray 136 (0, 0)), (x13m_fknown, q27), (x13m_ftries, q29), (n3, .cells (iaC .u8 p2).toArray 28 (0, 0)), (n10, .cells ([x17v_fl]).toArray 142 (0, 0))] ++ (x17o_fl)) → K18 (F l) w := by
          rintro x63 _ w hp hfit hst
          replace hp := hJ64 _ hp
          obtain ⟨jj62, rfl⟩ := hfit.ex
          refine hK18 _ _ ?_
          refine E.norm (l' := [v1, v2, Value.agg (iaC .u8 p2).toArray, undef, undef, Value.pointer (some ⟨n3, 0, none⟩), Value.bool false, Value.pointer (some ⟨n10, 0, none⟩), Value.pointer (some ⟨n12, 0, none⟩), Value.int .i64 x63, Value.int .i64 r16, Value.pointer (some ⟨n19, 0, none⟩), undef, (j20 13), undef, undef, undef, undef, undef, undef, undef, undef, undef, v1, Value.bool r4, Value.bool false, v2, Value.bool r7, Value.bool r7, undef, Value.pointer (some ⟨n10, 0, none⟩), Value.pointer (some ⟨n12, 0, none⟩), Value.tuple #[Value.int .i64 r15, Value.int .i64 r16], Value.pointer (some ⟨n10, 0, none⟩), v1, Value.tuple #[Value.int .i64 r15, Value.int .i64 r16], Value.int .i64 r15, Value.int .i64 r16, Value.agg ([Value.slice none 0 0] ++ ([Value.slice none 0 0])).toArray, v2, Value.int .i64 ((p1.length : Int)), Value.int .i64 x21, Value.bool (decide (x21 < (p1.length : Int))), (j20 43), (j20 44), (j20 45), (j20 46), (j20 47), (j20 48), (j20 49), (j20 50), (j20 51), (j20 52), (j20 53), (j20 54), (j20 55), (j20 56), (j20 57), (j20 58), (j20 59), (j20 60), (j20 61), (j20 62), (j20 63), (j20 64), (j20 65), Value.int .i64 r16, Value.bool (decide (r16 ≠ 0)), undef, undef, undef, undef, undef, undef, undef, undef, undef, undef, undef, undef, undef, undef, undef, undef, undef, undef, undef, undef, undef, undef, undef, undef, undef, undef, undef, undef, undef, undef, undef, undef, undef, undef, undef, undef, undef, undef, undef, undef, undef, undef, undef, undef, undef, undef, undef, undef]) rfl ?_
          refine E.seq (fun K19 hK19 => ?_)
          refine rg ?_
          refine TL.ldL 4 n3 (0) (iaC .u8 p2) (fun _ h => h ▸ hst) rfl (Seg.all _) (ta28.of (by simp)) rfl rfl ?_
          refine TL.buildS (ps := [(0, Value.agg (iaC .u8 p2).toArray)]) bs34 zv34 rfl (Fl.cons (vs := iaC .u8 p2) (by simp) rfl (Put.here (by simp)) (Fl.nil _)) rfl ?_
          refine TL.alloc hst zv34 rfl ?_
          intro w n65 hst
          refine ⟨trivial, ?_⟩
          refine TL.norm (by simp only [List.set_cons_succ, List.set_cons_zero]; rfl) ?_
          refine TL.stA 0 n65 (0) _ (vs := iaC .u8 p2 ++ ([Value.int .u64 0] ++ (iaC .u64 (Ar.zero 4) ++ ([Value.slice none 0 0] ++ ([Value.slice none 0 0]))))) hst rfl (Put.all (by simp)) (by first | rfl | omega) rfl (One.app (One.ia _ _) (One.app (One.one rfl) (One.app (One.ia _ _) (One.app (One.one rfl) (One.one rfl))))) (tzof tz34 (by simp)) rfl rfl ?_
          intro w hst
          refine ⟨trivial, ?_⟩
          refine TL.assign (Value.bool false) rfl rfl ?_
          refine TL.nil ?_
          refine hK19 _ _ ?_
          refine E.norm (by simp only [List.set_cons_succ, List.set_cons_zero]; rfl) ?_
          refine E.seq (fun K20 hK20 => ?_)
          obtain ⟨J75, hJ75, hp⟩ := hp
          have hJ75K : ∀ (x67 : Bool) (a68 : Ar 20) (x69 : Int) (a70 : Ar 4) (xs71 : List Int) (xs73 : List T_api_Slot) (v72 : Value) (v74 : Value) (l : List Value) (w : World), (J75 x67 a68 x69 a70 xs71 xs73) → (Sl (rtI .u8) g30 xs71 v72) → (Sl rT_api_Slot g30 xs73 v74) → Fits [some (v1), some (v2), some (Value.agg (iaC .u8 p2).toArray), some (undef), some (undef), some (Value.pointer (some ⟨n3, 0, none⟩)), some (Value.bool false), some (Value.pointer (some ⟨n10, 0, none⟩)), some (Value.pointer (some ⟨n12, 0, none⟩)), some (Value.int .i64 x63), some (Value.int .i64 r16), some (Value.pointer (some ⟨n19, 0, none⟩)), some (undef), some ((j20 13)), some (Value.pointer (some ⟨n65, 0, none⟩)), some (Value.bool x67), none, none, some (undef), some (undef), some (undef), some (undef), some (undef), some (v1), some (Value.bool r4), some (Value.bool false), some (v2), some (Value.bool r7), some (Value.bool r7), some (undef), some (Value.pointer (some ⟨n10, 0, none⟩)), some (Value.pointer (some ⟨n12, 0, none⟩)), some (Value.tuple #[Value.int .i64 r15, Value.int .i64 r16]), some (Value.pointer (some ⟨n10, 0, none⟩)), some (v1), some (Value.tuple #[Value.int .i64 r15, Value.int .i64 r16]), some (Value.int .i64 r15), some (Value.int .i64 r16), some (Value.agg ([Value.slice none 0 0] ++ ([Value.slice none 0 0])).toArray), some (v2), some (Value.int .i64 ((p1.length : Int))), some (Value.int .i64 x21), some (Value.bool (decide (x21 < (p1.length : Int)))), some ((j20 43)), some ((j20 44)), some ((j20 45)), some ((j20 46)), some ((j20 47)), some ((j20 48)), some ((j20 49)), some ((j20 50)), some ((j20 51)), some ((j20 52)), some ((j20 53)), some ((j20 54)), some ((j20 55)), some ((j20 56)), some ((j20 57)), some ((j20 58)), some ((j20 59)), some ((j20 60)), some ((j20 61)), some ((j20 62)), some ((j20 63)), some ((j20 64)), some ((j20 65)), some (Value.int .i64 r16), some (Value.bool (decide (r16 ≠ 0))), some (Value.agg (iaC .u8 p2).toArray), some (Value.agg (iaC .u8 p2 ++ ([Value.int .u64 0] ++ (iaC .u64 (Ar.zero 4) ++ ([Value.slice none 0 0] ++ ([Value.slice none 0 0]))))).toArray), none, some (Value.pointer (some ⟨n19, 0, none⟩)), some (v23), some (Value.agg (iaC .u8 p2).toArray), none, none, none, none, none, some (undef), some (undef), some (undef), some (undef), some (undef), some (undef), some (undef), some (undef), some (undef), some (undef), some (undef), some (undef), some (undef), some (undef), some (undef), some (undef), some (undef), some (undef), some (undef), some (undef), some (undef), some (undef), some (undef), some (undef), some (undef), some (undef), some (undef), some (undef), some (undef), some (undef), some (undef), some (undef), some (undef), some (undef), some (undef), some (undef), some (undef)] l → St Non w0 w g30 ([(n65, .cells (iaC .u8 a68 ++ ([Value.int .u64 x69] ++ (iaC .u64 a70 ++ ([v72] ++ ([v74]))))).toArray 34 (0, 0)), (n12, .cells ([Value.map (some x13m_fknown)] ++ ([Value.map (some x13m_ftries)])).toArray 136 (0, 0)), (x13m_fknown, q27), (x13m_ftries, q29), (n3, .cells (iaC .u8 p2).toArray 28 (0, 0)), (n10, .cells ([x17v_fl]).toArray 142 (0, 0))] ++ (x17o_fl)) → K20 (F l) w := by
            rintro x67 a68 x69 a70 xs71 xs73 v72 v74 _ w hp hsv72 hsv74 hfit hst
            replace hp := hJ75 _ _ _ _ _ _ hp
            obtain ⟨jj66, rfl⟩ := hfit.ex
            refine hK20 _ _ ?_
            refine E.norm (l' := [v1, v2, Value.agg (iaC .u8 p2).toArray, undef, undef, Value.pointer (some ⟨n3, 0, none⟩), Value.bool false, Value.pointer (some ⟨n10, 0, none⟩), Value.pointer (some ⟨n12, 0, none⟩), Value.int .i64 x63, Value.int .i64 r16, Value.pointer (some ⟨n19, 0, none⟩), undef, (j20 13), Value.pointer (some ⟨n65, 0, none⟩), Value.bool x67, (jj66 16), (jj66 17), undef, undef, undef, undef, undef, v1, Value.bool r4, Value.bool false, v2, Value.bool r7, Value.bool r7, undef, Value.pointer (some ⟨n10, 0, none⟩), Value.pointer (some ⟨n12, 0, none⟩), Value.tuple #[Value.int .i64 r15, Value.int .i64 r16], Value.pointer (some ⟨n10, 0, none⟩), v1, Value.tuple #[Value.int .i64 r15, Value.int .i64 r16], Value.int .i64 r15, Value.int .i64 r16, Value.agg ([Value.slice none 0 0] ++ ([Value.slice none 0 0])).toArray, v2, Value.int .i64 ((p1.length : Int)), Value.int .i64 x21, Value.bool (decide (x21 < (p1.length : Int))), (j20 43), (j20 44), (j20 45), (j20 46), (j20 47), (j20 48), (j20 49), (j20 50), (j20 51), (j20 52), (j20 53), (j20 54), (j20 55), (j20 56), (j20 57), (j20 58), (j20 59), (j20 60), (j20 61), (j20 62), (j20 63), (j20 64), (j20 65), Value.int .i64 r16, Value.bool (decide (r16 ≠ 0)), Value.agg (iaC .u8 p2).toArray, Value.agg (iaC .u8 p2 ++ ([Value.int .u64 0] ++ (iaC .u64 (Ar.zero 4) ++ ([Value.slice none 0 0] ++ ([Value.slice none 0 0]))))).toArray, (jj66 70), Value.pointer (some ⟨n19, 0, none⟩), v23, Value.agg (iaC .u8 p2).toArray, (jj66 74), (jj66 75), (jj66 76), (jj66 77), (jj66 78), undef, undef, undef, undef, undef, undef, undef, undef, undef, undef, undef, undef, undef, undef, undef, undef, undef, undef, undef, undef, undef, undef, undef, undef, undef, undef, undef, undef, undef, undef, undef, undef, undef, undef, undef, undef, undef]) rfl ?_
            refine E.seq (fun K21 hK21 => ?_)
            obtain ⟨J85, hJ85, hp⟩ := hp
            have hJ85K : ∀ (x77 : Bool) (a78 : Ar 20) (x79 : Int) (a80 : Ar 4) (xs81 : List Int) (xs83 : List T_api_Slot) (v82 : Value) (v84 : Value) (l : List Value) (w : World), (J85 x77 a78 x79 a80 xs81 xs83) → (Sl (rtI .u8) g30 xs81 v82) → (Sl rT_api_Slot g30 xs83 v84) → Fits [some (v1), some (v2), some (Value.agg (iaC .u8 p2).toArray), some (undef), some (undef), some (Value.pointer (some ⟨n3, 0, none⟩)), some (Value.bool false), some (Value.pointer (some ⟨n10, 0, none⟩)), some (Value.pointer (some ⟨n12, 0, none⟩)), some (Value.int .i64 x63), some (Value.int .i64 r16), some (Value.pointer (some ⟨n19, 0, none⟩)), some (undef), some ((j20 13)), some (Value.pointer (some ⟨n65, 0, none⟩)), some (Value.bool x77), some ((jj66 16)), some ((jj66 17)), some (undef), none, some (undef), some (undef), some (undef), some (v1), some (Value.bool r4), some (Value.bool false), some (v2), some (Value.bool r7), some (Value.bool r7), some (undef), some (Value.pointer (some ⟨n10, 0, none⟩)), some (Value.pointer (some ⟨n12, 0, none⟩)), some (Value.tuple #[Value.int .i64 r15, Value.int .i64 r16]), some (Value.pointer (some ⟨n10, 0, none⟩)), some (v1), some (Value.tuple #[Value.int .i64 r15, Value.int .i64 r16]), some (Value.int .i64 r15), some (Value.int .i64 r16), some (Value.agg ([Value.slice none 0 0] ++ ([Value.slice none 0 0])).toArray), some (v2), some (Value.int .i64 ((p1.length : Int))), some (Value.int .i64 x21), some (Value.bool (decide (x21 < (p1.length : Int)))), some ((j20 43)), some ((j20 44)), some ((j20 45)), some ((j20 46)), some ((j20 47)), some ((j20 48)), some ((j20 49)), some ((j20 50)), some ((j20 51)), some ((j20 52)), some ((j20 53)), some ((j20 54)), some ((j20 55)), some ((j20 56)), some ((j20 57)), some ((j20 58)), some ((j20 59)), some ((j20 60)), some ((j20 61)), some ((j20 62)), some ((j20 63)), some ((j20 64)), some ((j20 65)), some (Value.int .i64 r16), some (Value.bool (decide (r16 ≠ 0))), some (Value.agg (iaC .u8 p2).toArray), some (Value.agg (iaC .u8 p2 ++ ([Value.int .u64 0] ++ (iaC .u64 (Ar.zero 4) ++ ([Value.slice none 0 0] ++ ([Value.slice none 0 0]))))).toArray), some ((jj66 70)), some (Value.pointer (some ⟨n19, 0, none⟩)), some (v23), some (Value.agg (iaC .u8 p2).toArray), some ((jj66 74)), some ((jj66 75)), some ((jj66 76)), some ((jj66 77)), some ((jj66 78)), some (Value.int .i64 r16), some (Value.bool (decide (r16 = 0))), none, none, none, none, none, none, none, none, none, none, none, none, some (undef), some (undef), some (undef), some (undef), some (undef), some (undef), some (undef), some (undef), some (undef), some (undef), some (undef), some (undef), some (undef), some (undef), some (undef), some (undef), some (undef), some (undef), some (undef), some (undef), some (undef), some (undef), some (undef)] l → St Non w0 w g30 ([(n65, .cells (iaC .u8 a78 ++ ([Value.int .u64 x79] ++ (iaC .u64 a80 ++ ([v82] ++ ([v84]))))).toArray 34 (0, 0)), (n12, .cells ([Value.map (some x13m_fknown)] ++ ([Value.map (some x13m_ftries)])).toArray 136 (0, 0)), (x13m_fknown, q27), (x13m_ftries, q29), (n3, .cells (iaC .u8 p2).toArray 28 (0, 0)), (n10, .cells ([x17v_fl]).toArray 142 (0, 0))] ++ (x17o_fl)) → K21 (F l) w := by
              rintro x77 a78 x79 a80 xs81 xs83 v82 v84 _ w hp hsv82 hsv84 hfit hst
              replace hp := hJ85 _ _ _ _ _ _ hp
              obtain ⟨jj76, rfl⟩ := hfit.ex
              refine hK21 _ _ ?_
              refine E.norm (l' := [v1, v2, Value.agg (iaC .u8 p2).toArray, undef, undef, Value.pointer (some ⟨n3, 0, none⟩), Value.bool false, Value.pointer (some ⟨n10, 0, none⟩), Value.pointer (some ⟨n12, 0, none⟩), Value.int .i64 x63, Value.int .i64 r16, Value.pointer (some ⟨n19, 0, none⟩), undef, (j20 13), Value.pointer (some ⟨n65, 0, none⟩), Value.bool x77, (jj66 16), (jj66 17), undef, (jj76 19), undef, undef, undef, v1, Value.bool r4, Value.bool false, v2, Value.bool r7, Value.bool r7, undef, Value.pointer (some ⟨n10, 0, none⟩), Value.pointer (some ⟨n12, 0, none⟩), Value.tuple #[Value.int .i64 r15, Value.int .i64 r16], Value.pointer (some ⟨n10, 0, none⟩), v1, Value.tuple #[Value.int .i64 r15, Value.int .i64 r16], Value.int .i64 r15, Value.int .i64 r16, Value.agg ([Value.slice none 0 0] ++ ([Value.slice none 0 0])).toArray, v2, Value.int .i64 ((p1.length : Int)), Value.int .i64 x21, Value.bool (decide (x21 < (p1.length : Int))), (j20 43), (j20 44), (j20 45), (j20 46), (j20 47), (j20 48), (j20 49), (j20 50), (j20 51), (j20 52), (j20 53), (j20 54), (j20 55), (j20 56), (j20 57), (j20 58), (j20 59), (j20 60), (j20 61), (j20 62), (j20 63), (j20 64), (j20 65), Value.int .i64 r16, Value.bool (decide (r16 ≠ 0)), Value.agg (iaC .u8 p2).toArray, Value.agg (iaC .u8 p2 ++ ([Value.int .u64 0] ++ (iaC .u64 (Ar.zero 4) ++ ([Value.slice none 0 0] ++ ([Value.slice none 0 0]))))).toArray, (jj66 70), Value.pointer (some ⟨n19, 0, none⟩), v23, Value.agg (iaC .u8 p2).toArray, (jj66 74), (jj66 75), (jj66 76), (jj66 77), (jj66 78), Value.int .i64 r16, Value.bool (decide (r16 = 0)), (jj76 81), (jj76 82), (jj76 83), (jj76 84), (jj76 85), (jj76 86), (jj76 87), (jj76 88), (jj76 89), (jj76 90), (jj76 91), (jj76 92), undef, undef, undef, undef, undef, undef, undef, undef, undef, undef, undef, undef, undef, undef, undef, undef, undef, undef, undef, undef, undef, undef, undef]) rfl ?_
              refine E.seq (fun K22 hK22 => ?_)
              refine rg ?_
              refine TL.move (Value.pointer (some ⟨n10, 0, none⟩)) rfl rfl ?_
              refine TL.move (Value.int .i64 x63) rfl rfl ?_
              refine TL.move (Value.pointer (some ⟨n12, 0, none⟩)) rfl rfl ?_
              refine TL.norm (by simp only [List.set_cons_succ, List.set_cons_zero]; rfl) ?_
              refine TL.callS #[Value.pointer (some ⟨n10, 0, none⟩), Value.int .i64 x63, Value.pointer (some ⟨n12, 0, none⟩)] co27 rfl (w_fork_Over x63 n10 n12 g30 _ hst.has _ hp) rfl ?_
              rintro _ w ⟨hk, hp, rfl⟩
              replace hst := hst.call hk
              refine ⟨trivial, ?_⟩
              refine TL.assign (Value.iface 148 (Value.agg ([Value.pointer (some ⟨n10, 0, none⟩)] ++ ([Value.int .i64 x63] ++ ([Value.pointer (some ⟨n12, 0, none⟩)]))).toArray)) rfl rfl ?_
              refine TL.nil ?_
              refine hK22 _ _ ?_
              refine E.norm (by simp only [List.set_cons_succ, List.set_cons_zero]; rfl) ?_
              refine E.seq (fun K23 hK23 => ?_)
              refine E.seq (fun K24 hK24 => ?_)
              refine rg ?_
              refine TL.move (Value.iface 148 (Value.agg ([Value.pointer (some ⟨n10, 0, none⟩)] ++ ([Value.int .i64 x63] ++ ([Value.pointer (some ⟨n12, 0, none⟩)]))).toArray)) rfl rfl ?_
              refine TL.ifaceNil false Try.underlying57 rfl rfl (.inl ⟨rfl, rfl⟩) rfl ?_
              refine TL.nil ?_
              refine hK24 _ _ ?_
              refine E.norm (by simp only [List.set_cons_succ, List.set_cons_zero]; rfl) ?_
              refine E.condF rfl ?_
              refine wp_skip ?_
              refine hK23 _ _ ?_
              refine E.seq (fun K25 hK25 => ?_)
              refine rg ?_
              refine TL.move (Value.iface 148 (Value.agg ([Value.pointer (some ⟨n10, 0, none⟩)] ++ ([Value.int .i64 x63] ++ ([Value.pointer (some ⟨n12, 0, none⟩)]))).toArray)) rfl rfl ?_
              refine TL.ldL 4 n3 (0) (iaC .u8 p2) (fun _ h => h ▸ hst) rfl (Seg.all _) (ta28.of (by simp)) rfl rfl ?_
              have pm86 : ([(n65, .cells (iaC .u8 a78 ++ ([Value.int .u64 x79] ++ (iaC .u64 a80 ++ ([v82] ++ ([v84]))))).toArray 34 (0, 0)), (n12, .cells ([Value.map (some x13m_fknown)] ++ ([Value.map (some x13m_ftries)])).toArray 136 (0, 0)), (x13m_fknown, q27), (x13m_ftries, q29), (n3, .cells (iaC .u8 p2).toArray 28 (0, 0)), (n10, .cells ([x17v_fl]).toArray 142 (0, 0))] ++ (x17o_fl) : List (Nat × Obj)).Perm (([(n65, .cells (iaC .u8 a78 ++ ([Value.int .u64 x79] ++ (iaC .u64 a80 ++ ([v82] ++ ([v84]))))).toArray 34 (0, 0)), (n3, .cells (iaC .u8 p2).toArray 28 (0, 0))]) ++ ([(n10, .cells ([x17v_fl]).toArray 142 (0, 0)), (n12, .cells ([Value.map (some x13m_fknown)] ++ ([Value.map (some x13m_ftries)])).toArray 136 (0, 0)), (x13m_fknown, q27), (x13m_ftries, q29)] ++ (x17o_fl))) := (permC fun _ => by simp only [List.count_append, List.count_cons, List.count_nil, Nat.zero_add, Nat.add_zero] <;> ac_rfl)
              refine TL.callI #[Value.agg (iaC .u8 p2).toArray] #[Value.agg ([Value.pointer (some ⟨n10, 0, none⟩)] ++ ([Value.int .i64 x63] ++ ([Value.pointer (some ⟨n12, 0, none⟩)]))).toArray, Value.agg (iaC .u8 p2).toArray] rfl rfl (by kernel_rfl) (w_fork_over_Account x17_fl x63 m26 m28 p2 n10 x17v_fl x17o_fl n12 x13m_fknown q27 x13m_ftries q29 g30 _ (hst.enterO pm86) (hx17v_fl.mono (hleg30)) hmq27 hmq29 _ hp) rfl ?_
              rintro _ w ⟨g93, hleg93, hgng93, r87, r90, x91_fl, x92_fknown, x92_ftries, hp, v88, v89, x91v_fl, x91o_fl, x92q_fknown, x92q_ftries, rfl, hv88, hv89, hx91v_fl, hmx92q_fknown, hmx92q_ftries, hst2⟩
              replace hgn0 := hgn0.callM hst pm86 hgng93
              replace hle0 := Gh.le_trans hle0 hleg93
              replace hst := hst.leaveO pm86 hst2 hgng93
              replace hst : St Non _ _ _ ([(n65, .cells (iaC .u8 a78 ++ ([Value.int .u64 x79] ++ (iaC .u64 a80 ++ ([v82] ++ ([v84]))))).toArray 34 (0, 0)), (n3, .cells (iaC .u8 p2).toArray 28 (0, 0)), (n10, .cells ([x91v_fl]).toArray 142 (0, 0)), (n12, .cells ([Value.map (some x13m_fknown)] ++ ([Value.map (some x13m_ftries)])).toArray 136 (0, 0)), (x13m_fknown, x92q_fknown), (x13m_ftries, x92q_ftries)] ++ (x91o_fl)) := hst.perm (permC fun _ => by simp only [List.count_append, List.count_cons, List.count_nil, Nat.zero_add, Nat.add_zero] <;> ac_rfl)
              refine ⟨trivial, ?_⟩
              refine TL.norm (by simp only [List.set_cons_succ, List.set_cons_zero]; rfl) ?_
              refine TL.move (Value.tuple #[Value.agg (iaC .u8 r87.fAddress ++ ([Value.int .u64 r87.fNonce] ++ (iaC .u64 r87.fBalance ++ ([v88] ++ ([v89]))))).toArray, Value.bool r90]) rfl rfl ?_
              refine TL.extract (Value.agg (iaC .u8 r87.fAddress ++ ([Value.int .u64 r87.fNonce] ++ (iaC .u64 r87.fBalance ++ ([v88] ++ ([v89]))))).toArray) rfl rfl rfl ?_
              refine TL.extract (Value.bool r90) rfl rfl rfl ?_
              refine TL.norm (by simp only [List.set_cons_succ, List.set_cons_zero]; rfl) ?_
              refine TL.alloc hst zv34 rfl ?_
              intro w n94 hst
              refine ⟨trivial, ?_⟩
              refine TL.stA 0 n94 (0) _ (vs := iaC .u8 r87.fAddress ++ ([Value.int .u64 r87.fNonce] ++ (iaC .u64 r87.fBalance ++ ([v88] ++ ([v89]))))) hst rfl (Put.all (by simp)) (by first | rfl | omega) rfl (One.app (One.ia _ _) (One.app (One.one rfl) (One.app (One.ia _ _) (One.app (One.one (hv88).one) (One.one (hv89).one))))) (tzof tz34 (by simp)) rfl rfl ?_
              intro w hst
              refine ⟨trivial, ?_⟩
              refine TL.assign (Value.bool r90) rfl rfl ?_
              refine TL.nil ?_
              refine hK25 _ _ ?_
              refine E.norm (by simp only [List.set_cons_succ, List.set_cons_zero]; rfl) ?_
              refine E.seq (fun K26 hK26 => ?_)
              refine rg ?_
              refine TL.callS #[] co14 rfl (w_smithylaw15_fixed g93 _ hst.has _ hp) rfl ?_
              rintro _ w ⟨hk, r95, hp, rfl⟩
              replace hst := hst.call hk
              refine ⟨trivial, ?_⟩
              refine TL.move (Value.bool r95) rfl rfl ?_
              refine TL.case 106 (r95) rfl (fun hc96 => ?_) (fun hc96 => ?_)
              · replace hp := hp.1 (hc96)
                refine TL.norm (by simp only [List.set_cons_succ, List.set_cons_zero]; rfl) ?_
                refine TL.move (Value.bool r90) rfl rfl ?_
                refine TL.move (Value.bool x77) rfl rfl ?_
                refine TL.eqlB rfl rfl rfl Try.underlying4 ?_
                refine TL.norm (by simp only [List.set_cons_succ, List.set_cons_zero]; rfl) ?_
                refine TL.pick (Value.bool (decide (r90 = x77))) rfl rfl rfl ?_
                refine TL.move (Value.bool (decide (r90 = x77))) rfl rfl ?_
                refine TL.case 111 (decide (r90 = x77)) rfl (fun hc97 => ?_) (fun hc97 => ?_)
                · replace hp := hp.1 (of_decide_eq_true hc97)
                  refine TL.norm (by simp only [List.set_cons_succ, List.set_cons_zero]; rfl) ?_
                  refine TL.ldL 0 n94 (0) (iaC .u8 r87.fAddress ++ ([Value.int .u64 r87.fNonce] ++ (iaC .u64 r87.fBalance ++ ([v88] ++ ([v89]))))) (fun _ h => h ▸ hst) rfl (Seg.all _) (ta34.of (by simp)) rfl rfl ?_
                  refine TL.ldL 1 n65 (0) (iaC .u8 a78 ++ ([Value.int .u64 x79] ++ (iaC .u64 a80 ++ ([v82] ++ ([v84]))))) (fun _ h => h ▸ hst) rfl (Seg.all _) (ta34.of (by simp)) rfl rfl ?_
                  refine TL.callS #[Value.agg (iaC .u8 r87.fAddress ++ ([Value.int .u64 r87.fNonce] ++ (iaC .u64 r87.fBalance ++ ([v88] ++ ([v89]))))).toArray, Value.agg (iaC .u8 a78 ++ ([Value.int .u64 x79] ++ (iaC .u64 a80 ++ ([v82] ++ ([v84]))))).toArray] co22 rfl (w_smithyref13_Same r87 (T_api_Account.mk a78 x79 a80 xs81 xs83) v88 v89 v82 v84 g93 _ hst.has (hv88) (hv89) ((hsv82.mono (hleg93))) ((hsv84.mono (hleg93))) _ hp) rfl ?_
                  rintro _ w ⟨hk, r98, hp, rfl⟩
                  replace hst := hst.call hk
                  refine ⟨trivial, ?_⟩
                  refine TL.norm (by simp only [List.set_cons_succ, List.set_cons_zero]; rfl) ?_
                  refine TL.pick (Value.bool r98) rfl rfl rfl ?_
                  refine TL.assign (Value.bool r98) rfl rfl ?_
                  refine TL.nil ?_
                  refine hK26 _ _ ?_
                  refine E.norm (by simp only [List.set_cons_succ, List.set_cons_zero]; rfl) ?_
                  refine wp_ret ?_
                  refine E.ret _ (Rs.t (Value.bool r98) rfl rfl) ?_
                  exact ⟨g93, ⟨hst.keep, hst.has, hle0, hgn0.new⟩, r98, hp, rfl⟩
                · replace hp := hp.2 (of_decide_eq_false hc97)
                  refine TL.norm (by simp only [List.set_cons_succ, List.set_cons_zero]; rfl) ?_
                  refine TL.noU rfl trivial rfl ?_
                  refine TL.noU rfl trivial rfl ?_
                  refine TL.noU rfl trivial rfl ?_
                  refine TL.pick (Value.bool false) rfl rfl rfl ?_
                  refine TL.assign (Value.bool false) rfl rfl ?_
                  refine TL.nil ?_
                  refine hK26 _ _ ?_
                  refine E.norm (by simp only [List.set_cons_succ, List.set_cons_zero]; rfl) ?_
                  refine wp_ret ?_
                  refine E.ret _ (Rs.t (Value.bool false) rfl rfl) ?_
                  exact ⟨g93, ⟨hst.keep, hst.has, hle0, hgn0.new⟩, false, hp, rfl⟩
              · replace hp := hp.2 (hc96)
                refine TL.norm (by simp only [List.set_cons_succ, List.set_cons_zero]; rfl) ?_
                refine TL.noU rfl trivial rfl ?_
                refine TL.noU rfl trivial rfl ?_
                refine TL.noU rfl trivial rfl ?_
                refine TL.pick (Value.bool false) rfl rfl rfl ?_
                refine TL.move (Value.bool false) rfl rfl ?_
                refine TL.noU rfl trivial rfl ?_
                refine TL.noU rfl trivial rfl ?_
                refine TL.noU rfl trivial rfl ?_
                refine TL.pick (Value.bool false) rfl rfl rfl ?_
                refine TL.norm (by simp only [List.set_cons_succ, List.set_cons_zero]; rfl) ?_
                refine TL.assign (Value.bool false) rfl rfl ?_
                refine TL.nil ?_
                refine hK26 _ _ ?_
                refine E.norm (by simp only [List.set_cons_succ, List.set_cons_zero]; rfl) ?_
                refine wp_ret ?_
                refine E.ret _ (Rs.t (Value.bool false) rfl rfl) ?_
                exact ⟨g93, ⟨hst.keep, hst.has, hle0, hgn0.new⟩, false, hp, rfl⟩
            refine E.seq (fun K27 hK27 => ?_)
            refine rg ?_
            refine TL.move (Value.int .i64 r16) rfl rfl ?_
            refine TL.eqlD rfl rfl rfl ?_
            refine TL.nil ?_
            refine hK27 _ _ ?_
            refine E.norm (by simp only [List.set_cons_succ, List.set_cons_zero]; rfl) ?_
            refine E.cond rfl (fun hc99 => ?_) (fun hc99 => ?_)
            · replace hp := hp.1 (of_decide_eq_true hc99)
              refine E.seq (fun K28 hK28 => ?_)
              refine rg ?_
              refine TL.move (v1) rfl rfl ?_
              refine TL.lenL ((hv1.mono (Gh.le_trans (hleg18) hleg30))) Try.underlying22 rfl rfl ?_
              refine TL.move (Value.int .i64 0) rfl rfl ?_
              refine TL.norm (by simp only [List.set_cons_succ, List.set_cons_zero]; rfl) ?_
              refine TL.nil ?_
              refine hK28 _ _ ?_
              refine wp_block ?_
              obtain ⟨I110, m111, hI0, hI⟩ := hp
              refine E.loop (fun mm l w => ∃ (x101 : Bool) (x102 : Int) (a103 : Ar 20) (x104 : Int) (a105 : Ar 4) (xs106 : List Int) (xs108 : List T_api_Slot) (v107 : Value) (v109 : Value), (mm = m111 x101 x102 a103 x104 a105 xs106 xs108) ∧ (I110 x101 x102 a103 x104 a105 xs106 xs108) ∧ (Sl (rtI .u8) g30 xs106 v107) ∧ (Sl rT_api_Slot g30 xs108 v109) ∧ Fits [some (v1), some (v2), some (Value.agg (iaC .u8 p2).toArray), some (undef), some (undef), some (Value.pointer (some ⟨n3, 0, none⟩)), some (Value.bool false), some (Value.pointer (some ⟨n10, 0, none⟩)), some (Value.pointer (some ⟨n12, 0, none⟩)), some (Value.int .i64 x63), some (Value.int .i64 r16), some (Value.pointer (some ⟨n19, 0, none⟩)), some (undef), some ((j20 13)), some (Value.pointer (some ⟨n65, 0, none⟩)), some (Value.bool x101), some ((jj66 16)), some ((jj66 17)), some (undef), none, some (undef), some (undef), some (undef), some (v1), some (Value.bool r4), some (Value.bool false), some (v2), some (Value.bool r7), some (Value.bool r7), some (undef), some (Value.pointer (some ⟨n10, 0, none⟩)), some (Value.pointer (some ⟨n12, 0, none⟩)), some (Value.tuple #[Value.int .i64 r15, Value.int .i64 r16]), some (Value.pointer (some ⟨n10, 0, none⟩)), some (v1), some (Value.tuple #[Value.int .i64 r15, Value.int .i64 r16]), some (Value.int .i64 r15), some (Value.int .i64 r16), some (Value.agg ([Value.slice none 0 0] ++ ([Value.slice none 0 0])).toArray), some (v2), some (Value.int .i64 ((p1.length : Int))), some (Value.int .i64 x21), some (Value.bool (decide (x21 < (p1.length : Int)))), some ((j20 43)), some ((j20 44)), some ((j20 45)), some ((j20 46)), some ((j20 47)), some ((j20 48)), some ((j20 49)), some ((j20 50)), some ((j20 51)), some ((j20 52)), some ((j20 53)), some ((j20 54)), some ((j20 55)), some ((j20 56)), some ((j20 57)), some ((j20 58)), some ((j20 59)), some ((j20 60)), some ((j20 61)), some ((j20 62)), some ((j20 63)), some ((j20 64)), some ((j20 65)), some (Value.int .i64 r16), some (Value.bool (decide (r16 ≠ 0))), some (Value.agg (iaC .u8 p2).toArray), some (Value.agg (iaC .u8 p2 ++ ([Value.int .u64 0] ++ (iaC .u64 (Ar.zero 4) ++ ([Value.slice none 0 0] ++ ([Value.slice none 0 0]))))).toArray), some ((jj66 70)), some (Value.pointer (some ⟨n19, 0, none⟩)), some (v23), some (Value.agg (iaC .u8 p2).toArray), some ((jj66 74)), some ((jj66 75)), some ((jj66 76)), some ((jj66 77)), some ((jj66 78)), some (Value.int .i64 r16), some (Value.bool (decide (r16 = 0))), some (v1), some (Value.int .i64 ((p0.length : Int))), some (Value.int .i64 x102), none, none, none, none, none, none, none, none, none, some (undef), some (undef), some (undef), some (undef), some (undef), some (undef), some (undef), some (undef), some (undef), some (undef), some (undef), some (undef), some (undef), some (undef), some (undef), some (undef), some (undef), some (undef), some (undef), some (undef), some (undef), some (undef), some (undef)] l ∧ St Non w0 w g30 ([(n65, .cells (iaC .u8 a103 ++ ([Value.int .u64 x104] ++ (iaC .u64 a105 ++ ([v107] ++ ([v109]))))).toArray 34 (0, 0)), (n12, .cells ([Value.map (some x13m_fknown)] ++ ([Value.map (some x13m_ftries)])).toArray 136 (0, 0)), (x13m_fknown, q27), (x13m_ftries, q29), (n3, .cells (iaC .u8 p2).toArray 28 (0, 0)), (n10, .cells ([x17v_fl]).toArray 142 (0, 0))] ++ (x17o_fl))) _ ⟨x67, 0, a68, x69, a70, xs71, xs73, _, _, rfl, hI0, hsv72, hsv74, (by first | (simp only [List.set_cons_succ, List.set_cons_zero]; exact .s rfl (.s rfl (.s rfl (.s rfl (.s rfl (.s rfl (.s rfl (.s rfl (.s rfl (.s rfl (.s rfl (.s rfl (.s rfl (.s rfl (.s rfl (.s rfl (.s rfl (.s rfl (.s rfl (.n (.s rfl (.s rfl (.s rfl (.s rfl (.s rfl (.s rfl (.s rfl (.s rfl (.s rfl (.s rfl (.s rfl (.s rfl (.s rfl (.s rfl (.s rfl (.s rfl (.s rfl (.s rfl (.s rfl (.s rfl (.s rfl (.s rfl (.s rfl (.s rfl (.s rfl (.s rfl (.s rfl (.s rfl (.s rfl (.s rfl (.s rfl (.s rfl (.s rfl (.s rfl (.s rfl (.s rfl (.s rfl (.s rfl (.s rfl (.s rfl (.s rfl (.s rfl (.s rfl (.s rfl (.s rfl (.s rfl (.s rfl (.s rfl (.s rfl (.s rfl (.s rfl (.s rfl (.s rfl (.s rfl (.s rfl (.s rfl (.s rfl (.s rfl (.s rfl (.s rfl (.s rfl (.s rfl (.s rfl (.s rfl (.n (.n (.n (.n (.n (.n (.n (.n (.n (.s rfl (.s rfl (.s rfl (.s rfl (.s rfl (.s rfl (.s rfl (.s rfl (.s rfl (.s rfl (.s rfl (.s rfl (.s rfl (.s rfl (.s rfl (.s rfl (.s rfl (.s rfl (.s rfl (.s rfl (.s rfl (.s rfl (.s rfl (.z))))))))))))))))))))))))))))))))))))))))))))))))))))))))))))))))))))))))))))))))))))))))))))))))))))))))))))))))))))) | exact .s rfl (.s rfl (.s rfl (.s rfl (.s rfl (.s rfl (.s rfl (.s rfl (.s rfl (.s rfl (.s rfl (.s rfl (.s rfl (.s rfl (.s rfl (.s rfl (.s rfl (.s rfl (.s rfl (.n (.s rfl (.s rfl (.s rfl (.s rfl (.s rfl (.s rfl (.s rfl (.s rfl (.s rfl (.s rfl (.s rfl (.s rfl (.s rfl (.s rfl (.s rfl (.s rfl (.s rfl (.s rfl (.s rfl (.s rfl (.s rfl (.s rfl (.s rfl (.s rfl (.s rfl (.s rfl (.s rfl (.s rfl (.s rfl (.s rfl (.s rfl (.s rfl (.s rfl (.s rfl (.s rfl (.s rfl (.s rfl (.s rfl (.s rfl (.s rfl (.s rfl (.s rfl (.s rfl (.s rfl (.s rfl (.s rfl (.s rfl (.s rfl (.s rfl (.s rfl (.s rfl (.s rfl (.s rfl (.s rfl (.s rfl (.s rfl (.s rfl (.s rfl (.s rfl (.s rfl (.s rfl (.s rfl (.s rfl (.s rfl (.n (.n (.n (.n (.n (.n (.n (.n (.n (.s rfl (.s rfl (.s rfl (.s rfl (.s rfl (.s rfl (.s rfl (.s rfl (.s rfl (.s rfl (.s rfl (.s rfl (.s rfl (.s rfl (.s rfl (.s rfl (.s rfl (.s rfl (.s rfl (.s rfl (.s rfl (.s rfl (.s rfl (.z))))))))))))))))))))))))))))))))))))))))))))))))))))))))))))))))))))))))))))))))))))))))))))))))))))))))))))))))))))), hst⟩ ?_
              rintro _ _ w ⟨x101, x102, a103, x104, a105, xs106, xs108, v107, v109, rfl, hI1, hsv107, hsv109, hfit, hst⟩
              have hp := hI _ _ _ _ _ _ _ hI1
              obtain ⟨j100, rfl⟩ := hfit.ex
              refine E.norm (l' := [v1, v2, Value.agg (iaC .u8 p2).toArray, undef, undef, Value.pointer (some ⟨n3, 0, none⟩), Value.bool false, Value.pointer (some ⟨n10, 0, none⟩), Value.pointer (some ⟨n12, 0, none⟩), Value.int .i64 x63, Value.int .i64 r16, Value.pointer (some ⟨n19, 0, none⟩), undef, (j20 13), Value.pointer (some ⟨n65, 0, none⟩), Value.bool x101, (jj66 16), (jj66 17), undef, (j100 19), undef, undef, undef, v1, Value.bool r4, Value.bool false, v2, Value.bool r7, Value.bool r7, undef, Value.pointer (some ⟨n10, 0, none⟩), Value.pointer (some ⟨n12, 0, none⟩), Value.tuple #[Value.int .i64 r15, Value.int .i64 r16], Value.pointer (some ⟨n10, 0, none⟩), v1, Value.tuple #[Value.int .i64 r15, Value.int .i64 r16], Value.int .i64 r15, Value.int .i64 r16, Value.agg ([Value.slice none 0 0] ++ ([Value.slice none 0 0])).toArray, v2, Value.int .i64 ((p1.length : Int)), Value.int .i64 x21, Value.bool (decide (x21 < (p1.length : Int))), (j20 43), (j20 44), (j20 45), (j20 46), (j20 47), (j20 48), (j20 49), (j20 50), (j20 51), (j20 52), (j20 53), (j20 54), (j20 55), (j20 56), (j20 57), (j20 58), (j20 59), (j20 60), (j20 61), (j20 62), (j20 63), (j20 64), (j20 65), Value.int .i64 r16, Value.bool (decide (r16 ≠ 0)), Value.agg (iaC .u8 p2).toArray, Value.agg (iaC .u8 p2 ++ ([Value.int .u64 0] ++ (iaC .u64 (Ar.zero 4) ++ ([Value.slice none 0 0] ++ ([Value.slice none 0 0]))))).toArray, (jj66 70), Value.pointer (some ⟨n19, 0, none⟩), v23, Value.agg (iaC .u8 p2).toArray, (jj66 74), (jj66 75), (jj66 76), (jj66 77), (jj66 78), Value.int .i64 r16, Value.bool (decide (r16 = 0)), v1, Value.int .i64 ((p0.length : Int)), Value.int .i64 x102, (j100 84), (j100 85), (j100 86), (j100 87), (j100 88), (j100 89), (j100 90), (j100 91), (j100 92), undef, undef, undef, undef, undef, undef, undef, undef, undef, undef, undef, undef, undef, undef, undef, undef, undef, undef, undef, undef, undef, undef, undef]) rfl ?_
              refine E.seq (fun K29 hK29 => ?_)
              refine rg ?_
              refine TL.lss rfl rfl rfl ?_
              refine TL.nil ?_
              refine hK29 _ _ ?_
              refine E.norm (by simp only [List.set_cons_succ, List.set_cons_zero]; rfl) ?_
              refine E.seq (fun K30 hK30 => ?_)
              refine E.cond rfl (fun hc112 => ?_) (fun hc112 => ?_)
              · replace hp := hp.1 (of_decide_eq_true hc112)
                refine wp_skip ?_
                refine hK30 _ _ ?_
                refine E.seq (fun K31 hK31 => ?_)
                obtain ⟨J122, hJ122, hp⟩ := hp
                have hJ122K : ∀ (x114 : Bool) (a115 : Ar 20) (x116 : Int) (a117 : Ar 4) (xs118 : List Int) (xs120 : List T_api_Slot) (v119 : Value) (v121 : Value) (l : List Value) (w : World), (J122 x114 a115 x116 a117 xs118 xs120) → (Sl (rtI .u8) g30 xs118 v119) → (Sl rT_api_Slot g30 xs120 v121) → Fits [some (v1), some (v2), some (Value.agg (iaC .u8 p2).toArray), some (undef), some (undef), some (Value.pointer (some ⟨n3, 0, none⟩)), some (Value.bool false), some (Value.pointer (some ⟨n10, 0, none⟩)), some (Value.pointer (some ⟨n12, 0, none⟩)), some (Value.int .i64 x63), some (Value.int .i64 r16), some (Value.pointer (some ⟨n19, 0, none⟩)), some (undef), some ((j20 13)), some (Value.pointer (some ⟨n65, 0, none⟩)), some (Value.bool x114), some ((jj66 16)), some ((jj66 17)), some (undef), none, some (undef), some (undef), some (undef), some (v1), some (Value.bool r4), some (Value.bool false), some (v2), some (Value.bool r7), some (Value.bool r7), some (undef), some (Value.pointer (some ⟨n10, 0, none⟩)), some (Value.pointer (some ⟨n12, 0, none⟩)), some (Value.tuple #[Value.int .i64 r15, Value.int .i64 r16]), some (Value.pointer (some ⟨n10, 0, none⟩)), some (v1), some (Value.tuple #[Value.int .i64 r15, Value.int .i64 r16]), some (Value.int .i64 r15), some (Value.int .i64 r16), some (Value.agg ([Value.slice none 0 0] ++ ([Value.slice none 0 0])).toArray), some (v2), some (Value.int .i64 ((p1.length : Int))), some (Value.int .i64 x21), some (Value.bool (decide (x21 < (p1.length : Int)))), some ((j20 43)), some ((j20 44)), some ((j20 45)), some ((j20 46)), some ((j20 47)), some ((j20 48)), some ((j20 49)), some ((j20 50)), some ((j20 51)), some ((j20 52)), some ((j20 53)), some ((j20 54)), some ((j20 55)), some ((j20 56)), some ((j20 57)), some ((j20 58)), some ((j20 59)), some ((j20 60)), some ((j20 61)), some ((j20 62)), some ((j20 63)), some ((j20 64)), some ((j20 65)), some (Value.int .i64 r16), some (Value.bool (decide (r16 ≠ 0))), some (Value.agg (iaC .u8 p2).toArray), some (Value.agg (iaC .u8 p2 ++ ([Value.int .u64 0] ++ (iaC .u64 (Ar.zero 4) ++ ([Value.slice none 0 0] ++ ([Value.slice none 0 0]))))).toArray), some ((jj66 70)), some (Value.pointer (some ⟨n19, 0, none⟩)), some (v23), some (Value.agg (iaC .u8 p2).toArray), some ((jj66 74)), some ((jj66 75)), some ((jj66 76)), some ((jj66 77)), some ((jj66 78)), some (Value.int .i64 r16), some (Value.bool (decide (r16 = 0))), some (v1), some (Value.int .i64 ((p0.length : Int))), some (Value.int .i64 x102), some (Value.bool (decide (x102 < (p0.length : Int)))), none, none, none, some (Value.agg (iaC .u8 ((nth p0 x102).fAddress)).toArray), some (Value.agg (iaC .u8 p2).toArray), some (Value.bool (decide ((nth p0 x102).fAddress = p2))), none, some ((j100 92)), some (undef), some (undef), some (undef), some (undef), some (undef), some (undef), some (undef), some (undef), some (undef), some (undef), some (undef), some (undef), some (undef), some (undef), some (undef), some (undef), some (undef), some (undef), some (undef), some (undef), some (undef), some (undef), some (undef)] l → St Non w0 w g30 ([(n65, .cells (iaC .u8 a115 ++ ([Value.int .u64 x116] ++ (iaC .u64 a117 ++ ([v119] ++ ([v121]))))).toArray 34 (0, 0)), (n12, .cells ([Value.map (some x13m_fknown)] ++ ([Value.map (some x13m_ftries)])).toArray 136 (0, 0)), (x13m_fknown, q27), (x13m_ftries, q29), (n3, .cells (iaC .u8 p2).toArray 28 (0, 0)), (n10, .cells ([x17v_fl]).toArray 142 (0, 0))] ++ (x17o_fl)) → K31 (F l) w := by
                  rintro x114 a115 x116 a117 xs118 xs120 v119 v121 _ w hp hsv119 hsv121 hfit hst
                  replace hp := hJ122 _ _ _ _ _ _ hp
                  obtain ⟨jj113, rfl⟩ := hfit.ex
                  refine hK31 _ _ ?_
                  refine E.norm (l' := [v1, v2, Value.agg (iaC .u8 p2).toArray, undef, undef, Value.pointer (some ⟨n3, 0, none⟩), Value.bool false, Value.pointer (some ⟨n10, 0, none⟩), Value.pointer (some ⟨n12, 0, none⟩), Value.int .i64 x63, Value.int .i64 r16, Value.pointer (some ⟨n19, 0, none⟩), undef, (j20 13), Value.pointer (some ⟨n65, 0, none⟩), Value.bool x114, (jj66 16), (jj66 17), undef, (jj113 19), undef, undef, undef, v1, Value.bool r4, Value.bool false, v2, Value.bool r7, Value.bool r7, undef, Value.pointer (some ⟨n10, 0, none⟩), Value.pointer (some ⟨n12, 0, none⟩), Value.tuple #[Value.int .i64 r15, Value.int .i64 r16], Value.pointer (some ⟨n10, 0, none⟩), v1, Value.tuple #[Value.int .i64 r15, Value.int .i64 r16], Value.int .i64 r15, Value.int .i64 r16, Value.agg ([Value.slice none 0 0] ++ ([Value.slice none 0 0])).toArray, v2, Value.int .i64 ((p1.length : Int)), Value.int .i64 x21, Value.bool (decide (x21 < (p1.length : Int))), (j20 43), (j20 44), (j20 45), (j20 46), (j20 47), (j20 48), (j20 49), (j20 50), (j20 51), (j20 52), (j20 53), (j20 54), (j20 55), (j20 56), (j20 57), (j20 58), (j20 59), (j20 60), (j20 61), (j20 62), (j20 63), (j20 64), (j20 65), Value.int .i64 r16, Value.bool (decide (r16 ≠ 0)), Value.agg (iaC .u8 p2).toArray, Value.agg (iaC .u8 p2 ++ ([Value.int .u64 0] ++ (iaC .u64 (Ar.zero 4) ++ ([Value.slice none 0 0] ++ ([Value.slice none 0 0]))))).toArray, (jj66 70), Value.pointer (some ⟨n19, 0, none⟩), v23, Value.agg (iaC .u8 p2).toArray, (jj66 74), (jj66 75), (jj66 76), (jj66 77), (jj66 78), Value.int .i64 r16, Value.bool (decide (r16 = 0)), v1, Value.int .i64 ((p0.length : Int)), Value.int .i64 x102, Value.bool (decide (x102 < (p0.length : Int))), (jj113 85), (jj113 86), (jj113 87), Value.agg (iaC .u8 ((nth p0 x102).fAddress)).toArray, Value.agg (iaC .u8 p2).toArray, Value.bool (decide ((nth p0 x102).fAddress = p2)), (jj113 91), (j100 92), undef, undef, undef, undef, undef, undef, undef, undef, undef, undef, undef, undef, undef, undef, undef, undef, undef, undef, undef, undef, undef, undef, undef]) rfl ?_
                  refine rg ?_
                  obtain ⟨ho123, hp⟩ := hp
                  refine TL.add (x102 + 1) rfl rfl ⟨rfl, ho123⟩ rfl ?_
                  refine TL.move (Value.int .i64 (x102 + 1)) rfl rfl ?_
                  refine TL.nil ?_
                  exact ⟨_, _, hp.2, rfl, x114, (x102 + 1), a115, x116, a117, xs118, xs120, _, _, rfl, hp.1, hsv119, hsv121, (by first | (simp only [List.set_cons_succ, List.set_cons_zero]; exact .s rfl (.s rfl (.s rfl (.s rfl (.s rfl (.s rfl (.s rfl (.s rfl (.s rfl (.s rfl (.s rfl (.s rfl (.s rfl (.s rfl (.s rfl (.s rfl (.s rfl (.s rfl (.s rfl (.n (.s rfl (.s rfl (.s rfl (.s rfl (.s rfl (.s rfl (.s rfl (.s rfl (.s rfl (.s rfl (.s rfl (.s rfl (.s rfl (.s rfl (.s rfl (.s rfl (.s rfl (.s rfl (.s rfl (.s rfl (.s rfl (.s rfl (.s rfl (.s rfl (.s rfl (.s rfl (.s rfl (.s rfl (.s rfl (.s rfl (.s rfl (.s rfl (.s rfl (.s rfl (.s rfl (.s rfl (.s rfl (.s rfl (.s rfl (.s rfl (.s rfl (.s rfl (.s rfl (.s rfl (.s rfl (.s rfl (.s rfl (.s rfl (.s rfl (.s rfl (.s rfl (.s rfl (.s rfl (.s rfl (.s rfl (.s rfl (.s rfl (.s rfl (.s rfl (.s rfl (.s rfl (.s rfl (.s rfl (.s rfl (.n (.n (.n (.n (.n (.n (.n (.n (.n (.s rfl (.s rfl (.s rfl (.s rfl (.s rfl (.s rfl (.s rfl (.s rfl (.s rfl (.s rfl (.s rfl (.s rfl (.s rfl (.s rfl (.s rfl (.s rfl (.s rfl (.s rfl (.s rfl (.s rfl (.s rfl (.s rfl (.s rfl (.z))))))))))))))))))))))))))))))))))))))))))))))))))))))))))))))))))))))))))))))))))))))))))))))))))))))))))))))))))))) | exact .s rfl (.s rfl (.s rfl (.s rfl (.s rfl (.s rfl (.s rfl (.s rfl (.s rfl (.s rfl (.s rfl (.s rfl (.s rfl (.s rfl (.s rfl (.s rfl (.s rfl (.s rfl (.s rfl (.n (.s rfl (.s rfl (.s rfl (.s rfl (.s rfl (.s rfl (.s rfl (.s rfl (.s rfl (.s rfl (.s rfl (.s rfl (.s rfl (.s rfl (.s rfl (.s rfl (.s rfl (.s rfl (.s rfl (.s rfl (.s rfl (.s rfl (.s rfl (.s rfl (.s rfl (.s rfl (.s rfl (.s rfl (.s rfl (.s rfl (.s rfl (.s rfl (.s rfl (.s rfl (.s rfl (.s rfl (.s rfl (.s rfl (.s rfl (.s rfl (.s rfl (.s rfl (.s rfl (.s rfl (.s rfl (.s rfl (.s rfl (.s rfl (.s rfl (.s rfl (.s rfl (.s rfl (.s rfl (.s rfl (.s rfl (.s rfl (.s rfl (.s rfl (.s rfl (.s rfl (.s rfl (.s rfl (.s rfl (.s rfl (.n (.n (.n (.n (.n (.n (.n (.n (.n (.s rfl (.s rfl (.s rfl (.s rfl (.s rfl (.s rfl (.s rfl (.s rfl (.s rfl (.s rfl (.s rfl (.s rfl (.s rfl (.s rfl (.s rfl (.s rfl (.s rfl (.s rfl (.s rfl (.s rfl (.s rfl (.s rfl (.s rfl (.z))))))))))))))))))))))))))))))))))))))))))))))))))))))))))))))))))))))))))))))))))))))))))))))))))))))))))))))))))))), hst⟩
                refine wp_block ?_
                refine E.seq (fun K32 hK32 => ?_)
                refine rg ?_
                obtain ⟨ho124, ho125, hp⟩ := hp
                refine TL.indexL ((hv1.mono (Gh.le_trans (hleg18) hleg30))) sl22 rfl rfl ho124 ho125 rfl ?_
                rintro b126 o127 _ ⟨v131, v132, rfl, hv131, hv132⟩ hq130
                refine TL.ldG b126 (o127 + (0)) (iaC .u8 ((nth p0 x102).fAddress) ++ ([Value.int .u64 ((nth p0 x102).fNonce)] ++ (iaC .u64 ((nth p0 x102).fBalance) ++ ([v131] ++ ([v132]))))) (fun _ h => h ▸ hst) (hq130.sub (Seg.all _)) (ta34.of (by simp)) rfl rfl ?_
                refine TL.alloc hst zv34 rfl ?_
                intro w n133 hst
                refine ⟨trivial, ?_⟩
                refine TL.norm (by simp only [List.set_cons_succ, List.set_cons_zero]; rfl) ?_
                refine TL.stA 0 n133 (0) _ (vs := iaC .u8 ((nth p0 x102).fAddress) ++ ([Value.int .u64 ((nth p0 x102).fNonce)] ++ (iaC .u64 ((nth p0 x102).fBalance) ++ ([v131] ++ ([v132]))))) hst rfl (Put.all (by simp)) (by first | rfl | omega) rfl (One.app (One.ia _ _) (One.app (One.one rfl) (One.app (One.ia _ _) (One.app (One.one (hv131).one) (One.one (hv132).one))))) (tzof tz34 (by simp)) rfl rfl ?_
                intro w hst
                refine ⟨trivial, ?_⟩
                refine TL.nil ?_
                refine hK32 _ _ ?_
                refine E.seq (fun K33 hK33 => ?_)
                refine rg ?_
                refine TL.fieldA (0) fa34_0 rfl (by first | rfl | omega) rfl ?_
                refine TL.ldL 0 n133 (0) (iaC .u8 ((nth p0 x102).fAddress)) (fun _ h => h ▸ hst) rfl (Seg.here _ _) (ta28.of (by simp)) rfl rfl ?_
                refine TL.ldL 5 n3 (0) (iaC .u8 p2) (fun _ h => h ▸ hst) rfl (Seg.all _) (ta28.of (by simp)) rfl rfl ?_
                refine TL.norm (by simp only [List.set_cons_succ, List.set_cons_zero]; rfl) ?_
                refine TL.eqlIA eqa28 rfl rfl rfl ?_
                refine TL.nil ?_
                refine hK33 _ _ ?_
                refine E.norm (by simp only [List.set_cons_succ, List.set_cons_zero]; rfl) ?_
                refine E.cond rfl (fun hc134 => ?_) (fun hc134 => ?_)
                · replace hp := hp.1 (of_decide_eq_true hc134)
                  refine rg ?_
                  refine TL.ldL 0 n133 (0) (iaC .u8 ((nth p0 x102).fAddress) ++ ([Value.int .u64 ((nth p0 x102).fNonce)] ++ (iaC .u64 ((nth p0 x102).fBalance) ++ ([v131] ++ ([v132]))))) (fun _ h => h ▸ hst) rfl (Seg.all _) (ta34.of (by simp)) rfl rfl ?_
                  refine TL.stA 1 n65 (0) _ (vs := iaC .u8 ((nth p0 x102).fAddress) ++ ([Value.int .u64 ((nth p0 x102).fNonce)] ++ (iaC .u64 ((nth p0 x102).fBalance) ++ ([v131] ++ ([v132]))))) hst rfl (Put.all (by simp)) (by first | rfl | omega) rfl (One.app (One.ia _ _) (One.app (One.one rfl) (One.app (One.ia _ _) (One.app (One.one (hv131).one) (One.one (hv132).one))))) (tzof tz34 (by simp)) rfl rfl ?_
                  intro w hst
                  refine ⟨trivial, ?_⟩
                  refine TL.assign (Value.bool true) rfl rfl ?_
                  refine TL.nil ?_
                  refine hJ122K true ((nth p0 x102).fAddress) ((nth p0 x102).fNonce) ((nth p0 x102).fBalance) ((nth p0 x102).fCode) ((nth p0 x102).fStorage) _ _ _ _ hp (hv131) (hv132) (by first | (simp only [List.set_cons_succ, List.set_cons_zero]; exact .s rfl (.s rfl (.s rfl (.s rfl (.s rfl (.s rfl (.s rfl (.s rfl (.s rfl (.s rfl (.s rfl (.s rfl (.s rfl (.s rfl (.s rfl (.s rfl (.s rfl (.s rfl (.s rfl (.n (.s rfl (.s rfl (.s rfl (.s rfl (.s rfl (.s rfl (.s rfl (.s rfl (.s rfl (.s rfl (.s rfl (.s rfl (.s rfl (.s rfl (.s rfl (.s rfl (.s rfl (.s rfl (.s rfl (.s rfl (.s rfl (.s rfl (.s rfl (.s rfl (.s rfl (.s rfl (.s rfl (.s rfl (.s rfl (.s rfl (.s rfl (.s rfl (.s rfl (.s rfl (.s rfl (.s rfl (.s rfl (.s rfl (.s rfl (.s rfl (.s rfl (.s rfl (.s rfl (.s rfl (.s rfl (.s rfl (.s rfl (.s rfl (.s rfl (.s rfl (.s rfl (.s rfl (.s rfl (.s rfl (.s rfl (.s rfl (.s rfl (.s rfl (.s rfl (.s rfl (.s rfl (.s rfl (.s rfl (.s rfl (.s rfl (.n (.n (.n (.s rfl (.s rfl (.s rfl (.n (.s rfl (.s rfl (.s rfl (.s rfl (.s rfl (.s rfl (.s rfl (.s rfl (.s rfl (.s rfl (.s rfl (.s rfl (.s rfl (.s rfl (.s rfl (.s rfl (.s rfl (.s rfl (.s rfl (.s rfl (.s rfl (.s rfl (.s rfl (.s rfl (.z))))))))))))))))))))))))))))))))))))))))))))))))))))))))))))))))))))))))))))))))))))))))))))))))))))))))))))))))))))) | exact .s rfl (.s rfl (.s rfl (.s rfl (.s rfl (.s rfl (.s rfl (.s rfl (.s rfl (.s rfl (.s rfl (.s rfl (.s rfl (.s rfl (.s rfl (.s rfl (.s rfl (.s rfl (.s rfl (.n (.s rfl (.s rfl (.s rfl (.s rfl (.s rfl (.s rfl (.s rfl (.s rfl (.s rfl (.s rfl (.s rfl (.s rfl (.s rfl (.s rfl (.s rfl (.s rfl (.s rfl (.s rfl (.s rfl (.s rfl (.s rfl (.s rfl (.s rfl (.s rfl (.s rfl (.s rfl (.s rfl (.s rfl (.s rfl (.s rfl (.s rfl (.s rfl (.s rfl (.s rfl (.s rfl (.s rfl (.s rfl (.s rfl (.s rfl (.s rfl (.s rfl (.s rfl (.s rfl (.s rfl (.s rfl (.s rfl (.s rfl (.s rfl (.s rfl (.s rfl (.s rfl (.s rfl (.s rfl (.s rfl (.s rfl (.s rfl (.s rfl (.s rfl (.s rfl (.s rfl (.s rfl (.s rfl (.s rfl (.s rfl (.s rfl (.n (.n (.n (.s rfl (.s rfl (.s rfl (.n (.s rfl (.s rfl (.s rfl (.s rfl (.s rfl (.s rfl (.s rfl (.s rfl (.s rfl (.s rfl (.s rfl (.s rfl (.s rfl (.s rfl (.s rfl (.s rfl (.s rfl (.s rfl (.s rfl (.s rfl (.s rfl (.s rfl (.s rfl (.s rfl (.z))))))))))))))))))))))))))))))))))))))))))))))))))))))))))))))))))))))))))))))))))))))))))))))))))))))))))))))))))))) (hst.sub (.cons _ (.cons_cons _ (.cons_cons _ (.cons_cons _ (.cons_cons _ (.cons_cons _ (.cons_cons _ (List.Sublist.refl _)))))))))
                · replace hp := hp.2 (of_decide_eq_false hc134)
                  refine wp_skip ?_
                  refine hJ122K x101 a103 x104 a105 xs106 xs108 _ _ _ _ hp (hsv107) (hsv109) (by first | (simp only [List.set_cons_succ, List.set_cons_zero]; exact .s rfl (.s rfl (.s rfl (.s rfl (.s rfl (.s rfl (.s rfl (.s rfl (.s rfl (.s rfl (.s rfl (.s rfl (.s rfl (.s rfl (.s rfl (.s rfl (.s rfl (.s rfl (.s rfl (.n (.s rfl (.s rfl (.s rfl (.s rfl (.s rfl (.s rfl (.s rfl (.s rfl (.s rfl (.s rfl (.s rfl (.s rfl (.s rfl (.s rfl (.s rfl (.s rfl (.s rfl (.s rfl (.s rfl (.s rfl (.s rfl (.s rfl (.s rfl (.s rfl (.s rfl (.s rfl (.s rfl (.s rfl (.s rfl (.s rfl (.s rfl (.s rfl (.s rfl (.s rfl (.s rfl (.s rfl (.s rfl (.s rfl (.s rfl (.s rfl (.s rfl (.s rfl (.s rfl (.s rfl (.s rfl (.s rfl (.s rfl (.s rfl (.s rfl (.s rfl (.s rfl (.s rfl (.s rfl (.s rfl (.s rfl (.s rfl (.s rfl (.s rfl (.s rfl (.s rfl (.s rfl (.s rfl (.s rfl (.s rfl (.s rfl (.n (.n (.n (.s rfl (.s rfl (.s rfl (.n (.s rfl (.s rfl (.s rfl (.s rfl (.s rfl (.s rfl (.s rfl (.s rfl (.s rfl (.s rfl (.s rfl (.s rfl (.s rfl (.s rfl (.s rfl (.s rfl (.s rfl (.s rfl (.s rfl (.s rfl (.s rfl (.s rfl (.s rfl (.s rfl (.z))))))))))))))))))))))))))))))))))))))))))))))))))))))))))))))))))))))))))))))))))))))))))))))))))))))))))))))))))))) | exact .s rfl (.s rfl (.s rfl (.s rfl (.s rfl (.s rfl (.s rfl (.s rfl (.s rfl (.s rfl (.s rfl (.s rfl (.s rfl (.s rfl (.s rfl (.s rfl (.s rfl (.s rfl (.s rfl (.n (.s rfl (.s rfl (.s rfl (.s rfl (.s rfl (.s rfl (.s rfl (.s rfl (.s rfl (.s rfl (.s rfl (.s rfl (.s rfl (.s rfl (.s rfl (.s rfl (.s rfl (.s rfl (.s rfl (.s rfl (.s rfl (.s rfl (.s rfl (.s rfl (.s rfl (.s rfl (.s rfl (.s rfl (.s rfl (.s rfl (.s rfl (.s rfl (.s rfl (.s rfl (.s rfl (.s rfl (.s rfl (.s rfl (.s rfl (.s rfl (.s rfl (.s rfl (.s rfl (.s rfl (.s rfl (.s rfl (.s rfl (.s rfl (.s rfl (.s rfl (.s rfl (.s rfl (.s rfl (.s rfl (.s rfl (.s rfl (.s rfl (.s rfl (.s rfl (.s rfl (.s rfl (.s rfl (.s rfl (.s rfl (.s rfl (.n (.n (.n (.s rfl (.s rfl (.s rfl (.n (.s rfl (.s rfl (.s rfl (.s rfl (.s rfl (.s rfl (.s rfl (.s rfl (.s rfl (.s rfl (.s rfl (.s rfl (.s rfl (.s rfl (.s rfl (.s rfl (.s rfl (.s rfl (.s rfl (.s rfl (.s rfl (.s rfl (.s rfl (.s rfl (.z))))))))))))))))))))))))))))))))))))))))))))))))))))))))))))))))))))))))))))))))))))))))))))))))))))))))))))))))))))) (hst.sub (.cons _ (.cons_cons _ (.cons_cons _ (.cons_cons _ (.cons_cons _ (.cons_cons _ (.cons_cons _ (List.Sublist.refl _)))))))))
              · replace hp := hp.2 (of_decide_eq_false hc112)
                refine wp_exit ?_
                refine hJ85K x101 a103 x104 a105 xs106 xs108 _ _ _ _ hp (hsv107) (hsv109) (by first | (simp only [List.set_cons_succ, List.set_cons_zero]; exact .s rfl (.s rfl (.s rfl (.s rfl (.s rfl (.s rfl (.s rfl (.s rfl (.s rfl (.s rfl (.s rfl (.s rfl (.s rfl (.s rfl (.s rfl (.s rfl (.s rfl (.s rfl (.s rfl (.n (.s rfl (.s rfl (.s rfl (.s rfl (.s rfl (.s rfl (.s rfl (.s rfl (.s rfl (.s rfl (.s rfl (.s rfl (.s rfl (.s rfl (.s rfl (.s rfl (.s rfl (.s rfl (.s rfl (.s rfl (.s rfl (.s rfl (.s rfl (.s rfl (.s rfl (.s rfl (.s rfl (.s rfl (.s rfl (.s rfl (.s rfl (.s rfl (.s rfl (.s rfl (.s rfl (.s rfl (.s rfl (.s rfl (.s rfl (.s rfl (.s rfl (.s rfl (.s rfl (.s rfl (.s rfl (.s rfl (.s rfl (.s rfl (.s rfl (.s rfl (.s rfl (.s rfl (.s rfl (.s rfl (.s rfl (.s rfl (.s rfl (.s rfl (.s rfl (.s rfl (.s rfl (.n (.n (.n (.n (.n (.n (.n (.n (.n (.n (.n (.n (.s rfl (.s rfl (.s rfl (.s rfl (.s rfl (.s rfl (.s rfl (.s rfl (.s rfl (.s rfl (.s rfl (.s rfl (.s rfl (.s rfl (.s rfl (.s rfl (.s rfl (.s rfl (.s rfl (.s rfl (.s rfl (.s rfl (.s rfl (.z))))))))))))))))))))))))))))))))))))))))))))))))))))))))))))))))))))))))))))))))))))))))))))))))))))))))))))))))))))) | exact .s rfl (.s rfl (.s rfl (.s rfl (.s rfl (.s rfl (.s rfl (.s rfl (.s rfl (.s rfl (.s rfl (.s rfl (.s rfl (.s rfl (.s rfl (.s rfl (.s rfl (.s rfl (.s rfl (.n (.s rfl (.s rfl (.s rfl (.s rfl (.s rfl (.s rfl (.s rfl (.s rfl (.s rfl (.s rfl (.s rfl (.s rfl (.s rfl (.s rfl (.s rfl (.s rfl (.s rfl (.s rfl (.s rfl (.s rfl (.s rfl (.s rfl (.s rfl (.s rfl (.s rfl (.s rfl (.s rfl (.s rfl (.s rfl (.s rfl (.s rfl (.s rfl (.s rfl (.s rfl (.s rfl (.s rfl (.s rfl (.s rfl (.s rfl (.s rfl (.s rfl (.s rfl (.s rfl (.s rfl (.s rfl (.s rfl (.s rfl (.s rfl (.s rfl (.s rfl (.s rfl (.s rfl (.s rfl (.s rfl (.s rfl (.s rfl (.s rfl (.s rfl (.s rfl (.s rfl (.s rfl (.n (.n (.n (.n (.n (.n (.n (.n (.n (.n (.n (.n (.s rfl (.s rfl (.s rfl (.s rfl (.s rfl (.s rfl (.s rfl (.s rfl (.s rfl (.s rfl (.s rfl (.s rfl (.s rfl (.s rfl (.s rfl (.s rfl (.s rfl (.s rfl (.s rfl (.s rfl (.s rfl (.s rfl (.s rfl (.z))))))))))))))))))))))))))))))))))))))))))))))))))))))))))))))))))))))))))))))))))))))))))))))))))))))))))))))))))))) (hst)
            · replace hp := hp.2 (of_decide_eq_false hc99)
              refine wp_skip ?_
              refine hJ85K x67 a68 x69 a70 xs71 xs73 _ _ _ _ hp (hsv72) (hsv74) (by first | (simp only [List.set_cons_succ, List.set_cons_zero]; exact .s rfl (.s rfl (.s rfl (.s rfl (.s rfl (.s rfl (.s rfl (.s rfl (.s rfl (.s rfl (.s rfl (.s rfl (.s rfl (.s rfl (.s rfl (.s rfl (.s rfl (.s rfl (.s rfl (.n (.s rfl (.s rfl (.s rfl (.s rfl (.s rfl (.s rfl (.s rfl (.s rfl (.s rfl (.s rfl (.s rfl (.s rfl (.s rfl (.s rfl (.s rfl (.s rfl (.s rfl (.s rfl (.s rfl (.s rfl (.s rfl (.s rfl (.s rfl (.s rfl (.s rfl (.s rfl (.s rfl (.s rfl (.s rfl (.s rfl (.s rfl (.s rfl (.s rfl (.s rfl (.s rfl (.s rfl (.s rfl (.s rfl (.s rfl (.s rfl (.s rfl (.s rfl (.s rfl (.s rfl (.s rfl (.s rfl (.s rfl (.s rfl (.s rfl (.s rfl (.s rfl (.s rfl (.s rfl (.s rfl (.s rfl (.s rfl (.s rfl (.s rfl (.s rfl (.s rfl (.s rfl (.n (.n (.n (.n (.n (.n (.n (.n (.n (.n (.n (.n (.s rfl (.s rfl (.s rfl (.s rfl (.s rfl (.s rfl (.s rfl (.s rfl (.s rfl (.s rfl (.s rfl (.s rfl (.s rfl (.s rfl (.s rfl (.s rfl (.s rfl (.s rfl (.s rfl (.s rfl (.s rfl (.s rfl (.s rfl (.z))))))))))))))))))))))))))))))))))))))))))))))))))))))))))))))))))))))))))))))))))))))))))))))))))))))))))))))))))))) | exact .s rfl (.s rfl (.s rfl (.s rfl (.s rfl (.s rfl (.s rfl (.s rfl (.s rfl (.s rfl (.s rfl (.s rfl (.s rfl (.s rfl (.s rfl (.s rfl (.s rfl (.s rfl (.s rfl (.n (.s rfl (.s rfl (.s rfl (.s rfl (.s rfl (.s rfl (.s rfl (.s rfl (.s rfl (.s rfl (.s rfl (.s rfl (.s rfl (.s rfl (.s rfl (.s rfl (.s rfl (.s rfl (.s rfl (.s rfl (.s rfl (.s rfl (.s rfl (.s rfl (.s rfl (.s rfl (.s rfl (.s rfl (.s rfl (.s rfl (.s rfl (.s rfl (.s rfl (.s rfl (.s rfl (.s rfl (.s rfl (.s rfl (.s rfl (.s rfl (.s rfl (.s rfl (.s rfl (.s rfl (.s rfl (.s rfl (.s rfl (.s rfl (.s rfl (.s rfl (.s rfl (.s rfl (.s rfl (.s rfl (.s rfl (.s rfl (.s rfl (.s rfl (.s rfl (.s rfl (.s rfl (.n (.n (.n (.n (.n (.n (.n (.n (.n (.n (.n (.n (.s rfl (.s rfl (.s rfl (.s rfl (.s rfl (.s rfl (.s rfl (.s rfl (.s rfl (.s rfl (.s rfl (.s rfl (.s rfl (.s rfl (.s rfl (.s rfl (.s rfl (.s rfl (.s rfl (.s rfl (.s rfl (.s rfl (.s rfl (.z))))))))))))))))))))))))))))))))))))))))))))))))))))))))))))))))))))))))))))))))))))))))))))))))))))))))))))))))))))) (hst)
          refine E.seq (fun K34 hK34 => ?_)
          refine rg ?_
          refine TL.fieldA (0) fa51_0 rfl (by first | rfl | omega) rfl ?_
          refine TL.ldL1 1 n19 (0) (v23) (fun _ h => h ▸ hst) rfl (Seg.here _ _) ts22 rfl rfl ?_
          refine TL.ldL 5 n3 (0) (iaC .u8 p2) (fun _ h => h ▸ hst) rfl (Seg.all _) (ta28.of (by simp)) rfl rfl ?_
          refine TL.norm (by simp only [List.set_cons_succ, List.set_cons_zero]; rfl) ?_
          refine TL.callS #[v23, Value.agg (iaC .u8 p2).toArray] co17 rfl (w_smithyref13_Find xs22 p2 v23 g30 _ hst.has (hsv23) _ hp) rfl ?_
          rintro _ w ⟨hk, r135, r138, hp, v136, v137, rfl, hv136, hv137⟩
          replace hst := hst.call hk
          refine ⟨trivial, ?_⟩
          refine TL.move (Value.tuple #[Value.agg (iaC .u8 r135.fAddress ++ ([Value.int .u64 r135.fNonce] ++ (iaC .u64 r135.fBalance ++ ([v136] ++ ([v137]))))).toArray, Value.bool r138]) rfl rfl ?_
          refine TL.extract (Value.agg (iaC .u8 r135.fAddress ++ ([Value.int .u64 r135.fNonce] ++ (iaC .u64 r135.fBalance ++ ([v136] ++ ([v137]))))).toArray) rfl rfl rfl ?_
          refine TL.norm (by simp only [List.set_cons_succ, List.set_cons_zero]; rfl) ?_
          refine TL.extract (Value.bool r138) rfl rfl rfl ?_
          refine TL.alloc hst zv34 rfl ?_
          intro w n139 hst
          refine ⟨trivial, ?_⟩
          refine TL.stA 0 n139 (0) _ (vs := iaC .u8 r135.fAddress ++ ([Value.int .u64 r135.fNonce] ++ (iaC .u64 r135.fBalance ++ ([v136] ++ ([v137]))))) hst rfl (Put.all (by simp)) (by first | rfl | omega) rfl (One.app (One.ia _ _) (One.app (One.one rfl) (One.app (One.ia _ _) (One.app (One.one (hv136).one) (One.one (hv137).one))))) (tzof tz34 (by simp)) rfl rfl ?_
          intro w hst
          refine ⟨trivial, ?_⟩
          refine TL.assign (Value.bool r138) rfl rfl ?_
          refine TL.norm (by simp only [List.set_cons_succ, List.set_cons_zero]; rfl) ?_
          refine TL.nil ?_
          refine hK34 _ _ ?_
          refine E.seq (fun K35 hK35 => ?_)
          refine rg ?_
          refine TL.move (Value.bool r138) rfl rfl ?_
          refine TL.nil ?_
          refine hK35 _ _ ?_
          refine E.norm (by simp only [List.set_cons_succ, List.set_cons_zero]; rfl) ?_
          refine E.cond rfl (fun hc140 => ?_) (fun hc140 => ?_)
          · replace hp := hp.1 (hc140)
            refine rg ?_
            refine TL.ldL 0 n139 (0) (iaC .u8 r135.fAddress ++ ([Value.int .u64 r135.fNonce] ++ (iaC .u64 r135.fBalance ++ ([v136] ++ ([v137]))))) (fun _ h => h ▸ hst) rfl (Seg.all _) (ta34.of (by simp)) rfl rfl ?_
            refine TL.stA 1 n65 (0) _ (vs := iaC .u8 r135.fAddress ++ ([Value.int .u64 r135.fNonce] ++ (iaC .u64 r135.fBalance ++ ([v136] ++ ([v137]))))) hst rfl (Put.all (by simp)) (by first | rfl | omega) rfl (One.app (One.ia _ _) (One.app (One.one rfl) (One.app (One.ia _ _) (One.app (One.one (hv136).one) (One.one (hv137).one))))) (tzof tz34 (by simp)) rfl rfl ?_
            intro w hst
            refine ⟨trivial, ?_⟩
            refine TL.assign (Value.bool true) rfl rfl ?_
            refine TL.nil ?_
            refine hJ75K true r135.fAddress r135.fNonce r135.fBalance r135.fCode r135.fStorage _ _ _ _ hp (hv136) (hv137) (by first | (simp only [List.set_cons_succ, List.set_cons_zero]; exact .s rfl (.s rfl (.s rfl (.s rfl (.s rfl (.s rfl (.s rfl (.s rfl (.s rfl (.s rfl (.s rfl (.s rfl (.s rfl (.s rfl (.s rfl (.s rfl (.n (.n (.s rfl (.s rfl (.s rfl (.s rfl (.s rfl (.s rfl (.s rfl (.s rfl (.s rfl (.s rfl (.s rfl (.s rfl (.s rfl (.s rfl (.s rfl (.s rfl (.s rfl (.s rfl (.s rfl (.s rfl (.s rfl (.s rfl (.s rfl (.s rfl (.s rfl (.s rfl (.s rfl (.s rfl (.s rfl (.s rfl (.s rfl (.s rfl (.s rfl (.s rfl (.s rfl (.s rfl (.s rfl (.s rfl (.s rfl (.s rfl (.s rfl (.s rfl (.s rfl (.s rfl (.s rfl (.s rfl (.s rfl (.s rfl (.s rfl (.s rfl (.s rfl (.s rfl (.n (.s rfl (.s rfl (.s rfl (.n (.n (.n (.n (.n (.s rfl (.s rfl (.s rfl (.s rfl (.s rfl (.s rfl (.s rfl (.s rfl (.s rfl (.s rfl (.s rfl (.s rfl (.s rfl (.s rfl (.s rfl (.s rfl (.s rfl (.s rfl (.s rfl (.s rfl (.s rfl (.s rfl (.s rfl (.s rfl (.s rfl (.s rfl (.s rfl (.s rfl (.s rfl (.s rfl (.s rfl (.s rfl (.s rfl (.s rfl (.s rfl (.s rfl (.s rfl (.z))))))))))))))))))))))))))))))))))))))))))))))))))))))))))))))))))))))))))))))))))))))))))))))))))))))))))))))))))))) | exact .s rfl (.s rfl (.s rfl (.s rfl (.s rfl (.s rfl (.s rfl (.s rfl (.s rfl (.s rfl (.s rfl (.s rfl (.s rfl (.s rfl (.s rfl (.s rfl (.n (.n (.s rfl (.s rfl (.s rfl (.s rfl (.s rfl (.s rfl (.s rfl (.s rfl (.s rfl (.s rfl (.s rfl (.s rfl (.s rfl (.s rfl (.s rfl (.s rfl (.s rfl (.s rfl (.s rfl (.s rfl (.s rfl (.s rfl (.s rfl (.s rfl (.s rfl (.s rfl (.s rfl (.s rfl (.s rfl (.s rfl (.s rfl (.s rfl (.s rfl (.s rfl (.s rfl (.s rfl (.s rfl (.s rfl (.s rfl (.s rfl (.s rfl (.s rfl (.s rfl (.s rfl (.s rfl (.s rfl (.s rfl (.s rfl (.s rfl (.s rfl (.s rfl (.s rfl (.n (.s rfl (.s rfl (.s rfl (.n (.n (.n (.n (.n (.s rfl (.s rfl (.s rfl (.s rfl (.s rfl (.s rfl (.s rfl (.s rfl (.s rfl (.s rfl (.s rfl (.s rfl (.s rfl (.s rfl (.s rfl (.s rfl (.s rfl (.s rfl (.s rfl (.s rfl (.s rfl (.s rfl (.s rfl (.s rfl (.s rfl (.s rfl (.s rfl (.s rfl (.s rfl (.s rfl (.s rfl (.s rfl (.s rfl (.s rfl (.s rfl (.s rfl (.s rfl (.z))))))))))))))))))))))))))))))))))))))))))))))))))))))))))))))))))))))))))))))))))))))))))))))))))))))))))))))))))))) (hst.sub (.cons _ (.cons_cons _ (.cons _ (.cons_cons _ (.cons_cons _ (.cons_cons _ (.cons_cons _ (.cons_cons _ (List.Sublist.refl _))))))))))
          · replace hp := hp.2 (hc140)
            refine wp_skip ?_
            refine hJ75K false p2 0 (Ar.zero 4) ([]) ([]) _ _ _ _ hp (Sl.nil _ _) (Sl.nil _ _) (by first | (simp only [List.set_cons_succ, List.set_cons_zero]; exact .s rfl (.s rfl (.s rfl (.s rfl (.s rfl (.s rfl (.s rfl (.s rfl (.s rfl (.s rfl (.s rfl (.s rfl (.s rfl (.s rfl (.s rfl (.s rfl (.n (.n (.s rfl (.s rfl (.s rfl (.s rfl (.s rfl (.s rfl (.s rfl (.s rfl (.s rfl (.s rfl (.s rfl (.s rfl (.s rfl (.s rfl (.s rfl (.s rfl (.s rfl (.s rfl (.s rfl (.s rfl (.s rfl (.s rfl (.s rfl (.s rfl (.s rfl (.s rfl (.s rfl (.s rfl (.s rfl (.s rfl (.s rfl (.s rfl (.s rfl (.s rfl (.s rfl (.s rfl (.s rfl (.s rfl (.s rfl (.s rfl (.s rfl (.s rfl (.s rfl (.s rfl (.s rfl (.s rfl (.s rfl (.s rfl (.s rfl (.s rfl (.s rfl (.s rfl (.n (.s rfl (.s rfl (.s rfl (.n (.n (.n (.n (.n (.s rfl (.s rfl (.s rfl (.s rfl (.s rfl (.s rfl (.s rfl (.s rfl (.s rfl (.s rfl (.s rfl (.s rfl (.s rfl (.s rfl (.s rfl (.s rfl (.s rfl (.s rfl (.s rfl (.s rfl (.s rfl (.s rfl (.s rfl (.s rfl (.s rfl (.s rfl (.s rfl (.s rfl (.s rfl (.s rfl (.s rfl (.s rfl (.s rfl (.s rfl (.s rfl (.s rfl (.s rfl (.z))))))))))))))))))))))))))))))))))))))))))))))))))))))))))))))))))))))))))))))))))))))))))))))))))))))))))))))))))))) | exact .s rfl (.s rfl (.s rfl (.s rfl (.s rfl (.s rfl (.s rfl (.s rfl (.s rfl (.s rfl (.s rfl (.s rfl (.s rfl (.s rfl (.s rfl (.s rfl (.n (.n (.s rfl (.s rfl (.s rfl (.s rfl (.s rfl (.s rfl (.s rfl (.s rfl (.s rfl (.s rfl (.s rfl (.s rfl (.s rfl (.s rfl (.s rfl (.s rfl (.s rfl (.s rfl (.s rfl (.s rfl (.s rfl (.s rfl (.s rfl (.s rfl (.s rfl (.s rfl (.s rfl (.s rfl (.s rfl (.s rfl (.s rfl (.s rfl (.s rfl (.s rfl (.s rfl (.s rfl (.s rfl (.s rfl (.s rfl (.s rfl (.s rfl (.s rfl (.s rfl (.s rfl (.s rfl (.s rfl (.s rfl (.s rfl (.s rfl (.s rfl (.s rfl (.s rfl (.n (.s rfl (.s rfl (.s rfl (.n (.n (.n (.n (.n (.s rfl (.s rfl (.s rfl (.s rfl (.s rfl (.s rfl (.s rfl (.s rfl (.s rfl (.s rfl (.s rfl (.s rfl (.s rfl (.s rfl (.s rfl (.s rfl (.s rfl (.s rfl (.s rfl (.s rfl (.s rfl (.s rfl (.s rfl (.s rfl (.s rfl (.s rfl (.s rfl (.s rfl (.s rfl (.s rfl (.s rfl (.s rfl (.s rfl (.s rfl (.s rfl (.s rfl (.s rfl (.z))))))))))))))))))))))))))))))))))))))))))))))))))))))))))))))))))))))))))))))))))))))))))))))))))))))))))))))))))))) (hst.sub (.cons _ (.cons_cons _ (.cons _ (.cons_cons _ (.cons_cons _ (.cons_cons _ (.cons_cons _ (.cons_cons _ (List.Sublist.refl _))))))))))
        refine E.seq (fun K36 hK36 => ?_)
        refine rg ?_
        refine TL.move (Value.int .i64 r16) rfl rfl ?_
        refine TL.neqD rfl rfl rfl ?_
        refine TL.nil ?_
        refine hK36 _ _ ?_
        refine E.norm (by simp only [List.set_cons_succ, List.set_cons_zero]; rfl) ?_
        refine E.cond rfl (fun hc141 => ?_) (fun hc141 => ?_)
        · replace hp := hp.1 (of_decide_eq_true hc141)
          refine rg ?_
          refine TL.assign (Value.int .i64 0) rfl rfl ?_
          refine TL.nil ?_
          refine hJ64K 0 _ _ hp (by first | (simp only [List.set_cons_succ, List.set_cons_zero]; exact .s rfl (.s rfl (.s rfl (.s rfl (.s rfl (.s rfl (.s rfl (.s rfl (.s rfl (.s rfl (.s rfl (.s rfl (.s rfl (.s rfl (.s rfl (.s rfl (.s rfl (.s rfl (.s rfl (.s rfl (.s rfl (.s rfl (.s rfl (.s rfl (.s rfl (.s rfl (.s rfl (.s rfl (.s rfl (.s rfl (.s rfl (.s rfl (.s rfl (.s rfl (.s rfl (.s rfl (.s rfl (.s rfl (.s rfl (.s rfl (.s rfl (.s rfl (.s rfl (.s rfl (.s rfl (.s rfl (.s rfl (.s rfl (.s rfl (.s rfl (.s rfl (.s rfl (.s rfl (.s rfl (.s rfl (.s rfl (.s rfl (.s rfl (.s rfl (.s rfl (.s rfl (.s rfl (.s rfl (.s rfl (.s rfl (.s rfl (.s rfl (.s rfl (.s rfl (.s rfl (.s rfl (.s rfl (.s rfl (.s rfl (.s rfl (.s rfl (.s rfl (.s rfl (.s rfl (.s rfl (.s rfl (.s rfl (.s rfl (.s rfl (.s rfl (.s rfl (.s rfl (.s rfl (.s rfl (.s rfl (.s rfl (.s rfl (.s rfl (.s rfl (.s rfl (.s rfl (.s rfl (.s rfl (.s rfl (.s rfl (.s rfl (.s rfl (.s rfl (.s rfl (.s rfl (.s rfl (.s rfl (.s rfl (.s rfl (.s rfl (.s rfl (.s rfl (.s rfl (.s rfl (.s rfl (.s rfl (.z))))))))))))))))))))))))))))))))))))))))))))))))))))))))))))))))))))))))))))))))))))))))))))))))))))))))))))))))))))) | exact .s rfl (.s rfl (.s rfl (.s rfl (.s rfl (.s rfl (.s rfl (.s rfl (.s rfl (.s rfl (.s rfl (.s rfl (.s rfl (.s rfl (.s rfl (.s rfl (.s rfl (.s rfl (.s rfl (.s rfl (.s rfl (.s rfl (.s rfl (.s rfl (.s rfl (.s rfl (.s rfl (.s rfl (.s rfl (.s rfl (.s rfl (.s rfl (.s rfl (.s rfl (.s rfl (.s rfl (.s rfl (.s rfl (.s rfl (.s rfl (.s rfl (.s rfl (.s rfl (.s rfl (.s rfl (.s rfl (.s rfl (.s rfl (.s rfl (.s rfl (.s rfl (.s rfl (.s rfl (.s rfl (.s rfl (.s rfl (.s rfl (.s rfl (.s rfl (.s rfl (.s rfl (.s rfl (.s rfl (.s rfl (.s rfl (.s rfl (.s rfl (.s rfl (.s rfl (.s rfl (.s rfl (.s rfl (.s rfl (.s rfl (.s rfl (.s rfl (.s rfl (.s rfl (.s rfl (.s rfl (.s rfl (.s rfl (.s rfl (.s rfl (.s rfl (.s rfl (.s rfl (.s rfl (.s rfl (.s rfl (.s rfl (.s rfl (.s rfl (.s rfl (.s rfl (.s rfl (.s rfl (.s rfl (.s rfl (.s rfl (.s rfl (.s rfl (.s rfl (.s rfl (.s rfl (.s rfl (.s rfl (.s rfl (.s rfl (.s rfl (.s rfl (.s rfl (.s rfl (.s rfl (.s rfl (.s rfl (.z))))))))))))))))))))))))))))))))))))))))))))))))))))))))))))))))))))))))))))))))))))))))))))))))))))))))))))))))))))) (hst)
        · replace hp := hp.2 (of_decide_eq_false hc141)
          refine wp_skip ?_
          refine hJ64K r15 _ _ hp (by first | (simp only [List.set_cons_succ, List.set_cons_zero]; exact .s rfl (.s rfl (.s rfl (.s rfl (.s rfl (.s rfl (.s rfl (.s rfl (.s rfl (.s rfl (.s rfl (.s rfl (.s rfl (.s rfl (.s rfl (.s rfl (.s rfl (.s rfl (.s rfl (.s rfl (.s rfl (.s rfl (.s rfl (.s rfl (.s rfl (.s rfl (.s rfl (.s rfl (.s rfl (.s rfl (.s rfl (.s rfl (.s rfl (.s rfl (.s rfl (.s rfl (.s rfl (.s rfl (.s rfl (.s rfl (.s rfl (.s rfl (.s rfl (.s rfl (.s rfl (.s rfl (.s rfl (.s rfl (.s rfl (.s rfl (.s rfl (.s rfl (.s rfl (.s rfl (.s rfl (.s rfl (.s rfl (.s rfl (.s rfl (.s rfl (.s rfl (.s rfl (.s rfl (.s rfl (.s rfl (.s rfl (.s rfl (.s rfl (.s rfl (.s rfl (.s rfl (.s rfl (.s rfl (.s rfl (.s rfl (.s rfl (.s rfl (.s rfl (.s rfl (.s rfl (.s rfl (.s rfl (.s rfl (.s rfl (.s rfl (.s rfl (.s rfl (.s rfl (.s rfl (.s rfl (.s rfl (.s rfl (.s rfl (.s rfl (.s rfl (.s rfl (.s rfl (.s rfl (.s rfl (.s rfl (.s rfl (.s rfl (.s rfl (.s rfl (.s rfl (.s rfl (.s rfl (.s rfl (.s rfl (.s rfl (.s rfl (.s rfl (.s rfl (.s rfl (.s rfl (.s rfl (.z))))))))))))))))))))))))))))))))))))))))))))))))))))))))))))))))))))))))))))))))))))))))))))))))))))))))))))))))))))) | exact .s rfl (.s rfl (.s rfl (.s rfl (.s rfl (.s rfl (.s rfl (.s rfl (.s rfl (.s rfl (.s rfl (.s rfl (.s rfl (.s rfl (.s rfl (.s rfl (.s rfl (.s rfl (.s rfl (.s rfl (.s rfl (.s rfl (.s rfl (.s rfl (.s rfl (.s rfl (.s rfl (.s rfl (.s rfl (.s rfl (.s rfl (.s rfl (.s rfl (.s rfl (.s rfl (.s rfl (.s rfl (.s rfl (.s rfl (.s rfl (.s rfl (.s rfl (.s rfl (.s rfl (.s rfl (.s rfl (.s rfl (.s rfl (.s rfl (.s rfl (.s rfl (.s rfl (.s rfl (.s rfl (.s rfl (.s rfl (.s rfl (.s rfl (.s rfl (.s rfl (.s rfl (.s rfl (.s rfl (.s rfl (.s rfl (.s rfl (.s rfl (.s rfl (.s rfl (.s rfl (.s rfl (.s rfl (.s rfl (.s rfl (.s rfl (.s rfl (.s rfl (.s rfl (.s rfl (.s rfl (.s rfl (.s rfl (.s rfl (.s rfl (.s rfl (.s rfl (.s rfl (.s rfl (.s rfl (.s rfl (.s rfl (.s rfl (.s rfl (.s rfl (.s rfl (.s rfl (.s rfl (.s rfl (.s rfl (.s rfl (.s rfl (.s rfl (.s rfl (.s rfl (.s rfl (.s rfl (.s rfl (.s rfl (.s rfl (.s rfl (.s rfl (.s rfl (.s rfl (.s rfl (.s rfl (.s rfl (.z))))))))))))))))))))))))))))))))))))))))))))))))))))))))))))))))))))))))))))))))))))))))))))))))))))))))))))))))))))) (hst)
end Go.Proofs.Ytafmgghpcneoeaa
