/- Walks, printed by wip/tools/gen.py: what each function comes to. -/
import Derived.Test.YtafmgghpcneoeaaTyp
import Derived.Test.YtafmgghpcneoeaaProg
import Derived.KernelRfl

namespace Go.Proofs.Ytafmgghpcneoeaa
open Go Go.RowKit
set_option maxRecDepth 100000
set_option maxHeartbeats 2000000

theorem clone_b (rows : List (List Value)) (v : Value) (g : Gh) (w0 : World) (hg : Has w0 g) (hv : SlAt g 1 rows v) (h1 : ∀ r ∈ rows, r.length = 1 ∧ One r) (hb : rows.length * 1 ≤ 140737488355328) : Calls Try.prog 92 #[v] w0 (Ret fun u w => ∃ g', Gr w0 w g g' ∧ SlAt g' 1 rows u) := by
  obtain ⟨a, cap, rfl, hv2⟩ := id hv.ex
  go_enter Try.func92, Try.ntmps92
  change Code.wp _ _ _ (F [Value.slice a rows.length cap, undef, undef, undef, undef, undef, undef, undef]) _
  have hst := St.start Non hg
  have hgn0 : GNew w0 g g := GNew.refl _ _
  have hle0 : g.le g := Gh.le_refl _
  refine E.seq (fun K1 hK1 => ?_)
  refine rg ?_
  refine TL.assign (Value.slice none 0 0) rfl rfl ?_
  refine TL.nil ?_
  refine hK1 _ _ ?_
  refine E.norm (by simp only [List.set_cons_succ, List.set_cons_zero]; rfl) ?_
  refine E.seq (fun K2 hK2 => ?_)
  refine E.seq (fun K3 hK3 => ?_)
  refine rg ?_
  refine TL.move (Value.slice a rows.length cap) rfl rfl ?_
  refine TL.eqlNilSl (a := a) Try.underlying24 rfl rfl rfl ?_
  refine TL.nil ?_
  refine hK3 _ _ ?_
  refine E.norm (by simp only [List.set_cons_succ, List.set_cons_zero]; rfl) ?_
  refine E.cond rfl (fun hc1 => ?_) (fun hc1 => ?_)
  · have hc1 := hc1
    refine E.seq (fun K4 hK4 => ?_)
    refine rg ?_
    refine TL.assign (Value.slice none 0 0) rfl rfl ?_
    refine TL.nil ?_
    refine hK4 _ _ ?_
    refine E.norm (by simp only [List.set_cons_succ, List.set_cons_zero]; rfl) ?_
    refine wp_ret ?_
    refine E.ret _ (Rs.t (Value.slice none 0 0) rfl rfl) ?_
    exact ⟨g, ⟨hst.keep, hst.has, Gh.le_refl _, GNew.refl _ _⟩, clone_nil hc1 hv2⟩
  · have hc1 := hc1
    refine wp_skip ?_
    refine hK2 _ _ ?_
    refine E.seq (fun K5 hK5 => ?_)
    refine rg ?_
    refine TL.buildSl [] [] hst sl24 zv5 rfl rfl (by simp) rfl (by decide) rfl ?_
    intro w n1 hst
    refine ⟨trivial, ?_⟩
    refine TL.move (Value.slice a rows.length cap) rfl rfl ?_
    refine TL.clone hst ae24 (hv) (h1) (hb) rfl rfl rfl ?_
    intro w2 g2 vg2 hst2 hleg2 hgng2 hslg2
    replace hgn0 := hgn0.trans hgng2 hst.keep.size
    replace hle0 := Gh.le_trans hle0 hleg2
    clear hst
    have hst := hst2
    refine ⟨trivial, ?_⟩
    refine TL.norm (by simp only [List.set_cons_succ, List.set_cons_zero]; rfl) ?_
    refine TL.assign (vg2) rfl rfl ?_
    refine TL.nil ?_
    refine hK5 _ _ ?_
    refine E.norm (by simp only [List.set_cons_succ, List.set_cons_zero]; rfl) ?_
    refine wp_ret ?_
    refine E.ret _ (Rs.t (vg2) rfl rfl) ?_
    exact ⟨g2, ⟨hst.keep, hst.has, hle0, hgn0⟩, hslg2⟩

theorem clone_s (rows : List (List Value)) (v : Value) (g : Gh) (w0 : World) (hg : Has w0 g) (hv : SlAt g 8 rows v) (h1 : ∀ r ∈ rows, r.length = 8 ∧ One r) (hb : rows.length * 64 ≤ 140737488355328) : Calls Try.prog 93 #[v] w0 (Ret fun u w => ∃ g', Gr w0 w g g' ∧ SlAt g' 8 rows u) := by
  obtain ⟨a, cap, rfl, hv2⟩ := id hv.ex
  go_enter Try.func93, Try.ntmps93
  change Code.wp _ _ _ (F [Value.slice a rows.length cap, undef, undef, undef, undef, undef, undef, undef]) _
  have hst := St.start Non hg
  have hgn0 : GNew w0 g g := GNew.refl _ _
  have hle0 : g.le g := Gh.le_refl _
  refine E.seq (fun K1 hK1 => ?_)
  refine rg ?_
  refine TL.assign (Value.slice none 0 0) rfl rfl ?_
  refine TL.nil ?_
  refine hK1 _ _ ?_
  refine E.norm (by simp only [List.set_cons_succ, List.set_cons_zero]; rfl) ?_
  refine E.seq (fun K2 hK2 => ?_)
  refine E.seq (fun K3 hK3 => ?_)
  refine rg ?_
  refine TL.move (Value.slice a rows.length cap) rfl rfl ?_
  refine TL.eqlNilSl (a := a) Try.underlying32 rfl rfl rfl ?_
  refine TL.nil ?_
  refine hK3 _ _ ?_
  refine E.norm (by simp only [List.set_cons_succ, List.set_cons_zero]; rfl) ?_
  refine E.cond rfl (fun hc1 => ?_) (fun hc1 => ?_)
  · have hc1 := hc1
    refine E.seq (fun K4 hK4 => ?_)
    refine rg ?_
    refine TL.assign (Value.slice none 0 0) rfl rfl ?_
    refine TL.nil ?_
    refine hK4 _ _ ?_
    refine E.norm (by simp only [List.set_cons_succ, List.set_cons_zero]; rfl) ?_
    refine wp_ret ?_
    refine E.ret _ (Rs.t (Value.slice none 0 0) rfl rfl) ?_
    exact ⟨g, ⟨hst.keep, hst.has, Gh.le_refl _, GNew.refl _ _⟩, clone_nil hc1 hv2⟩
  · have hc1 := hc1
    refine wp_skip ?_
    refine hK2 _ _ ?_
    refine E.seq (fun K5 hK5 => ?_)
    refine rg ?_
    refine TL.buildSl [] [] hst sl32 zv131 rfl rfl (by simp) rfl (by decide) rfl ?_
    intro w n1 hst
    refine ⟨trivial, ?_⟩
    refine TL.move (Value.slice a rows.length cap) rfl rfl ?_
    refine TL.clone hst ae32 (hv) (h1) (hb) rfl rfl rfl ?_
    intro w2 g2 vg2 hst2 hleg2 hgng2 hslg2
    replace hgn0 := hgn0.trans hgng2 hst.keep.size
    replace hle0 := Gh.le_trans hle0 hleg2
    clear hst
    have hst := hst2
    refine ⟨trivial, ?_⟩
    refine TL.norm (by simp only [List.set_cons_succ, List.set_cons_zero]; rfl) ?_
    refine TL.assign (vg2) rfl rfl ?_
    refine TL.nil ?_
    refine hK5 _ _ ?_
    refine E.norm (by simp only [List.set_cons_succ, List.set_cons_zero]; rfl) ?_
    refine wp_ret ?_
    refine E.ret _ (Rs.t (vg2) rfl rfl) ?_
    exact ⟨g2, ⟨hst.keep, hst.has, hle0, hgn0⟩, hslg2⟩
end Go.Proofs.Ytafmgghpcneoeaa
