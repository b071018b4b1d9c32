/- Slices of a walk's own, and appends onto them. -/
import Derived.Test.YtafmgghpcneoeaaApp
namespace Go.Proofs.Ytafmgghpcneoeaa
open Go Go.BigFrame

/-- A slice of the walk's own: its block, if it has one, stands alone in o. -/
def OwnB (e : TypeId) (sz : Nat) (rows : List (List Value)) (v : Value) (o : List (Nat × Obj)) : Prop :=
  (rows = [] ∧ o = [] ∧ ∃ a, v = .slice a 0 0) ∨
  ∃ c cap Z, rows.length ≤ cap ∧ v = .slice (some ⟨c, 0, none⟩) rows.length cap ∧ o = [(c, .cells (rows.flatten ++ Z).toArray e (0, 0))] ∧ Z.length = (cap - rows.length) * sz

theorem OwnB.nil (e : TypeId) (sz : Nat) (a : Option Addr) : OwnB e sz [] (.slice a 0 0) [] := .inl ⟨rfl, rfl, a, rfl⟩

section
variable {P : Program} {ops : Array Oper} {S : World → Prop} {rp : Nat → Bool} {Q : Act → World → Prop}
variable {rest : List Oper} {l : List Value} {w : World} {d : Nat} {ty : TypeId} {pos : String} {af : Array Edge} {gd : Option (Nat × Bool)}
variable {M : Nat → Prop} {w0 : World} {g : Gh} {ls o : List (Nat × Obj)}

theorem TL.push {t e : TypeId} {x y : Operand} {sz bz : Nat} {rows news : List (List Value)} {v u : Value} (hst : St M w0 w g (ls ++ o)) (ha : AE P t e sz bz) (ho : OwnB e sz rows v o) (h1 : ∀ r ∈ rows, r.length = sz ∧ One r)
    (hu : SrcAt w sz news u) (h2 : ∀ r ∈ news, r.length = sz ∧ One r) (hb : (rows.length + news.length) * bz ≤ 140737488355328) (hx : ev l x = v) (hy : ev l y = u)
    (hg : Region.wanted ⟨some d, .call { callee := .builtin .append, args := #[x, y], argTypes := #[t, t] }, ty, pos, af, gd⟩ (yielded ops (F l).tmps) = true)
    (h : ∀ W v' o', OwnB e sz (rows ++ news) v' o' → St M w0 W g (ls ++ o') → S W ∧ TL P ops S rp Q rest (F (l.set d v')) W) :
    TL P ops S rp Q (⟨some d, .call { callee := .builtin .append, args := #[x, y], argTypes := #[t, t] }, ty, pos, af, gd⟩ :: rest) (F l) w := by
  obtain ⟨i, z, hi, hz, hsz, hbz, hzs⟩ := ha.info
  have hpos := ha.pos
  have hsrc := hu.kit ha.ty h2
  have hrl := flatten_len rows (fun r hr => (h1 r hr).1)
  have hnl := flatten_len news (fun r hr => (h2 r hr).1)
  have hle : rows.length + news.length ≤ (rows.length + news.length) * bz := Nat.le_mul_of_pos_right _ hpos.2
  have step : ∀ v' W', (Builtin.append_ #[t, t] ty #[v, u]).run P w = .ok v' W' → ∀ o', OwnB e sz (rows ++ news) v' o' → St M w0 W' g (ls ++ o') →
      TL P ops S rp Q (⟨some d, .call { callee := .builtin .append, args := #[x, y], argTypes := #[t, t] }, ty, pos, af, gd⟩ :: rest) (F l) w := by
    intro v' W' hrun o' ho' hst'
    refine TL.eff v' W' (by simp [opKind]) hg ?_ (h _ _ _ ho' hst')
    rw [execOp_builtin, builtin_append]
    simp only [List.map_toArray, List.map_cons, List.map_nil, hx, hy, Sem.run_bind, hrun, Result.andThen_ok]
    rfl
  -- a new block
  have grow : ∀ (bs : Option Addr) (sc : Nat), v = .slice bs rows.length sc → sc < rows.length + news.length → (Builtin.firstCells i.size rows.length (.slice bs rows.length sc)).run P w.drew = .ok rows.flatten.toArray w.drew → St M w0 w g ls →
      TL P ops S rp Q (⟨some d, .call { callee := .builtin .append, args := #[x, y], argTypes := #[t, t] }, ty, pos, af, gd⟩ :: rest) (F l) w := by
    intro bs sc hv hlt hold hst0
    subst hv
    have hrun := run_append_grow_src (P := P) w t t ty e i z ha.ty hi hz bs rows.length sc rows.flatten hold u news.length news.flatten (by rw [hsz]; exact hsrc) hlt (by omega) (growslice_fits hlt (by rw [hbz]; exact hb))
    have hge := grownCap_ge w (rows.length + news.length) sc e
    refine step _ _ hrun [(w.heap.size, .cells ((rows ++ news).flatten ++ (Builtin.zeroCells z.cells (grownCap w (rows.length + news.length) sc e - (rows.length + news.length))).toList).toArray e (0, 0))] (.inr ⟨w.heap.size, _, (Builtin.zeroCells z.cells (grownCap w (rows.length + news.length) sc e - (rows.length + news.length))).toList, by simpa using hge, by simp, rfl, ?_⟩) ?_
    · rw [Array.length_toList, size_zeroCells, hzs, List.length_append]
    · have hal := hst0.drew.alloc (.cells ((rows.flatten ++ news.flatten).toArray ++ Builtin.zeroCells z.cells (grownCap w (rows.length + news.length) sc e - (rows.length + news.length))) e)
      have e1 : (Obj.cells ((rows.flatten ++ news.flatten).toArray ++ Builtin.zeroCells z.cells (grownCap w (rows.length + news.length) sc e - (rows.length + news.length))) e) = .cells ((rows ++ news).flatten ++ (Builtin.zeroCells z.cells (grownCap w (rows.length + news.length) sc e - (rows.length + news.length))).toList).toArray e (0, 0) := by
        congr 1
        apply Array.ext'
        simp
      rw [← e1]
      exact hal.perm (List.perm_append_comm (l₁ := [_]) (l₂ := ls))
  by_cases hn : news = []
  · subst hn
    rcases ho with ⟨rfl, rfl, a, rfl⟩ | ⟨c, cap, Z, hcap, rfl, rfl, hZ⟩
    · exact step _ _ (run_append_nothing (P := P) w t t ty e i ha.ty hi a 0 0 (Nat.le_refl _) u (by rw [hsz]; exact hsrc)) [] (.inl ⟨rfl, rfl, a, rfl⟩) hst
    · refine step _ _ (run_append_nothing (P := P) w t t ty e i ha.ty hi _ _ _ hcap u (by rw [hsz]; exact hsrc)) _ (.inr ⟨c, cap, Z, by simpa using hcap, by simp, by simp, by simpa using hZ⟩) hst
  · have hn0 : 0 < news.length := List.length_pos_iff.2 hn
    rcases ho with ⟨rfl, rfl, a, rfl⟩ | ⟨c, cap, Z, hcap, rfl, rfl, hZ⟩
    · exact grow a 0 rfl (by simpa using hn0) (by
        cases a with
        | none => exact run_firstCells_none w.drew i.size 0 0 0
        | some a => exact run_firstCells_some w.drew i.size 0 a 0 0 [] (by simp) (by simp)) (by simpa using hst)
    · have hblk := hst.mem (i := ls.length) (b := c) (o := .cells (rows.flatten ++ Z).toArray e (0, 0)) (by simp)
      have hlen : (rows.flatten ++ Z).length = cap * sz := by
        rw [List.length_append, hrl, hZ, ← Nat.add_mul]
        congr 1
        omega
      by_cases hroom : rows.length + news.length ≤ cap
      · have hk : news.flatten.length ≤ Z.length := by
          rw [hnl, hZ]
          exact Nat.mul_le_mul_right _ (by omega)
        have hfit : 0 + rows.length * i.size + news.flatten.length ≤ (rows.flatten ++ Z).length := by
          rw [List.length_append, hrl, hsz]; omega
        have hth := there_of_block (o := 0 + rows.length * i.size) hblk hfit
        have hrun := run_append_room_src (P := P) w t t ty e i ha.ty hi c 0 rows.length cap u news.length news.flatten (by rw [hsz]; exact hsrc) hroom (fun j hj => (hth j hj).1) (fun j hj => (hth j hj).2)
        have hput : Put (rows.flatten ++ Z) (0 + rows.length * i.size) news.flatten (rows.flatten ++ (news.flatten ++ Z.drop news.flatten.length)) := by
          have h3 := Put.skip (s := rows.flatten) (m := rows.length * sz) hrl (Put.here (s := Z.take news.flatten.length) (r := Z.drop news.flatten.length) (vs := news.flatten) (by rw [List.length_take]; omega))
          rw [List.take_append_drop, Nat.add_zero] at h3
          rw [Nat.zero_add, hsz]; exact h3
        obtain ⟨k2, k3, k4, k5, k6, k7⟩ := setCells_all news.flatten hblk hput
        have hst2 := hst.put (i := ls.length) (b := c) (o := .cells (rows.flatten ++ Z).toArray e (0, 0)) (by simp) k5 k6 k7 k4 k2 k3
        have e1 : (ls ++ [(c, Obj.cells (rows.flatten ++ Z).toArray e (0, 0))]).set ls.length (c, Obj.cells (rows.flatten ++ (news.flatten ++ Z.drop news.flatten.length)).toArray e (0, 0)) = ls ++ [(c, Obj.cells ((rows ++ news).flatten ++ Z.drop news.flatten.length).toArray e (0, 0))] := by
          rw [List.set_append_right _ _ (Nat.le_refl _), Nat.sub_self, List.flatten_append, List.append_assoc]
          rfl
        rw [e1] at hst2
        refine step _ _ hrun _ (.inr ⟨c, cap, Z.drop news.flatten.length, by simpa using hroom, by simp, rfl, ?_⟩) hst2
        rw [List.length_drop, hZ, hnl, List.length_append, ← Nat.sub_mul]
        congr 1
        omega
      · refine grow (some ⟨c, 0, none⟩) cap rfl (by omega) (run_firstCells_some w.drew i.size rows.length ⟨c, 0, none⟩ rows.length cap rows.flatten (by rw [hsz]; exact hrl) (fun j v hj => ?_)) (hst.sub (List.sublist_append_left ls _))
        have hadd : (⟨c, 0, none⟩ : Addr).add j = ⟨c, j, none⟩ := by
          unfold Addr.add
          by_cases h0 : j = 0
          · rw [if_pos h0, h0]
          · rw [if_neg h0, Nat.zero_add]
        rw [hadd]
        have hj' : (rows.flatten ++ Z)[j]? = some v := by rw [List.getElem?_append_left (List.getElem?_eq_some_iff.1 hj).1]; exact hj
        exact cell_of_block hblk hj'
end
end Go.Proofs.Ytafmgghpcneoeaa
