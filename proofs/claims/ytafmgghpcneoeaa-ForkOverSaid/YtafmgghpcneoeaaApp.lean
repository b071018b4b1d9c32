/- Appending: a copy of a slice that is read. -/
import Derived.Test.YtafmgghpcneoeaaStr
import Derived.Deep.AppendSrc
import Derived.Deep.Upon
namespace Go.Proofs.Ytafmgghpcneoeaa
open Go Go.BigFrame

/-- A frame of which some slots are known. -/
def Fits : List (Option Value) → List Value → Prop
  | [], [] => True
  | some v :: ps, x :: xs => x = v ∧ Fits ps xs
  | none :: ps, _ :: xs => Fits ps xs
  | _, _ => False
theorem Fits.z : Fits [] [] := trivial
theorem Fits.s {v x : Value} {ps : List (Option Value)} {xs : List Value} (h : x = v) (k : Fits ps xs) : Fits (some v :: ps) (x :: xs) := ⟨h, k⟩
theorem Fits.n {x : Value} {ps : List (Option Value)} {xs : List Value} (k : Fits ps xs) : Fits (none :: ps) (x :: xs) := k
def fillF : List (Option Value) → (Nat → Value) → Nat → List Value
  | [], _, _ => []
  | some v :: ps, J, n => v :: fillF ps J (n + 1)
  | none :: ps, J, n => J n :: fillF ps J (n + 1)
theorem fillF_ext : ∀ (ps : List (Option Value)) (J J' : Nat → Value) (n : Nat), (∀ i, n ≤ i → J i = J' i) → fillF ps J n = fillF ps J' n
  | [], _, _, _, _ => rfl
  | some v :: ps, J, J', n, h => by simp only [fillF, fillF_ext ps J J' (n + 1) (fun i hi => h i (by omega))]
  | none :: ps, J, J', n, h => by simp only [fillF, fillF_ext ps J J' (n + 1) (fun i hi => h i (by omega)), h n (Nat.le_refl n)]
theorem Fits.exN : ∀ {ps : List (Option Value)} {l : List Value} (n : Nat), Fits ps l → ∃ J : Nat → Value, l = fillF ps J n
  | [], [], _, _ => ⟨fun _ => undef, rfl⟩
  | some v :: ps, x :: xs, n, h => by
    obtain ⟨J, hJ⟩ := Fits.exN (n + 1) h.2
    exact ⟨J, by simp only [fillF, ← hJ, h.1]⟩
  | none :: ps, x :: xs, n, h => by
    have h' : Fits ps xs := h
    obtain ⟨J, hJ⟩ := Fits.exN (n + 1) h'
    refine ⟨fun i => if i = n then x else J i, ?_⟩
    have e : fillF ps (fun i => if i = n then x else J i) (n + 1) = fillF ps J (n + 1) := fillF_ext _ _ _ _ fun i hi => by
      have : ¬ i = n := by omega
      simp [this]
    simp only [fillF, e, ← hJ, if_true]
theorem Fits.ex {ps : List (Option Value)} {l : List Value} (h : Fits ps l) : ∃ J : Nat → Value, l = fillF ps J 0 := h.exN 0

/-- What an append asks of its element's type. -/
structure AE (P : Program) (t e : TypeId) (sz bz : Nat) : Prop where
  ty : P.underlying t = some (.slice e)
  size : (P.info? e).map (·.size) = some sz
  bytes : (P.info? e).map (·.bytes) = some bz
  zero : ∃ z, (P.info? e).map (·.zero) = some (some z) ∧ z.cells.size = sz
  pos : 0 < sz ∧ 0 < bz

theorem AE.info {P : Program} {t e : TypeId} {sz bz : Nat} (h : AE P t e sz bz) : ∃ i z, P.info? e = some i ∧ i.zero = some z ∧ i.size = sz ∧ i.bytes = bz ∧ z.cells.size = sz := by
  obtain ⟨z, h1, h2⟩ := h.zero
  have h3 := h.size
  have h4 := h.bytes
  cases hi : P.info? e with
  | none => rw [hi] at h3; cases h3
  | some i =>
    rw [hi] at h1 h3 h4
    exact ⟨i, z, rfl, by simpa using h1, by simpa using h3, by simpa using h4, h2⟩

theorem get_flatten {sz : Nat} : ∀ (rows : List (List Value)) (j : Nat) (u : Value), (∀ r ∈ rows, r.length = sz) → rows.flatten[j]? = some u → ∃ i k r, j = i * sz + k ∧ rows[i]? = some r ∧ r[k]? = some u
  | [], j, u, _, h => by simp at h
  | r0 :: rows, j, u, hr, h => by
    have h0 : r0.length = sz := hr r0 (by simp)
    rw [List.flatten_cons] at h
    by_cases hj : j < r0.length
    · rw [List.getElem?_append_left hj] at h
      exact ⟨0, j, r0, by simp, rfl, h⟩
    · rw [List.getElem?_append_right (by omega)] at h
      obtain ⟨i, k, r, h1, h2, h3⟩ := get_flatten rows _ u (fun r hr' => hr r (by simp [hr'])) h
      exact ⟨i + 1, k, r, by rw [Nat.succ_mul]; omega, by simpa using h2, h3⟩

theorem flatten_len {sz : Nat} : ∀ (rows : List (List Value)), (∀ r ∈ rows, r.length = sz) → rows.flatten.length = rows.length * sz
  | [], _ => by simp
  | r0 :: rows, h => by
    rw [List.flatten_cons, List.length_append, h r0 (by simp), flatten_len rows (fun r hr => h r (by simp [hr])), List.length_cons, Nat.succ_mul]
    omega

/-- The slice v holds these rows, in w. -/
structure SrcAt (w : World) (sz : Nat) (rows : List (List Value)) (v : Value) : Prop where
  ex : ∃ a cap, v = .slice a rows.length cap ∧ (rows ≠ [] → ∃ b o, a = some ⟨b, o, none⟩ ∧ ∀ i r, rows[i]? = some r → w.rangeAt b (o + i * sz) r)
theorem SlAt.src {g : Gh} {w : World} {sz : Nat} {rows : List (List Value)} {v : Value} (h : SlAt g sz rows v) (hg : Has w g) : SrcAt w sz rows v := by
  obtain ⟨a, cap, h1, h2⟩ := h.ex
  exact ⟨a, cap, h1, fun hr => by
    obtain ⟨b, o, h3, h4⟩ := h2 hr
    exact ⟨b, o, h3, fun i r hi => (h4 i r hi).at_ hg⟩⟩

theorem SrcAt.kit {P : Program} {w : World} {t e : TypeId} {sz : Nat} {rows : List (List Value)} {v : Value} (h : SrcAt w sz rows v) (ht : P.underlying t = some (.slice e)) (h1 : ∀ r ∈ rows, r.length = sz ∧ One r) : Src P sz t v rows.length rows.flatten w := by
  obtain ⟨a, cap, rfl, h2⟩ := h.ex
  have hl := flatten_len rows (fun r hr => (h1 r hr).1)
  by_cases hr : rows = []
  · subst hr
    cases a with
    | none => exact Src.ofNil w ht cap
    | some a => exact Src.ofSlice w ht a _ cap _ (by simp) (by simp) (by simp)
  · obtain ⟨b, o, rfl, h3⟩ := h2 hr
    refine Src.ofSlice w ht _ _ cap _ hl (fun j u hj => ?_) (fun u hu => ?_)
    · obtain ⟨i, k, r, rfl, h4, h5⟩ := get_flatten rows j u (fun r hr => (h1 r hr).1) hj
      have h6 := h3 i r h4 k u h5
      have e1 : (⟨b, o, none⟩ : Addr).add (i * sz + k) = ⟨b, o + i * sz + k, none⟩ := by
        unfold Addr.add
        by_cases h0 : i * sz + k = 0
        · rw [if_pos h0]; congr 1; omega
        · rw [if_neg h0, Nat.add_assoc]
      rw [e1]; exact h6
    · obtain ⟨r, hr', hu'⟩ := List.mem_flatten.1 hu
      exact (h1 r hr').2 u hu'

/-- What a callee leaves: nothing that stood has turned, and more is known for good. -/
structure Gr (w0 w : World) (g g' : Gh) : Prop where
  keep : Keep Non w0 w
  has : Has w g'
  le : g.le g'
  new : GNew w0 g g'
theorem GNew.trans {w0 w : World} {g g1 g2 : Gh} (h : GNew w0 g g1) (k : GNew w g1 g2) (hs : w0.heap.size ≤ w.heap.size) : GNew w0 g g2 := fun b o hb => by
  rcases k b o hb with h1 | h1
  · exact h b o h1
  · exact .inr (Nat.le_trans hs h1)

theorem St.down {M : Nat → Prop} {w0 w : World} {g g' : Gh} {l : List (Nat × Obj)} (h : St M w0 w g' l) (hl : g.le g') : St M w0 w g l :=
  ⟨h.keep, h.has.mono hl, fun p hp => by
    obtain ⟨h1, h2, h3⟩ := h.loc p hp
    refine ⟨h1, ?_, h3⟩
    have key : ∀ o, g p.1 = some o → False := fun o ho => by rw [hl _ _ ho] at h2; cases h2
    exact Option.eq_none_iff_forall_ne_some.2 fun o ho => key o ho, h.nd⟩
theorem SlAt.cell {g : Gh} {sz : Nat} {rows : List (List Value)} {v : Value} (h : SlAt g sz rows v) : v.cells.toList = [v] := by
  obtain ⟨a, cap, rfl, _⟩ := h.ex; rfl

theorem clone_nil {g : Gh} {sz : Nat} {rows : List (List Value)} {a : Option Addr} {X : Nat → Nat → Prop} (h : a.isNone = true) (k : rows ≠ [] → ∃ b o, a = some ⟨b, o, none⟩ ∧ X b o) : SlAt g sz rows (.slice none 0 0) := by
  by_cases hr : rows = []
  · subst hr; exact SlAt.nil _ _
  · obtain ⟨b, o, h1, _⟩ := k hr
    rw [h1] at h; cases h

section
variable {P : Program} {ops : Array Oper} {S : World → Prop} {rp : Nat → Bool} {Q : Act → World → Prop}
variable {rest : List Oper} {l : List Value} {w : World} {d : Nat} {ty : TypeId} {pos : String} {af : Array Edge} {gd : Option (Nat × Bool)}
variable {M : Nat → Prop} {w0 : World} {g : Gh} {ls : List (Nat × Obj)}

theorem TL.clone {t e : TypeId} {x y : Operand} {a0 : Addr} {sz bz : Nat} {rows : List (List Value)} {v : Value} (hst : St M w0 w g ls) (ha : AE P t e sz bz) (hr : SlAt g sz rows v) (h1 : ∀ r ∈ rows, r.length = sz ∧ One r)
    (hb : rows.length * bz ≤ 140737488355328) (hx : ev l x = .slice (some a0) 0 0) (hy : ev l y = v)
    (hg : Region.wanted ⟨some d, .call { callee := .builtin .append, args := #[x, y], argTypes := #[t, t] }, ty, pos, af, gd⟩ (yielded ops (F l).tmps) = true)
    (h : ∀ W g' v', St M w0 W g' ls → g.le g' → GNew w g g' → SlAt g' sz rows v' → S W ∧ TL P ops S rp Q rest (F (l.set d v')) W) :
    TL P ops S rp Q (⟨some d, .call { callee := .builtin .append, args := #[x, y], argTypes := #[t, t] }, ty, pos, af, gd⟩ :: rest) (F l) w := by
  obtain ⟨i, z, hi, hz, hsz, hbz, hzs⟩ := ha.info
  have hpos := ha.pos
  have hsrc := (hr.src hst.has).kit ha.ty h1
  by_cases hr0 : rows = []
  · subst hr0
    refine TL.eff (.slice (some a0) 0 0) w (by simp [opKind]) hg ?_ (h w g _ hst (Gh.le_refl _) (GNew.refl _ _) ⟨_, _, rfl, fun h => absurd rfl h⟩)
    have := run_append_nothing (P := P) w t t ty e i ha.ty hi (some a0) 0 0 (Nat.le_refl _) v (by rw [hsz]; exact hsrc)
    rw [execOp_builtin, builtin_append]
    simp only [List.map_toArray, List.map_cons, List.map_nil, hx, hy, Sem.run_bind, this, Result.andThen_ok]
    rfl
  · have hn : 0 < rows.length := List.length_pos_iff.2 hr0
    have hle : rows.length ≤ rows.length * bz := Nat.le_mul_of_pos_right _ hpos.2
    have hrun := run_append_grow_src (P := P) w t t ty e i z ha.ty hi hz (some a0) 0 0 [] (by simpa using run_firstCells_some w.drew i.size 0 a0 0 0 [] (by simp) (by simp)) v rows.length rows.flatten (by rw [hsz]; exact hsrc) (by omega) (by omega) (growslice_fits (by omega) (by rw [hbz]; simpa using hb))
    have hal := hst.drew.alloc (.cells (([] ++ rows.flatten).toArray ++ Builtin.zeroCells z.cells (grownCap w (0 + rows.length) 0 e - (0 + rows.length))) e)
    have hnone : g w.heap.size = none := by
      cases hgc : g w.heap.size with
      | none => rfl
      | some o =>
        have := hst.has _ _ hgc
        simp at this
    obtain ⟨hf, hfl⟩ := hal.free
    refine TL.eff _ _ (by simp [opKind]) hg ?_ (h _ _ (.slice (some ⟨w.heap.size, 0, none⟩) (0 + rows.length) (grownCap w (0 + rows.length) 0 e)) hf hfl ((GNew.refl w g).add _ (Nat.le_refl _)) ?_)
    · rw [execOp_builtin, builtin_append]
      simp only [List.map_toArray, List.map_cons, List.map_nil, hx, hy, Sem.run_bind, hrun, Result.andThen_ok]
      rfl
    · rw [Nat.zero_add]
      refine SlAt.new (e := e) (fr := (0, 0)) (Builtin.zeroCells z.cells (grownCap w (0 + rows.length) 0 e - (0 + rows.length))).toList ?_ (fun r hr => (h1 r hr).1)
      show (g.add w.heap.size _) w.heap.size = _
      rw [Gh.add_self]
      congr 2
      apply Array.ext'
      simp
end
end Go.Proofs.Ytafmgghpcneoeaa
