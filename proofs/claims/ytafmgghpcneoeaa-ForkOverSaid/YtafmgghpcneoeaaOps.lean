/- One lemma for each operation. -/
import Derived.Test.YtafmgghpcneoeaaWld
namespace Go.Proofs.Ytafmgghpcneoeaa
open Go Go.BigFrame

/-- A type whose variables have n cells; one of one cell. -/
structure TA (P : Program) (t : TypeId) (n : Nat) : Prop where
  row : ∃ d, P.underlying t = some d ∧ d.isRow = true
  size : (P.info? t).map (·.size) = some n
structure TS (P : Program) (t : TypeId) : Prop where
  one : ∃ d, P.underlying t = some d ∧ d.isRow = false
  size : (P.info? t).map (·.size) = some 1

def One (cs : List Value) : Prop := ∀ u ∈ cs, u.oneCell' = true
theorem One.nil : One [] := fun _ h => by cases h
theorem One.app {a b : List Value} (h : One a) (k : One b) : One (a ++ b) := fun u hu => by
  rcases List.mem_append.1 hu with h' | h'
  · exact h u h'
  · exact k u h'
theorem One.one {v : Value} (h : v.oneCell' = true) : One [v] := fun u hu => by
  rw [List.mem_singleton.1 hu]; exact h

theorem rangeAt_of_block {w : World} {b o : Nat} {L cs : List Value} {E : TypeId} {fr : Nat × Nat} (h : w.heap[b]? = some (.cells L.toArray E fr)) (hs : Seg L o cs) : w.rangeAt b o cs := fun j v hj => by
  have := hs j v hj
  simp only [World.cell?, h]
  simp [this]

theorem cell_of_block {w : World} {b o : Nat} {L : List Value} {E : TypeId} {fr : Nat × Nat} {v : Value} (h : w.heap[b]? = some (.cells L.toArray E fr)) (hs : L[o]? = some v) : w.cell? ⟨b, o, none⟩ = some v := by
  simp only [World.cell?, h]
  simp [hs]

/-- A piece of what is known for good. -/
def Gh.rng (g : Gh) (b o : Nat) (cs : List Value) : Prop := ∃ L E fr, g b = some (.cells (List.toArray L) E fr) ∧ Seg L o cs
theorem Gh.rng.mono {g g' : Gh} {b o : Nat} {cs : List Value} (h : g.rng b o cs) (hg : g.le g') : g'.rng b o cs := by
  obtain ⟨L, E, fr, h1, h2⟩ := h
  exact ⟨L, E, fr, hg _ _ h1, h2⟩
theorem Gh.rng.sub {g : Gh} {b o o' : Nat} {cs cs' : List Value} (h : g.rng b o cs) (hs : Seg cs o' cs') : g.rng b (o + o') cs' := by
  obtain ⟨L, E, fr, h1, h2⟩ := h
  exact ⟨L, E, fr, h1, fun j v hj => by have := h2 _ v (hs j v hj); rwa [Nat.add_assoc]⟩
theorem Gh.rng.at_ {w : World} {g : Gh} {b o : Nat} {cs : List Value} (h : g.rng b o cs) (hg : Has w g) : w.rangeAt b o cs := by
  obtain ⟨L, E, fr, h1, h2⟩ := h
  exact rangeAt_of_block (hg _ _ h1) h2
theorem Gh.rng.cell {w : World} {g : Gh} {b o : Nat} {v : Value} (h : g.rng b o [v]) (hg : Has w g) : w.cell? ⟨b, o, none⟩ = some v := by
  have := h.at_ hg 0 v rfl
  rwa [Nat.add_zero] at this

section
variable {P : Program} {l : List Value} {w : World} {dst : Option Tmp} {ty : TypeId} {pos : String} {af : Array Edge} {gd : Option (Nat × Bool)}

theorem run_load_agg {t : TypeId} {x : Operand} {b o : Nat} {cs : List Value} (hx : ev l x = .pointer (some ⟨b, o, none⟩)) (hT : TA P t cs.length) (hr : w.rangeAt b o cs) :
    (execOp (ev l) ⟨dst, .load t x, ty, pos, af, gd⟩).run P w = .ok (.value (.agg cs.toArray)) w := by
  obtain ⟨d, hu, hd⟩ := hT.row
  unfold execOp
  simp only [hx, run_loadAt_mid w b o t cs d hr hu hd hT.size, Sem.run_bind, Result.andThen_ok, Sem.run_pure]

theorem run_load_one {t : TypeId} {x : Operand} {b o : Nat} {v : Value} (hx : ev l x = .pointer (some ⟨b, o, none⟩)) (hT : TS P t) (hr : w.cell? ⟨b, o, none⟩ = some v) :
    (execOp (ev l) ⟨dst, .load t x, ty, pos, af, gd⟩).run P w = .ok (.value v) w := by
  obtain ⟨d, hu, hd⟩ := hT.one
  have hagg : (isAgg t).run P w = .ok false w := by
    unfold isAgg
    rw [Sem.run_bind, run_underlying hu w]
    cases d <;> simp_all
  unfold execOp
  simp [hx, Instr.loadAt, Instr.sureAddr, loadVar, Sem.run_bind, hagg, hr]

theorem run_storeVar_gen {t : TypeId} {b o : Nat} {v : Value} {vs : List Value} (hv : v.cells.toList = vs) (h1 : One vs) (hi : (P.info? t).map (·.size) = some vs.length) (ht : w.there b o vs.length) :
    (storeVar t ⟨b, o, none⟩ v).run P w = .ok () (w.setCells b o vs) := by
  have hsz : v.cells.size = vs.length := by rw [← hv]; simp
  have := run_storeCells_cells (P := P) b o vs 0 w (fun j hj => by simpa using (ht j hj).1) (fun j hj => by simpa using (ht j hj).2) h1
  cases hq : P.info? t with
  | none => simp [hq] at hi
  | some i =>
    have hs : i.size = vs.length := by simpa [hq] using hi
    simp only [Nat.add_zero] at this
    simp [storeVar, sizeOf, typeInfo, hq, hs, hsz, hv, this]

theorem run_store {t : TypeId} {x y : Operand} {b o : Nat} {vs : List Value} (hx : ev l x = .pointer (some ⟨b, o, none⟩)) (hv : (ev l y).cells.toList = vs) (h1 : One vs)
    (hi : (P.info? t).map (·.size) = some vs.length) (ht : w.there b o vs.length) :
    (execOp (ev l) ⟨dst, .store t x y, ty, pos, af, gd⟩).run P w = .ok .skip (w.setCells b o vs) := by
  unfold execOp
  simp [hx, Instr.storeAt, Instr.sureAddr, Sem.run_bind, run_storeVar_gen hv h1 hi ht]

theorem there_of_block {b o n : Nat} {L : List Value} {E : TypeId} (h : w.heap[b]? = some (.cells L.toArray E (0, 0))) (hf : o + n ≤ L.length) : w.there b o n := fun j hj => by
  constructor
  · simp only [World.cell?, h]
    simp [show o + j < L.length by omega]
  · simp only [World.frozen?, h]
    simp
end

section
variable {P : Program} {ops : Array Oper} {S : World → Prop} {rp : Nat → Bool} {Q : Act → World → Prop}
variable {rest : List Oper} {l : List Value} {w : World} {d : Nat} {ty : TypeId} {pos : String} {af : Array Edge} {gd : Option (Nat × Bool)}
variable {M : Nat → Prop} {w0 : World} {g : Gh} {ls : List (Nat × Obj)}

theorem TL.norm {l' : List Value} {a : List Oper} (h : l = l') (k : TL P ops S rp Q a (F l') w) : TL P ops S rp Q a (F l) w := h ▸ k

theorem TL.noF {op : Op} (hS : S w) (hg : Region.wanted ⟨some d, op, ty, pos, af, gd⟩ (yielded ops (F l).tmps) = false) (h : TL P ops S rp Q rest (F (l.set d undef)) w) :
    TL P ops S rp Q (⟨some d, op, ty, pos, af, gd⟩ :: rest) (F l) w := TL.no hS hg (by rw [F_put]; exact h)
theorem TL.noU {op : Op} (hd : l[d]? = some undef) (hS : S w) (hg : Region.wanted ⟨some d, op, ty, pos, af, gd⟩ (yielded ops (F l).tmps) = false) (h : TL P ops S rp Q rest (F l) w) :
    TL P ops S rp Q (⟨some d, op, ty, pos, af, gd⟩ :: rest) (F l) w := TL.noF hS hg (by
  have e : l.set d undef = l := by
    apply List.ext_getElem?
    intro j
    rw [List.getElem?_set]
    by_cases hij : d = j
    · subst hij
      have := (List.getElem?_eq_some_iff.1 hd).1
      simp [this]
      exact (List.getElem?_eq_some_iff.1 hd).2.symm
    · simp [hij]
  rw [e]; exact h)

theorem TL.move {x : Operand} (v : Value) (hx : ev l x = v) (hg : Region.wanted ⟨some d, .move x, ty, pos, af, gd⟩ (yielded ops (F l).tmps) = true) (h : TL P ops S rp Q rest (F (l.set d v)) w) :
    TL P ops S rp Q (⟨some d, .move x, ty, pos, af, gd⟩ :: rest) (F l) w := by
  subst hx
  exact TL.val _ (by simp [opKind]) hg (fun _ => rfl) h

theorem TL.assign {x : Operand} (v : Value) (hx : ev l x = v) (hg : Region.wanted ⟨some d, .assign x, ty, pos, af, gd⟩ (yielded ops (F l).tmps) = true) (h : TL P ops S rp Q rest (F (l.set d v)) w) :
    TL P ops S rp Q (⟨some d, .assign x, ty, pos, af, gd⟩ :: rest) (F l) w := by
  subst hx
  exact TL.val _ (by simp [opKind]) hg (fun _ => rfl) h

theorem TL.pick {c x y : Operand} {t : Bool} (v : Value) (hc : ev l c = .bool t) (hx : (if t then ev l x else ev l y) = v) (hg : Region.wanted ⟨some d, .pick c x y, ty, pos, af, gd⟩ (yielded ops (F l).tmps) = true)
    (h : TL P ops S rp Q rest (F (l.set d v)) w) : TL P ops S rp Q (⟨some d, .pick c x y, ty, pos, af, gd⟩ :: rest) (F l) w := by
  subst hx
  refine TL.val _ (by simp [opKind]) hg (fun w' => ?_) h
  unfold execOp
  simp only [hc]
  cases t <;> simp [asBool]

theorem TL.extract {x : Operand} {i : Nat} {vs : Array Value} (v : Value) (hx : ev l x = .tuple vs) (hv : vs[i]? = some v) (hg : Region.wanted ⟨some d, .extract x i, ty, pos, af, gd⟩ (yielded ops (F l).tmps) = true)
    (h : TL P ops S rp Q rest (F (l.set d v)) w) : TL P ops S rp Q (⟨some d, .extract x i, ty, pos, af, gd⟩ :: rest) (F l) w := by
  refine TL.val v (by simp [opKind]) hg (fun w' => ?_) h
  unfold execOp
  simp only [hx, Instr.extract, hv]
  rfl

theorem TL.nilCheck {x : Operand} {a : Addr} (hx : ev l x = .pointer (some a)) (hg : Region.wanted ⟨some d, .nilCheck x, ty, pos, af, gd⟩ (yielded ops (F l).tmps) = true)
    (h : TL P ops S rp Q rest (F (l.set d (.pointer (some a)))) w) : TL P ops S rp Q (⟨some d, .nilCheck x, ty, pos, af, gd⟩ :: rest) (F l) w := by
  refine TL.val _ (by simp [opKind]) hg (fun w' => ?_) h
  unfold execOp
  simp only [hx]
  rfl

/-- A field of a struct: where it lies. -/
structure FA (P : Program) (t : TypeId) (i off : Nat) : Prop where
  ex : ∃ fs f, P.underlying t = some (.struct fs) ∧ fs[i]? = some f ∧ f.offset = off ∧ ∃ n, (P.info? f.type).map (·.size) = some (n + 1)

theorem addr_add (b o n : Nat) : (⟨b, o, none⟩ : Addr).add n = ⟨b, o + n, none⟩ := Addr.add_mid b o n

theorem TL.fieldAddr {t : TypeId} {x : Operand} {i off b o : Nat} (hf : FA P t i off) (hx : ev l x = .pointer (some ⟨b, o, none⟩)) (hg : Region.wanted ⟨some d, .fieldAddr t x i, ty, pos, af, gd⟩ (yielded ops (F l).tmps) = true)
    (h : TL P ops S rp Q rest (F (l.set d (.pointer (some ⟨b, o + off, none⟩)))) w) : TL P ops S rp Q (⟨some d, .fieldAddr t x i, ty, pos, af, gd⟩ :: rest) (F l) w := by
  refine TL.val _ (by simp [opKind]) hg (fun w' => ?_) h
  obtain ⟨fs, f, h1, h2, h3, n, h4⟩ := hf.ex
  have hsz : (sizeOf f.type).run P w' = .ok (n + 1) w' := by
    cases hq : P.info? f.type with
    | none => simp [hq] at h4
    | some i => simp [hq] at h4; simp [sizeOf, typeInfo, hq, h4, Sem.run_bind]
  unfold execOp
  simp [hx, Instr.fieldAt, Instr.sureAddr, Sem.run_bind, run_underlying h1, h2, fieldPlace, hsz, addr_add, h3]

/-- An array's type. -/
structure AR (P : Program) (t : TypeId) (n sz : Nat) : Prop where
  ex : ∃ e, P.underlying t = some (.array n e) ∧ (P.info? e).map (·.size) = some sz
structure SL (P : Program) (t e : TypeId) (sz : Nat) : Prop where
  ty : P.underlying t = some (.slice e)
  size : (P.info? e).map (·.size) = some sz

theorem run_sizeOf' {P : Program} {e : TypeId} {n : Nat} (h : (P.info? e).map (·.size) = some n) (w : World) : (sizeOf e).run P w = .ok n w := by
  cases hq : P.info? e with
  | none => simp [hq] at h
  | some i => simp [hq] at h; simp [sizeOf, typeInfo, hq, h, Sem.run_bind]

theorem TL.indexArr {t : TypeId} {x y : Operand} {n sz b o : Nat} {k : IntKind} {i : Int} (ht : AR P t n sz) (hx : ev l x = .pointer (some ⟨b, o, none⟩)) (hy : ev l y = .int k i) (h0 : 0 ≤ i) (h1 : i < n)
    (hg : Region.wanted ⟨some d, .indexAddr t x y, ty, pos, af, gd⟩ (yielded ops (F l).tmps) = true)
    (h : TL P ops S rp Q rest (F (l.set d (.pointer (some ⟨b, o + i.toNat * sz, none⟩)))) w) : TL P ops S rp Q (⟨some d, .indexAddr t x y, ty, pos, af, gd⟩ :: rest) (F l) w := by
  refine TL.val _ (by simp [opKind]) hg (fun w' => ?_) h
  obtain ⟨e, h2, h3⟩ := ht.ex
  unfold execOp
  simp [hx, hy, Instr.indexAt, asIntOf, Instr.sureAddr, Sem.run_bind, run_underlying h2, run_sizeOf' h3, addr_add, h0, h1]

theorem TL.indexSl {t e : TypeId} {x y : Operand} {len cap sz b o : Nat} {k : IntKind} {i : Int} (ht : SL P t e sz) (hx : ev l x = .slice (some ⟨b, o, none⟩) len cap) (hy : ev l y = .int k i) (h0 : 0 ≤ i) (h1 : i < len)
    (hg : Region.wanted ⟨some d, .indexAddr t x y, ty, pos, af, gd⟩ (yielded ops (F l).tmps) = true)
    (h : TL P ops S rp Q rest (F (l.set d (.pointer (some ⟨b, o + i.toNat * sz, none⟩)))) w) : TL P ops S rp Q (⟨some d, .indexAddr t x y, ty, pos, af, gd⟩ :: rest) (F l) w := by
  refine TL.val _ (by simp [opKind]) hg (fun w' => ?_) h
  unfold execOp
  simp [hx, hy, Instr.indexAt, asIntOf, Sem.run_bind, run_underlying ht.ty, run_sizeOf' ht.size, addr_add, h0, h1]

/-! #### Loads -/
theorem TL.ldL {t : TypeId} {x : Operand} (i b o : Nat) {L : List Value} {E : TypeId} {fr : Nat × Nat} (cs : List Value) (hst : ∀ w', T (rp d) S w w' → St M w0 w' g ls) (hi : ls[i]? = some (b, .cells L.toArray E fr))
    (hs : Seg L o cs) (hT : TA P t cs.length) (hx : ev l x = .pointer (some ⟨b, o, none⟩)) (hg : Region.wanted ⟨some d, .load t x, ty, pos, af, gd⟩ (yielded ops (F l).tmps) = true)
    (h : TL P ops S rp Q rest (F (l.set d (.agg cs.toArray))) w) : TL P ops S rp Q (⟨some d, .load t x, ty, pos, af, gd⟩ :: rest) (F l) w :=
  TL.read _ rfl hg (fun w' hw => run_load_agg hx hT (rangeAt_of_block ((hst w' hw).mem hi) hs)) h

theorem TL.ldL1 {t : TypeId} {x : Operand} (i b o : Nat) {L : List Value} {E : TypeId} {fr : Nat × Nat} (v : Value) (hst : ∀ w', T (rp d) S w w' → St M w0 w' g ls) (hi : ls[i]? = some (b, .cells L.toArray E fr))
    (hs : Seg L o [v]) (hT : TS P t) (hx : ev l x = .pointer (some ⟨b, o, none⟩)) (hg : Region.wanted ⟨some d, .load t x, ty, pos, af, gd⟩ (yielded ops (F l).tmps) = true)
    (h : TL P ops S rp Q rest (F (l.set d v)) w) : TL P ops S rp Q (⟨some d, .load t x, ty, pos, af, gd⟩ :: rest) (F l) w :=
  TL.read _ rfl hg (fun w' hw => run_load_one hx hT (cell_of_block ((hst w' hw).mem hi) (by have := hs 0 v rfl; rwa [Nat.add_zero] at this))) h

theorem TL.ldG {t : TypeId} {x : Operand} (b o : Nat) (cs : List Value) (hst : ∀ w', T (rp d) S w w' → St M w0 w' g ls) (hr : g.rng b o cs)
    (hT : TA P t cs.length) (hx : ev l x = .pointer (some ⟨b, o, none⟩)) (hg : Region.wanted ⟨some d, .load t x, ty, pos, af, gd⟩ (yielded ops (F l).tmps) = true)
    (h : TL P ops S rp Q rest (F (l.set d (.agg cs.toArray))) w) : TL P ops S rp Q (⟨some d, .load t x, ty, pos, af, gd⟩ :: rest) (F l) w :=
  TL.read _ rfl hg (fun w' hw => run_load_agg hx hT (hr.at_ (hst w' hw).has)) h

theorem TL.ldG1 {t : TypeId} {x : Operand} (b o : Nat) (v : Value) (hst : ∀ w', T (rp d) S w w' → St M w0 w' g ls) (hr : g.rng b o [v])
    (hT : TS P t) (hx : ev l x = .pointer (some ⟨b, o, none⟩)) (hg : Region.wanted ⟨some d, .load t x, ty, pos, af, gd⟩ (yielded ops (F l).tmps) = true)
    (h : TL P ops S rp Q rest (F (l.set d v)) w) : TL P ops S rp Q (⟨some d, .load t x, ty, pos, af, gd⟩ :: rest) (F l) w :=
  TL.read _ rfl hg (fun w' hw => run_load_one hx hT (hr.cell (hst w' hw).has)) h

/-! #### What makes and changes memory -/
theorem TL.box {t : TypeId} {x : Operand} {vs : List Value} (hst : St M w0 w g ls) (hv : (ev l x).cells = vs.toArray) (hg : Region.wanted ⟨some d, .box t x, ty, pos, af, gd⟩ (yielded ops (F l).tmps) = true)
    (h : ∀ W n, St M w0 W g ((n, .cells vs.toArray t (0, 0)) :: ls) → S W ∧ TL P ops S rp Q rest (F (l.set d (.pointer (some ⟨n, 0, none⟩)))) W) :
    TL P ops S rp Q (⟨some d, .box t x, ty, pos, af, gd⟩ :: rest) (F l) w := by
  refine TL.eff (.pointer (some ⟨w.heap.size, 0, none⟩)) (w.alloc (.cells vs.toArray t)) (by simp [opKind]) hg ?_ (h _ _ (hst.alloc _))
  unfold execOp
  simp [Instr.box, newVar, newRow, Sem.run_bind, hv]

/-- A type's nought. -/
def ZV (P : Program) (t : TypeId) (z : List Value) : Prop := ∃ v, (P.info? t).map (·.zero) = some (some v) ∧ v.cells.toList = z

theorem run_zero {t : TypeId} {z : List Value} (hz : ZV P t z) (w : World) : ∃ v, (zeroValue t).run P w = .ok v w ∧ v.cells = z.toArray := by
  obtain ⟨v, h1, h2⟩ := hz
  refine ⟨v, ?_, by rw [← h2]⟩
  cases hq : P.info? t with
  | none => simp [hq] at h1
  | some i => simp [hq] at h1; simp [zeroValue, typeInfo, hq, h1, Sem.run_bind]

theorem TL.alloc {t : TypeId} {z : List Value} (hst : St M w0 w g ls) (hz : ZV P t z) (hg : Region.wanted ⟨some d, .alloc t, ty, pos, af, gd⟩ (yielded ops (F l).tmps) = true)
    (h : ∀ W n, St M w0 W g ((n, .cells z.toArray t (0, 0)) :: ls) → S W ∧ TL P ops S rp Q rest (F (l.set d (.pointer (some ⟨n, 0, none⟩)))) W) :
    TL P ops S rp Q (⟨some d, .alloc t, ty, pos, af, gd⟩ :: rest) (F l) w := by
  obtain ⟨v, h1, h2⟩ := run_zero hz w
  refine TL.eff (.pointer (some ⟨w.heap.size, 0, none⟩)) (w.alloc (.cells z.toArray t)) (by simp [opKind]) hg ?_ (h _ _ (hst.alloc _))
  unfold execOp
  simp [Instr.alloc, newVar, newRow, Sem.run_bind, h1, h2]

theorem TL.st {t : TypeId} {x y : Operand} (i b o : Nat) {L L' vs : List Value} {E : TypeId} (hst : St M w0 w g ls) (hi : ls[i]? = some (b, .cells L.toArray E (0, 0))) (hp : Put L o vs L')
    (hv : (ev l y).cells.toList = vs) (h1 : One vs) (hT : (P.info? t).map (·.size) = some vs.length) (hx : ev l x = .pointer (some ⟨b, o, none⟩)) (hg : Region.wanted ⟨none, .store t x y, ty, pos, af, gd⟩ (yielded ops (F l).tmps) = true)
    (h : ∀ W, St M w0 W g (ls.set i (b, .cells L'.toArray E (0, 0))) → S W ∧ TL P ops S rp Q rest (F l) W) :
    TL P ops S rp Q (⟨none, .store t x y, ty, pos, af, gd⟩ :: rest) (F l) w := by
  have hb := hst.mem hi
  obtain ⟨h2, h3, h4, h5, h6, h7⟩ := setCells_all vs hb hp
  exact TL.effU (w.setCells b o vs) (by simp [opKind]) hg (run_store hx hv h1 hT (there_of_block hb hp.fit)) (h _ (hst.put hi h5 h6 h7 h4 h2 h3))

/-- The parts of a struct or an array, laid into its noughts one by one. -/
inductive Fl (place : Nat → Option (Nat × Nat)) : List Value → List (Nat × Value) → List Value → Prop
  | nil (R : List Value) : Fl place R [] R
  | cons {Z Z' R vs : List Value} {i off : Nat} {v : Value} {ps : List (Nat × Value)} (hp : place i = some (off, vs.length)) (hv : v.cells.toList = vs) (hz : Put Z off vs Z') (h : Fl place Z' ps R) : Fl place Z ((i, v) :: ps) R

theorem foldl_put (vs : List Value) : ∀ (k off : Nat) {Z Z' : List Value}, Put Z (off + k) vs Z' → (vs.zipIdx k).foldl (fun cs (p : Value × Nat) => cs.setIfInBounds (off + p.2) p.1) Z.toArray = Z'.toArray := by
  induction vs with
  | nil =>
    intro k off Z Z' h
    have : Z' = Z := List.ext_getElem? fun j => by rw [h.at_, if_neg (by simp only [List.length_nil]; omega)]
    subst this; rfl
  | cons v vs ih =>
    intro k off Z Z' h
    rw [List.zipIdx_cons, List.foldl_cons]
    have e : Z.toArray.setIfInBounds (off + k) v = (Z.set (off + k) v).toArray := by simp
    simp only [e]
    refine ih (k + 1) off ⟨by rw [h.len]; simp, by have := h.fit; simp at this ⊢; omega, fun j => ?_⟩
    have hf := h.fit
    simp only [List.length_cons] at hf
    rw [h.at_, List.getElem?_set]
    simp only [List.length_cons]
    by_cases h1 : off + k = j
    · subst h1
      rw [if_pos ⟨Nat.le_refl _, by omega⟩, if_neg (by omega), if_pos rfl, if_pos (by omega)]; simp
    · rw [if_neg h1]
      by_cases h2 : off + k ≤ j ∧ j < off + k + (vs.length + 1)
      · rw [if_pos h2, if_pos (by omega), show j - (off + k) = (j - (off + (k + 1))) + 1 by omega]; simp
      · rw [if_neg h2, if_neg (by omega)]

theorem fill_of_Fl {place : Nat → Option (Nat × Nat)} : ∀ {Z R : List Value} {ps : List (Nat × Value)}, Fl place Z ps R → Instr.fill place Z.toArray ps = some R.toArray
  | _, _, _, .nil R => rfl
  | _, _, _, .cons (Z := Z) (Z' := Z') (vs := vs) (off := off) (v := v) hp hv hz h => by
    have hsz : v.cells.size = vs.length := by rw [← hv]; simp
    have hfit := hz.fit
    have hcond : ¬ (v.cells.size ≠ vs.length ∨ off + v.cells.size > Z.length) := by rw [hsz]; omega
    have hfold : v.cells.zipIdx.foldl (fun cs (p : Value × Nat) => cs.setIfInBounds (off + p.2) p.1) Z.toArray = Z'.toArray := by
      have := foldl_put vs 0 off (Z := Z) (Z' := Z') (by simpa using hz)
      rw [← this, ← hv]
      rw [← Array.foldl_toList]
      simp
    unfold Instr.fill
    simp only [hp]
    rw [if_neg (by simpa using hcond)]
    exact (congrArg (fun z => Instr.fill place z _) hfold).trans (fill_of_Fl h)

/-- Where the fields of a struct lie. -/
structure BS (P : Program) (t : TypeId) (pl : List (Nat × Nat)) : Prop where
  ex : ∃ fs, P.underlying t = some (.struct fs) ∧ ∀ w, (fs.mapM (fun f => do pure (f.offset, ← sizeOf f.type) : Field → Sem (Nat × Nat))).run P w = .ok pl.toArray w

theorem TL.buildS {t : TypeId} {parts : Array (Nat × Operand)} {pl : List (Nat × Nat)} {Z R : List Value} {ps : List (Nat × Value)} (hb : BS P t pl) (hz : ZV P t Z)
    (hps : parts.toList.map (fun p => (p.1, ev l p.2)) = ps) (hf : Fl (fun i => pl[i]?) Z ps R) (hg : Region.wanted ⟨some d, .build t parts, ty, pos, af, gd⟩ (yielded ops (F l).tmps) = true)
    (h : TL P ops S rp Q rest (F (l.set d (.agg R.toArray))) w) : TL P ops S rp Q (⟨some d, .build t parts, ty, pos, af, gd⟩ :: rest) (F l) w := by
  refine TL.val _ (by simp [opKind]) hg (fun w' => ?_) h
  obtain ⟨fs, h1, h2⟩ := hb.ex
  obtain ⟨z, h3, h4⟩ := run_zero hz w'
  have h5 := fill_of_Fl hf
  unfold execOp
  simp only [Instr.build, Sem.run_bind, h3, Result.andThen_ok, run_underlying h1, h2, h4, Array.toList_map, hps]
  have h6 : (fun (x : Nat) => pl.toArray[x]?) = fun x => pl[x]? := funext fun i => by simp
  simp only [h6, h5, Sem.run_pure, Result.andThen_ok]

theorem TL.buildA {t : TypeId} {parts : Array (Nat × Operand)} {n sz : Nat} {Z R : List Value} {ps : List (Nat × Value)} (hb : AR P t n sz) (hz : ZV P t Z)
    (hps : parts.toList.map (fun p => (p.1, ev l p.2)) = ps) (hf : Fl (fun i => some (i * sz, sz)) Z ps R) (hg : Region.wanted ⟨some d, .build t parts, ty, pos, af, gd⟩ (yielded ops (F l).tmps) = true)
    (h : TL P ops S rp Q rest (F (l.set d (.agg R.toArray))) w) : TL P ops S rp Q (⟨some d, .build t parts, ty, pos, af, gd⟩ :: rest) (F l) w := by
  refine TL.val _ (by simp [opKind]) hg (fun w' => ?_) h
  obtain ⟨e, h1, h2⟩ := hb.ex
  obtain ⟨z, h3, h4⟩ := run_zero hz w'
  have h5 := fill_of_Fl hf
  unfold execOp
  simp only [Instr.build, Sem.run_bind, h3, Result.andThen_ok, run_underlying h1, run_sizeOf' h2, h4, Array.toList_map, hps, h5, Sem.run_pure]

/-! #### Calls -/
structure CO (P : Program) (f : FuncId) : Prop where
  ex : ∃ fn, P.funcs[f]? = some fn ∧ (fn.name == "runtime.NumGoroutine") = false ∧ fn.body.isNone = false

theorem run_callFunc {f : FuncId} (h : CO P f) (args : Array Value) (w : World) : (callFunc f args).run P w = .ok (.enter f args) w := by
  obtain ⟨fn, h1, h2, h3⟩ := h.ex
  unfold callFunc
  simp only [Sem.run_bind, run_program, Result.andThen_ok, h1, h2, h3, Bool.false_eq_true, if_false, Sem.run_pure]

theorem TL.callS {f : FuncId} {xs : Array Operand} {ts : Array TypeId} {R : Value → World → Prop} (as : Array Value) (hf : CO P f) (has : xs.toList.map (ev l) = as.toList)
    (hc : Calls P f as w (Ret R)) (hg : Region.wanted ⟨some d, .call { callee := .value (.func f), args := xs, argTypes := ts }, ty, pos, af, gd⟩ (yielded ops (F l).tmps) = true)
    (h : ∀ v W, R v W → S W ∧ TL P ops S rp Q rest (F (l.set d v)) W) : TL P ops S rp Q (⟨some d, .call { callee := .value (.func f), args := xs, argTypes := ts }, ty, pos, af, gd⟩ :: rest) (F l) w := by
  refine TL.call (f := f) (args := as) (by simp [opKind]) hg ?_ hc h
  unfold execOp
  have has' : xs.map (ev l) = as := by rw [← Array.toList_inj, Array.toList_map]; exact has
  simp [resolve, ev, Deferred.ofValue, invoke, Sem.run_bind, has', run_callFunc hf]

theorem TL.callSN {f : FuncId} {xs : Array Operand} {ts : Array TypeId} {R : Value → World → Prop} (as : Array Value) (hf : CO P f) (has : xs.toList.map (ev l) = as.toList)
    (hc : Calls P f as w (Ret R)) (hg : Region.wanted ⟨none, .call { callee := .value (.func f), args := xs, argTypes := ts }, ty, pos, af, gd⟩ (yielded ops (F l).tmps) = true)
    (h : ∀ v W, R v W → S W ∧ TL P ops S rp Q rest (F l) W) : TL P ops S rp Q (⟨none, .call { callee := .value (.func f), args := xs, argTypes := ts }, ty, pos, af, gd⟩ :: rest) (F l) w := by
  refine TL.callN (f := f) (args := as) (by simp [opKind]) hg ?_ hc h
  unfold execOp
  have has' : xs.map (ev l) = as := by rw [← Array.toList_inj, Array.toList_map]; exact has
  simp [resolve, ev, Deferred.ofValue, invoke, Sem.run_bind, has', run_callFunc hf]

theorem TL.lenSl {t e : TypeId} {x : Operand} {a : Option Addr} {n c : Nat} (ht : P.underlying t = some (.slice e)) (hx : ev l x = .slice a n c)
    (hg : Region.wanted ⟨some d, .call { callee := .builtin .len, args := #[x], argTypes := #[t] }, ty, pos, af, gd⟩ (yielded ops (F l).tmps) = true)
    (h : TL P ops S rp Q rest (F (l.set d (.int .i64 n))) w) : TL P ops S rp Q (⟨some d, .call { callee := .builtin .len, args := #[x], argTypes := #[t] }, ty, pos, af, gd⟩ :: rest) (F l) w := by
  refine TL.val _ (by cases rp d <;> simp [opKind]) hg (fun w' => ?_) h
  rw [execOp_builtin, builtin_len]
  simp [Builtin.len_, hx, run_underlying ht, Sem.run_bind, goInt]

end
end Go.Proofs.Ytafmgghpcneoeaa
