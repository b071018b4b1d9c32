/- Slices that are read; accounts. -/
import Derived.Test.YtafmgghpcneoeaaMap
namespace Go.Proofs.Ytafmgghpcneoeaa
open Go Go.BigFrame

/-- The slice v holds these rows, of sz cells each. -/
structure SlAt (g : Gh) (sz : Nat) (rows : List (List Value)) (v : Value) : Prop where
  ex : ∃ a cap, v = .slice a rows.length cap ∧ (rows ≠ [] → ∃ b o, a = some ⟨b, o, none⟩ ∧ ∀ i r, rows[i]? = some r → g.rng b (o + i * sz) r)

theorem SlAt.mono {g g' : Gh} {sz : Nat} {rows : List (List Value)} {v : Value} (h : SlAt g sz rows v) (hg : g.le g') : SlAt g' sz rows v := by
  obtain ⟨a, cap, h1, h2⟩ := h.ex
  exact ⟨a, cap, h1, fun hr => by
    obtain ⟨b, o, h3, h4⟩ := h2 hr
    exact ⟨b, o, h3, fun i r hi => (h4 i r hi).mono hg⟩⟩
theorem SlAt.nil (g : Gh) (sz : Nat) : SlAt g sz [] (.slice none 0 0) := ⟨none, 0, rfl, fun h => absurd rfl h⟩

def byteRows (bs : List Int) : List (List Value) := bs.map fun b => [.int .u8 b]
def slotC (s : Nat × Nat) : List Value := wdC s.1 ++ wdC s.2
def slotRows (ss : List (Nat × Nat)) : List (List Value) := ss.map slotC
@[simp] theorem slotC_length (s : Nat × Nat) : (slotC s).length = 8 := by simp [slotC]
theorem One.slot (s : Nat × Nat) : One (slotC s) := (One.wd _).app (One.wd _)

/-- An account, as it lies in memory, and what its lists hold. -/
structure AV where
  addr : Nat
  nonce : Int
  bal : Nat
  code : Value
  stor : Value
  cb : List Int
  ss : List (Nat × Nat)

def avC (x : AV) : List Value := adrC x.addr ++ ([.int .u64 x.nonce] ++ (wdC x.bal ++ ([x.code] ++ [x.stor])))
@[simp] theorem avC_length (x : AV) : (avC x).length = 27 := by simp [avC]

structure AOk (g : Gh) (x : AV) : Prop where
  addr : x.addr < NA
  bal : x.bal < NW
  nonce : inR .u64 x.nonce
  code : SlAt g 1 (byteRows x.cb) x.code
  stor : SlAt g 8 (slotRows x.ss) x.stor
  bytes : ∀ b ∈ x.cb, inR .u8 b
  slots : ∀ s ∈ x.ss, s.1 < NW ∧ s.2 < NW
  small : x.cb.length ≤ 140737488355328 ∧ x.ss.length ≤ 2199023255552
theorem AOk.mono {g g' : Gh} {x : AV} (h : AOk g x) (hg : g.le g') : AOk g' x := ⟨h.addr, h.bal, h.nonce, h.code.mono hg, h.stor.mono hg, h.bytes, h.slots, h.small⟩

theorem SlAt.one {g : Gh} {sz : Nat} {rows : List (List Value)} {v : Value} (h : SlAt g sz rows v) : v.oneCell' = true := by
  obtain ⟨a, cap, rfl, _⟩ := h.ex; rfl
theorem One.av {g : Gh} {x : AV} (h : AOk g x) : One (avC x) :=
  (One.adr _).app ((One.one rfl).app ((One.wd _).app ((One.one h.code.one).app (One.one h.stor.one))))

/-- An account with nothing but its address. -/
def avE (a : Nat) : AV := ⟨a, 0, 0, .slice none 0 0, .slice none 0 0, [], []⟩
theorem avE_ok {g : Gh} {a : Nat} (h : a < NA) : AOk g (avE a) := ⟨h, (by decide : 0 < NW), (⟨by decide, by decide⟩ : inR .u64 0), SlAt.nil _ _, SlAt.nil _ _, by simp [avE], by simp [avE], by simp [avE]⟩

/-- The accounts of a slice. -/
def avRows (xs : List AV) : List (List Value) := xs.map avC
theorem avRows_get {xs : List AV} {k : Nat} (h : k < xs.length) : (avRows xs)[k]? = some (avC xs[k]) := by simp [avRows, h]
theorem slotRows_get {ss : List (Nat × Nat)} {k : Nat} (h : k < ss.length) : (slotRows ss)[k]? = some (slotC ss[k]) := by simp [slotRows, h]
theorem byteRows_get {bs : List Int} {k : Nat} (h : k < bs.length) : (byteRows bs)[k]? = some [.int .u8 bs[k]] := by simp [byteRows, h]
@[simp] theorem avRows_length (xs : List AV) : (avRows xs).length = xs.length := by simp [avRows]
@[simp] theorem slotRows_length (ss : List (Nat × Nat)) : (slotRows ss).length = ss.length := by simp [slotRows]
@[simp] theorem byteRows_length (bs : List Int) : (byteRows bs).length = bs.length := by simp [byteRows]

section
variable {P : Program} {ops : Array Oper} {S : World → Prop} {rp : Nat → Bool} {Q : Act → World → Prop}
variable {rest : List Oper} {l : List Value} {w : World} {d : Nat} {ty : TypeId} {pos : String} {af : Array Edge} {gd : Option (Nat × Bool)}
variable {M : Nat → Prop} {w0 : World} {g : Gh} {ls : List (Nat × Obj)}

theorem TL.lenR {t e : TypeId} {x : Operand} {v : Value} {sz n : Nat} {rows : List (List Value)} (hr : SlAt g sz rows v) (hn : rows.length = n) (ht : P.underlying t = some (.slice e)) (hx : ev l x = v)
    (hg : Region.wanted ⟨some d, .call { callee := .builtin .len, args := #[x], argTypes := #[t] }, ty, pos, af, gd⟩ (yielded ops (F l).tmps) = true)
    (h : TL P ops S rp Q rest (F (l.set d (.int .i64 (n : Int)))) w) : TL P ops S rp Q (⟨some d, .call { callee := .builtin .len, args := #[x], argTypes := #[t] }, ty, pos, af, gd⟩ :: rest) (F l) w := by
  obtain ⟨a, cap, rfl, _⟩ := hr.ex
  subst hn
  exact TL.lenSl ht hx hg h

theorem TL.indexR {t e : TypeId} {x y : Operand} {v : Value} {sz : Nat} {rows : List (List Value)} {k : IntKind} {i : Int} (hr : SlAt g sz rows v) (ht : SL P t e sz) (hx : ev l x = v) (hy : ev l y = .int k i) (h0 : 0 ≤ i) (h1 : i < rows.length)
    (hg : Region.wanted ⟨some d, .indexAddr t x y, ty, pos, af, gd⟩ (yielded ops (F l).tmps) = true)
    (h : ∀ b o, (∀ i r, rows[i]? = some r → g.rng b (o + i * sz) r) → TL P ops S rp Q rest (F (l.set d (.pointer (some ⟨b, o + i.toNat * sz, none⟩)))) w) : TL P ops S rp Q (⟨some d, .indexAddr t x y, ty, pos, af, gd⟩ :: rest) (F l) w := by
  obtain ⟨a, cap, rfl, h2⟩ := hr.ex
  have hne : rows ≠ [] := fun e => by subst e; simp at h1; omega
  obtain ⟨b, o, rfl, h3⟩ := h2 hne
  exact TL.indexSl ht hx hy h0 h1 hg (h b o h3)

/-- A slice held against nil. -/
theorem run_eql_slice_nil' {P : Program} {t e : TypeId} (ht : P.underlying t = some (.slice e)) {x y : Operand} (a : Option Addr) (n c : Nat) (w : World) :
    (do eqGuard .eql t x y (.slice a n c) (.slice none 0 0); binOp .eql t (.slice a n c) (.slice none 0 0) : Sem Value).run P w = .ok (.bool a.isNone) w := by
  have h1 : (eqGuard .eql t x y (.slice a n c) (.slice none 0 0)).run P w = .ok () w := by unfold eqGuard; rfl
  rw [Sem.run_bind, h1, Result.andThen_ok]
  have h2 : ∀ d, (Op.equalIn (d + 1) t (.slice a n c) (.slice none 0 0)).run P w = .ok a.isNone w := fun d => by
    cases a <;> simp [Op.equalIn, run_underlying ht]
  show (do pure (Value.bool (← Op.equalIn (9999 + 1) t (.slice a n c) (.slice none 0 0))) : Sem Value).run P w = _
  rw [Sem.run_bind, h2]; rfl

theorem TL.eqlNilSl {t u e : TypeId} {x y : Operand} {a : Option Addr} {n c : Nat} (ht : P.underlying t = some (.slice e)) (hx : ev l x = .slice a n c) (hy : ev l y = .slice none 0 0)
    (hg : Region.wanted ⟨some d, .binOp .eql t x y u, ty, pos, af, gd⟩ (yielded ops (F l).tmps) = true)
    (h : TL P ops S rp Q rest (F (l.set d (.bool a.isNone))) w) : TL P ops S rp Q (⟨some d, .binOp .eql t x y u, ty, pos, af, gd⟩ :: rest) (F l) w :=
  TL.bin _ (fun w' => by rw [hx, hy]; exact run_eql_slice_nil' ht a n c w') hg h

/-- A pointer held against nil. -/
theorem TL.ptrNil {t u e : TypeId} {op : BinOp} {x y : Operand} {p : Option Addr} (b : Bool) (ht : P.underlying t = some (.pointer e)) (hx : ev l x = .pointer p) (hy : ev l y = .pointer none)
    (hb : op = .eql ∧ b = p.isNone ∨ op = .neq ∧ b = !p.isNone)
    (hg : Region.wanted ⟨some d, .binOp op t x y u, ty, pos, af, gd⟩ (yielded ops (F l).tmps) = true)
    (h : TL P ops S rp Q rest (F (l.set d (.bool b))) w) : TL P ops S rp Q (⟨some d, .binOp op t x y u, ty, pos, af, gd⟩ :: rest) (F l) w :=
  TL.bin _ (fun w' => by
    have h1 : (eqGuard op t x y (.pointer p) (.pointer none)).run P w' = .ok () w' := by unfold eqGuard; cases op <;> rfl
    rw [hx, hy, Sem.run_bind, h1, Result.andThen_ok]
    have h2 : ∀ d, (Op.equalIn (d + 1) t (.pointer p) (.pointer none)).run P w' = .ok p.isNone w' := fun d => by
      cases p <;> simp [Op.equalIn, run_underlying ht]
    rcases hb with ⟨rfl, rfl⟩ | ⟨rfl, rfl⟩
    · show (do pure (Value.bool (← Op.equalIn (9999 + 1) t (.pointer p) (.pointer none))) : Sem Value).run P w' = _
      rw [Sem.run_bind, h2]; rfl
    · show (do pure (Value.bool (!(← Op.equalIn (9999 + 1) t (.pointer p) (.pointer none)))) : Sem Value).run P w' = _
      rw [Sem.run_bind, h2]; rfl) hg h

/-- A Bool in a slot: both ways. -/
theorem TL.case (i : Nat) (t : Bool) (hi : l[i]? = some (.bool t)) (h1 : t = true → TL P ops S rp Q rest (F (l.set i (.bool true))) w) (h2 : t = false → TL P ops S rp Q rest (F (l.set i (.bool false))) w) : TL P ops S rp Q rest (F l) w := by
  have hs : l.set i (.bool t) = l := by
    apply List.ext_getElem?
    intro j
    rw [List.getElem?_set]
    by_cases hij : i = j
    · subst hij
      have := (List.getElem?_eq_some_iff.1 hi).1
      simp [this]
      exact (List.getElem?_eq_some_iff.1 hi).2.symm
    · simp [hij]
  cases t
  · have := h2 rfl; rwa [hs] at this
  · have := h1 rfl; rwa [hs] at this

/-- All the elements of a composite slice, one behind the other. -/
theorem Fl.rows {sz : Nat} : ∀ (vals : List Value) (rows : List (List Value)) (k : Nat) (pre Z : List Value), vals.map (fun v => v.cells.toList) = rows → (∀ r ∈ rows, r.length = sz) → pre.length = k * sz → Z.length = rows.length * sz →
    Fl (fun i => some (i * sz, sz)) (pre ++ Z) ((vals.zipIdx k).map fun p => (p.2, p.1)) (pre ++ rows.flatten)
  | [], rows, k, pre, Z, h, _, _, hZ => by
    subst h
    have : Z = [] := List.eq_nil_of_length_eq_zero (by simpa using hZ)
    subst this
    exact Fl.nil _
  | v :: vals, rows, k, pre, Z, h, hr, hp, hZ => by
    subst h
    simp only [List.map_cons, List.length_cons] at hZ
    have hrow : v.cells.toList.length = sz := hr _ (by simp)
    have hz : Z = Z.take sz ++ Z.drop sz := (List.take_append_drop sz Z).symm
    have hl : (Z.take sz).length = sz := by
      rw [List.length_take]
      have : sz ≤ Z.length := by rw [hZ, Nat.succ_mul]; omega
      omega
    rw [List.zipIdx_cons, List.map_cons, List.map_cons, List.flatten_cons, hz, ← List.append_assoc]
    refine Fl.cons (vs := v.cells.toList) (Z' := (pre ++ v.cells.toList) ++ Z.drop sz) (off := k * sz) (by rw [hrow]) rfl ?_ ?_
    · have := Put.skip (s := pre) (m := k * sz) hp (Put.here (s := Z.take sz) (r := Z.drop sz) (vs := v.cells.toList) (by rw [hl, hrow]))
      rw [Nat.add_zero] at this
      simpa only [List.append_assoc] using this
    · have := Fl.rows vals _ (k + 1) (pre ++ v.cells.toList) (Z.drop sz) rfl (fun r hr' => hr r (by simp only [List.map_cons, List.mem_cons]; exact .inr hr')) (by simp [hp, hrow, Nat.succ_mul]) (by
        rw [List.length_drop, hZ, Nat.succ_mul]; omega)
      simpa only [List.append_assoc] using this

theorem TL.buildSl {t e : TypeId} {n sz : Nat} {parts : Array (Nat × Operand)} {Z : List Value} (vals : List Value) (rows : List (List Value)) (hst : St M w0 w g ls) (ht : SL P t e sz) (hz : ZV P e Z)
    (hps : parts.toList.map (fun p => (p.1, ev l p.2)) = vals.zipIdx.map fun p => (p.2, p.1)) (hv : vals.map (fun v => v.cells.toList) = rows) (hr : ∀ r ∈ rows, r.length = sz) (hn : rows.length = n) (hb : n * sz ≤ 2 ^ 24)
    (hg : Region.wanted ⟨some d, .buildSlice t n parts, ty, pos, af, gd⟩ (yielded ops (F l).tmps) = true)
    (h : ∀ W c, St M w0 W g ((c, .cells rows.flatten.toArray e (0, 0)) :: ls) → S W ∧ TL P ops S rp Q rest (F (l.set d (.slice (some ⟨c, 0, none⟩) n n))) W) :
    TL P ops S rp Q (⟨some d, .buildSlice t n parts, ty, pos, af, gd⟩ :: rest) (F l) w := by
  refine TL.eff (.slice (some ⟨w.heap.size, 0, none⟩) n n) (w.alloc (.cells rows.flatten.toArray e)) (by simp [opKind]) hg ?_ (h _ _ (hst.alloc _))
  obtain ⟨z, h3, h4⟩ := run_zero hz w
  subst hn
  unfold execOp
  simp only [Instr.buildSlice, Sem.run_bind, run_underlying ht.ty, Result.andThen_ok, run_sizeOf' ht.size]
  rw [if_neg (by omega)]
  have key : ∀ z0 : Array Value, Instr.fill (fun i => some (i * sz, sz)) ((Array.range (rows.length * sz)).map (z0[· % z0.size]!)) (parts.map fun (i, x) => (i, ev l x)).toList = some rows.flatten.toArray := by
    intro z0
    have := fill_of_Fl (Fl.rows (sz := sz) vals rows 0 [] ((Array.range (rows.length * sz)).map (z0[· % z0.size]!)).toList hv hr (by simp) (by simp))
    simp only [List.nil_append, Array.toArray_toList] at this
    rw [Array.toList_map]; exact hps ▸ this
  by_cases h0 : rows.length * sz = 0
  · rw [if_pos h0]
    simp only [Sem.run_bind, Sem.run_pure, Result.andThen_ok]
    rw [key #[]]
    simp [newRow]
  · rw [if_neg h0]
    simp only [Sem.run_bind, Sem.run_pure, Result.andThen_ok, h3]
    rw [key z.cells]
    simp [newRow]

theorem flatten_get {sz : Nat} : ∀ (rows : List (List Value)) (i j : Nat) (r : List Value) (v : Value), (∀ r ∈ rows, r.length = sz) → rows[i]? = some r → r[j]? = some v → rows.flatten[i * sz + j]? = some v
  | [], i, _, _, _, _, h, _ => by simp at h
  | r0 :: rows, 0, j, r, v, _, h, hv => by
    simp at h; subst h
    have := (List.getElem?_eq_some_iff.1 hv).1
    rw [List.flatten_cons, Nat.zero_mul, Nat.zero_add, List.getElem?_append_left this]; exact hv
  | r0 :: rows, i + 1, j, r, v, hr, h, hv => by
    have h0 : r0.length = sz := hr r0 (by simp)
    rw [List.flatten_cons, List.getElem?_append_right (by rw [Nat.succ_mul]; omega), h0, show (i + 1) * sz + j - sz = i * sz + j by rw [Nat.succ_mul]; omega]
    exact flatten_get rows i j r v (fun r hr' => hr r (by simp [hr'])) (by simpa using h) hv

theorem SlAt.new {g : Gh} {sz c cap : Nat} {rows : List (List Value)} {e : TypeId} {fr : Nat × Nat} (rest : List Value) (h : g c = some (.cells (rows.flatten ++ rest).toArray e fr)) (hr : ∀ r ∈ rows, r.length = sz) :
    SlAt g sz rows (.slice (some ⟨c, 0, none⟩) rows.length cap) :=
  ⟨_, _, rfl, fun _ => ⟨c, 0, rfl, fun i r hi => ⟨_, e, fr, h, fun j v hj => by
    have := flatten_get rows i j r v hr hi hj
    rw [Nat.zero_add, List.getElem?_append_left (List.getElem?_eq_some_iff.1 this).1]; exact this⟩⟩⟩

/-- A slice of the walk's own is known for good from here on. -/
theorem St.freeSl {c n cap sz : Nat} {rows : List (List Value)} {e : TypeId} (h : St M w0 w g ((c, .cells rows.flatten.toArray e (0, 0)) :: ls)) (hn : rows.length = n) (hr : ∀ r ∈ rows, r.length = sz) :
    ∃ g', g.le g' ∧ St M w0 w g' ls ∧ SlAt g' sz rows (.slice (some ⟨c, 0, none⟩) n cap) ∧ (∀ w1 g1, GNew w1 g1 g → w1.heap.size ≤ c → GNew w1 g1 g') := by
  obtain ⟨h1, h2⟩ := h.free
  subst hn
  exact ⟨_, h2, h1, SlAt.new [] (by rw [List.append_nil]; exact Gh.add_self _ _ _) hr, fun w1 g1 hg hc => hg.add _ hc⟩
end
end Go.Proofs.Ytafmgghpcneoeaa
