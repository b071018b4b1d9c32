/- Values without memory: rows of numbers, lists, structs; and how they lie in memory. -/
import Derived.Test.YtafmgghpcneoeaaOwn
import Derived.Test.YtafmgghpcneoeaaRef
namespace Go.Proofs.Ytafmgghpcneoeaa
open Go Go.BigFrame

/-- n numbers. -/
structure Ar (n : Nat) where
  l : List Int
  len : l.length = n
theorem Ar.ext' {n : Nat} {a b : Ar n} (h : a.l = b.l) : a = b := by cases a; cases b; cases h; rfl
instance {n : Nat} : DecidableEq (Ar n) := fun a b => decidable_of_iff (a.l = b.l) ⟨Ar.ext', fun h => by rw [h]⟩
def Ar.zero (n : Nat) : Ar n := ⟨List.replicate n 0, by simp⟩
instance {n : Nat} : Inhabited (Ar n) := ⟨Ar.zero n⟩
def Ar.g {n : Nat} (a : Ar n) (i : Int) : Int := a.l.getD i.toNat 0
def Ar.s {n : Nat} (a : Ar n) (i v : Int) : Ar n := ⟨a.l.set i.toNat v, by simp [a.len]⟩
def iaC (k : IntKind) {n : Nat} (a : Ar n) : List Value := a.l.map (Value.int k)
@[simp] theorem iaC_length (k : IntKind) {n : Nat} (a : Ar n) : (iaC k a).length = n := by simp [iaC, a.len]
theorem One.ia (k : IntKind) {n : Nat} (a : Ar n) : One (iaC k a) := fun v hv => by
  obtain ⟨x, _, rfl⟩ := List.mem_map.1 hv; rfl
theorem TA.of {P : Program} {t : TypeId} {n m : Nat} (h : TA P t n) (e : m = n) : TA P t m := e ▸ h
theorem tzof {x : Option Nat} {n m : Nat} (h : x = some n) (e : m = n) : x = some m := e ▸ h
/-- One element of a list; something, where there is none. -/
def nth {α : Type} [Inhabited α] (xs : List α) (i : Int) : α := xs.getD i.toNat default
theorem nth_get {α : Type} [Inhabited α] {xs : List α} {i : Nat} (h : i < xs.length) : nth xs (i : Int) = xs[i] := by
  simp [nth, h]
theorem nth_some {α : Type} [Inhabited α] {xs : List α} {i : Int} (h1 : i < xs.length) (h0 : 0 ≤ i) : xs[i.toNat]? = some (nth xs i) := by
  have : i.toNat < xs.length := by omega
  simp [nth, this]

theorem ia_get (k : IntKind) {n : Nat} (a : Ar n) {j : Int} (h0 : 0 ≤ j) (h : j < n) : (iaC k a)[j.toNat]? = some (.int k (a.g j)) := by
  have : j.toNat < a.l.length := by rw [a.len]; omega
  simp [iaC, Ar.g, this]
theorem Seg.ia {L : List Value} {k : IntKind} {n o : Nat} {a : Ar n} (h : Seg L o (iaC k a)) {j : Int} (h0 : 0 ≤ j) (h1 : j < n) : Seg L (o + j.toNat) [.int k (a.g j)] := fun i v hi => by
  have : i = 0 := by have := (List.getElem?_eq_some_iff.1 hi).1; simp at this; exact this
  subst this
  simp at hi; subst hi
  simpa using h _ _ (ia_get k a h0 h1)
theorem Put.ia {L : List Value} {k : IntKind} {n : Nat} (a : Ar n) {j : Int} (v : Int) (h0 : 0 ≤ j) (h1 : j < n) : Put (iaC k a ++ L) j.toNat [.int k v] (iaC k (a.s j v) ++ L) := by
  have h2 : j.toNat < (iaC k a).length := by simp; omega
  have h3 := Put.one (iaC k a ++ L) (o := j.toNat) (.int k v) (by simp; omega)
  rw [List.set_append_left _ _ h2] at h3
  have : (iaC k a).set j.toNat (.int k v) = iaC k (a.s j v) := by simp [iaC, Ar.s, List.map_set]
  rwa [this] at h3
theorem Put.iaE {k : IntKind} {n : Nat} (a : Ar n) {j : Int} (v : Int) (h0 : 0 ≤ j) (h1 : j < n) : Put (iaC k a) j.toNat [.int k v] (iaC k (a.s j v)) := by
  have := Put.ia (L := []) (k := k) a v h0 h1; simpa using this

/-! ### Kinds of rows -/
structure RT (α : Type) where
  sz : Nat
  R : Gh → α → List Value → Prop
  mono : ∀ {g g' : Gh} {x : α} {cs : List Value}, R g x cs → g.le g' → R g' x cs
  ok : ∀ {g : Gh} {x : α} {cs : List Value}, R g x cs → cs.length = sz ∧ One cs

def rtI (k : IntKind) : RT Int := ⟨1, fun _ n cs => cs = [.int k n], fun h _ => h, fun h => by subst h; exact ⟨rfl, One.one rfl⟩⟩
def rtB : RT Bool := ⟨1, fun _ b cs => cs = [.bool b], fun h _ => h, fun h => by subst h; exact ⟨rfl, One.one rfl⟩⟩
def rtS : RT ByteArray := ⟨1, fun _ s cs => cs = [.string s], fun h _ => h, fun h => by subst h; exact ⟨rfl, One.one rfl⟩⟩
def rtA (k : IntKind) (n : Nat) : RT (Ar n) := ⟨n, fun _ a cs => cs = iaC k a, fun h _ => h, fun h => by subst h; exact ⟨by simp, One.ia _ _⟩⟩
def RT.prod {α β : Type} (A : RT α) (B : RT β) : RT (α × β) :=
  ⟨A.sz + B.sz, fun g x cs => ∃ a b, cs = a ++ b ∧ A.R g x.1 a ∧ B.R g x.2 b, fun ⟨a, b, h1, h2, h3⟩ hg => ⟨a, b, h1, A.mono h2 hg, B.mono h3 hg⟩,
    fun ⟨a, b, h1, h2, h3⟩ => by subst h1; exact ⟨by rw [List.length_append, (A.ok h2).1, (B.ok h3).1], (A.ok h2).2.app (B.ok h3).2⟩⟩
def RT.via {α β : Type} (A : RT α) (f : β → α) : RT β := ⟨A.sz, fun g x cs => A.R g (f x) cs, fun h hg => A.mono h hg, fun h => A.ok h⟩

/-- These rows are these values'. -/
structure Rws {α : Type} (A : RT α) (g : Gh) (xs : List α) (rows : List (List Value)) : Prop where
  len : rows.length = xs.length
  row : ∀ (i : Nat) (x : α) (r : List Value), xs[i]? = some x → rows[i]? = some r → A.R g x r
section
variable {α : Type} {A : RT α} {g g' : Gh} {xs ys : List α} {rows news : List (List Value)} {v u : Value}
theorem Rws.mono (h : Rws A g xs rows) (hg : g.le g') : Rws A g' xs rows := ⟨h.len, fun i x r h1 h2 => A.mono (h.row i x r h1 h2) hg⟩
theorem Rws.nil : Rws A g [] [] := ⟨rfl, fun _ _ _ h => by simp at h⟩
theorem Rws.app (h : Rws A g xs rows) (k : Rws A g ys news) : Rws A g (xs ++ ys) (rows ++ news) := ⟨by simp [h.len, k.len], fun i x r h1 h2 => by
  by_cases hi : i < xs.length
  · rw [List.getElem?_append_left hi] at h1
    rw [List.getElem?_append_left (by rw [h.len]; exact hi)] at h2
    exact h.row _ _ _ h1 h2
  · rw [List.getElem?_append_right (by omega)] at h1
    rw [List.getElem?_append_right (by rw [h.len]; omega), h.len] at h2
    exact k.row _ _ _ h1 h2⟩
theorem Rws.cons {x : α} {r : List Value} (hr : A.R g x r) (h : Rws A g xs rows) : Rws A g (x :: xs) (r :: rows) := ⟨by simp [h.len], fun i y s h1 h2 => by
  cases i with
  | zero => simp at h1 h2; subst h1; subst h2; exact hr
  | succ i => exact h.row i y s (by simpa using h1) (by simpa using h2)⟩
theorem Rws.get (h : Rws A g xs rows) {i : Nat} {r : List Value} (hr : rows[i]? = some r) : ∃ x, xs[i]? = some x ∧ A.R g x r := by
  have : i < xs.length := by rw [← h.len]; exact (List.getElem?_eq_some_iff.1 hr).1
  exact ⟨xs[i], by simp [this], h.row i _ r (by simp [this]) hr⟩
theorem Rws.ok (h : Rws A g xs rows) : ∀ r ∈ rows, r.length = A.sz ∧ One r := fun r hr => by
  obtain ⟨i, hi, rfl⟩ := List.mem_iff_getElem.1 hr
  obtain ⟨x, _, hx⟩ := h.get (List.getElem?_eq_getElem hi)
  exact A.ok hx
theorem Rws.drop (h : Rws A g xs rows) (k : Nat) : Rws A g (xs.drop k) (rows.drop k) := ⟨by simp [h.len], fun i x r h1 h2 => by
  rw [List.getElem?_drop] at h1 h2; exact h.row _ _ _ h1 h2⟩
theorem Rws.take (h : Rws A g xs rows) (k : Nat) : Rws A g (xs.take k) (rows.take k) := ⟨by simp [h.len], fun i x r h1 h2 => by
  rw [List.getElem?_take] at h1 h2
  split at h1
  · rename_i hi; rw [if_pos hi] at h2; exact h.row _ _ _ h1 h2
  · cases h1⟩

/-- The slice v is this list, for good. -/
structure Sl (A : RT α) (g : Gh) (xs : List α) (v : Value) : Prop where
  ex : ∃ rows, SlAt g A.sz rows v ∧ Rws A g xs rows
  wide : ∀ a n c, v = .slice a n c → n ≤ c
theorem Sl.mono (h : Sl A g xs v) (hg : g.le g') : Sl A g' xs v := by
  obtain ⟨⟨rows, h1, h2⟩, h3⟩ := h; exact ⟨⟨rows, h1.mono hg, h2.mono hg⟩, h3⟩
theorem Sl.nil (A : RT α) (g : Gh) : Sl A g [] (.slice none 0 0) := ⟨⟨[], SlAt.nil _ _, Rws.nil⟩, fun a n c h => by cases h; exact Nat.le_refl _⟩
theorem Sl.one (h : Sl A g xs v) : v.oneCell' = true := by obtain ⟨_, h1, _⟩ := h.ex; exact h1.one
theorem Sl.cell (h : Sl A g xs v) : v.cells.toList = [v] := by obtain ⟨_, h1, _⟩ := h.ex; exact h1.cell
end
def rtL {α : Type} (A : RT α) : RT (List α) := ⟨1, fun g xs cs => ∃ v, cs = [v] ∧ Sl A g xs v, fun ⟨v, h1, h2⟩ hg => ⟨v, h1, h2.mono hg⟩, fun ⟨v, h1, h2⟩ => by subst h1; exact ⟨rfl, One.one h2.one⟩⟩

/-- A slice of the walk's own. -/
structure OwnS {α : Type} (A : RT α) (e : TypeId) (g : Gh) (xs : List α) (v : Value) (o : List (Nat × Obj)) : Prop where
  ex : ∃ rows, OwnB e A.sz rows v o ∧ Rws A g xs rows
section
variable {α : Type} {A : RT α} {e : TypeId} {g g' : Gh} {xs ys : List α} {v u : Value} {o : List (Nat × Obj)}
theorem OwnS.mono (h : OwnS A e g xs v o) (hg : g.le g') : OwnS A e g' xs v o := by
  obtain ⟨rows, h1, h2⟩ := h.ex; exact ⟨rows, h1, h2.mono hg⟩
theorem OwnS.nil (A : RT α) (e : TypeId) (g : Gh) (a : Option Addr) : OwnS A e g [] (.slice a 0 0) [] := ⟨[], OwnB.nil e A.sz a, Rws.nil⟩
theorem OwnS.shape (h : OwnS A e g xs v o) : ∃ a cap, v = .slice a xs.length cap := by
  obtain ⟨rows, h1, h2⟩ := h.ex
  rcases h1 with ⟨rfl, _, a, rfl⟩ | ⟨c, cap, Z, _, rfl, _⟩
  · exact ⟨a, 0, by have := h2.len; simp at this; rw [← this]⟩
  · exact ⟨_, cap, by rw [h2.len]⟩
theorem OwnS.one (h : OwnS A e g xs v o) : v.oneCell' = true := by obtain ⟨a, cap, rfl⟩ := h.shape; rfl
end

section
variable {P : Program} {ops : Array Oper} {S : World → Prop} {rp : Nat → Bool} {Q : Act → World → Prop}
variable {rest : List Oper} {l : List Value} {w : World} {d : Nat} {ty : TypeId} {pos : String} {af : Array Edge} {gd : Option (Nat × Bool)}
variable {M : Nat → Prop} {w0 : World} {g : Gh} {ls : List (Nat × Obj)}

/-! ### Numbers held against each other -/
section ints
variable {t u : TypeId} {x y : Operand} {k : IntKind} {a b : Int}
theorem TL.eqlD (hx : ev l x = .int k a) (hy : ev l y = .int k b) (hg : Region.wanted ⟨some d, .binOp .eql t x y u, ty, pos, af, gd⟩ (yielded ops (F l).tmps) = true)
    (h : TL P ops S rp Q rest (F (l.set d (.bool (decide (a = b))))) w) : TL P ops S rp Q (⟨some d, .binOp .eql t x y u, ty, pos, af, gd⟩ :: rest) (F l) w :=
  TL.eqlI hx hy hg (by rw [show (a == b) = decide (a = b) from rfl]; exact h)
theorem TL.neqD (hx : ev l x = .int k a) (hy : ev l y = .int k b) (hg : Region.wanted ⟨some d, .binOp .neq t x y u, ty, pos, af, gd⟩ (yielded ops (F l).tmps) = true)
    (h : TL P ops S rp Q rest (F (l.set d (.bool (decide (a ≠ b))))) w) : TL P ops S rp Q (⟨some d, .binOp .neq t x y u, ty, pos, af, gd⟩ :: rest) (F l) w :=
  TL.neqI hx hy hg (by rw [show (a != b) = decide (a ≠ b) from by show (!decide (a = b)) = decide (¬ a = b); simp]; exact h)
theorem eqGuard_b {op : BinOp} {t : TypeId} {x y : Operand} {a b : Bool} (w : World) : (eqGuard op t x y (.bool a) (.bool b)).run P w = .ok () w := by
  unfold eqGuard; cases op <;> rfl
end ints
theorem notT {b : Bool} (h : (!b) = true) : b = false := by simpa using h
theorem notF {b : Bool} (h : (!b) = false) : b = true := by simpa using h

/-! ### Arrays of numbers -/
theorem TL.indexA {t : TypeId} {x y : Operand} {n sz b o : Nat} {k : IntKind} {i : Int} (o' : Nat) (ht : AR P t n sz) (hx : ev l x = .pointer (some ⟨b, o, none⟩)) (hy : ev l y = .int k i) (h0 : 0 ≤ i) (h1 : i < n) (ho : o + i.toNat * sz = o')
    (hg : Region.wanted ⟨some d, .indexAddr t x y, ty, pos, af, gd⟩ (yielded ops (F l).tmps) = true)
    (h : TL P ops S rp Q rest (F (l.set d (.pointer (some ⟨b, o', none⟩)))) w) : TL P ops S rp Q (⟨some d, .indexAddr t x y, ty, pos, af, gd⟩ :: rest) (F l) w := by
  subst ho; exact TL.indexArr ht hx hy h0 h1 hg h
theorem TL.fieldA {t : TypeId} {x : Operand} {i off b o : Nat} (o' : Nat) (hf : FA P t i off) (hx : ev l x = .pointer (some ⟨b, o, none⟩)) (ho : o + off = o') (hg : Region.wanted ⟨some d, .fieldAddr t x i, ty, pos, af, gd⟩ (yielded ops (F l).tmps) = true)
    (h : TL P ops S rp Q rest (F (l.set d (.pointer (some ⟨b, o', none⟩)))) w) : TL P ops S rp Q (⟨some d, .fieldAddr t x i, ty, pos, af, gd⟩ :: rest) (F l) w := by
  subst ho; exact TL.fieldAddr hf hx hg h
theorem TL.ldIA {t : TypeId} {x : Operand} (i b o : Nat) {L : List Value} {E : TypeId} {fr : Nat × Nat} {k : IntKind} {n : Nat} (a : Ar n) (j : Int) (hst : ∀ w', T (rp d) S w w' → St M w0 w' g ls) (hi : ls[i]? = some (b, .cells L.toArray E fr))
    (hs : Seg L o (iaC k a)) (h0 : 0 ≤ j) (h1 : j < n) (hT : TS P t) (hx : ev l x = .pointer (some ⟨b, o + j.toNat, none⟩)) (hg : Region.wanted ⟨some d, .load t x, ty, pos, af, gd⟩ (yielded ops (F l).tmps) = true)
    (h : TL P ops S rp Q rest (F (l.set d (.int k (a.g j)))) w) : TL P ops S rp Q (⟨some d, .load t x, ty, pos, af, gd⟩ :: rest) (F l) w :=
  TL.ldL1 i b _ _ hst hi (hs.ia h0 h1) hT hx hg h
theorem TL.stA {t : TypeId} {x y : Operand} (i b o o' : Nat) {L L' vs : List Value} {E : TypeId} (hst : St M w0 w g ls) (hi : ls[i]? = some (b, .cells L.toArray E (0, 0))) (hp : Put L o vs L') (ho : o' = o)
    (hv : (ev l y).cells.toList = vs) (h1 : One vs) (hs : (P.info? t).map (·.size) = some vs.length) (hx : ev l x = .pointer (some ⟨b, o', none⟩))
    (hg : Region.wanted ⟨none, .store t x y, ty, pos, af, gd⟩ (yielded ops (F l).tmps) = true)
    (h : ∀ W, St M w0 W g (ls.set i (b, .cells L'.toArray E (0, 0))) → S W ∧ TL P ops S rp Q rest (F l) W) :
    TL P ops S rp Q (⟨none, .store t x y, ty, pos, af, gd⟩ :: rest) (F l) w := by
  subst ho; exact TL.st i b o' hst hi hp hv h1 hs hx hg h

/-! ### Slices that are read -/
variable {α : Type} {A : RT α} {xs ys : List α} {v u : Value}
theorem TL.lenL {t e : TypeId} {x : Operand} (hr : Sl A g xs v) (ht : P.underlying t = some (.slice e)) (hx : ev l x = v)
    (hg : Region.wanted ⟨some d, .call { callee := .builtin .len, args := #[x], argTypes := #[t] }, ty, pos, af, gd⟩ (yielded ops (F l).tmps) = true)
    (h : TL P ops S rp Q rest (F (l.set d (.int .i64 (xs.length : Int)))) w) : TL P ops S rp Q (⟨some d, .call { callee := .builtin .len, args := #[x], argTypes := #[t] }, ty, pos, af, gd⟩ :: rest) (F l) w := by
  obtain ⟨rows, h1, h2⟩ := hr.ex
  exact TL.lenR h1 h2.len ht hx hg h
theorem TL.lenO {t e : TypeId} {x : Operand} {E : TypeId} {o : List (Nat × Obj)} (hr : OwnS A E g xs v o) (ht : P.underlying t = some (.slice e)) (hx : ev l x = v)
    (hg : Region.wanted ⟨some d, .call { callee := .builtin .len, args := #[x], argTypes := #[t] }, ty, pos, af, gd⟩ (yielded ops (F l).tmps) = true)
    (h : TL P ops S rp Q rest (F (l.set d (.int .i64 (xs.length : Int)))) w) : TL P ops S rp Q (⟨some d, .call { callee := .builtin .len, args := #[x], argTypes := #[t] }, ty, pos, af, gd⟩ :: rest) (F l) w := by
  obtain ⟨a, cap, rfl⟩ := hr.shape
  exact TL.lenSl ht hx hg h
theorem TL.indexL [Inhabited α] {t e : TypeId} {x y : Operand} {k : IntKind} {i : Int} (hr : Sl A g xs v) (ht : SL P t e A.sz) (hx : ev l x = v) (hy : ev l y = .int k i) (h0 : 0 ≤ i) (h1 : i < xs.length)
    (hg : Region.wanted ⟨some d, .indexAddr t x y, ty, pos, af, gd⟩ (yielded ops (F l).tmps) = true)
    (h : ∀ b o r, A.R g (nth xs i) r → g.rng b o r → TL P ops S rp Q rest (F (l.set d (.pointer (some ⟨b, o, none⟩)))) w) : TL P ops S rp Q (⟨some d, .indexAddr t x y, ty, pos, af, gd⟩ :: rest) (F l) w := by
  obtain ⟨rows, h2, h3⟩ := hr.ex
  have hl := h3.len
  refine TL.indexR h2 ht hx hy h0 (by omega) hg fun b o hrow => ?_
  have hi : i.toNat < rows.length := by omega
  have hr' : rows[i.toNat]? = some rows[i.toNat] := by simp [hi]
  exact h b _ rows[i.toNat] (h3.row _ _ _ (nth_some h1 h0) hr') (hrow _ _ hr')

/-- What is appended lies in a box of the walk's own. -/
theorem SrcAt.box {c sz n : Nat} {rows : List (List Value)} {e : TypeId} (hst : St M w0 w g ((c, .cells rows.flatten.toArray e (0, 0)) :: ls)) (hn : rows.length = n) (hr : ∀ r ∈ rows, r.length = sz) :
    SrcAt w sz rows (.slice (some ⟨c, 0, none⟩) n n) := by
  subst hn
  refine ⟨_, _, rfl, fun _ => ⟨c, 0, rfl, fun i r hi => rangeAt_of_block (hst.mem (i := 0) rfl) fun j v hj => ?_⟩⟩
  rw [Nat.zero_add]
  exact flatten_get rows i j r v hr hi hj
theorem Sl.src (h : Sl A g ys u) (hg : Has w g) : ∃ news, SrcAt w A.sz news u ∧ Rws A g ys news := by
  obtain ⟨rows, h1, h2⟩ := h.ex; exact ⟨rows, h1.src hg, h2⟩

theorem TL.pushL {t e : TypeId} {x y : Operand} {bz : Nat} {ls' o : List (Nat × Obj)} {news : List (List Value)} (hst : St M w0 w g ls') (hp : ls'.Perm (ls ++ o)) (ha : AE P t e A.sz bz) (ho : OwnS A e g xs v o)
    (hu : SrcAt w A.sz news u) (hn : Rws A g ys news) (hb : (xs.length + ys.length) * bz ≤ 140737488355328) (hx : ev l x = v) (hy : ev l y = u)
    (hg : Region.wanted ⟨some d, .call { callee := .builtin .append, args := #[x, y], argTypes := #[t, t] }, ty, pos, af, gd⟩ (yielded ops (F l).tmps) = true)
    (h : ∀ W v' o', OwnS A e g (xs ++ ys) v' o' → St M w0 W g (ls ++ o') → S W ∧ TL P ops S rp Q rest (F (l.set d v')) W) :
    TL P ops S rp Q (⟨some d, .call { callee := .builtin .append, args := #[x, y], argTypes := #[t, t] }, ty, pos, af, gd⟩ :: rest) (F l) w := by
  obtain ⟨rows, h1, h2⟩ := ho.ex
  have e1 := h2.len
  have e2 := hn.len
  refine TL.push (hst.perm hp) ha h1 h2.ok hu hn.ok (by rw [e1, e2]; exact hb) hx hy hg fun W v' o' h3 h4 => h W v' o' ⟨rows ++ news, h3, h2.app hn⟩ h4

/-- What is known for good beyond g: new blocks, or such as the walk was handed. -/
def GN (M : Nat → Prop) (w : World) (g g' : Gh) : Prop := ∀ b o, g' b = some o → g b = some o ∨ w.heap.size ≤ b ∨ M b
theorem GN.refl (M : Nat → Prop) (w : World) (g : Gh) : GN M w g g := fun _ _ h => .inl h
theorem GN.new {w : World} {g g' : Gh} (h : GN Non w g g') : GNew w g g' := fun b o hb => by
  rcases h b o hb with h | h | h
  · exact .inl h
  · exact .inr h
  · exact h.elim
theorem GN.call {M : Nat → Prop} {w0 w : World} {g g1 g2 : Gh} (h : GN M w0 g g1) (k : GNew w g1 g2) (hs : w0.heap.size ≤ w.heap.size) : GN M w0 g g2 := fun b o hb => by
  rcases k b o hb with h1 | h1
  · exact h b o h1
  · exact .inr (.inl (Nat.le_trans hs h1))
theorem GN.callM {M : Nat → Prop} {w0 w : World} {g g1 g2 : Gh} {A L ls : List (Nat × Obj)} (h : GN M w0 g g1) (hst : St M w0 w g1 ls) (hp : ls.Perm (A ++ L)) (k : GN (Mof L) w g1 g2) : GN M w0 g g2 := fun b o hb => by
  rcases k b o hb with h1 | h1 | h1
  · exact h b o h1
  · exact .inr (.inl (Nat.le_trans hst.keep.size h1))
  · obtain ⟨p, hp', rfl⟩ := List.mem_map.1 h1
    rcases (hst.loc p (hp.mem_iff.2 (List.mem_append_right _ hp'))).2.2 with h2 | h2
    · exact .inr (.inl h2)
    · exact .inr (.inr h2)
theorem GN.add {M : Nat → Prop} {w0 w : World} {g0 g : Gh} {c : Nat} {ob : Obj} {ls : List (Nat × Obj)} (h : GN M w0 g0 g) (hst : St M w0 w g ((c, ob) :: ls)) : GN M w0 g0 (g.add c ob) := fun b o hb => by
  unfold Gh.add at hb
  by_cases e : b = c
  · subst e
    rcases (hst.loc _ (List.mem_cons_self ..)).2.2 with h2 | h2
    · exact .inr (.inl h2)
    · exact .inr (.inr h2)
  · rw [if_neg e] at hb; exact h b o hb
/-- A block of the walk's own that is none of M's is new. -/
theorem St.newB {c : Nat} {ob : Obj} (hst : St M w0 w g ((c, ob) :: ls)) (hM : ∀ b, M b → b ∈ ls.map (·.1)) : w0.heap.size ≤ c := by
  rcases (hst.loc _ (List.mem_cons_self ..)).2.2 with h | h
  · exact h
  · have h1 := hM _ h
    have h2 := hst.nd
    rw [List.map_cons, List.nodup_cons] at h2
    exact absurd h1 h2.1
theorem St.freezeS {e : TypeId} {ls' o : List (Nat × Obj)} {g0 : Gh} (hst : St M w0 w g ls') (hp : ls'.Perm (ls ++ o)) (ho : OwnS A e g xs v o) (hgn : GN M w0 g0 g) :
    ∃ g', g.le g' ∧ St M w0 w g' ls ∧ Sl A g' xs v ∧ GN M w0 g0 g' := by
  obtain ⟨rows, h1, h2⟩ := ho.ex
  rcases h1 with ⟨rfl, rfl, a, rfl⟩ | ⟨c, cap, Z, hcap, rfl, rfl, hZ⟩
  · refine ⟨g, Gh.le_refl _, by simpa using hst.perm hp, ⟨⟨[], ⟨a, 0, rfl, fun h => absurd rfl h⟩, h2⟩, fun a n c h => by cases h; exact Nat.le_refl _⟩, hgn⟩
  · have h3 := hst.perm (hp.trans List.perm_append_comm)
    obtain ⟨h4, h5⟩ := h3.free
    refine ⟨_, h5, h4, ⟨⟨rows, ?_, h2.mono h5⟩, fun a n c h => by cases h; exact hcap⟩, hgn.add h3⟩
    exact SlAt.new Z (Gh.add_self _ _ _) (fun r hr => (h2.ok r hr).1)

/-- A box is lent. -/
theorem St.lend {i b : Nat} {o : Obj} (hst : St M w0 w g ls) (hi : ls[i]? = some (b, o)) : Has w (g.add b o) ∧ g.le (g.add b o) := by
  have h1 := hst.loc _ (List.mem_of_getElem? hi)
  exact ⟨fun c o' hc => by
    unfold Gh.add at hc
    by_cases e : c = b
    · subst e; simp at hc; subst hc; exact h1.1
    · rw [if_neg e] at hc; exact hst.has _ _ hc, Gh.add_le h1.2.1⟩
theorem Sl.ofSeg {k : IntKind} {b o n m c : Nat} {L : List Value} {e : TypeId} {fr : Nat × Nat} {a : Ar n} (hs : Seg L o (iaC k a)) (hm : n = m) (hc : m ≤ c) :
    Sl (rtI k) (g.add b (.cells L.toArray e fr)) a.l (.slice (some ⟨b, o, none⟩) m c) := by
  subst hm
  refine ⟨⟨a.l.map fun x => [.int k x], ⟨some ⟨b, o, none⟩, c, by rw [List.length_map, a.len], fun _ => ⟨b, o, rfl, fun i r hi => ⟨L, e, fr, Gh.add_self _ _ _, fun j v hj => ?_⟩⟩⟩, ⟨by simp, fun i x r h1 h2 => ?_⟩⟩, fun a n c h => by cases h; exact hc⟩
  · simp only [List.getElem?_map, Option.map_eq_some_iff] at hi
    obtain ⟨x, hx, rfl⟩ := hi
    have : j = 0 := by have := (List.getElem?_eq_some_iff.1 hj).1; simp at this; exact this
    subst this
    simp at hj; subst hj
    have := hs i (.int k x) (by simp [iaC, hx])
    simpa [rtI] using this
  · simp only [List.getElem?_map, h1, Option.map_some, Option.some.injEq] at h2
    exact h2.symm

/-! ### Bits -/
def iand (k : IntKind) (a b : Int) : Int := k.wrap (BitVec.ofInt k.bits a &&& BitVec.ofInt k.bits b).toNat
def ior (k : IntKind) (a b : Int) : Int := k.wrap (BitVec.ofInt k.bits a ||| BitVec.ofInt k.bits b).toNat
def ixor (k : IntKind) (a b : Int) : Int := k.wrap (BitVec.ofInt k.bits a ^^^ BitVec.ofInt k.bits b).toNat
def iandNot (k : IntKind) (a b : Int) : Int := k.wrap (BitVec.ofInt k.bits a &&& ~~~ BitVec.ofInt k.bits b).toNat
def inot (k : IntKind) (a : Int) : Int := ixor k (if k.signed then -1 else k.max) a
def ishl (k : IntKind) (a b : Int) : Int := k.wrap (a * 2 ^ (min b.toNat k.bits))
def ishr (k : IntKind) (a b : Int) : Int := a.fdiv (2 ^ (min b.toNat k.bits))
section bits
variable {t u : TypeId} {x y : Operand} {k j : IntKind} {a b : Int}
theorem TL.iand (hx : ev l x = .int k a) (hy : ev l y = .int k b) (hg : Region.wanted ⟨some d, .binOp .and t x y u, ty, pos, af, gd⟩ (yielded ops (F l).tmps) = true)
    (h : TL P ops S rp Q rest (F (l.set d (.int k (iand k a b)))) w) : TL P ops S rp Q (⟨some d, .binOp .and t x y u, ty, pos, af, gd⟩ :: rest) (F l) w :=
  TL.bin _ (fun w' => by rw [hx, hy, Sem.run_bind, eqGuard_int]; simp [binOp, Op.intBits, Go.Proofs.Ytafmgghpcneoeaa.iand]) hg h
theorem TL.ior (hx : ev l x = .int k a) (hy : ev l y = .int k b) (hg : Region.wanted ⟨some d, .binOp .or t x y u, ty, pos, af, gd⟩ (yielded ops (F l).tmps) = true)
    (h : TL P ops S rp Q rest (F (l.set d (.int k (ior k a b)))) w) : TL P ops S rp Q (⟨some d, .binOp .or t x y u, ty, pos, af, gd⟩ :: rest) (F l) w :=
  TL.bin _ (fun w' => by rw [hx, hy, Sem.run_bind, eqGuard_int]; simp [binOp, Op.intBits, Go.Proofs.Ytafmgghpcneoeaa.ior]) hg h
theorem TL.ixor (hx : ev l x = .int k a) (hy : ev l y = .int k b) (hg : Region.wanted ⟨some d, .binOp .xor t x y u, ty, pos, af, gd⟩ (yielded ops (F l).tmps) = true)
    (h : TL P ops S rp Q rest (F (l.set d (.int k (ixor k a b)))) w) : TL P ops S rp Q (⟨some d, .binOp .xor t x y u, ty, pos, af, gd⟩ :: rest) (F l) w :=
  TL.bin _ (fun w' => by rw [hx, hy, Sem.run_bind, eqGuard_int]; simp [binOp, Op.intBits, Go.Proofs.Ytafmgghpcneoeaa.ixor]) hg h
theorem TL.iandNot (hx : ev l x = .int k a) (hy : ev l y = .int k b) (hg : Region.wanted ⟨some d, .binOp .andNot t x y u, ty, pos, af, gd⟩ (yielded ops (F l).tmps) = true)
    (h : TL P ops S rp Q rest (F (l.set d (.int k (iandNot k a b)))) w) : TL P ops S rp Q (⟨some d, .binOp .andNot t x y u, ty, pos, af, gd⟩ :: rest) (F l) w :=
  TL.bin _ (fun w' => by rw [hx, hy, Sem.run_bind, eqGuard_int]; simp [binOp, Op.intBits, Go.Proofs.Ytafmgghpcneoeaa.iandNot]) hg h
theorem TL.ishl (hx : ev l x = .int k a) (hy : ev l y = .int j b) (hb : 0 ≤ b) (hg : Region.wanted ⟨some d, .binOp .shl t x y u, ty, pos, af, gd⟩ (yielded ops (F l).tmps) = true)
    (h : TL P ops S rp Q rest (F (l.set d (.int k (ishl k a b)))) w) : TL P ops S rp Q (⟨some d, .binOp .shl t x y u, ty, pos, af, gd⟩ :: rest) (F l) w :=
  TL.bin _ (fun w' => by rw [hx, hy, Sem.run_bind, eqGuard_int]; simp [binOp, Op.shift, Go.Proofs.Ytafmgghpcneoeaa.ishl, Int.not_lt.2 hb]) hg h
theorem TL.ishr (hx : ev l x = .int k a) (hy : ev l y = .int j b) (hb : 0 ≤ b) (hg : Region.wanted ⟨some d, .binOp .shr t x y u, ty, pos, af, gd⟩ (yielded ops (F l).tmps) = true)
    (h : TL P ops S rp Q rest (F (l.set d (.int k (ishr k a b)))) w) : TL P ops S rp Q (⟨some d, .binOp .shr t x y u, ty, pos, af, gd⟩ :: rest) (F l) w :=
  TL.bin _ (fun w' => by rw [hx, hy, Sem.run_bind, eqGuard_int]; simp [binOp, Op.shift, Go.Proofs.Ytafmgghpcneoeaa.ishr, Int.not_lt.2 hb]) hg h
theorem TL.xorU (hx : ev l x = .int k a) (hg : Region.wanted ⟨some d, .unOp .xor t x, ty, pos, af, gd⟩ (yielded ops (F l).tmps) = true)
    (h : TL P ops S rp Q rest (F (l.set d (.int k (inot k a)))) w) : TL P ops S rp Q (⟨some d, .unOp .xor t x, ty, pos, af, gd⟩ :: rest) (F l) w := by
  refine TL.val _ (by simp [opKind]) hg (fun w' => ?_) h
  unfold execOp
  simp [hx, Op.unary, Op.intBits, inot, Go.Proofs.Ytafmgghpcneoeaa.ixor]
theorem TL.negU (hx : ev l x = .int k a) (hg : Region.wanted ⟨some d, .unOp .neg t x, ty, pos, af, gd⟩ (yielded ops (F l).tmps) = true)
    (h : TL P ops S rp Q rest (F (l.set d (.int k (k.wrap (0 - a))))) w) : TL P ops S rp Q (⟨some d, .unOp .neg t x, ty, pos, af, gd⟩ :: rest) (F l) w := by
  refine TL.val _ (by simp [opKind]) hg (fun w' => ?_) h
  unfold execOp
  simp [hx, Op.unary, Op.intArith]
end bits

/-! ### Arrays held against each other, and read by their places -/
structure AI (P : Program) (t : TypeId) (k : IntKind) (n : Nat) : Prop where
  ex : ∃ e, P.underlying t = some (.array n e) ∧ P.underlying e = some (.int k) ∧ (P.info? e).map (·.size) = some 1
theorem TL.idxA {t : TypeId} {x y : Operand} {k k' : IntKind} {n : Nat} {a : Ar n} {j : Int} (ht : AI P t k n) (hx : ev l x = .agg (iaC k a).toArray) (hy : ev l y = .int k' j) (h0 : 0 ≤ j) (h1 : j < n)
    (hg : Region.wanted ⟨some d, .index t x y, ty, pos, af, gd⟩ (yielded ops (F l).tmps) = true)
    (h : TL P ops S rp Q rest (F (l.set d (.int k (a.g j)))) w) : TL P ops S rp Q (⟨some d, .index t x y, ty, pos, af, gd⟩ :: rest) (F l) w := by
  obtain ⟨e, h2, h3, h4⟩ := ht.ex
  refine TL.val _ (by simp [opKind]) hg (fun w' => ?_) h
  have hl : j.toNat < (iaC k a).length := by simp; omega
  have hp : (part e (iaC k a).toArray (j.toNat * 1)).run P w' = .ok (.int k (a.g j)) w' := by
    have := ia_get k a h0 h1
    rw [List.getElem?_eq_getElem hl, Option.some.injEq] at this
    simp [part, isAgg, run_underlying h3, List.getElem?_eq_getElem hl, this]
  unfold execOp
  simp [hx, hy, Instr.index, asIntOf, Sem.run_bind, run_underlying h2, run_sizeOf' h4, h0, h1]
  rw [Nat.mul_one] at hp
  rw [hp]; rfl
structure EQA (P : Program) (t : TypeId) (k : IntKind) (n : Nat) : Prop where
  eq : ∀ (a b : Ar n) (w : World), (Op.equalIn 10000 t (.agg (iaC k a).toArray) (.agg (iaC k b).toArray)).run P w = .ok (decide (a = b)) w
  guard : P.eqGuardType P.depth t = false
theorem EQA.mk' {t e : TypeId} {k : IntKind} {n : Nat} (ht : P.underlying t = some (.array n e)) (he : P.underlying e = some (.int k)) (hs : (P.info? e).map (·.size) = some 1) (hg : P.eqGuardType P.depth t = false) : EQA P t k n :=
  ⟨fun a b w => by
    unfold iaC
    rw [run_equalIn_ints w 9998 t e n k ht he hs _ _ a.len b.len]
    congr 1
    rw [Bool.eq_iff_iff]
    simp only [beq_iff_eq, decide_eq_true_eq]
    exact ⟨Ar.ext', fun h => by rw [h]⟩, hg⟩
theorem TL.eqlIA {t u : TypeId} {x y : Operand} {k : IntKind} {n : Nat} {a b : Ar n} (he : EQA P t k n) (hx : ev l x = .agg (iaC k a).toArray) (hy : ev l y = .agg (iaC k b).toArray)
    (hg : Region.wanted ⟨some d, .binOp .eql t x y u, ty, pos, af, gd⟩ (yielded ops (F l).tmps) = true)
    (h : TL P ops S rp Q rest (F (l.set d (.bool (decide (a = b))))) w) : TL P ops S rp Q (⟨some d, .binOp .eql t x y u, ty, pos, af, gd⟩ :: rest) (F l) w :=
  TL.bin _ (fun w' => by
    rw [hx, hy, Sem.run_bind, run_eqGuard_agg w' _ t x y _ _ he.guard, Result.andThen_ok, run_eql_struct, he.eq a b]; rfl) hg h
theorem TL.neqIA {t u : TypeId} {x y : Operand} {k : IntKind} {n : Nat} {a b : Ar n} (he : EQA P t k n) (hx : ev l x = .agg (iaC k a).toArray) (hy : ev l y = .agg (iaC k b).toArray)
    (hg : Region.wanted ⟨some d, .binOp .neq t x y u, ty, pos, af, gd⟩ (yielded ops (F l).tmps) = true)
    (h : TL P ops S rp Q rest (F (l.set d (.bool (decide (a ≠ b))))) w) : TL P ops S rp Q (⟨some d, .binOp .neq t x y u, ty, pos, af, gd⟩ :: rest) (F l) w :=
  TL.bin _ (fun w' => by
    rw [hx, hy, Sem.run_bind, run_eqGuard_agg w' _ t x y _ _ he.guard, Result.andThen_ok, run_neq_struct, he.eq a b]
    rw [show decide (a ≠ b) = !decide (a = b) from by simp]; rfl) hg h

/-! ### Texts -/
theorem bytes_beq (a b : ByteArray) : (a.toList == b.toList) = decide (a = b) := by
  rw [Bool.eq_iff_iff, beq_iff_eq, decide_eq_true_eq, ByteArray.toList_eq, ByteArray.toList_eq]
  exact ⟨fun h => by
    have h1 : a.data = b.data := Array.toList_inj.1 h
    cases a; cases b; cases h1; rfl, fun h => by rw [h]⟩
section texts
variable {t u : TypeId} {x y : Operand} {a b : ByteArray}
theorem TL.eqlST (hx : ev l x = .string a) (hy : ev l y = .string b) (hg : Region.wanted ⟨some d, .binOp .eql t x y u, ty, pos, af, gd⟩ (yielded ops (F l).tmps) = true)
    (h : TL P ops S rp Q rest (F (l.set d (.bool (decide (a = b))))) w) : TL P ops S rp Q (⟨some d, .binOp .eql t x y u, ty, pos, af, gd⟩ :: rest) (F l) w :=
  TL.bin _ (fun w' => by
    have h1 : (eqGuard .eql t x y (.string a) (.string b)).run P w' = .ok () w' := by unfold eqGuard; rfl
    rw [hx, hy, Sem.run_bind, h1, Result.andThen_ok, ← bytes_beq]; rfl) hg h
theorem TL.neqST (hx : ev l x = .string a) (hy : ev l y = .string b) (hg : Region.wanted ⟨some d, .binOp .neq t x y u, ty, pos, af, gd⟩ (yielded ops (F l).tmps) = true)
    (h : TL P ops S rp Q rest (F (l.set d (.bool (decide (a ≠ b))))) w) : TL P ops S rp Q (⟨some d, .binOp .neq t x y u, ty, pos, af, gd⟩ :: rest) (F l) w :=
  TL.bin _ (fun w' => by
    have h1 : (eqGuard .neq t x y (.string a) (.string b)).run P w' = .ok () w' := by unfold eqGuard; rfl
    rw [hx, hy, Sem.run_bind, h1, Result.andThen_ok, show decide (a ≠ b) = !decide (a = b) from by simp, ← bytes_beq]; rfl) hg h
theorem TL.eqlB {t u : TypeId} {x y : Operand} {a b : Bool} (hx : ev l x = .bool a) (hy : ev l y = .bool b) (hg : Region.wanted ⟨some d, .binOp .eql t x y u, ty, pos, af, gd⟩ (yielded ops (F l).tmps) = true)
    (hu : P.underlying t = some .bool)
    (h : TL P ops S rp Q rest (F (l.set d (.bool (decide (a = b))))) w) : TL P ops S rp Q (⟨some d, .binOp .eql t x y u, ty, pos, af, gd⟩ :: rest) (F l) w :=
  TL.bin _ (fun w' => by
    have h2 : ∀ d, (Op.equalIn (d + 1) t (.bool a) (.bool b)).run P w' = .ok (a == b) w' := fun d => by simp [Op.equalIn, run_underlying hu]
    rw [hx, hy, Sem.run_bind, eqGuard_b, Result.andThen_ok, show decide (a = b) = (a == b) from rfl]
    show (do pure (Value.bool (← Op.equalIn (9999 + 1) t (.bool a) (.bool b))) : Sem Value).run P w' = _
    rw [Sem.run_bind, h2]; rfl) hg h
theorem TL.neqB {t u : TypeId} {x y : Operand} {a b : Bool} (hx : ev l x = .bool a) (hy : ev l y = .bool b) (hg : Region.wanted ⟨some d, .binOp .neq t x y u, ty, pos, af, gd⟩ (yielded ops (F l).tmps) = true)
    (hu : P.underlying t = some .bool)
    (h : TL P ops S rp Q rest (F (l.set d (.bool (decide (a ≠ b))))) w) : TL P ops S rp Q (⟨some d, .binOp .neq t x y u, ty, pos, af, gd⟩ :: rest) (F l) w :=
  TL.bin _ (fun w' => by
    have h2 : ∀ d, (Op.equalIn (d + 1) t (.bool a) (.bool b)).run P w' = .ok (a == b) w' := fun d => by simp [Op.equalIn, run_underlying hu]
    rw [hx, hy, Sem.run_bind, eqGuard_b, Result.andThen_ok, show decide (a ≠ b) = !(a == b) from by show decide (¬ a = b) = !decide (a = b); simp]
    show (do pure (Value.bool (!(← Op.equalIn (9999 + 1) t (.bool a) (.bool b)))) : Sem Value).run P w' = _
    rw [Sem.run_bind, h2]; rfl) hg h
/-- One byte of a text. -/
def sg (s : ByteArray) (i : Int) : Int := ((s.data.toList.getD i.toNat 0).toNat : Int)
theorem TL.idxS {k : IntKind} {i : Int} (ht : P.underlying t = some .string) (hx : ev l x = .string a) (hy : ev l y = .int k i) (h0 : 0 ≤ i) (h1 : i < (a.size : Int))
    (hg : Region.wanted ⟨some d, .index t x y, ty, pos, af, gd⟩ (yielded ops (F l).tmps) = true)
    (h : TL P ops S rp Q rest (F (l.set d (.int .u8 (sg a i)))) w) : TL P ops S rp Q (⟨some d, .index t x y, ty, pos, af, gd⟩ :: rest) (F l) w := by
  refine TL.val _ (by simp [opKind]) hg (fun w' => ?_) h
  have hl : i.toNat < a.size := by omega
  have e : sg a i = (a[i.toNat].toNat : Int) := by
    have h2 : i.toNat < a.data.size := hl
    have h3 : a.data.toList.getD i.toNat 0 = a.data[i.toNat] := by rw [List.getD_eq_getElem?_getD, Array.getElem?_toList, Array.getElem?_eq_getElem h2]; rfl
    unfold sg; rw [h3]; rfl
  unfold execOp
  simp [hx, hy, Instr.index, asIntOf, Sem.run_bind, run_underlying ht, h0, hl, e]
theorem TL.lenStr (ht : P.underlying t = some .string) (hx : ev l x = .string a)
    (hg : Region.wanted ⟨some d, .call { callee := .builtin .len, args := #[x], argTypes := #[t] }, ty, pos, af, gd⟩ (yielded ops (F l).tmps) = true)
    (h : TL P ops S rp Q rest (F (l.set d (.int .i64 (a.size : Int)))) w) : TL P ops S rp Q (⟨some d, .call { callee := .builtin .len, args := #[x], argTypes := #[t] }, ty, pos, af, gd⟩ :: rest) (F l) w := by
  refine TL.val _ (by cases rp d <;> simp [opKind]) hg (fun w' => ?_) h
  rw [execOp_builtin, builtin_len]
  simp [Builtin.len_, hx, run_underlying ht, Sem.run_bind, goInt]
theorem TL.convSl {t u e : TypeId} {x : Operand} {bs : List Int} {v : Value} (hst : ∀ w', T (rp d) S w w' → St M w0 w' g ls) (hr : Sl (rtI .u8) g bs v) (ht : P.underlying t = some (.slice e)) (he : P.underlying e = some (.int .u8)) (hu : P.underlying u = some .string) (hx : ev l x = v)
    (hg : Region.wanted ⟨some d, .convert t u x, ty, pos, af, gd⟩ (yielded ops (F l).tmps) = true)
    (h : TL P ops S rp Q rest (F (l.set d (.string (bstr bs)))) w) : TL P ops S rp Q (⟨some d, .convert t u x, ty, pos, af, gd⟩ :: rest) (F l) w := by
  obtain ⟨rows, h1, h2⟩ := hr.ex
  have e1 : rows = byteRows bs := by
    apply List.ext_getElem (by simp [h2.len])
    intro i hi hj
    have hib : i < bs.length := by rw [← h2.len]; exact hi
    have : rows[i] = [.int .u8 bs[i]] := h2.row i bs[i] rows[i] (by simp [hib]) (by simp [hi])
    simp [byteRows, this]
  subst e1
  exact TL.convS hst h1 ht he hu hx hg h
end texts

/-! ### Parts of slices -/
def subl {α : Type} (xs : List α) (lo hi : Int) : List α := (xs.drop lo.toNat).take (hi.toNat - lo.toNat)
theorem subl_length {α : Type} {xs : List α} {lo hi : Int} (h0 : 0 ≤ lo) (h1 : lo ≤ hi) (h2 : hi ≤ xs.length) : (subl xs lo hi).length = hi.toNat - lo.toNat := by
  simp [subl]; omega
theorem Sl.len {α : Type} {A : RT α} {g : Gh} {xs : List α} {v : Value} (h : Sl A g xs v) : ∃ a cap, v = .slice a xs.length cap := by
  obtain ⟨rows, ⟨a, cap, rfl, _⟩, h2⟩ := h.ex; exact ⟨a, cap, by rw [h2.len]⟩
theorem run_bound {y : Nat} {i : Int} {c : BoundsCode} {w : World} (h0 : 0 ≤ i) (h1 : i ≤ y) : (Instr.sliceBound (.int .i64 i) y c).run P w = .ok i.toNat w := by
  simp [Instr.sliceBound, asIntOf, h0, h1]
theorem run_bounds {b : Bool} {len cap : Nat} {vl vh : Option Value} {lo hi : Int} {w : World} (hl : (vl = none ∧ lo = 0) ∨ vl = some (.int .i64 lo)) (hh : (vh = none ∧ hi = len) ∨ vh = some (.int .i64 hi)) (h0 : 0 ≤ lo) (h1 : lo ≤ hi) (h2 : hi ≤ cap) :
    (Instr.sliceBounds b len cap vl vh none).run P w = .ok (lo.toNat, hi.toNat, cap) w := by
  have hb : ∀ c w, (Instr.sliceBound (.int .i64 hi) cap c).run P w = .ok hi.toNat w := fun c w => run_bound (by omega) h2
  have hb2 : ∀ c w, (Instr.sliceBound (.int .i64 lo) hi.toNat c).run P w = .ok lo.toNat w := fun c w => run_bound h0 (by omega)
  unfold Instr.sliceBounds
  rcases hl with ⟨rfl, rfl⟩ | rfl <;> rcases hh with ⟨rfl, rfl⟩ | rfl <;> simp_all [Sem.run_bind]
theorem TL.sliceL {t e : TypeId} {x : Operand} {ol oh : Option Operand} {lo hi : Int} (hr : Sl A g xs v) (ht : SL P t e A.sz) (hx : ev l x = v)
    (hl : (ol.map (ev l) = none ∧ lo = 0) ∨ ol.map (ev l) = some (.int .i64 lo)) (hh : (oh.map (ev l) = none ∧ hi = xs.length) ∨ oh.map (ev l) = some (.int .i64 hi)) (h0 : 0 ≤ lo) (h1 : lo ≤ hi) (h2 : hi ≤ xs.length)
    (hg : Region.wanted ⟨some d, .slice t x ol oh none, ty, pos, af, gd⟩ (yielded ops (F l).tmps) = true)
    (h : ∀ u, Sl A g (subl xs lo hi) u → TL P ops S rp Q rest (F (l.set d u)) w) : TL P ops S rp Q (⟨some d, .slice t x ol oh none, ty, pos, af, gd⟩ :: rest) (F l) w := by
  obtain ⟨⟨rows, ⟨a, cap, rfl, h3⟩, h4⟩, h5⟩ := hr
  have hlen := h4.len
  have hcap := h5 _ _ _ rfl
  have hsl : (subl rows lo hi).length = hi.toNat - lo.toNat := subl_length h0 h1 (by omega)
  refine TL.val _ (by simp [opKind]) hg (fun w' => ?_) (h (.slice (if cap = lo.toNat then a else a.map (·.add (lo.toNat * A.sz))) (hi.toNat - lo.toNat) (cap - lo.toNat)) ⟨⟨subl rows lo hi, ⟨_, _, by rw [hsl], fun hne => ?_⟩, ?_⟩, fun _ _ _ e => by cases e; omega⟩)
  · unfold execOp
    simp [hx, Instr.sliceAt, Instr.slice, Sem.run_bind, run_underlying ht.ty, run_sizeOf' ht.size, run_bounds (b := true) (len := rows.length) (cap := cap) hl (by rw [hlen]; exact hh) h0 h1 (by omega)]
  · have h6 : rows ≠ [] := fun e => by subst e; exact hne (by simp [subl])
    obtain ⟨b, o, rfl, h7⟩ := h3 h6
    have h8 : 0 < (subl rows lo hi).length := List.length_pos_iff.2 hne
    rw [if_neg (by omega)]
    refine ⟨b, o + lo.toNat * A.sz, by simp [addr_add], fun i r hi' => ?_⟩
    unfold subl at hi'
    rw [List.getElem?_take] at hi'
    split at hi'
    · rw [List.getElem?_drop] at hi'
      have := h7 _ _ hi'
      rw [Nat.add_mul, ← Nat.add_assoc] at this; exact this
    · cases hi'
  · exact (h4.drop _).take _
theorem TL.sliceAr {t : TypeId} {sz n b o : Nat} {x : Operand} (o' : Nat) (ht : AR P t n sz) (hx : ev l x = .pointer (some ⟨b, o, none⟩)) (ho : o = o')
    (hg : Region.wanted ⟨some d, .slice t x none none none, ty, pos, af, gd⟩ (yielded ops (F l).tmps) = true)
    (h : TL P ops S rp Q rest (F (l.set d (.slice (some ⟨b, o', none⟩) n n))) w) : TL P ops S rp Q (⟨some d, .slice t x none none none, ty, pos, af, gd⟩ :: rest) (F l) w := by
  subst ho
  obtain ⟨e, h2, h4⟩ := ht.ex
  refine TL.val _ (by simp [opKind]) hg (fun w' => ?_) h
  unfold execOp
  simp [hx, Instr.sliceAt, Instr.sliceBounds, Instr.sureAddr, Sem.run_bind, run_underlying h2, run_sizeOf' h4, addr_add]

/-! ### Built slices -/
theorem St.front {i : Nat} {p : Nat × Obj} (hst : St M w0 w g ls) (hi : ls[i]? = some p) : St M w0 w g (p :: ls.eraseIdx i) := by
  refine hst.perm ?_
  obtain ⟨h1, h2⟩ := List.getElem?_eq_some_iff.1 hi
  have e : ls.eraseIdx i = ls.take i ++ ls.drop (i + 1) := List.eraseIdx_eq_take_drop_succ ..
  have e2 : ls = ls.take i ++ (p :: ls.drop (i + 1)) := by
    rw [← h2, List.getElem_cons_drop, List.take_append_drop]
  rw [e]
  conv => lhs; rw [e2]
  exact List.perm_middle
theorem St.freezeB {c n cap : Nat} {rows : List (List Value)} {e : TypeId} {g0 : Gh} (hst : St M w0 w g ((c, .cells rows.flatten.toArray e (0, 0)) :: ls)) (hn : rows.length = n) (hr : Rws A g xs rows) (hc : n ≤ cap) (hgn : GN M w0 g0 g) :
    ∃ g', g.le g' ∧ St M w0 w g' ls ∧ Sl A g' xs (.slice (some ⟨c, 0, none⟩) n cap) ∧ GN M w0 g0 g' := by
  subst hn
  obtain ⟨h4, h5⟩ := hst.free
  refine ⟨_, h5, h4, ⟨⟨rows, ?_, hr.mono h5⟩, fun a n c h => by cases h; exact hc⟩, hgn.add hst⟩
  exact SlAt.new [] (by rw [List.append_nil]; exact Gh.add_self _ _ _) (fun r hr' => (hr.ok r hr').1)
theorem St.ownB {c n : Nat} {rows : List (List Value)} {e : TypeId} (hst : St M w0 w g ((c, .cells rows.flatten.toArray e (0, 0)) :: ls)) (hn : rows.length = n) (hr : Rws A g xs rows) :
    ∃ o, OwnS A e g xs (.slice (some ⟨c, 0, none⟩) n n) o ∧ St M w0 w g (ls ++ o) := by
  subst hn
  exact ⟨[(c, .cells rows.flatten.toArray e (0, 0))], ⟨⟨rows, .inr ⟨c, rows.length, [], Nat.le_refl _, rfl, by simp, by simp⟩, hr⟩⟩, hst.perm (List.perm_append_comm (l₁ := [_]) (l₂ := ls))⟩
theorem permO {α : Type} [DecidableEq α] {a b : List α} (h : ∀ x, a.count x = b.count x) : a.Perm b := List.perm_iff_count.2 h

theorem Rs.ttt {P : Program} {l : List Value} {w : World} {fn : Func} {t u s : Tmp} (v v' v'' : Value) (h : fn.results = #[.tmp t, .tmp u, .tmp s]) (hv : l.getD t undef = v) (hv' : l.getD u undef = v') (hv'' : l.getD s undef = v'') :
    (results fn (F l).tmps).run P w = .ok (.tuple #[v, v', v'']) w := by
  rw [List.getD_eq_getElem?_getD] at hv hv' hv''
  unfold results
  rw [h]
  simp [F_get, hv, hv', hv'', Sem.run_bind]

/-! ### A slice held against nil; an empty one that may be appended to -/
theorem TL.eqlNilL {t u e : TypeId} {x y : Operand} (hr : Sl A g xs v) (ht : P.underlying t = some (.slice e)) (hx : ev l x = v) (hy : ev l y = .slice none 0 0)
    (hg : Region.wanted ⟨some d, .binOp .eql t x y u, ty, pos, af, gd⟩ (yielded ops (F l).tmps) = true)
    (h : ∀ b : Bool, (b = true → xs = []) → TL P ops S rp Q rest (F (l.set d (.bool b))) w) : TL P ops S rp Q (⟨some d, .binOp .eql t x y u, ty, pos, af, gd⟩ :: rest) (F l) w := by
  obtain ⟨⟨rows, ⟨a, cap, rfl, h1⟩, h2⟩, h3⟩ := hr
  refine TL.eqlNilSl ht hx hy hg (h _ fun hn => ?_)
  by_cases hne : rows = []
  · subst hne
    exact List.eq_nil_of_length_eq_zero (by have := h2.len; simpa using this.symm)
  · obtain ⟨b, o, rfl, _⟩ := h1 hne
    cases hn
theorem TL.sliceZ {t e : TypeId} {x o1 o2 o3 : Operand} (hr : Sl A g xs v) (ht : SL P t e A.sz) (hx : ev l x = v) (h1 : ev l o1 = .int .i64 0) (h2 : ev l o2 = .int .i64 0) (h3 : ev l o3 = .int .i64 0)
    (hg : Region.wanted ⟨some d, .slice t x (some o1) (some o2) (some o3), ty, pos, af, gd⟩ (yielded ops (F l).tmps) = true)
    (h : ∀ a, TL P ops S rp Q rest (F (l.set d (.slice a 0 0))) w) : TL P ops S rp Q (⟨some d, .slice t x (some o1) (some o2) (some o3), ty, pos, af, gd⟩ :: rest) (F l) w := by
  obtain ⟨a, cap, rfl⟩ := hr.len
  refine TL.val _ (by simp [opKind]) hg (fun w' => ?_) (h a)
  unfold execOp
  simp [hx, h1, h2, h3, Instr.sliceAt, Instr.slice, Instr.sliceBounds, Instr.sliceBound, asIntOf, Sem.run_bind, run_underlying ht.ty, run_sizeOf' ht.size]

/-! ### Package variables -/
/-- Block b is a package's array. -/
def GA (g : Gh) (b : Nat) (k : IntKind) {n : Nat} (a : Ar n) : Prop := ∃ E fr, g b = some (.cells (iaC k a).toArray E fr)
theorem GA.mono {g g' : Gh} {b n : Nat} {k : IntKind} {a : Ar n} (h : GA g b k a) (hg : g.le g') : GA g' b k a := by
  obtain ⟨E, fr, h⟩ := h; exact ⟨E, fr, hg _ _ h⟩
theorem GA.rng {g : Gh} {b n : Nat} {k : IntKind} {a : Ar n} (h : GA g b k a) : g.rng b 0 (iaC k a) := by
  obtain ⟨E, fr, h⟩ := h; exact ⟨_, E, fr, h, Seg.all _⟩
theorem Gh.rng.ia {g : Gh} {b o n : Nat} {k : IntKind} {a : Ar n} (h : g.rng b o (iaC k a)) {j : Int} (h0 : 0 ≤ j) (h1 : j < n) : g.rng b (o + j.toNat) [.int k (a.g j)] := by
  obtain ⟨L, E, fr, h2, h3⟩ := h; exact ⟨L, E, fr, h2, h3.ia h0 h1⟩

/-! ### Parts of arrays -/
def Ar.part {m : Nat} (a : Ar m) (lo : Int) (n : Nat) : Ar n := ⟨(List.range n).map fun (i : Nat) => a.g (lo + (i : Int)), by simp⟩
theorem Seg.part {L : List Value} {k : IntKind} {m n o : Nat} {a : Ar m} (h : Seg L o (iaC k a)) {lo : Int} (h0 : 0 ≤ lo) (h1 : lo + n ≤ m) : Seg L (o + lo.toNat) (iaC k (a.part lo n)) := fun j v hj => by
  have hjn : j < n := by have := (List.getElem?_eq_some_iff.1 hj).1; simpa using this
  have h2 := ia_get k a (j := lo + j) (by omega) (by omega)
  have e : v = .int k (a.g (lo + j)) := by
    simp [iaC, Ar.part, hjn] at hj; exact hj.symm
  subst e
  have h3 := h _ _ h2
  have h4 : (lo + (j : Int)).toNat = lo.toNat + j := by omega
  rw [h4, ← Nat.add_assoc] at h3
  exact h3
theorem TL.slicePart {t : TypeId} {n b o : Nat} {x : Operand} {ol oh : Option Operand} {lo hi : Int} (ht : AR P t n 1) (hx : ev l x = .pointer (some ⟨b, o, none⟩))
    (hl : (ol.map (ev l) = none ∧ lo = 0) ∨ ol.map (ev l) = some (.int .i64 lo)) (hh : (oh.map (ev l) = none ∧ hi = n) ∨ oh.map (ev l) = some (.int .i64 hi)) (h0 : 0 ≤ lo) (h1 : lo ≤ hi) (h2 : hi ≤ n)
    (hg : Region.wanted ⟨some d, .slice t x ol oh none, ty, pos, af, gd⟩ (yielded ops (F l).tmps) = true)
    (h : ∀ o' len cap : Nat, (lo < n → o' = o + lo.toNat) → (len : Int) = hi - lo → len ≤ cap → TL P ops S rp Q rest (F (l.set d (.slice (some ⟨b, o', none⟩) len cap))) w) : TL P ops S rp Q (⟨some d, .slice t x ol oh none, ty, pos, af, gd⟩ :: rest) (F l) w := by
  obtain ⟨e, h3, h4⟩ := ht.ex
  refine TL.val (.slice (some ⟨b, if n = lo.toNat then o else o + lo.toNat, none⟩) (hi.toNat - lo.toNat) (n - lo.toNat)) (by simp [opKind]) hg (fun w' => ?_) (h _ _ _ (fun hlt => by rw [if_neg (by omega)]) (by omega) (by omega))
  unfold execOp
  simp [hx, Instr.sliceAt, Instr.sureAddr, Sem.run_bind, run_underlying h3, run_sizeOf' h4, addr_add, run_bounds (b := false) (len := n) (cap := n) hl hh h0 h1 h2]
  split <;> rfl
theorem TL.s2a {t : TypeId} {n sz b o len cap : Nat} {x : Operand} (ht : AR P t n sz) (hx : ev l x = .slice (some ⟨b, o, none⟩) len cap) (hn : n ≤ len)
    (hg : Region.wanted ⟨some d, .sliceToArrayPointer t x, ty, pos, af, gd⟩ (yielded ops (F l).tmps) = true)
    (h : TL P ops S rp Q rest (F (l.set d (.pointer (some ⟨b, o, none⟩)))) w) : TL P ops S rp Q (⟨some d, .sliceToArrayPointer t x, ty, pos, af, gd⟩ :: rest) (F l) w := by
  obtain ⟨e, h3, h4⟩ := ht.ex
  refine TL.val _ (by simp [opKind]) hg (fun w' => ?_) h
  unfold execOp
  simp [hx, Instr.arrayAt, Sem.run_bind, run_underlying h3, Nat.not_lt.2 hn]

/-! ### Copies into an array of one's own -/
def Ar.cp {n : Nat} (a : Ar n) (lo hi : Int) (ys : List Int) : Ar n :=
  ⟨(List.range n).map fun (i : Nat) => if lo ≤ i ∧ (i : Int) < hi ∧ (i : Int) < lo + ys.length then ys.getD ((i : Int) - lo).toNat 0 else a.g i, by simp⟩
theorem Ar.g_nat {n : Nat} (a : Ar n) (i : Nat) (h : i < n) : a.l[i]? = some (a.g i) := by
  have : i < a.l.length := by rw [a.len]; exact h
  simp [Ar.g, this]
theorem Put.cp {k : IntKind} {n : Nat} (a : Ar n) {L : List Value} {lo hi : Int} {ys : List Int} (h0 : 0 ≤ lo) (h1 : lo ≤ hi) (h2 : hi ≤ n) :
    Put (iaC k a ++ L) lo.toNat ((ys.take (hi.toNat - lo.toNat)).map (Value.int k)) (iaC k (a.cp lo hi ys) ++ L) := by
  refine ⟨by simp, by simp; omega, fun j => ?_⟩
  by_cases hj : j < n
  · rw [List.getElem?_append_left (by simpa using hj), List.getElem?_append_left (by simpa using hj)]
    have e1 : (iaC k (a.cp lo hi ys))[j]? = some (.int k (if lo ≤ j ∧ (j : Int) < hi ∧ (j : Int) < lo + ys.length then ys.getD ((j : Int) - lo).toNat 0 else a.g j)) := by
      simp [iaC, Ar.cp, hj]
    have e2 : (iaC k a)[j]? = some (.int k (a.g j)) := by
      simp [iaC, a.g_nat j hj]
    rw [e1, e2]
    by_cases hc : lo.toNat ≤ j ∧ j < lo.toNat + ((ys.take (hi.toNat - lo.toNat)).map (Value.int k)).length
    · rw [if_pos hc]
      simp only [List.length_map, List.length_take] at hc
      rw [if_pos (by omega)]
      have h3 : j - lo.toNat < ys.length := by omega
      have h4 : ((j : Int) - lo).toNat = j - lo.toNat := by omega
      have h5 : j - lo.toNat < hi.toNat - lo.toNat := by omega
      simp [h3, h4, h5]
    · rw [if_neg hc]
      simp only [List.length_map, List.length_take] at hc
      rw [if_neg (by omega)]
  · rw [List.getElem?_append_right (by simp; omega), List.getElem?_append_right (by simp; omega), if_neg (by simp; omega)]
    simp

theorem run_copy {t ty e : TypeId} {sz b o len cap n : Nat} {u : Value} {news : List (List Value)} {L L' : List Value} {E : TypeId} (he : SL P t e sz) (hu : SrcAt w sz news u) (hr : ∀ r ∈ news, r.length = sz ∧ One r)
    (hb : w.heap[b]? = some (.cells L.toArray E (0, 0))) (hm : min news.length len = n) (hp : Put L o (news.take n).flatten L' ∨ (news.take n).flatten = [] ∧ L' = L) {ts : Array TypeId} (hts : ts[0]? = some t) :
    ∃ w', (Builtin.copy_ ts ty #[.slice (some ⟨b, o, none⟩) len cap, u]).run P w = .ok (.int .i64 n) w' ∧ w'.heap[b]? = some (.cells L'.toArray E (0, 0)) ∧ (∀ c, c ≠ b → w'.heap[c]? = w.heap[c]?) ∧ w'.heap.size = w.heap.size ∧ w'.os = w.os ∧ w'.tape = w.tape ∧ w'.output = w.output := by
  obtain ⟨a, cap', rfl, h2⟩ := hu.ex
  have hmin : Nat.min news.length len = n := hm
  have hcl : ((news.take n).flatten).length = n * sz := by
    rw [flatten_len (sz := sz) _ (fun r hr' => (hr r (List.mem_of_mem_take hr')).1), List.length_take]
    congr 1; omega
  have hcells : (Builtin.firstCells sz n (.slice a news.length cap')).run P w = .ok (news.take n).flatten.toArray w := by
    by_cases hn : news = []
    · subst hn
      have : n = 0 := by simp at hm; omega
      subst this
      cases a with
      | none => simpa using run_firstCells_none w sz 0 0 cap'
      | some a => simpa using run_firstCells_some w sz 0 a 0 cap' [] (by simp) (by simp)
    · obtain ⟨b', o', rfl, h3⟩ := h2 hn
      refine run_firstCells_some w sz n _ _ cap' _ hcl fun j v hj => ?_
      obtain ⟨i, k, r, rfl, h4, h5⟩ := get_flatten (sz := sz) (news.take n) j v (fun r hr' => (hr r (List.mem_of_mem_take hr')).1) hj
      have h6 : news[i]? = some r := by
        rw [List.getElem?_take] at h4; split at h4
        · exact h4
        · cases h4
      have h7 := h3 i r h6 k v h5
      rw [addr_add, ← Nat.add_assoc]; exact h7
  have hone : ∀ v ∈ (news.take n).flatten, v.oneCell' = true := fun v hv => by
    obtain ⟨r, hr1, hr2⟩ := List.mem_flatten.1 hv
    exact (hr r (List.mem_of_mem_take hr1)).2 v hr2
  have hst : ∃ w', (storeCells ⟨b, o, none⟩ (news.take n).flatten).run P w = .ok () w' ∧ w'.heap[b]? = some (.cells L'.toArray E (0, 0)) ∧ (∀ c, c ≠ b → w'.heap[c]? = w.heap[c]?) ∧ w'.heap.size = w.heap.size ∧ w'.os = w.os ∧ w'.tape = w.tape ∧ w'.output = w.output := by
    rcases hp with hp | ⟨hp, rfl⟩
    · have hth := there_of_block hb hp.fit
      have h8 := run_storeCells_cells (P := P) b o (news.take n).flatten 0 w (fun j hj => by simpa using (hth j hj).1) (fun j hj => by simpa using (hth j hj).2) hone
      obtain ⟨k2, k3, k4, k5, k6, k7⟩ := setCells_all (news.take n).flatten hb hp
      exact ⟨_, h8, k2, k3, k4, k5, k6, k7⟩
    · rw [hp]
      exact ⟨w, rfl, hb, fun _ _ => rfl, rfl, rfl, rfl, rfl⟩
  obtain ⟨w', h9, h10⟩ := hst
  refine ⟨w', ?_, h10⟩
  unfold Builtin.copy_
  simp only [hts, List.getElem?_toArray, List.getElem?_cons_zero, List.getElem?_cons_succ, Sem.run_bind, run_underlying he.ty, Result.andThen_ok, Builtin.lenOf, hmin, run_sizeOf' he.size, hcells, h9, Sem.run_pure]
  rfl

theorem rws_int {k : IntKind} {ys : List Int} {news : List (List Value)} (h : Rws (rtI k) g ys news) : news = ys.map fun y => [Value.int k y] := by
  apply List.ext_getElem (by simp [h.len])
  intro i hi hj
  have hib : i < ys.length := by rw [← h.len]; exact hi
  have : news[i] = [.int k ys[i]] := h.row i ys[i] news[i] (by simp [hib]) (by simp [hi])
  simp [this]
theorem flatten_map_one {α β : Type} (f : α → β) (l : List α) : (l.map fun x => [f x]).flatten = l.map f := by
  induction l with
  | nil => rfl
  | cons x l ih => simp [ih]
/-- A copy into a part of an array of one's own. -/
theorem TL.copyA {t t' e : TypeId} {x y : Operand} {i b o' o len cap n : Nat} {lo hi : Int} {k : IntKind} {a : Ar n} {ys : List Int} {news : List (List Value)} {u : Value} {pre : List Value} {post : List Value} {E : TypeId}
    (hst : St M w0 w g ls) (hi' : ls[i]? = some (b, .cells (pre ++ (iaC k a ++ post)).toArray E (0, 0))) (he : SL P t e 1) (hu : SrcAt w 1 news u) (hn : Rws (rtI k) g ys news)
    (hx : ev l x = .slice (some ⟨b, o', none⟩) len cap) (hy : ev l y = u) (h0 : 0 ≤ lo) (h1 : lo ≤ hi) (h2 : hi ≤ n) (hlen : (len : Int) = hi - lo) (ho : lo < n → o' = o + lo.toNat) (hpre : pre.length = o)
    (hg : Region.wanted ⟨some d, .call { callee := .builtin .copy, args := #[x, y], argTypes := #[t, t'] }, ty, pos, af, gd⟩ (yielded ops (F l).tmps) = true)
    (h : ∀ W, St M w0 W g (ls.set i (b, .cells (pre ++ (iaC k (a.cp lo hi ys) ++ post)).toArray E (0, 0))) → S W ∧ TL P ops S rp Q rest (F (l.set d (.int .i64 (min (ys.length : Int) (hi - lo))))) W) :
    TL P ops S rp Q (⟨some d, .call { callee := .builtin .copy, args := #[x, y], argTypes := #[t, t'] }, ty, pos, af, gd⟩ :: rest) (F l) w := by
  have hnl : news = ys.map fun y => [Value.int k y] := rws_int hn
  have hb := hst.mem hi'
  have hm : min news.length len = min ys.length len := by rw [hn.len]
  have hfl : (news.take (min ys.length len)).flatten = (ys.take (hi.toNat - lo.toNat)).map (Value.int k) := by
    rw [hnl, ← List.map_take, flatten_map_one]
    have : len = hi.toNat - lo.toNat := by omega
    subst this
    congr 1
    apply List.ext_getElem (by simp; omega)
    intro j h3 h4
    simp
  have hp : Put (pre ++ (iaC k a ++ post)) o' (news.take (min ys.length len)).flatten (pre ++ (iaC k (a.cp lo hi ys) ++ post)) ∨ (news.take (min ys.length len)).flatten = [] ∧ pre ++ (iaC k (a.cp lo hi ys) ++ post) = pre ++ (iaC k a ++ post) := by
    rw [hfl]
    by_cases hlt : lo < n
    · left
      rw [ho hlt]
      exact Put.skip hpre (Put.cp a h0 h1 h2)
    · right
      have e1 : hi.toNat - lo.toNat = 0 := by omega
      refine ⟨by simp [e1], ?_⟩
      have e2 : a.cp lo hi ys = a := by
        apply Ar.ext'
        apply List.ext_getElem (by simp [Ar.cp, a.len])
        intro j h3 h4
        have h5 : j < n := by rw [a.len] at h4; exact h4
        have h6 := a.g_nat j h5
        rw [List.getElem?_eq_getElem h4, Option.some.injEq] at h6
        simp only [Ar.cp, List.getElem_map, List.getElem_range]
        rw [if_neg (by omega), h6]
      rw [e2]
  obtain ⟨W, h3, h4, h5, h6, h7, h8, h9⟩ := run_copy (P := P) (ty := ty) (cap := cap) (ts := #[t, t']) he hu hn.ok hb hm hp rfl
  have h10 := hst.put hi' h7 h8 h9 h6 h4 h5
  refine TL.eff _ W (by simp [opKind]) hg ?_ (h W h10)
  rw [execOp_builtin, builtin_copy]
  simp only [List.map_toArray, List.map_cons, List.map_nil, hx, hy, Sem.run_bind, h3, Result.andThen_ok]
  have e3 : ((min ys.length len : Nat) : Int) = min (ys.length : Int) (hi - lo) := by omega
  rw [e3]; rfl

/-! ### What a callee is lent, and hands back -/
open Classical in
theorem permC {α : Type} {a b : List α} (h : ∀ x, a.count x = b.count x) : a.Perm b := List.perm_iff_count.2 h
theorem St.enterO {A L : List (Nat × Obj)} (h : St M w0 w g ls) (hp : ls.Perm (A ++ L)) : St (Mof L) w w g L := by
  have h1 := h.perm hp
  refine ⟨Keep.refl _ _, h.has, fun p hp => ?_, ?_⟩
  · obtain ⟨h2, h3, _⟩ := h1.loc p (List.mem_append_right _ hp)
    exact ⟨h2, h3, .inr (List.mem_map.2 ⟨p, hp, rfl⟩)⟩
  · have := h1.nd
    rw [List.map_append, List.nodup_append] at this
    exact this.2.1
theorem St.leaveO {A L L' : List (Nat × Obj)} {w' : World} {g' : Gh} (h : St M w0 w g ls) (hp : ls.Perm (A ++ L)) (k : St (Mof L) w w' g' L') (hn : GN (Mof L) w g g') : St M w0 w' g' (A ++ L') := by
  have h1 := h.perm hp
  have hnd := h1.nd
  rw [List.map_append, List.nodup_append] at hnd
  refine ⟨⟨k.keep.os.trans h.keep.os, k.keep.tape.trans h.keep.tape, k.keep.output.trans h.keep.output, Nat.le_trans h.keep.size k.keep.size, fun b hb hm => ?_⟩, k.has, fun p hp' => ?_, ?_⟩
  · rw [k.keep.block b (Nat.lt_of_lt_of_le hb h.keep.size) (fun hM => ?_)]
    · exact h.keep.block b hb hm
    · obtain ⟨q, hq, rfl⟩ := List.mem_map.1 hM
      rcases (h1.loc q (List.mem_append_right _ hq)).2.2 with h2 | h2
      · exact absurd hb (Nat.not_lt.2 h2)
      · exact hm h2
  · rcases List.mem_append.1 hp' with h2 | h2
    · obtain ⟨h3, h4, h5⟩ := h1.loc p (List.mem_append_left _ h2)
      refine ⟨?_, ?_, h5⟩
      · rw [k.keep.block p.1 (lt_of_block h3) (fun hM => ?_)]
        · exact h3
        · exact hnd.2.2 p.1 (List.mem_map.2 ⟨p, h2, rfl⟩) p.1 hM rfl
      · cases hg : g' p.1 with
        | none => rfl
        | some o =>
          rcases hn p.1 o hg with h6 | h6 | h6
          · rw [h4] at h6; cases h6
          · exact absurd (lt_of_block h3) (Nat.not_lt.2 h6)
          · exact absurd rfl (hnd.2.2 p.1 (List.mem_map.2 ⟨p, h2, rfl⟩) p.1 h6)
    · obtain ⟨h3, h4, h5⟩ := k.loc p h2
      refine ⟨h3, h4, ?_⟩
      rcases h5 with h5 | h5
      · exact .inl (Nat.le_trans h.keep.size h5)
      · obtain ⟨q, hq, he⟩ := List.mem_map.1 h5
        have := (h1.loc q (List.mem_append_right _ hq)).2.2
        rwa [he] at this
  · rw [List.map_append, List.nodup_append]
    refine ⟨hnd.1, k.nd, fun x hx y hy e => ?_⟩
    subst e
    obtain ⟨p, hp1, rfl⟩ := List.mem_map.1 hx
    obtain ⟨q, hq1, he⟩ := List.mem_map.1 hy
    have h3 := lt_of_block (h1.loc p (List.mem_append_left _ hp1)).1
    rcases (k.loc q hq1).2.2 with h4 | h4
    · rw [he] at h4; exact absurd h3 (Nat.not_lt.2 h4)
    · rw [he] at h4
      exact hnd.2.2 p.1 (List.mem_map.2 ⟨p, hp1, rfl⟩) p.1 h4 rfl

/-! ### Structs held against each other -/
/-- '==' at a type whose values are val x. -/
structure EV (P : Program) (t : TypeId) {β : Type} [DecidableEq β] (val : β → Value) (n : Nat) : Prop where
  eq : ∀ d (a b : β) (w : World), (Op.equalIn (d + n) t (val a) (val b)).run P w = .ok (decide (a = b)) w
theorem EV.arr {P : Program} {t e : TypeId} {k : IntKind} {n : Nat} (ht : P.underlying t = some (.array n e)) (he : P.underlying e = some (.int k)) (hs : (P.info? e).map (·.size) = some 1) : EV P t (fun a : Ar n => .agg (iaC k a).toArray) 2 :=
  ⟨fun d a b w => by
    show (Op.equalIn (d + 2) t (.agg ((a.l.map (Value.int k))).toArray) (.agg ((b.l.map (Value.int k))).toArray)).run P w = _
    rw [run_equalIn_ints w d t e n k ht he hs _ _ a.len b.len]
    congr 1
    rw [Bool.eq_iff_iff]
    simp only [beq_iff_eq, decide_eq_true_eq]
    exact ⟨Ar.ext', fun h => by rw [h]⟩⟩
theorem EV.int {P : Program} {t : TypeId} {k : IntKind} (ht : P.underlying t = some (.int k)) : EV P t (fun a : Int => .int k a) 1 :=
  ⟨fun d a b w => by simp [Op.equalIn, run_underlying ht, decide_eq_true_eq]; rfl⟩

theorem partA {P : Program} {t e : TypeId} {k : IntKind} {n off : Nat} {cs pre post : List Value} {a : Ar n} {w : World} (ht : P.underlying t = some (.array n e)) (hs : (P.info? t).map (·.size) = some n) (hc : cs = pre ++ (iaC k a ++ post)) (hp : pre.length = off) :
    (part t cs.toArray off).run P w = .ok (.agg (iaC k a).toArray) w := by
  subst hc
  have hagg : (isAgg t).run P w = .ok true w := by
    unfold isAgg; rw [Sem.run_bind, run_underlying ht w]; rfl
  unfold part
  simp only [Sem.run_bind, hagg, Result.andThen_ok, if_true, run_sizeOf' hs, Sem.run_pure]
  congr 2
  subst hp
  apply Array.ext'
  have e : pre.length + n - pre.length = (iaC k a).length := by simp
  simp only [Array.toList_extract, List.extract_eq_take_drop, List.drop_left, e, List.take_left]
theorem partI {P : Program} {t : TypeId} {k : IntKind} {off : Nat} {cs : List Value} {a : Int} {w : World} (ht : P.underlying t = some (.int k)) (hc : cs[off]? = some (.int k a)) :
    (part t cs.toArray off).run P w = .ok (.int k a) w := by
  simp [part, isAgg, run_underlying ht, Sem.run_bind, hc]
theorem EV.pair {P : Program} {t t1 t2 o2 : Nat} {β β1 β2 : Type} [DecidableEq β] [DecidableEq β1] [DecidableEq β2] {cs : β → List Value} {v1 : β1 → Value} {v2 : β2 → Value} {n1 n2 n : Nat} (f1 : β → β1) (f2 : β → β2)
    (hu : P.underlying t = some (.struct (P.fieldsOf t))) (hp : P.stoodInHeld t = false) (hf : (P.fieldsOf t).toList.map (fun f => (f.name == "_", f.type, f.offset)) = [(false, t1, 0), (false, t2, o2)])
    (e1 : EV P t1 v1 n1) (e2 : EV P t2 v2 n2) (h1 : n1 ≤ n) (h2 : n2 ≤ n) (p1 : ∀ x w, (part t1 (cs x).toArray 0).run P w = .ok (v1 (f1 x)) w) (p2 : ∀ x w, (part t2 (cs x).toArray o2).run P w = .ok (v2 (f2 x)) w)
    (ext : ∀ a b, a = b ↔ f1 a = f1 b ∧ f2 a = f2 b) : EV P t (fun x => .agg (cs x).toArray) (n + 1) := by
  refine ⟨fun d a b w => ?_⟩
  rw [show d + (n + 1) = (d + n) + 1 from rfl, run_equalIn_struct w (d + n) t _ _ hu hp]
  cases hfs : (P.fieldsOf t).toList with
  | nil => rw [hfs] at hf; simp at hf
  | cons f1' fs =>
    cases fs with
    | nil => rw [hfs] at hf; simp at hf
    | cons f2' fs =>
      rw [hfs] at hf
      simp only [List.map_cons, List.cons.injEq, Prod.mk.injEq, List.map_eq_nil_iff] at hf
      obtain ⟨⟨m1, t1', o1'⟩, ⟨m2, t2', o2'⟩, rfl⟩ := hf
      have hn1 : f1'.name ≠ "_" := by simpa using m1
      have hn2 : f2'.name ≠ "_" := by simpa using m2
      have q1 : ∀ x y, (Op.equalIn (d + n) t1 (v1 x) (v1 y)).run P w = .ok (decide (x = y)) w := fun x y => by
        have := e1.eq (d + n - n1) x y w
        rwa [show d + n - n1 + n1 = d + n by omega] at this
      have q2 : ∀ x y, (Op.equalIn (d + n) t2 (v2 x) (v2 y)).run P w = .ok (decide (x = y)) w := fun x y => by
        have := e2.eq (d + n - n2) x y w
        rwa [show d + n - n2 + n2 = d + n by omega] at this
      have hab : decide (a = b) = (decide (f1 a = f1 b) && decide (f2 a = f2 b)) := by
        rw [Bool.eq_iff_iff]; simp [ext a b]
      rw [hab]
      simp only [Op.eqFields, hn1, hn2, ne_eq, not_false_eq_true, if_true, Sem.run_bind, t1', t2', o1', o2', p1, p2, q1, Result.andThen_ok]
      by_cases h1 : f1 a = f1 b
      · simp only [h1, decide_true, Bool.not_true, Bool.false_eq_true, if_false, Sem.run_bind, p2, q2, Result.andThen_ok, Bool.true_and]
        by_cases h2 : f2 a = f2 b <;> simp [h2]
      · simp [h1]
theorem TL.eqlV {t u : TypeId} {x y : Operand} {β : Type} [DecidableEq β] {cs : β → List Value} {n : Nat} {a b : β} (he : EV P t (fun x => .agg (cs x).toArray) n) (hn : n ≤ 10000) (hgu : P.eqGuardType P.depth t = false) (hx : ev l x = .agg (cs a).toArray) (hy : ev l y = .agg (cs b).toArray)
    (hg : Region.wanted ⟨some d, .binOp .eql t x y u, ty, pos, af, gd⟩ (yielded ops (F l).tmps) = true)
    (h : TL P ops S rp Q rest (F (l.set d (.bool (decide (a = b))))) w) : TL P ops S rp Q (⟨some d, .binOp .eql t x y u, ty, pos, af, gd⟩ :: rest) (F l) w :=
  TL.bin _ (fun w' => by
    have h1 := he.eq (10000 - n) a b w'
    rw [show 10000 - n + n = 10000 by omega] at h1
    rw [hx, hy, Sem.run_bind, run_eqGuard_agg w' _ t x y _ _ hgu, Result.andThen_ok, run_eql_struct, h1]; rfl) hg h
theorem TL.neqV {t u : TypeId} {x y : Operand} {β : Type} [DecidableEq β] {cs : β → List Value} {n : Nat} {a b : β} (he : EV P t (fun x => .agg (cs x).toArray) n) (hn : n ≤ 10000) (hgu : P.eqGuardType P.depth t = false) (hx : ev l x = .agg (cs a).toArray) (hy : ev l y = .agg (cs b).toArray)
    (hg : Region.wanted ⟨some d, .binOp .neq t x y u, ty, pos, af, gd⟩ (yielded ops (F l).tmps) = true)
    (h : TL P ops S rp Q rest (F (l.set d (.bool (decide (a ≠ b))))) w) : TL P ops S rp Q (⟨some d, .binOp .neq t x y u, ty, pos, af, gd⟩ :: rest) (F l) w :=
  TL.bin _ (fun w' => by
    have h1 := he.eq (10000 - n) a b w'
    rw [show 10000 - n + n = 10000 by omega] at h1
    rw [hx, hy, Sem.run_bind, run_eqGuard_agg w' _ t x y _ _ hgu, Result.andThen_ok, run_neq_struct, h1]
    rw [show decide (a ≠ b) = !decide (a = b) from by simp]; rfl) hg h

/-! ### Reading in a slice of one's own -/
def OwnRng (o : List (Nat × Obj)) (b off : Nat) (cs : List Value) : Prop := ∃ L E, (b, Obj.cells (List.toArray L) E (0, 0)) ∈ o ∧ Seg L off cs
theorem Seg.sub {L cs cs' : List Value} {o o' : Nat} (h : Seg L o cs) (k : Seg cs o' cs') : Seg L (o + o') cs' := fun j v hj => by
  have := h _ v (k j v hj); rwa [Nat.add_assoc]
theorem OwnRng.sub {o : List (Nat × Obj)} {b off o' : Nat} {cs cs' : List Value} (h : OwnRng o b off cs) (k : Seg cs o' cs') : OwnRng o b (off + o') cs' := by
  obtain ⟨L, E, h1, h2⟩ := h; exact ⟨L, E, h1, h2.sub k⟩
theorem OwnS.rng [Inhabited α] {e : TypeId} {o : List (Nat × Obj)} (hr : OwnS A e g xs v o) {i : Int} (h0 : 0 ≤ i) (h1 : i < xs.length) : ∃ c cap r, v = .slice (some ⟨c, 0, none⟩) xs.length cap ∧ A.R g (nth xs i) r ∧ OwnRng o c (0 + i.toNat * A.sz) r := by
  obtain ⟨rows, h2, h3⟩ := hr.ex
  have hl := h3.len
  rcases h2 with ⟨rfl, _, _⟩ | ⟨c, cap, Z, _, rfl, rfl, _⟩
  · simp at hl; omega
  · have hi : i.toNat < rows.length := by omega
    have hr' : rows[i.toNat]? = some rows[i.toNat] := by simp [hi]
    refine ⟨c, cap, rows[i.toNat], by rw [hl], h3.row _ _ _ (nth_some h1 h0) hr', rows.flatten ++ Z, e, by simp, fun j u hj => ?_⟩
    have h4 := flatten_get rows i.toNat j _ u (fun r hr => (h3.ok r hr).1) hr' hj
    rw [List.getElem?_append_left (by rw [Nat.zero_add]; exact (List.getElem?_eq_some_iff.1 h4).1), Nat.zero_add]
    exact h4
theorem TL.indexO [Inhabited α] {t e E : TypeId} {x y : Operand} {k : IntKind} {i : Int} {o : List (Nat × Obj)} (hr : OwnS A E g xs v o) (ht : SL P t e A.sz) (hx : ev l x = v) (hy : ev l y = .int k i) (h0 : 0 ≤ i) (h1 : i < xs.length)
    (hg : Region.wanted ⟨some d, .indexAddr t x y, ty, pos, af, gd⟩ (yielded ops (F l).tmps) = true)
    (h : ∀ b off r, A.R g (nth xs i) r → OwnRng o b off r → TL P ops S rp Q rest (F (l.set d (.pointer (some ⟨b, off, none⟩)))) w) : TL P ops S rp Q (⟨some d, .indexAddr t x y, ty, pos, af, gd⟩ :: rest) (F l) w := by
  obtain ⟨c, cap, r, rfl, h2, h3⟩ := hr.rng h0 h1
  exact TL.indexSl ht hx hy h0 h1 hg (h c _ r h2 h3)
theorem OwnRng.block {o ls : List (Nat × Obj)} {b off : Nat} {cs : List Value} (h : OwnRng o b off cs) (hst : St M w0 w g ls) (hs : ∀ p ∈ o, p ∈ ls) : w.rangeAt b off cs := by
  obtain ⟨L, E, h1, h2⟩ := h
  exact rangeAt_of_block (hst.loc _ (hs _ h1)).1 h2
theorem TL.ldO {t : TypeId} {x : Operand} (b off : Nat) (cs : List Value) {o : List (Nat × Obj)} (hst : ∀ w', T (rp d) S w w' → St M w0 w' g ls) (hs : ∀ p ∈ o, p ∈ ls) (hr : OwnRng o b off cs)
    (hT : TA P t cs.length) (hx : ev l x = .pointer (some ⟨b, off, none⟩)) (hg : Region.wanted ⟨some d, .load t x, ty, pos, af, gd⟩ (yielded ops (F l).tmps) = true)
    (h : TL P ops S rp Q rest (F (l.set d (.agg cs.toArray))) w) : TL P ops S rp Q (⟨some d, .load t x, ty, pos, af, gd⟩ :: rest) (F l) w :=
  TL.read _ rfl hg (fun w' hw => run_load_agg hx hT (hr.block (hst w' hw) hs)) h
theorem TL.ldO1 {t : TypeId} {x : Operand} (b off : Nat) (v : Value) {o : List (Nat × Obj)} (hst : ∀ w', T (rp d) S w w' → St M w0 w' g ls) (hs : ∀ p ∈ o, p ∈ ls) (hr : OwnRng o b off [v])
    (hT : TS P t) (hx : ev l x = .pointer (some ⟨b, off, none⟩)) (hg : Region.wanted ⟨some d, .load t x, ty, pos, af, gd⟩ (yielded ops (F l).tmps) = true)
    (h : TL P ops S rp Q rest (F (l.set d v)) w) : TL P ops S rp Q (⟨some d, .load t x, ty, pos, af, gd⟩ :: rest) (F l) w :=
  TL.read _ rfl hg (fun w' hw => run_load_one hx hT (by have := hr.block (hst w' hw) hs 0 v rfl; rwa [Nat.add_zero] at this)) h

/-! ### Calls of a function's value -/
theorem TL.callV {f : FuncId} {c : Operand} {xs : Array Operand} {ts : Array TypeId} {R : Value → World → Prop} (as : Array Value) (hv : ev l c = .func (.func f) #[] #[]) (hf : CO P f) (has : xs.toList.map (ev l) = as.toList)
    (hc : Calls P f as w (Ret R)) (hg : Region.wanted ⟨some d, .call { callee := .value c, args := xs, argTypes := ts }, ty, pos, af, gd⟩ (yielded ops (F l).tmps) = true)
    (h : ∀ v W, R v W → S W ∧ TL P ops S rp Q rest (F (l.set d v)) W) : TL P ops S rp Q (⟨some d, .call { callee := .value c, args := xs, argTypes := ts }, ty, pos, af, gd⟩ :: rest) (F l) w := by
  refine TL.call (f := f) (args := as) (by simp [opKind]) hg ?_ hc h
  unfold execOp
  have has' : xs.map (ev l) = as := by rw [← Array.toList_inj, Array.toList_map]; exact has
  simp [resolve, hv, Deferred.ofValue, invoke, Sem.run_bind, has', run_callFunc hf]
theorem TL.callVN {f : FuncId} {c : Operand} {xs : Array Operand} {ts : Array TypeId} {R : Value → World → Prop} (as : Array Value) (hv : ev l c = .func (.func f) #[] #[]) (hf : CO P f) (has : xs.toList.map (ev l) = as.toList)
    (hc : Calls P f as w (Ret R)) (hg : Region.wanted ⟨none, .call { callee := .value c, args := xs, argTypes := ts }, ty, pos, af, gd⟩ (yielded ops (F l).tmps) = true)
    (h : ∀ v W, R v W → S W ∧ TL P ops S rp Q rest (F l) W) : TL P ops S rp Q (⟨none, .call { callee := .value c, args := xs, argTypes := ts }, ty, pos, af, gd⟩ :: rest) (F l) w := by
  refine TL.callN (f := f) (args := as) (by simp [opKind]) hg ?_ hc h
  unfold execOp
  have has' : xs.map (ev l) = as := by rw [← Array.toList_inj, Array.toList_map]; exact has
  simp [resolve, hv, Deferred.ofValue, invoke, Sem.run_bind, has', run_callFunc hf]

/-! ### Interfaces -/
theorem TL.mkI {t : TypeId} {x : Operand} {v : Value} (ht : ∃ ds, P.underlying t = some ds ∧ ∀ ms, ds ≠ .interface ms) (hx : ev l x = v) (hg : Region.wanted ⟨some d, .makeInterface t x, ty, pos, af, gd⟩ (yielded ops (F l).tmps) = true)
    (h : TL P ops S rp Q rest (F (l.set d (.iface t v))) w) : TL P ops S rp Q (⟨some d, .makeInterface t x, ty, pos, af, gd⟩ :: rest) (F l) w := by
  obtain ⟨ds, h1, h2⟩ := ht
  refine TL.val _ (by simp [opKind]) hg (fun w' => ?_) h
  unfold execOp
  simp only [hx, Instr.makeInterface, Sem.run_bind, run_underlying h1, Result.andThen_ok]
  cases ds <;> first | rfl | exact absurd rfl (h2 _)
theorem TL.callI {f : FuncId} {r : Operand} {nm : String} {xs : Array Operand} {ts : Array TypeId} {R : Value → World → Prop} {t : TypeId} {v : Value} (as as' : Array Value) (hr : ev l r = .iface t v) (has : xs.toList.map (ev l) = as.toList)
    (hm : (callMethod (.iface t v) nm as).run P w = .ok (.enter f as') w)
    (hc : Calls P f as' w (Ret R)) (hg : Region.wanted ⟨some d, .call { callee := .invoke r nm, args := xs, argTypes := ts }, ty, pos, af, gd⟩ (yielded ops (F l).tmps) = true)
    (h : ∀ v W, R v W → S W ∧ TL P ops S rp Q rest (F (l.set d v)) W) : TL P ops S rp Q (⟨some d, .call { callee := .invoke r nm, args := xs, argTypes := ts }, ty, pos, af, gd⟩ :: rest) (F l) w := by
  refine TL.call (f := f) (args := as') (by simp [opKind]) hg ?_ hc h
  unfold execOp
  have has' : xs.map (ev l) = as := by rw [← Array.toList_inj, Array.toList_map]; exact has
  have e1 : (#[Value.iface t v] ++ as)[0]? = some (Value.iface t v) := by rw [Array.getElem?_append_left (by simp)]; rfl
  have e2 : (#[Value.iface t v] ++ as).extract 1 (#[Value.iface t v] ++ as).size = as := by
    apply Array.ext'
    simp
  simp only [resolve, hr, has', Sem.run_bind, Sem.run_pure, Result.andThen_ok, invoke]
  rw [e1]
  simp only [e2, hm]
theorem TL.ifaceNil {t u : TypeId} {op : BinOp} {x y : Operand} {ms : Array (String × TypeId)} {T : TypeId} {v : Value} (b : Bool) (ht : P.underlying t = some (.interface ms)) (hx : ev l x = .iface T v) (hy : ev l y = .nilIface)
    (hb : op = .eql ∧ b = false ∨ op = .neq ∧ b = true)
    (hg : Region.wanted ⟨some d, .binOp op t x y u, ty, pos, af, gd⟩ (yielded ops (F l).tmps) = true)
    (h : TL P ops S rp Q rest (F (l.set d (.bool b))) w) : TL P ops S rp Q (⟨some d, .binOp op t x y u, ty, pos, af, gd⟩ :: rest) (F l) w :=
  TL.bin _ (fun w' => by
    have h1 : (eqGuard op t x y (.iface T v) .nilIface).run P w' = .ok () w' := by unfold eqGuard; cases op <;> rfl
    rw [hx, hy, Sem.run_bind, h1, Result.andThen_ok]
    have h2 : ∀ d, (Op.equalIn (d + 1) t (.iface T v) .nilIface).run P w' = .ok false w' := fun d => by
      simp [Op.equalIn, run_underlying ht]
    rcases hb with ⟨rfl, rfl⟩ | ⟨rfl, rfl⟩
    · show (do pure (Value.bool (← Op.equalIn (9999 + 1) t (.iface T v) .nilIface)) : Sem Value).run P w' = _
      rw [Sem.run_bind, h2]; rfl
    · show (do pure (Value.bool (!(← Op.equalIn (9999 + 1) t (.iface T v) .nilIface))) : Sem Value).run P w' = _
      rw [Sem.run_bind, h2]; rfl) hg h
end
end Go.Proofs.Ytafmgghpcneoeaa
