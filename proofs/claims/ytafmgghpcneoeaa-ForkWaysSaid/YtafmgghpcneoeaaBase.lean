/- Frames, worlds and operations: what each operation does, one lemma for each. -/
import Derived.Test.YtafmgghpcneoeaaEng
import Derived.WalkKit
namespace Go.Proofs.Ytafmgghpcneoeaa
open Go

/-! ### Frames -/
def F (l : List Value) : Act := ⟨l.toArray, []⟩

def ev (l : List Value) : Operand → Value
  | .tmp t => l.getD t undef
  | .const v => v
  | .global g => .pointer (some ⟨g, 0, none⟩)
  | .func f => .func (.func f) #[] #[]

theorem F_eval (l : List Value) (x : Operand) : (F l).eval x = ev l x := by
  cases x <;> simp [F, Act.eval, ev, List.getD]

theorem F_put (l : List Value) (d : Nat) (v : Value) : (F l).put (some d) v = F (l.set d v) := by
  simp [F, Act.put]

theorem F_put_none (l : List Value) (v : Value) : (F l).put none v = F l := rfl

/-! ### Lists of operations -/
def opKind (rp : Bool) : Op → OK
  | .move _ | .assign _ | .pick .. | .build .. | .fieldAddr .. | .field .. | .unOp .. | .makeInterface .. | .makeFunc .. | .extract .. | .nilCheck _ | .indexAddr .. | .index .. | .sliceToArrayPointer .. => .p
  | .slice .. => .p
  | .binOp .. => .p
  | .convert .. => if rp then .p else .q
  | .load .. | .lookup .. | .entry .. => if rp then .p else .q
  | .call c => match c.callee with
    | .builtin .len => if rp then .p else .q
    | .builtin .min | .builtin .max => .p
    | _ => .e
  | _ => .e

/-- In which worlds a reading is asked. -/
def T (rp : Bool) (S : World → Prop) (w w' : World) : Prop := if rp then S w' else w' = w

section
variable {P : Program} {ops : Array Oper} {S : World → Prop} {rp : Bool} {Q : Act → World → Prop}

def TO (P : Program) (ops : Array Oper) (S : World → Prop) (rp : Bool) (o : Oper) (K : Act → World → Prop) (a : Act) (w : World) : Prop :=
  match opKind rp o.op with
  | .p => ∃ v, YieldsIf P ops S o v a ∧ K (a.put o.dst v) w
  | .q => ∃ v, YieldsIf P ops (· = w) o v a ∧ K (a.put o.dst v) w
  | .e => if Region.wanted o (yielded ops a.tmps) then o.wp P a w (fun a' w' => S w' ∧ K a' w') noQ else S w ∧ K (a.put o.dst undef) w

def TL (P : Program) (ops : Array Oper) (S : World → Prop) (rp : Bool) (Q : Act → World → Prop) : List Oper → Act → World → Prop
  | [], a, w => Q a w
  | o :: rest, a, w => TO P ops S rp o (TL P ops S rp Q rest) a w

def kdOf (rp : Bool) (ops : Array Oper) (i : Nat) : OK := match ops[i]? with | none => .p | some o => opKind rp o.op

theorem TX_of_TL : ∀ (l : List Oper) (k : Nat), (∀ j, l[j]? = ops[k + j]?) → ∀ a w, TL P ops S rp Q l a w → TX P ops S (kdOf rp ops) Q (List.range' k l.length) a w
  | [], _, _, _, _, h => h
  | o :: l, k, hl, a, w, h => by
    have h0 : ops[k]? = some o := by simpa using (hl 0).symm
    have hl' : ∀ j, l[j]? = ops[k + 1 + j]? := fun j => by have := hl (j + 1); simpa [Nat.add_assoc, Nat.add_comm 1 j] using this
    rw [List.length_cons, List.range'_succ]
    show TOp P ops S (kdOf rp ops k) k _ a w
    have h1 : TO P ops S rp o (TL P ops S rp Q l) a w := h
    unfold TO at h1
    unfold TOp kdOf
    simp only [h0]
    split <;> rename_i hk <;> simp only [hk] at h1
    · obtain ⟨v, h2, h3⟩ := h1; exact ⟨v, h2, TX_of_TL l (k + 1) hl' _ _ h3⟩
    · obtain ⟨v, h2, h3⟩ := h1; exact ⟨v, h2, TX_of_TL l (k + 1) hl' _ _ h3⟩
    · unfold wpOp
      simp only [h0]
      split at h1
      · rename_i hw; simp only [hw, if_true]
        exact .inl (Oper.wp_mono (fun a w h => ⟨h.1, TX_of_TL l (k + 1) hl' _ _ h.2⟩) h1)
      · rename_i hw; simp only [hw]
        exact ⟨h1.1, TX_of_TL l (k + 1) hl' _ _ h1.2⟩

theorem TX_of_TL' {l : List Oper} {a : Act} {w : World} (h : TL P l.toArray S rp Q l a w) : TX P l.toArray S (kdOf rp l.toArray) Q (List.range l.toArray.size) a w := by
  rw [List.range_eq_range', show l.toArray.size = l.length from by simp]
  exact TX_of_TL l 0 (fun j => by simp) a w h

/-- A plain region. -/
theorem rg {id : Nat} {l : List Oper} {Q' : Exit → Act → World → Prop} {a : Act} {w : World}
    (h : TL P l.toArray (fun _ => True) false (fun a w => Q' .normal a w) l a w) : (Code.region id l.toArray false).wp P Q' a w :=
  wp_plain _ (TX_of_TL' h)

def okB (rp : Bool) (l : List Oper) (bef : Array Nat) : Bool :=
  Region.noSelect l.toArray && befB .any l.toArray bef && backB .any l.toArray && pairsB l.toArray (kdOf rp l.toArray) bef

/-- A region that draws its order, in the text's. -/
theorem rgD {id : Nat} {l : List Oper} {Q' : Exit → Act → World → Prop} {a : Act} {w : World} (hm : P.follows .mixedOrders = true) (bef : Array Nat) (hc : okB false l bef = true)
    (h : TL P l.toArray (fun _ => True) false (fun a w => Q' .normal a w) l a w.drew) : (Code.region id l.toArray true).wp P Q' a w :=
  wp_drawn (fun _ => True) _ bef hm hc trivial (TX_of_TL' h)

/-- The same, where what is read is said of every world that meets S. -/
theorem rgS {id : Nat} {l : List Oper} {Q' : Exit → Act → World → Prop} {a : Act} {w : World} (S : World → Prop) (hm : P.follows .mixedOrders = true) (bef : Array Nat) (hc : okB true l bef = true) (hS : S w.drew)
    (h : TL P l.toArray S true (fun a w => Q' .normal a w) l a w.drew) : (Code.region id l.toArray true).wp P Q' a w :=
  wp_drawn S _ bef hm hc hS (TX_of_TL' h)

variable {rest : List Oper} {l : List Value} {w : World} {d : Nat} {ty : TypeId} {pos : String} {af : Array Edge} {gd : Option (Nat × Bool)}

/-- The guard says no. -/
theorem TL.no {o : Oper} {a : Act} (hS : S w) (hg : Region.wanted o (yielded ops a.tmps) = false) (h : TL P ops S rp Q rest (a.put o.dst undef) w) : TL P ops S rp Q (o :: rest) a w := by
  show TO P ops S rp o _ a w
  unfold TO
  split
  · exact ⟨undef, .inr ⟨hg, rfl⟩, h⟩
  · exact ⟨undef, .inr ⟨hg, rfl⟩, h⟩
  · simp only [hg, Bool.false_eq_true, if_false]; exact ⟨hS, h⟩

theorem TL.nil {a : Act} (h : Q a w) : TL P ops S rp Q [] a w := h

/-- What yields in whatever world. -/
theorem TL.val {op : Op} (v : Value) (hk : opKind rp op ≠ .e) (hg : Region.wanted ⟨some d, op, ty, pos, af, gd⟩ (yielded ops (F l).tmps) = true)
    (hr : ∀ w', (execOp (ev l) ⟨some d, op, ty, pos, af, gd⟩).run P w' = .ok (.value v) w')
    (h : TL P ops S rp Q rest (F (l.set d v)) w) : TL P ops S rp Q (⟨some d, op, ty, pos, af, gd⟩ :: rest) (F l) w := by
  have he : (F l).eval = ev l := funext (F_eval l)
  show TO P ops S rp _ _ _ w
  unfold TO
  split
  · exact ⟨v, .inl ⟨hg, fun w' _ => by rw [he]; exact hr w'⟩, by rw [F_put]; exact h⟩
  · exact ⟨v, .inl ⟨hg, fun w' _ => by rw [he]; exact hr w'⟩, by rw [F_put]; exact h⟩
  · rename_i e; exact absurd e hk

/-- What reads. -/
theorem TL.read {op : Op} (v : Value) (hk : opKind rp op = if rp then .p else .q) (hg : Region.wanted ⟨some d, op, ty, pos, af, gd⟩ (yielded ops (F l).tmps) = true)
    (hr : ∀ w', T rp S w w' → (execOp (ev l) ⟨some d, op, ty, pos, af, gd⟩).run P w' = .ok (.value v) w')
    (h : TL P ops S rp Q rest (F (l.set d v)) w) : TL P ops S rp Q (⟨some d, op, ty, pos, af, gd⟩ :: rest) (F l) w := by
  have he : (F l).eval = ev l := funext (F_eval l)
  show TO P ops S rp _ _ _ w
  unfold TO
  cases rp
  · rw [hk]; exact ⟨v, .inl ⟨hg, fun w' hw => by rw [he]; exact hr w' hw⟩, by rw [F_put]; exact h⟩
  · rw [hk]; exact ⟨v, .inl ⟨hg, fun w' hw => by rw [he]; exact hr w' hw⟩, by rw [F_put]; exact h⟩

/-- What changes the world and yields. -/
theorem TL.eff {op : Op} (v : Value) (w' : World) (hk : opKind rp op = .e) (hg : Region.wanted ⟨some d, op, ty, pos, af, gd⟩ (yielded ops (F l).tmps) = true)
    (hr : (execOp (ev l) ⟨some d, op, ty, pos, af, gd⟩).run P w = .ok (.value v) w')
    (h : S w' ∧ TL P ops S rp Q rest (F (l.set d v)) w') : TL P ops S rp Q (⟨some d, op, ty, pos, af, gd⟩ :: rest) (F l) w := by
  have he : (F l).eval = ev l := funext (F_eval l)
  show TO P ops S rp _ _ _ w
  unfold TO
  rw [hk]
  simp only [hg, if_true, Oper.wp, he, hr, Oper.upon, F_put]
  exact h

/-- What changes the world and yields nothing. -/
theorem TL.effU {op : Op} (w' : World) (hk : opKind rp op = .e) (hg : Region.wanted ⟨none, op, ty, pos, af, gd⟩ (yielded ops (F l).tmps) = true)
    (hr : (execOp (ev l) ⟨none, op, ty, pos, af, gd⟩).run P w = .ok .skip w')
    (h : S w' ∧ TL P ops S rp Q rest (F l) w') : TL P ops S rp Q (⟨none, op, ty, pos, af, gd⟩ :: rest) (F l) w := by
  have he : (F l).eval = ev l := funext (F_eval l)
  show TO P ops S rp _ _ _ w
  unfold TO
  rw [hk]
  simp only [hg, if_true, Oper.wp, he, hr, Oper.upon, F_put_none]
  exact h

theorem TL.effN {op : Op} (v : Value) (w' : World) (hk : opKind rp op = .e) (hg : Region.wanted ⟨none, op, ty, pos, af, gd⟩ (yielded ops (F l).tmps) = true)
    (hr : (execOp (ev l) ⟨none, op, ty, pos, af, gd⟩).run P w = .ok (.value v) w')
    (h : S w' ∧ TL P ops S rp Q rest (F l) w') : TL P ops S rp Q (⟨none, op, ty, pos, af, gd⟩ :: rest) (F l) w := by
  have he : (F l).eval = ev l := funext (F_eval l)
  show TO P ops S rp _ _ _ w
  unfold TO
  rw [hk]
  simp only [hg, if_true, Oper.wp, he, hr, Oper.upon, F_put_none]
  exact h

/-- What a call comes to: it returns. -/
def Ret (R : Value → World → Prop) : Ending → World → Prop
  | .returned v, w => R v w
  | _, _ => False

theorem TL.call {f : FuncId} {args : Array Value} {R : Value → World → Prop} {op : Op} (hk : opKind rp op = .e) (hg : Region.wanted ⟨some d, op, ty, pos, af, gd⟩ (yielded ops (F l).tmps) = true)
    (hr : (execOp (ev l) ⟨some d, op, ty, pos, af, gd⟩).run P w = .ok (.enter f args) w) (hc : Calls P f args w (Ret R))
    (h : ∀ v w', R v w' → S w' ∧ TL P ops S rp Q rest (F (l.set d v)) w') : TL P ops S rp Q (⟨some d, op, ty, pos, af, gd⟩ :: rest) (F l) w := by
  have he : (F l).eval = ev l := funext (F_eval l)
  show TO P ops S rp _ _ _ w
  unfold TO
  rw [hk]
  simp only [hg, if_true, Oper.wp, he, hr, Oper.upon]
  refine hc.mono fun e w' hR => ?_
  cases e with
  | returned v => simp only [F_put]; exact h v w' hR
  | panicked c => exact hR.elim
  | outgrown => exact hR.elim

theorem TL.callN {f : FuncId} {args : Array Value} {R : Value → World → Prop} {op : Op} (hk : opKind rp op = .e) (hg : Region.wanted ⟨none, op, ty, pos, af, gd⟩ (yielded ops (F l).tmps) = true)
    (hr : (execOp (ev l) ⟨none, op, ty, pos, af, gd⟩).run P w = .ok (.enter f args) w) (hc : Calls P f args w (Ret R))
    (h : ∀ v w', R v w' → S w' ∧ TL P ops S rp Q rest (F l) w') : TL P ops S rp Q (⟨none, op, ty, pos, af, gd⟩ :: rest) (F l) w := by
  have he : (F l).eval = ev l := funext (F_eval l)
  show TO P ops S rp _ _ _ w
  unfold TO
  rw [hk]
  simp only [hg, if_true, Oper.wp, he, hr, Oper.upon]
  refine hc.mono fun e w' hR => ?_
  cases e with
  | returned v => simp only [F_put_none]; exact h v w' hR
  | panicked c => exact hR.elim
  | outgrown => exact hR.elim
end
end Go.Proofs.Ytafmgghpcneoeaa
