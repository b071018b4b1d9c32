/- Frames, worlds and operations: what each operation does, one lemma for each. -/
import Derived.Test.YtafmgghpcneoeaaEng
import Derived.WalkKit
namespace Go.Proofs.Ytafmgghpcneoeaa
open Go

/-! ### Frames -/
def F (l : List Value) : Act := ⟨l.toArray, []⟩

def ev (l : List Value) : Operand → Value
  | .tmp t => l.getD t undef
  | .const v => v
  | .global g => .pointer (some ⟨g, 0, none⟩)
  | .func f => .func (.func f) #[] #[]

theorem F_eval (l : List Value) (x : Operand) : (F l).eval x = ev l x := by
  cases x <;> simp [F, Act.eval, ev, List.getD]

theorem F_put (l : List Value) (d : Nat) (v : Value) : (F l).put (some d) v = F (l.set d v) := by
  simp [F, Act.put]

theorem F_put_none (l : List Value) (v : Value) : (F l).put none v = F l := rfl

/-! ### Lists of operations -/
def opKind (rp : Bool) : Op → OK
  | .move _ | .assign _ | .pick .. | .build .. | .fieldAddr .. | .field .. | .unOp .. | .makeInterface .. | .makeFunc .. | .extract .. | .nilCheck _ | .indexAddr .. | .index .. | .sliceToArrayPointer .. => .p
  | .slice .. => .p
  | .binOp .. => .p
  | .convert .. => if rp then .p else .q
  | .load .. | .lookup .. | .entry .. => if rp then .p else .q
  | .call c => match c.callee with
    | .builtin .len => if rp then .p else .q
    | .builtin .min | .builtin .max => .p
    | _ => .e
  | _ => .e

/-- In which worlds a reading is asked. -/
def T (rp : Bool) (S : World → Prop) (w w' : World) : Prop := if rp then S w' else w' = w

section
variable {P : Program} {ops : Array Oper} {S : World → Prop} {rp : Nat → Bool} {Q : Act → World → Prop}

def TO (P : Program) (ops : Array Oper) (S : World → Prop) (rp : Nat → Bool) (o : Oper) (K : Act → World → Prop) (a : Act) (w : World) : Prop :=
  match opKind (rp (o.dst.getD 0)) o.op with
  | .p => ∃ v, YieldsIf P ops S o v a ∧ K (a.put o.dst v) w
  | .q => ∃ v, YieldsIf P ops (· = w) o v a ∧ K (a.put o.dst v) w
  | .e => if Region.wanted o (yielded ops a.tmps) then o.wp P a w (fun a' w' => S w' ∧ K a' w') noQ else S w ∧ K (a.put o.dst undef) w

def TL (P : Program) (ops : Array Oper) (S : World → Prop) (rp : Nat → Bool) (Q : Act → World → Prop) : List Oper → Act → World → Prop
  | [], a, w => Q a w
  | o :: rest, a, w => TO P ops S rp o (TL P ops S rp Q rest) a w

def kdOf (rp : Nat → Bool) (ops : Array Oper) (i : Nat) : OK := match ops[i]? with | none => .p | some o => opKind (rp (o.dst.getD 0)) o.op

theorem TX_of_TL : ∀ (l : List Oper) (k : Nat), (∀ j, l[j]? = ops[k + j]?) → ∀ a w, TL P ops S rp Q l a w → TX P ops S (kdOf rp ops) Q (List.range' k l.length) a w
  | [], _, _, _, _, h => h
  | o :: l, k, hl, a, w, h => by
    have h0 : ops[k]? = some o := by simpa using (hl 0).symm
    have hl' : ∀ j, l[j]? = ops[k + 1 + j]? := fun j => by have := hl (j + 1); simpa [Nat.add_assoc, Nat.add_comm 1 j] using this
    rw [List.length_cons, List.range'_succ]
    show TOp P ops S (kdOf rp ops k) k _ a w
    have h1 : TO P ops S rp o (TL P ops S rp Q l) a w := h
    unfold TO at h1
    unfold TOp kdOf
    simp only [h0]
    split <;> rename_i hk <;> simp only [hk] at h1
    · obtain ⟨v, h2, h3⟩ := h1; exact ⟨v, h2, TX_of_TL l (k + 1) hl' _ _ h3⟩
    · obtain ⟨v, h2, h3⟩ := h1; exact ⟨v, h2, TX_of_TL l (k + 1) hl' _ _ h3⟩
    · unfold wpOp
      simp only [h0]
      split at h1
      · rename_i hw; simp only [hw, if_true]
        exact .inl (Oper.wp_mono (fun a w h => ⟨h.1, TX_of_TL l (k + 1) hl' _ _ h.2⟩) h1)
      · rename_i hw; simp only [hw]
        exact ⟨h1.1, TX_of_TL l (k + 1) hl' _ _ h1.2⟩

theorem TX_of_TL' {l : List Oper} {a : Act} {w : World} (h : TL P l.toArray S rp Q l a w) : TX P l.toArray S (kdOf rp l.toArray) Q (List.range l.toArray.size) a w := by
  rw [List.range_eq_range', show l.toArray.size = l.length from by simp]
  exact TX_of_TL l 0 (fun j => by simp) a w h

/-- A plain region. -/
theorem rg {id : Nat} {l : List Oper} {Q' : Exit → Act → World → Prop} {a : Act} {w : World}
    (h : TL P l.toArray (fun _ => True) (fun _ => false) (fun a w => Q' .normal a w) l a w) : (Code.region id l.toArray false).wp P Q' a w :=
  wp_plain _ (TX_of_TL' h)

def okB (rp : Nat → Bool) (l : List Oper) (bef : Array Nat) : Bool :=
  Region.noSelect l.toArray && befB .any l.toArray bef && backB .any l.toArray && pairsB l.toArray (kdOf rp l.toArray) bef

/-- A region that draws its order, in the text's. -/
theorem rgD {id : Nat} {l : List Oper} {Q' : Exit → Act → World → Prop} {a : Act} {w : World} (hm : P.follows .mixedOrders = true) (bef : Array Nat) (hc : okB (fun _ => false) l bef = true)
    (h : TL P l.toArray (fun _ => True) (fun _ => false) (fun a w => Q' .normal a w) l a w.drew) : (Code.region id l.toArray true).wp P Q' a w :=
  wp_drawn (fun _ => True) _ bef hm hc trivial (TX_of_TL' h)

/-- The same, where what is read is said of every world that meets S. -/
theorem rgS {id : Nat} {l : List Oper} {Q' : Exit → Act → World → Prop} {a : Act} {w : World} (S : World → Prop) (hm : P.follows .mixedOrders = true) (bef : Array Nat) (hc : okB (fun _ => true) l bef = true) (hS : S w.drew)
    (h : TL P l.toArray S (fun _ => true) (fun a w => Q' .normal a w) l a w.drew) : (Code.region id l.toArray true).wp P Q' a w :=
  wp_drawn S _ bef hm hc hS (TX_of_TL' h)

/-- The same; of the readings those of qs are ordered against all that changes the world, the others are said of every world that meets S. -/
theorem rgM {id : Nat} {l : List Oper} {Q' : Exit → Act → World → Prop} {a : Act} {w : World} (qs : List Nat) (S : World → Prop) (hm : P.follows .mixedOrders = true) (bef : Array Nat) (hc : okB (fun d => !qs.contains d) l bef = true) (hS : S w.drew)
    (h : TL P l.toArray S (fun d => !qs.contains d) (fun a w => Q' .normal a w) l a w.drew) : (Code.region id l.toArray true).wp P Q' a w :=
  wp_drawn S _ bef hm hc hS (TX_of_TL' h)

theorem TX_of_TLp : ∀ (l : List Oper) (k : Nat) (Q : Act → World → Prop), (∀ j, j < l.length → l[j]? = ops[k + j]?) → ∀ a w, TL P ops S rp Q l a w → TX P ops S (kdOf rp ops) Q (List.range' k l.length) a w
  | [], _, _, _, _, _, h => h
  | o :: l, k, Q, hl, a, w, h => by
    have h0 : ops[k]? = some o := by simpa using (hl 0 (by simp)).symm
    have hl' : ∀ j, j < l.length → l[j]? = ops[k + 1 + j]? := fun j hj => by have := hl (j + 1) (by simpa using hj); simpa [Nat.add_assoc, Nat.add_comm 1 j] using this
    rw [List.length_cons, List.range'_succ]
    show TOp P ops S (kdOf rp ops k) k _ a w
    have h1 : TO P ops S rp o (TL P ops S rp Q l) a w := h
    unfold TO at h1
    unfold TOp kdOf
    simp only [h0]
    split <;> rename_i hk <;> simp only [hk] at h1
    · obtain ⟨v, h2, h3⟩ := h1; exact ⟨v, h2, TX_of_TLp l (k + 1) Q hl' _ _ h3⟩
    · obtain ⟨v, h2, h3⟩ := h1; exact ⟨v, h2, TX_of_TLp l (k + 1) Q hl' _ _ h3⟩
    · unfold wpOp
      simp only [h0]
      split at h1
      · rename_i hw; simp only [hw, if_true]
        exact .inl (Oper.wp_mono (fun a w h => ⟨h.1, TX_of_TLp l (k + 1) Q hl' _ _ h.2⟩) h1)
      · rename_i hw; simp only [hw]
        exact ⟨h1.1, TX_of_TLp l (k + 1) Q hl' _ _ h1.2⟩
theorem TO.mono {o : Oper} {K K' : Act → World → Prop} {a : Act} {w : World} (hK : ∀ a w, K a w → K' a w) (h : TO P ops S rp o K a w) : TO P ops S rp o K' a w := by
  unfold TO at h ⊢
  cases hk : opKind (rp (o.dst.getD 0)) o.op with
  | p => rw [hk] at h; obtain ⟨v, h1, h2⟩ := h; exact ⟨v, h1, hK _ _ h2⟩
  | q => rw [hk] at h; obtain ⟨v, h1, h2⟩ := h; exact ⟨v, h1, hK _ _ h2⟩
  | e =>
    rw [hk] at h
    simp only at h ⊢
    split at h
    · rename_i hw; simp only [hw, if_true]; exact Oper.wp_mono (fun a w h => ⟨h.1, hK _ _ h.2⟩) h
    · rename_i hw; simp only [hw]; exact ⟨h.1, hK _ _ h.2⟩
def lastB (bef : Array Nat) (n : Nat) : Bool := (List.range n).all fun i => orderedB bef i n
/-- The same, where the last operation of all, which changes the world, waits for all the others: what it leaves need not meet S. -/
theorem rgL {id : Nat} {l : List Oper} {o : Oper} {Q' : Exit → Act → World → Prop} {a : Act} {w : World} (qs : List Nat) (S : World → Prop) (hm : P.follows .mixedOrders = true) (bef : Array Nat)
    (hc : (okB (fun d => !qs.contains d) (l ++ [o]) bef && lastB bef l.length && (opKind true o.op == .e && opKind false o.op == .e)) = true) (hS : S w.drew)
    (h : TL P (l ++ [o]).toArray S (fun d => !qs.contains d) (fun a w => TL P (l ++ [o]).toArray (fun _ => True) (fun d => !qs.contains d) (fun a w => Q' .normal a w) [o] a w) l a w.drew) : (Code.region id (l ++ [o]).toArray true).wp P Q' a w := by
  simp only [Bool.and_eq_true, beq_iff_eq] at hc
  obtain ⟨⟨h1, h2⟩, h3, h3'⟩ := hc
  refine wp_drawnL (e := l.length) S (kdOf (fun d => !qs.contains d) (l ++ [o]).toArray) bef hm h1 (by simp) h2 hS ?_
  have hget : ((l ++ [o]).toArray)[l.length]? = some o := by simp
  have hke : opKind (!qs.contains (o.dst.getD 0)) o.op = .e := by
    cases qs.contains (o.dst.getD 0)
    · exact h3
    · exact h3'
  have key : ∀ a w, TL P (l ++ [o]).toArray (fun _ => True) (fun d => !qs.contains d) (fun a w => Q' .normal a w) [o] a w → wpOp P (l ++ [o]).toArray noQ l.length (fun a w => Q' .normal a w) a w := fun a w ht => by
    have ht1 : TO P (l ++ [o]).toArray (fun _ => True) (fun d => !qs.contains d) o (fun a w => Q' .normal a w) a w := ht
    unfold TO at ht1
    rw [hke] at ht1
    simp only at ht1
    unfold wpOp
    simp only [hget]
    split at ht1
    · rename_i hw; simp only [hw, if_true]
      exact .inl (Oper.wp_mono (fun a w h => h.2) ht1)
    · rename_i hw; simp only [hw]
      exact ht1.2
  have hmono : ∀ (m : List Oper) a w, TL P (l ++ [o]).toArray S (fun d => !qs.contains d) (fun a w => TL P (l ++ [o]).toArray (fun _ => True) (fun d => !qs.contains d) (fun a w => Q' .normal a w) [o] a w) m a w → TL P (l ++ [o]).toArray S (fun d => !qs.contains d) (fun a w => wpOp P (l ++ [o]).toArray noQ l.length (fun a w => Q' .normal a w) a w) m a w := by
    intro m
    induction m with
    | nil => intro a w h; exact key a w h
    | cons x m ih =>
      intro a w h
      exact TO.mono ih (show TO P (l ++ [o]).toArray S (fun d => !qs.contains d) x _ a w from h)
  have := TX_of_TLp (ops := (l ++ [o]).toArray) l 0 _ (fun j hj => by simp [List.getElem?_append_left hj]) a w.drew (hmono l _ _ h)
  rw [List.range_eq_range']
  exact this

theorem rgL' {id : Nat} {m : List Oper} {Q' : Exit → Act → World → Prop} {a : Act} {w : World} (qs : List Nat) (S : World → Prop) (hm : P.follows .mixedOrders = true) (bef : Array Nat) (hne : m ≠ [])
    (hc : (okB (fun d => !qs.contains d) m bef && lastB bef m.dropLast.length && (opKind true (m.getLast hne).op == .e && opKind false (m.getLast hne).op == .e)) = true) (hS : S w.drew)
    (h : TL P m.toArray S (fun d => !qs.contains d) (fun a w => TL P m.toArray (fun _ => True) (fun d => !qs.contains d) (fun a w => Q' .normal a w) [m.getLast hne] a w) m.dropLast a w.drew) : (Code.region id m.toArray true).wp P Q' a w := by
  have key : ∀ (l : List Oper) (o : Oper), l ++ [o] = m → (okB (fun d => !qs.contains d) m bef && lastB bef l.length && (opKind true o.op == .e && opKind false o.op == .e)) = true →
      TL P m.toArray S (fun d => !qs.contains d) (fun a w => TL P m.toArray (fun _ => True) (fun d => !qs.contains d) (fun a w => Q' .normal a w) [o] a w) l a w.drew → (Code.region id m.toArray true).wp P Q' a w := by
    intro l o e hc h
    subst e
    exact rgL qs S hm bef hc hS h
  exact key _ _ (List.dropLast_concat_getLast hne) hc h

variable {rest : List Oper} {l : List Value} {w : World} {d : Nat} {ty : TypeId} {pos : String} {af : Array Edge} {gd : Option (Nat × Bool)}

/-- The guard says no. -/
theorem TL.no {o : Oper} {a : Act} (hS : S w) (hg : Region.wanted o (yielded ops a.tmps) = false) (h : TL P ops S rp Q rest (a.put o.dst undef) w) : TL P ops S rp Q (o :: rest) a w := by
  show TO P ops S rp o _ a w
  unfold TO
  split
  · exact ⟨undef, .inr ⟨hg, rfl⟩, h⟩
  · exact ⟨undef, .inr ⟨hg, rfl⟩, h⟩
  · simp only [hg, Bool.false_eq_true, if_false]; exact ⟨hS, h⟩

theorem TL.nil {a : Act} (h : Q a w) : TL P ops S rp Q [] a w := h

/-- What yields in whatever world. -/
theorem TL.val {op : Op} (v : Value) (hk : opKind (rp d) op ≠ .e) (hg : Region.wanted ⟨some d, op, ty, pos, af, gd⟩ (yielded ops (F l).tmps) = true)
    (hr : ∀ w', (execOp (ev l) ⟨some d, op, ty, pos, af, gd⟩).run P w' = .ok (.value v) w')
    (h : TL P ops S rp Q rest (F (l.set d v)) w) : TL P ops S rp Q (⟨some d, op, ty, pos, af, gd⟩ :: rest) (F l) w := by
  have he : (F l).eval = ev l := funext (F_eval l)
  show TO P ops S rp _ _ _ w
  unfold TO
  split
  · exact ⟨v, .inl ⟨hg, fun w' _ => by rw [he]; exact hr w'⟩, by rw [F_put]; exact h⟩
  · exact ⟨v, .inl ⟨hg, fun w' _ => by rw [he]; exact hr w'⟩, by rw [F_put]; exact h⟩
  · rename_i e; exact absurd e hk

/-- What reads. -/
theorem TL.read {op : Op} (v : Value) (hk : opKind (rp d) op = if rp d then .p else .q) (hg : Region.wanted ⟨some d, op, ty, pos, af, gd⟩ (yielded ops (F l).tmps) = true)
    (hr : ∀ w', T (rp d) S w w' → (execOp (ev l) ⟨some d, op, ty, pos, af, gd⟩).run P w' = .ok (.value v) w')
    (h : TL P ops S rp Q rest (F (l.set d v)) w) : TL P ops S rp Q (⟨some d, op, ty, pos, af, gd⟩ :: rest) (F l) w := by
  have he : (F l).eval = ev l := funext (F_eval l)
  show TO P ops S rp _ _ _ w
  unfold TO
  simp only [Option.getD_some]
  unfold T at hr
  cases hrp : rp d
  · rw [hrp] at hk hr; simp only [Bool.false_eq_true, if_false, if_true] at hk hr; rw [hk]; exact ⟨v, .inl ⟨hg, fun w' hw => by rw [he]; exact hr w' hw⟩, by rw [F_put]; exact h⟩
  · rw [hrp] at hk hr; simp only [Bool.false_eq_true, if_false, if_true] at hk hr; rw [hk]; exact ⟨v, .inl ⟨hg, fun w' hw => by rw [he]; exact hr w' hw⟩, by rw [F_put]; exact h⟩

/-- What changes the world and yields. -/
theorem TL.eff {op : Op} (v : Value) (w' : World) (hk : opKind (rp d) op = .e) (hg : Region.wanted ⟨some d, op, ty, pos, af, gd⟩ (yielded ops (F l).tmps) = true)
    (hr : (execOp (ev l) ⟨some d, op, ty, pos, af, gd⟩).run P w = .ok (.value v) w')
    (h : S w' ∧ TL P ops S rp Q rest (F (l.set d v)) w') : TL P ops S rp Q (⟨some d, op, ty, pos, af, gd⟩ :: rest) (F l) w := by
  have he : (F l).eval = ev l := funext (F_eval l)
  show TO P ops S rp _ _ _ w
  unfold TO
  simp only [Option.getD_some, Option.getD_none]
  rw [hk]
  simp only [hg, if_true, Oper.wp, he, hr, Oper.upon, F_put]
  exact h

/-- What changes the world and yields nothing. -/
theorem TL.effU {op : Op} (w' : World) (hk : opKind (rp 0) op = .e) (hg : Region.wanted ⟨none, op, ty, pos, af, gd⟩ (yielded ops (F l).tmps) = true)
    (hr : (execOp (ev l) ⟨none, op, ty, pos, af, gd⟩).run P w = .ok .skip w')
    (h : S w' ∧ TL P ops S rp Q rest (F l) w') : TL P ops S rp Q (⟨none, op, ty, pos, af, gd⟩ :: rest) (F l) w := by
  have he : (F l).eval = ev l := funext (F_eval l)
  show TO P ops S rp _ _ _ w
  unfold TO
  simp only [Option.getD_some, Option.getD_none]
  rw [hk]
  simp only [hg, if_true, Oper.wp, he, hr, Oper.upon, F_put_none]
  exact h

theorem TL.effN {op : Op} (v : Value) (w' : World) (hk : opKind (rp 0) op = .e) (hg : Region.wanted ⟨none, op, ty, pos, af, gd⟩ (yielded ops (F l).tmps) = true)
    (hr : (execOp (ev l) ⟨none, op, ty, pos, af, gd⟩).run P w = .ok (.value v) w')
    (h : S w' ∧ TL P ops S rp Q rest (F l) w') : TL P ops S rp Q (⟨none, op, ty, pos, af, gd⟩ :: rest) (F l) w := by
  have he : (F l).eval = ev l := funext (F_eval l)
  show TO P ops S rp _ _ _ w
  unfold TO
  simp only [Option.getD_some, Option.getD_none]
  rw [hk]
  simp only [hg, if_true, Oper.wp, he, hr, Oper.upon, F_put_none]
  exact h

/-- What a call comes to: it returns. -/
def Ret (R : Value → World → Prop) : Ending → World → Prop
  | .returned v, w => R v w
  | _, _ => False

theorem TL.call {f : FuncId} {args : Array Value} {R : Value → World → Prop} {op : Op} (hk : opKind (rp d) op = .e) (hg : Region.wanted ⟨some d, op, ty, pos, af, gd⟩ (yielded ops (F l).tmps) = true)
    (hr : (execOp (ev l) ⟨some d, op, ty, pos, af, gd⟩).run P w = .ok (.enter f args) w) (hc : Calls P f args w (Ret R))
    (h : ∀ v w', R v w' → S w' ∧ TL P ops S rp Q rest (F (l.set d v)) w') : TL P ops S rp Q (⟨some d, op, ty, pos, af, gd⟩ :: rest) (F l) w := by
  have he : (F l).eval = ev l := funext (F_eval l)
  show TO P ops S rp _ _ _ w
  unfold TO
  simp only [Option.getD_some, Option.getD_none]
  rw [hk]
  simp only [hg, if_true, Oper.wp, he, hr, Oper.upon]
  refine hc.mono fun e w' hR => ?_
  cases e with
  | returned v => simp only [F_put]; exact h v w' hR
  | panicked c => exact hR.elim
  | outgrown => exact hR.elim

theorem TL.callN {f : FuncId} {args : Array Value} {R : Value → World → Prop} {op : Op} (hk : opKind (rp 0) op = .e) (hg : Region.wanted ⟨none, op, ty, pos, af, gd⟩ (yielded ops (F l).tmps) = true)
    (hr : (execOp (ev l) ⟨none, op, ty, pos, af, gd⟩).run P w = .ok (.enter f args) w) (hc : Calls P f args w (Ret R))
    (h : ∀ v w', R v w' → S w' ∧ TL P ops S rp Q rest (F l) w') : TL P ops S rp Q (⟨none, op, ty, pos, af, gd⟩ :: rest) (F l) w := by
  have he : (F l).eval = ev l := funext (F_eval l)
  show TO P ops S rp _ _ _ w
  unfold TO
  simp only [Option.getD_some, Option.getD_none]
  rw [hk]
  simp only [hg, if_true, Oper.wp, he, hr, Oper.upon]
  refine hc.mono fun e w' hR => ?_
  cases e with
  | returned v => simp only [F_put_none]; exact h v w' hR
  | panicked c => exact hR.elim
  | outgrown => exact hR.elim
end
end Go.Proofs.Ytafmgghpcneoeaa
