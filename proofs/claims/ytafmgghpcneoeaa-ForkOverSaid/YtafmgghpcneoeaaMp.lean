/- Maps: a row of pairs, whatever the keys. -/
import Derived.Test.YtafmgghpcneoeaaLf
namespace Go.Proofs.Ytafmgghpcneoeaa
open Go Go.BigFrame
namespace Mp

variable {α : Type} [DecidableEq α]
def mget (m : List (α × Value)) (a : α) : Option Value := (m.find? (fun p => p.1 == a)).map (·.2)
def mset (m : List (α × Value)) (a : α) (v : Value) : List (α × Value) := if (mget m a).isSome then m.map (fun p => if p.1 = a then (a, v) else p) else m ++ [(a, v)]
def mdel (m : List (α × Value)) (a : α) : List (α × Value) := m.filter (fun p => p.1 != a)
/-- The place of a key. -/
def mfind : List (α × Value) → α → Nat → Option (Nat × Value)
  | [], _, _ => none
  | p :: m, a, i => if p.1 = a then some (i, p.2) else mfind m a (i + 1)

/-- A map's key type: keys are kv a. -/
structure KT (P : Program) (K : TypeId) (kv : α → Value) : Prop where
  find : ∀ (a : α) (m : List (α × Value)) (es : List MapEntry) (w : World), es.map (fun e => (e.key, e.val)) = m.map (fun p => (kv p.1, p.2)) → (Instr.findKey K (kv a) es).run P w = .ok (mfind m a 0) w
  chk : ∀ a em w, (Instr.checkKey em 10000 K (kv a)).run P w = .ok () w
  same : ∀ a, Instr.sameBits 10000 (kv a) (kv a) = true

/-- The block of a map that holds just these pairs. -/
structure ME (kv : α → Value) (m : List (α × Value)) (es : Array MapEntry) (clock : Nat) : Prop where
  entries : es.toList.map (fun e => (e.key, e.val)) = m.map (fun p => (kv p.1, p.2))
  nd : (m.map (·.1)).Nodup
  born : (es.toList.map (·.born)).Nodup ∧ ∀ e ∈ es.toList, e.born < clock
def MO (kv : α → Value) (m : List (α × Value)) (o : Obj) : Prop := ∃ es clock, o = .map es clock ∧ ME kv m es clock
theorem MO.empty {β : Type} (kv : β → Value) : MO kv [] (.map #[] 0) := ⟨#[], 0, rfl, ⟨rfl, by simp, by simp, by simp⟩⟩

section
variable {P : Program}
variable {K : TypeId} {kv : α → Value} {m : List (α × Value)} {es : Array MapEntry} {clock : Nat} {a : α}

theorem mfind_get : ∀ (m : List (α × Value)) (a : α) (i : Nat), (mfind m a i).map (·.2) = mget m a
  | [], _, _ => rfl
  | p :: m, a, i => by
    unfold mfind mget
    by_cases h : p.1 = a
    · simp [h]
    · have := mfind_get m a (i + 1)
      unfold mget at this
      simp [h, this]

theorem mfind_some : ∀ (m : List (α × Value)) (a : α) (i j : Nat) (v : Value), mfind m a i = some (j, v) → i ≤ j ∧ m[j - i]? = some (a, v)
  | [], _, _, _, _, h => by cases h
  | p :: m, a, i, j, v, h => by
    unfold mfind at h
    split at h
    · rename_i hp
      simp only [Option.some.injEq, Prod.mk.injEq] at h
      obtain ⟨rfl, rfl⟩ := h
      simp [← hp]
    · obtain ⟨h1, h2⟩ := mfind_some m a (i + 1) j v h
      refine ⟨by omega, ?_⟩
      rw [show j - i = (j - (i + 1)) + 1 by omega]; simpa using h2

theorem getObj_map {w : World} {b : Nat} {es : Array MapEntry} {clock : Nat} (h : w.heap[b]? = some (.map es clock)) : (getObj b).run P w = .ok (.map es clock) w := by
  simp [getObj, Sem.run, h]

/-- A look-up. -/
theorem run_lookup_map {t E : TypeId} {b : Nat} {z : Value} {w : World} (ht : P.underlying t = some (.map K E)) (hk : KT P K kv) (hb : w.heap[b]? = some (.map es clock)) (he : ME kv m es clock)
    (hz : (zeroValue E).run P w = .ok z w) (ok : Bool) :
    (Instr.lookup t (.map (some b)) (kv a) ok).run P w = .ok (if ok then .tuple #[(mget m a).getD z, .bool (mget m a).isSome] else (mget m a).getD z) w := by
  unfold Instr.lookup
  simp only [Sem.run_bind, run_underlying ht, Result.andThen_ok, getObj_map hb, hk.chk, hk.find _ _ _ w he.entries, Sem.run_pure]
  have hg := mfind_get m a 0
  cases hf : mfind m a 0 with
  | none =>
    rw [hf] at hg
    simp only [Option.map_none] at hg
    simp [← hg, Sem.run_bind, hz]
  | some p =>
    rw [hf] at hg
    simp only [Option.map_some] at hg
    simp [← hg]

theorem mget_mfind_none {m : List (α × Value)} {a : α} (h : mfind m a 0 = none) : mget m a = none := by rw [← mfind_get m a 0, h]; rfl
theorem mget_mfind_some {m : List (α × Value)} {a : α} {j : Nat} {v : Value} (h : mfind m a 0 = some (j, v)) : mget m a = some v := by rw [← mfind_get m a 0, h]; rfl

theorem mem_of_mget {m : List (α × Value)} {a : α} {v : Value} (h : mget m a = some v) : (a, v) ∈ m := by
  unfold mget at h
  cases hf : m.find? (fun p => p.1 == a) with
  | none => rw [hf] at h; cases h
  | some p =>
    rw [hf] at h
    simp at h
    have h1 := List.mem_of_find?_eq_some hf
    have h2 := List.find?_some hf
    simp at h2
    subst h; rw [← h2]; exact h1

theorem not_mem_of_mget {m : List (α × Value)} {a : α} (h : mget m a = none) : a ∉ m.map (·.1) := fun hm => by
  obtain ⟨p, hp, he⟩ := List.mem_map.1 hm
  unfold mget at h
  cases hf : m.find? (fun p => p.1 == a) with
  | none =>
    have := List.find?_eq_none.1 hf p hp
    simp [he] at this
  | some q => rw [hf] at h; cases h

theorem mset_keys {m : List (α × Value)} {a : α} {v : Value} (h : (mget m a).isSome = true) : (m.map (fun p => if p.1 = a then (a, v) else p)).map (·.1) = m.map (·.1) := by
  rw [List.map_map]
  refine List.map_congr_left fun p _ => ?_
  simp only [Function.comp]
  split <;> simp_all

theorem setObj_run {w : World} {b : Nat} {o : Obj} {es : Array MapEntry} {clock : Nat} (h : w.heap[b]? = some (.map es clock)) : (setObj b o).run P w = .ok () { w with heap := w.heap.setIfInBounds b o } := by
  simp [setObj, Sem.run, h]

/-- A store. -/
theorem run_update_map {t E : TypeId} {b : Nat} {v : Value} {w : World} (ht : P.underlying t = some (.map K E)) (hk : KT P K kv) (hb : w.heap[b]? = some (.map es clock)) (he : ME kv m es clock) :
    ∃ o, (Instr.mapUpdate t (.map (some b)) (kv a) v).run P w = .ok () { w with heap := w.heap.setIfInBounds b o } ∧ MO kv (mset m a v) o := by
  unfold Instr.mapUpdate
  simp only [Sem.run_bind, run_underlying ht, Result.andThen_ok, getObj_map hb, hk.chk, hk.find _ _ _ w he.entries]
  cases hf : mfind m a 0 with
  | none =>
    refine ⟨.map (es.push { key := kv a, val := v, born := clock }) (clock + 1), by simp [setObj_run hb], _, _, rfl, ?_⟩
    have hg := mget_mfind_none hf
    unfold mset
    rw [if_neg (by simp [hg])]
    refine ⟨?_, ?_, ?_, fun e hm => ?_⟩
    · simp [he.entries]
    · rw [List.map_append, List.nodup_append]
      refine ⟨he.nd, by simp, fun x hx y hy => ?_⟩
      simp at hy; subst hy
      intro e; subst e
      exact not_mem_of_mget hg hx
    · rw [Array.toList_push, List.map_append, List.nodup_append]
      refine ⟨he.born.1, by simp, fun x hx y hy => ?_⟩
      simp at hy; subst hy
      obtain ⟨e, hm, rfl⟩ := List.mem_map.1 hx
      exact Nat.ne_of_lt (he.born.2 e hm)
    · rw [Array.toList_push] at hm
      rcases List.mem_append.1 hm with hm | hm
      · have := he.born.2 e hm; omega
      · rw [List.mem_singleton.1 hm]; exact Nat.lt_succ_self _
  | some q =>
    obtain ⟨j, u⟩ := q
    obtain ⟨_, hj⟩ := mfind_some m a 0 j u hf
    rw [Nat.sub_zero] at hj
    have hj2 : (m.map (fun p => (kv p.1, p.2)))[j]? = some (kv a, u) := by simp [hj]
    rw [← he.entries, List.getElem?_map] at hj2
    obtain ⟨e0, h1, h2⟩ := Option.map_eq_some_iff.1 hj2
    simp only [Prod.mk.injEq] at h2
    have h1' : es[j]? = some e0 := by simpa using h1
    have hks : (Instr.keyThatStays (((es[j]?).map (·.key)).getD (kv a)) (kv a)).run P w = .ok (kv a) w := by
      simp only [h1', Option.map_some, Option.getD_some, h2.1]
      unfold Instr.keyThatStays
      rw [hk.same a]; rfl
    have hg := mget_mfind_some hf
    refine ⟨.map (es.modify j fun e => { e with key := kv a, val := v }) clock, by simp [hks, setObj_run hb], _, _, rfl, ?_⟩
    unfold mset
    rw [if_pos (by simp [hg])]
    have hjl : j < m.length := (List.getElem?_eq_some_iff.1 hj).1
    have hnd : ∀ i p, m[i]? = some p → p.1 = a → i = j := fun i p hi hp => by
      have hnd := List.pairwise_iff_getElem.1 he.nd
      have hil : i < m.length := (List.getElem?_eq_some_iff.1 hi).1
      have e1 : (m.map (·.1))[i]'(by simpa using hil) = a := by
        have := (List.getElem?_eq_some_iff.1 hi).2; simp [this, hp]
      have e2 : (m.map (·.1))[j]'(by simpa using hjl) = a := by
        have := (List.getElem?_eq_some_iff.1 hj).2; simp [this]
      rcases Nat.lt_trichotomy i j with h | h | h
      · exact absurd (e1.trans e2.symm) (hnd i j (by simpa using hil) (by simpa using hjl) h)
      · exact h
      · exact absurd (e2.trans e1.symm) (hnd j i (by simpa using hjl) (by simpa using hil) h)
    have hborn : (es.modify j fun e => { e with key := kv a, val := v }).toList.map (·.born) = es.toList.map (·.born) := by
      apply List.ext_getElem?
      intro i
      rw [List.getElem?_map, List.getElem?_map, Array.toList_modify, List.getElem?_modify]
      by_cases hij : j = i
      · subst hij; simp [h1']
      · simp [hij]
    refine ⟨?_, by rw [mset_keys (by simp [hg])]; exact he.nd, by rw [hborn]; exact he.born.1, fun e hm => ?_⟩
    · apply List.ext_getElem?
      intro i
      rw [List.getElem?_map, Array.toList_modify, List.getElem?_modify, List.getElem?_map, List.getElem?_map]
      have hent := congrArg (fun l => l[i]?) he.entries
      simp only [List.getElem?_map] at hent
      by_cases hij : j = i
      · subst hij
        simp [h1', hj]
      · simp only [hij, if_false]
        cases hi : m[i]? with
        | none => rw [hi] at hent; simpa using hent
        | some p =>
          rw [hi] at hent
          have hne : p.1 ≠ a := fun e => hij (hnd i p hi e).symm
          simpa [hne] using hent
    · have : e.born ∈ (es.modify j fun e => { e with key := kv a, val := v }).toList.map (·.born) := List.mem_map.2 ⟨e, hm, rfl⟩
      rw [hborn] at this
      obtain ⟨e', hm', hb'⟩ := List.mem_map.1 this
      rw [← hb']; exact he.born.2 e' hm'

theorem eraseIdx_map' {α β : Type} (f : α → β) : ∀ (l : List α) (i : Nat), (l.eraseIdx i).map f = (l.map f).eraseIdx i
  | [], _ => by simp
  | _ :: _, 0 => by simp
  | x :: l, i + 1 => by simp [eraseIdx_map' f l i]

/-- A deletion. -/
theorem run_delete_map {t u E ty : TypeId} {b : Nat} {w : World} (ht : P.underlying t = some (.map K E)) (hk : KT P K kv) (hb : w.heap[b]? = some (.map es clock)) (he : ME kv m es clock) :
    ∃ o, (Builtin.delete_ #[t, u] ty #[.map (some b), kv a]).run P w = .ok (.tuple #[]) { w with heap := w.heap.setIfInBounds b o } ∧ MO kv (mdel m a) o := by
  unfold Builtin.delete_
  simp only [List.getElem?_toArray, List.getElem?_cons_zero, List.getElem?_cons_succ, Sem.run_bind, run_underlying ht, Result.andThen_ok, getObj_map hb, hk.chk, hk.find _ _ _ w he.entries]
  cases hf : mfind m a 0 with
  | none =>
    refine ⟨.map es clock, by simp [setObj_run hb], _, _, rfl, ?_⟩
    have hg := mget_mfind_none hf
    have : mdel m a = m := List.filter_eq_self.2 fun p hp => by
      simp only [bne_iff_ne, ne_eq]
      intro e
      exact not_mem_of_mget hg (List.mem_map.2 ⟨p, hp, e⟩)
    rw [this]; exact he
  | some q =>
    obtain ⟨j, u'⟩ := q
    obtain ⟨_, hj⟩ := mfind_some m a 0 j u' hf
    rw [Nat.sub_zero] at hj
    refine ⟨.map (es.eraseIdxIfInBounds j) clock, by simp [setObj_run hb], _, _, rfl, ?_⟩
    have hjl : j < m.length := (List.getElem?_eq_some_iff.1 hj).1
    have hdel : mdel m a = m.eraseIdx j := by
      have hnd := he.nd
      clear he hf hb
      induction m generalizing j with
      | nil => simp at hjl
      | cons p m ih =>
        simp only [List.map_cons, List.nodup_cons] at hnd
        unfold mdel
        cases j with
        | zero =>
          simp at hj; subst hj
          rw [List.filter_cons]
          simp only [bne_self_eq_false, Bool.false_eq_true, if_false, List.eraseIdx_cons_zero]
          exact List.filter_eq_self.2 fun q hq => by
            simp only [bne_iff_ne, ne_eq]
            intro e; exact hnd.1 (List.mem_map.2 ⟨q, hq, e⟩)
        | succ j =>
          simp at hj
          have hne : p.1 ≠ a := fun e => hnd.1 (by rw [e]; exact List.mem_map.2 ⟨_, List.mem_of_getElem? hj, rfl⟩)
          rw [List.filter_cons, if_pos (by simpa using hne), List.eraseIdx_cons_succ]
          have := ih j (by omega) hj (by simpa using hjl) hnd.2
          unfold mdel at this
          rw [this]
    have hel : (es.eraseIdxIfInBounds j).toList = es.toList.eraseIdx j := by simp
    refine ⟨?_, ?_, ?_, fun e hm => ?_⟩
    · rw [hel, eraseIdx_map', he.entries, hdel, eraseIdx_map']
    · exact he.nd.sublist (List.filter_sublist.map _)
    · rw [hel]; exact he.born.1.sublist ((List.eraseIdx_sublist _ _).map _)
    · rw [hel] at hm; exact he.born.2 e ((List.eraseIdx_sublist _ _).subset hm)

theorem setObj_parts (w : World) (b : Nat) (o o0 : Obj) (h : w.heap[b]? = some o0) : ({ w with heap := w.heap.setIfInBounds b o } : World).heap[b]? = some o ∧ (∀ c, c ≠ b → ({ w with heap := w.heap.setIfInBounds b o } : World).heap[c]? = w.heap[c]?) ∧
    ({ w with heap := w.heap.setIfInBounds b o } : World).heap.size = w.heap.size := by
  have := lt_of_block h
  refine ⟨by simp [this], fun c hc => ?_, by simp⟩
  simp only
  rw [Array.getElem?_setIfInBounds_ne (fun e => hc e.symm)]

end

section
variable {P : Program} {ops : Array Oper} {S : World → Prop} {rp : Nat → Bool} {Q : Act → World → Prop}
variable {rest : List Oper} {l : List Value} {w : World} {d : Nat} {ty : TypeId} {pos : String} {af : Array Edge} {gd : Option (Nat × Bool)}
variable {M : Nat → Prop} {w0 : World} {g : Gh} {ls : List (Nat × Obj)}
variable {K E t : TypeId} {kv : α → Value} {m : List (α × Value)} {a : α} {b i : Nat} {o : Obj}

theorem TL.lookOk {x y : Operand} (z : Value) (ht : P.underlying t = some (.map K E)) (hk : KT P K kv) (hst : ∀ w', T (rp d) S w w' → St M w0 w' g ls) (hi : ls[i]? = some (b, o)) (hm : MO kv m o)
    (hz : (P.info? E).map (·.zero) = some (some z)) (hx : ev l x = .map (some b)) (hy : ev l y = kv a) (hg : Region.wanted ⟨some d, .lookup t x y true, ty, pos, af, gd⟩ (yielded ops (F l).tmps) = true)
    (h : TL P ops S rp Q rest (F (l.set d (.tuple #[(mget m a).getD z, .bool (mget m a).isSome]))) w) : TL P ops S rp Q (⟨some d, .lookup t x y true, ty, pos, af, gd⟩ :: rest) (F l) w := by
  refine TL.read _ rfl hg (fun w' hw => ?_) h
  obtain ⟨es, clock, rfl, he⟩ := hm
  have hz' : (zeroValue E).run P w' = .ok z w' := by
    cases hq : P.info? E with
    | none => simp [hq] at hz
    | some i => simp [hq] at hz; simp [zeroValue, typeInfo, hq, hz, Sem.run_bind]
  unfold execOp
  simp only [hx, hy, Sem.run_bind, run_lookup_map ht hk ((hst w' hw).mem hi) he hz' true, Result.andThen_ok]
  rfl
theorem TL.look {x y : Operand} (z : Value) (ht : P.underlying t = some (.map K E)) (hk : KT P K kv) (hst : ∀ w', T (rp d) S w w' → St M w0 w' g ls) (hi : ls[i]? = some (b, o)) (hm : MO kv m o)
    (hz : (P.info? E).map (·.zero) = some (some z)) (hx : ev l x = .map (some b)) (hy : ev l y = kv a) (hg : Region.wanted ⟨some d, .lookup t x y false, ty, pos, af, gd⟩ (yielded ops (F l).tmps) = true)
    (h : TL P ops S rp Q rest (F (l.set d ((mget m a).getD z))) w) : TL P ops S rp Q (⟨some d, .lookup t x y false, ty, pos, af, gd⟩ :: rest) (F l) w := by
  refine TL.read _ rfl hg (fun w' hw => ?_) h
  obtain ⟨es, clock, rfl, he⟩ := hm
  have hz' : (zeroValue E).run P w' = .ok z w' := by
    cases hq : P.info? E with
    | none => simp [hq] at hz
    | some i => simp [hq] at hz; simp [zeroValue, typeInfo, hq, hz, Sem.run_bind]
  unfold execOp
  simp only [hx, hy, Sem.run_bind, run_lookup_map ht hk ((hst w' hw).mem hi) he hz' false, Result.andThen_ok]
  rfl

theorem TL.mset {x y z : Operand} (v : Value) (ht : P.underlying t = some (.map K E)) (hk : KT P K kv) (hst : St M w0 w g ls) (hi : ls[i]? = some (b, o)) (hm : MO kv m o)
    (hx : ev l x = .map (some b)) (hy : ev l y = kv a) (hv : ev l z = v) (hg : Region.wanted ⟨none, .mapUpdate t x y z, ty, pos, af, gd⟩ (yielded ops (F l).tmps) = true)
    (h : ∀ W o', MO kv (mset m a v) o' → St M w0 W g (ls.set i (b, o')) → S W ∧ TL P ops S rp Q rest (F l) W) : TL P ops S rp Q (⟨none, .mapUpdate t x y z, ty, pos, af, gd⟩ :: rest) (F l) w := by
  obtain ⟨es, clock, rfl, he⟩ := hm
  have hb := hst.mem hi
  obtain ⟨o', h1, h2⟩ := run_update_map (v := v) ht hk hb he
  obtain ⟨h3, h4, h5⟩ := setObj_parts w b o' _ hb
  refine TL.effU { w with heap := w.heap.setIfInBounds b o' } (by simp [opKind]) hg ?_ (h _ o' h2 (hst.put hi rfl rfl rfl h5 h3 h4))
  unfold execOp
  simp only [hx, hy, hv, Sem.run_bind, h1, Result.andThen_ok]
  rfl

theorem TL.mdel {x y : Operand} {u : TypeId} (ht : P.underlying t = some (.map K E)) (hk : KT P K kv) (hst : St M w0 w g ls) (hi : ls[i]? = some (b, o)) (hm : MO kv m o)
    (hx : ev l x = .map (some b)) (hy : ev l y = kv a) (hg : Region.wanted ⟨none, .call { callee := .builtin .delete, args := #[x, y], argTypes := #[t, u] }, ty, pos, af, gd⟩ (yielded ops (F l).tmps) = true)
    (h : ∀ W o', MO kv (mdel m a) o' → St M w0 W g (ls.set i (b, o')) → S W ∧ TL P ops S rp Q rest (F l) W) : TL P ops S rp Q (⟨none, .call { callee := .builtin .delete, args := #[x, y], argTypes := #[t, u] }, ty, pos, af, gd⟩ :: rest) (F l) w := by
  obtain ⟨es, clock, rfl, he⟩ := hm
  have hb := hst.mem hi
  obtain ⟨o', h1, h2⟩ := run_delete_map (u := u) (ty := ty) ht hk hb he
  obtain ⟨h3, h4, h5⟩ := setObj_parts w b o' _ hb
  refine TL.effN (.tuple #[]) { w with heap := w.heap.setIfInBounds b o' } (by simp [opKind]) hg ?_ (h _ o' h2 (hst.put hi rfl rfl rfl h5 h3 h4))
  rw [execOp_builtin, builtin_delete]
  simp only [List.map_toArray, List.map_cons, List.map_nil, hx, hy, Sem.run_bind, h1, Result.andThen_ok]
  rfl

theorem TL.makeMap {α : Type} (kv : α → Value) (hst : St M w0 w g ls) (hg : Region.wanted ⟨some d, .makeMap t none, ty, pos, af, gd⟩ (yielded ops (F l).tmps) = true)
    (h : ∀ W n o', MO kv [] o' → St M w0 W g ((n, o') :: ls) → S W ∧ TL P ops S rp Q rest (F (l.set d (.map (some n)))) W) : TL P ops S rp Q (⟨some d, .makeMap t none, ty, pos, af, gd⟩ :: rest) (F l) w := by
  refine TL.eff (.map (some w.heap.size)) (w.alloc (.map #[] 0)) (by simp [opKind]) hg ?_ (h _ _ _ (MO.empty kv) (hst.alloc _))
  unfold execOp
  simp [Instr.makeMap, Sem.run_bind]

end

/-! ### Keys -/
theorem findAsking_of {P : Program} {α : Type} [DecidableEq α] {K : TypeId} {kv : α → Value} (heq : ∀ a b w, (Op.equal K (kv a) (kv b)).run P w = .ok (decide (a = b)) w) (a : α) (w : World) :
    ∀ (m : List (α × Value)) (es : List MapEntry) (i : Nat), es.map (fun e => (e.key, e.val)) = m.map (fun p => (kv p.1, p.2)) → (Instr.findAsking K (kv a) es i).run P w = .ok (mfind m a i) w
  | [], [], _, _ => rfl
  | [], _ :: _, _, h => by simp at h
  | _ :: _, [], _, h => by simp at h
  | p :: m, e :: es, i, h => by
    simp only [List.map_cons, List.cons.injEq, Prod.mk.injEq] at h
    obtain ⟨⟨h1, h2⟩, h3⟩ := h
    have ih := findAsking_of heq a w m es (i + 1) h3
    have hq : (Op.equal K (kv a) e.key).run P w = .ok (decide (a = p.1)) w := by rw [h1]; exact heq a p.1 w
    unfold Instr.findAsking mfind
    simp only [Sem.run_bind, hq, Result.andThen_ok]
    by_cases hp : p.1 = a
    · simp [hp, h2]
    · have : ¬ a = p.1 := fun e => hp e.symm
      simp [hp, this, ih]
theorem findKey_of {P : Program} {α : Type} [DecidableEq α] {K : TypeId} {kv : α → Value} {d : TypeDesc} (hu : P.underlying K = some d) (hn : ∀ k v, Instr.sameNow d k v = none) (heq : ∀ a b w, (Op.equal K (kv a) (kv b)).run P w = .ok (decide (a = b)) w)
    (a : α) (m : List (α × Value)) (es : List MapEntry) (w : World) (h : es.map (fun e => (e.key, e.val)) = m.map (fun p => (kv p.1, p.2))) : (Instr.findKey K (kv a) es).run P w = .ok (mfind m a 0) w := by
  unfold Instr.findKey
  simp only [Sem.run_bind, run_underlying hu, Result.andThen_ok]
  cases hes : es with
  | nil =>
    have hm : m = [] := by
      rw [hes] at h
      cases m with
      | nil => rfl
      | cons p m => simp at h
    subst hm
    simp [Instr.findNow, mfind]
  | cons x xs =>
    have : Instr.findNow d (kv a) (x :: xs) 0 = none := by simp [Instr.findNow, hn]
    simp only [this]
    rw [hes] at h
    exact findAsking_of heq a w m (x :: xs) 0 h
theorem sameBits_ia (k : IntKind) {n : Nat} (a : Ar n) (d : Nat) : Instr.sameBits (d + 2) (.agg (iaC k a).toArray) (.agg (iaC k a).toArray) = true := by
  have key : ∀ (l : List Value), (∀ v ∈ l, ∃ k n, v = Value.int k n) → (l.zip l).all (fun (x, y) => Instr.sameBits (d + 1) x y) = true := by
    intro l
    induction l with
    | nil => intro _; rfl
    | cons v l ih =>
      intro hl
      obtain ⟨k, n, rfl⟩ := hl v (by simp)
      rw [List.zip_cons_cons, List.all_cons, ih (fun u hu => hl u (by simp [hu]))]
      simp [Instr.sameBits]
  rw [Instr.sameBits]
  simp only [BEq.rfl, Bool.true_and]
  exact key _ fun v hv => by obtain ⟨x, _, rfl⟩ := List.mem_map.1 hv; exact ⟨_, _, rfl⟩
def kvA (k : IntKind) (n : Nat) (a : Ar n) : Value := .agg (iaC k a).toArray
theorem KT.arr {P : Program} {t e : TypeId} {k : IntKind} {n : Nat} (ht : P.underlying t = some (.array n e)) (he : P.underlying e = some (.int k)) (hs : (P.info? e).map (·.size) = some 1) : KT P t (kvA k n) :=
  ⟨fun a m es w h => findKey_of ht (fun _ _ => by cases n <;> rfl) (fun a b w => by
      unfold kvA iaC Op.equal
      rw [show Op.maxDepth = 9998 + 2 from rfl, run_equalIn_ints w 9998 t e n k ht he hs _ _ a.len b.len]
      congr 1
      rw [Bool.eq_iff_iff]
      simp only [beq_iff_eq, decide_eq_true_eq]
      exact ⟨Ar.ext', fun h => by rw [h]⟩) a m es w h,
    fun a em w => run_checkKey_ints ht he hs _ a.len em w, fun a => sameBits_ia k a 9998⟩
def kvI (k : IntKind) (a : Int) : Value := .int k a
theorem KT.int {P : Program} {t : TypeId} {k : IntKind} (ht : P.underlying t = some (.int k)) : KT P t (kvI k) :=
  ⟨fun a m es w h => by
    unfold Instr.findKey
    simp only [Sem.run_bind, run_underlying ht, Result.andThen_ok]
    have key : ∀ (m : List (Int × Value)) (es : List MapEntry) (i : Nat), es.map (fun e => (e.key, e.val)) = m.map (fun p => (kvI k p.1, p.2)) → Instr.findNow (.int k) (kvI k a) es i = some (mfind m a i) := by
      intro m
      induction m with
      | nil => intro es i h; cases es with
        | nil => rfl
        | cons e es => simp at h
      | cons p m ih =>
        intro es i h
        cases es with
        | nil => simp at h
        | cons e es =>
          simp only [List.map_cons, List.cons.injEq, Prod.mk.injEq] at h
          obtain ⟨⟨h1, h2⟩, h3⟩ := h
          unfold Instr.findNow mfind
          rw [h1]
          by_cases hp : p.1 = a
          · simp [kvI, Instr.sameNow, hp, h2]
          · have : (a == p.1) = false := by simp; exact fun e => hp e.symm
            simp [kvI, Instr.sameNow, hp, this]
            exact ih es (i + 1) h3
    rw [key m es 0 h]; rfl,
  fun a em w => by rw [show (10000 : Nat) = 9999 + 1 from rfl, Instr.checkKey]; simp [Sem.run_bind, run_underlying ht, kvI],
  fun a => by rw [show (10000 : Nat) = 9999 + 1 from rfl]; simp [Instr.sameBits, kvI]⟩

/-! ### Maps of values -/
section
variable {α : Type} [DecidableEq α] {β : Type}
def pget (m : List (α × β)) (a : α) : Option β := (m.find? (fun p => p.1 == a)).map (·.2)
def pset (m : List (α × β)) (a : α) (x : β) : List (α × β) := if (pget m a).isSome then m.map (fun p => if p.1 = a then (a, x) else p) else m ++ [(a, x)]
def pdel (m : List (α × β)) (a : α) : List (α × β) := m.filter (fun p => p.1 != a)
/-- How a value lies in one entry. -/
inductive VR (A : RT β) (g : Gh) : Bool → β → Value → Prop
  | agg {x : β} {cs : List Value} : A.R g x cs → VR A g true x (.agg cs.toArray)
  | one {x : β} {v : Value} : A.R g x [v] → VR A g false x v
theorem VR.mono {A : RT β} {g g' : Gh} {b : Bool} {x : β} {v : Value} (h : VR A g b x v) (hg : g.le g') : VR A g' b x v := by
  cases h with
  | agg h => exact .agg (A.mono h hg)
  | one h => exact .one (A.mono h hg)
theorem VR.inv1 {A : RT β} {g : Gh} {x : β} {v : Value} (h : VR A g false x v) : A.R g x [v] := by
  cases h with
  | one h => exact h
theorem VR.invA {A : RT β} {g : Gh} {x : β} {v : Value} (h : VR A g true x v) : ∃ cs : List Value, v = .agg cs.toArray ∧ A.R g x cs := by
  cases h with
  | agg h => exact ⟨_, rfl, h⟩
theorem inj1 {a b : Value} (h : [a] = [b]) : a = b := by injection h
inductive Z2 (A : RT β) (g : Gh) (ag : Bool) : List (α × β) → List (α × Value) → Prop
  | nil : Z2 A g ag [] []
  | cons {a : α} {x : β} {v : Value} {m : List (α × β)} {r : List (α × Value)} : VR A g ag x v → Z2 A g ag m r → Z2 A g ag ((a, x) :: m) ((a, v) :: r)
variable {A : RT β} {g g' : Gh} {ag : Bool} {m : List (α × β)} {r : List (α × Value)}
theorem Z2.mono {α β : Type} {A : RT β} {g g' : Gh} {ag : Bool} {m : List (α × β)} {r : List (α × Value)} (h : Z2 A g ag m r) (hg : g.le g') : Z2 A g' ag m r := by
  induction h with
  | nil => exact .nil
  | cons h _ ih => exact .cons (h.mono hg) ih
theorem Z2.get (h : Z2 A g ag m r) (a : α) : (pget m a = none ∧ mget r a = none) ∨ ∃ x v, pget m a = some x ∧ mget r a = some v ∧ VR A g ag x v := by
  induction h with
  | nil => exact .inl ⟨rfl, rfl⟩
  | @cons b x v m r hv _ ih =>
    unfold pget mget
    by_cases hb : b = a
    · subst hb; right; exact ⟨x, v, by simp, by simp, hv⟩
    · have : (b == a) = false := by simpa using hb
      simp only [List.find?_cons, this]
      exact ih
theorem Z2.map (h : Z2 A g ag m r) (a : α) {x : β} {v : Value} (hv : VR A g ag x v) : Z2 A g ag (m.map fun p => if p.1 = a then (a, x) else p) (r.map fun p => if p.1 = a then (a, v) else p) := by
  induction h with
  | nil => exact .nil
  | @cons b y u m r hu _ ih =>
    simp only [List.map_cons]
    by_cases hb : b = a
    · simp only [hb, if_true]; exact .cons hv ih
    · simp only [hb, if_false]; exact .cons hu ih
theorem Z2.app {α β : Type} {A : RT β} {g : Gh} {ag : Bool} {m m' : List (α × β)} {r r' : List (α × Value)} (h : Z2 A g ag m r) (k : Z2 A g ag m' r') : Z2 A g ag (m ++ m') (r ++ r') := by
  induction h with
  | nil => exact k
  | cons hv _ ih => exact .cons hv ih
theorem Z2.set (h : Z2 A g ag m r) (a : α) {x : β} {v : Value} (hv : VR A g ag x v) : Z2 A g ag (pset m a x) (mset r a v) := by
  unfold pset mset
  rcases h.get a with ⟨h1, h2⟩ | ⟨y, u, h1, h2, _⟩
  · rw [h1, h2]; exact h.app (.cons hv .nil)
  · rw [h1, h2]; exact h.map a hv
theorem Z2.del (h : Z2 A g ag m r) (a : α) : Z2 A g ag (pdel m a) (mdel r a) := by
  unfold pdel mdel
  induction h with
  | nil => exact .nil
  | @cons b y u m r hu _ ih =>
    by_cases hb : b = a
    · simpa [hb] using ih
    · simpa [hb] using Z2.cons hu ih
/-- A map's block. -/
def MR (A : RT β) (ag : Bool) (kv : α → Value) (g : Gh) (m : List (α × β)) (ob : Obj) : Prop := ∃ r, MO kv r ob ∧ Z2 A g ag m r
theorem MR.mono {α β : Type} {A : RT β} {g g' : Gh} {ag : Bool} {m : List (α × β)} {kv : α → Value} {ob : Obj} (h : MR A ag kv g m ob) (hg : g.le g') : MR A ag kv g' m ob := by
  obtain ⟨r, h1, h2⟩ := h; exact ⟨r, h1, h2.mono hg⟩
end
section
variable {P : Program} {ops : Array Oper} {S : World → Prop} {rp : Nat → Bool} {Q : Act → World → Prop}
variable {rest : List Oper} {l : List Value} {w : World} {d : Nat} {ty : TypeId} {pos : String} {af : Array Edge} {gd : Option (Nat × Bool)}
variable {M : Nat → Prop} {w0 : World} {g : Gh} {ls : List (Nat × Obj)}
variable {α : Type} [DecidableEq α] {β : Type} {A : RT β} {ag : Bool} {kv : α → Value} {m : List (α × β)} {ob : Obj}
variable {K E t : TypeId} {a : α} {b i : Nat} {x y z : Operand}

theorem TL.pmake {α β : Type} (A : RT β) (ag : Bool) (kv : α → Value) (hst : St M w0 w g ls) (hg : Region.wanted ⟨some d, .makeMap t none, ty, pos, af, gd⟩ (yielded ops (F l).tmps) = true)
    (h : ∀ W n o', MR A ag kv g ([] : List (α × β)) o' → St M w0 W g ((n, o') :: ls) → S W ∧ TL P ops S rp Q rest (F (l.set d (.map (some n)))) W) : TL P ops S rp Q (⟨some d, .makeMap t none, ty, pos, af, gd⟩ :: rest) (F l) w :=
  TL.makeMap kv hst hg fun W n o' h1 h2 => h W n o' ⟨[], h1, .nil⟩ h2
/-- Is it there? Both ways. -/
theorem TL.plook {ok : Bool} (zv : Value) (ht : P.underlying t = some (.map K E)) (hk : KT P K kv) (hst : ∀ w', T (rp d) S w w' → St M w0 w' g ls) (hi : ls[i]? = some (b, ob)) (hm : MR A ag kv g m ob)
    (hz : (P.info? E).map (·.zero) = some (some zv)) (hx : ev l x = .map (some b)) (hy : ev l y = kv a) (hg : Region.wanted ⟨some d, .lookup t x y ok, ty, pos, af, gd⟩ (yielded ops (F l).tmps) = true)
    (h1 : pget m a = none → TL P ops S rp Q rest (F (l.set d (if ok then .tuple #[zv, .bool false] else zv))) w)
    (h2 : ∀ q v, pget m a = some q → VR A g ag q v → TL P ops S rp Q rest (F (l.set d (if ok then .tuple #[v, .bool true] else v))) w) : TL P ops S rp Q (⟨some d, .lookup t x y ok, ty, pos, af, gd⟩ :: rest) (F l) w := by
  obtain ⟨r, h3, h4⟩ := hm
  cases ok
  · refine TL.look zv ht hk hst hi h3 hz hx hy hg ?_
    rcases h4.get a with ⟨h5, h6⟩ | ⟨q, v, h5, h6, h7⟩
    · rw [h6]; exact h1 h5
    · rw [h6]; exact h2 q v h5 h7
  · refine TL.lookOk zv ht hk hst hi h3 hz hx hy hg ?_
    rcases h4.get a with ⟨h5, h6⟩ | ⟨q, v, h5, h6, h7⟩
    · rw [h6]; exact h1 h5
    · rw [h6]; exact h2 q v h5 h7
/-- Of what has one cell and no slices: the value, or the nought. -/
theorem TL.plookD (zq : β) (f : β → Value) (hf : ∀ q v, A.R g q [v] → v = f q) (ht : P.underlying t = some (.map K E)) (hk : KT P K kv) (hst : ∀ w', T (rp d) S w w' → St M w0 w' g ls) (hi : ls[i]? = some (b, ob)) (hm : MR A false kv g m ob)
    (hz : (P.info? E).map (·.zero) = some (some (f zq))) (hx : ev l x = .map (some b)) (hy : ev l y = kv a) (hg : Region.wanted ⟨some d, .lookup t x y false, ty, pos, af, gd⟩ (yielded ops (F l).tmps) = true)
    (h : TL P ops S rp Q rest (F (l.set d (f ((pget m a).getD zq)))) w) : TL P ops S rp Q (⟨some d, .lookup t x y false, ty, pos, af, gd⟩ :: rest) (F l) w :=
  TL.plook (f zq) ht hk hst hi hm hz hx hy hg (fun h1 => by rw [h1] at h; exact h) fun q v h1 h2 => by
    cases h2 with
    | one h2 => rw [h1] at h; rw [hf q v h2]; exact h
theorem TL.pset (v : Value) (q : β) (ht : P.underlying t = some (.map K E)) (hk : KT P K kv) (hst : St M w0 w g ls) (hi : ls[i]? = some (b, ob)) (hm : MR A ag kv g m ob) (hv : VR A g ag q v)
    (hx : ev l x = .map (some b)) (hy : ev l y = kv a) (hz : ev l z = v) (hg : Region.wanted ⟨none, .mapUpdate t x y z, ty, pos, af, gd⟩ (yielded ops (F l).tmps) = true)
    (h : ∀ W o', MR A ag kv g (pset m a q) o' → St M w0 W g (ls.set i (b, o')) → S W ∧ TL P ops S rp Q rest (F l) W) : TL P ops S rp Q (⟨none, .mapUpdate t x y z, ty, pos, af, gd⟩ :: rest) (F l) w := by
  obtain ⟨r, h3, h4⟩ := hm
  exact TL.mset v ht hk hst hi h3 hx hy hz hg fun W o' h5 h6 => h W o' ⟨_, h5, h4.set a hv⟩ h6
theorem TL.pdel {u : TypeId} (ht : P.underlying t = some (.map K E)) (hk : KT P K kv) (hst : St M w0 w g ls) (hi : ls[i]? = some (b, ob)) (hm : MR A ag kv g m ob)
    (hx : ev l x = .map (some b)) (hy : ev l y = kv a) (hg : Region.wanted ⟨none, .call { callee := .builtin .delete, args := #[x, y], argTypes := #[t, u] }, ty, pos, af, gd⟩ (yielded ops (F l).tmps) = true)
    (h : ∀ W o', MR A ag kv g (pdel m a) o' → St M w0 W g (ls.set i (b, o')) → S W ∧ TL P ops S rp Q rest (F l) W) : TL P ops S rp Q (⟨none, .call { callee := .builtin .delete, args := #[x, y], argTypes := #[t, u] }, ty, pos, af, gd⟩ :: rest) (F l) w := by
  obtain ⟨r, h3, h4⟩ := hm
  exact TL.mdel ht hk hst hi h3 hx hy hg fun W o' h5 h6 => h W o' ⟨_, h5, h4.del a⟩ h6

/-! ### Maps that stand for good -/
/-- A map's value: nil, or a block that is known for good. -/
def MV (A : RT β) (ag : Bool) (kv : α → Value) (g : Gh) (m : List (α × β)) (v : Value) : Prop := (v = .map none ∧ m = []) ∨ ∃ b ob, v = .map (some b) ∧ g b = some ob ∧ MR A ag kv g m ob
theorem MV.mono {α β : Type} {A : RT β} {ag : Bool} {kv : α → Value} {m : List (α × β)} {g g' : Gh} {v : Value} (h : MV A ag kv g m v) (hg : g.le g') : MV A ag kv g' m v := by
  rcases h with h | ⟨b, ob, h1, h2, h3⟩
  · exact .inl h
  · exact .inr ⟨b, ob, h1, hg _ _ h2, h3.mono hg⟩
theorem MV.nil {α β : Type} (A : RT β) (ag : Bool) (kv : α → Value) (g : Gh) : MV A ag kv g [] (.map none) := .inl ⟨rfl, rfl⟩
theorem MV.one {α β : Type} {A : RT β} {ag : Bool} {kv : α → Value} {g : Gh} {m : List (α × β)} {v : Value} (h : MV A ag kv g m v) : v.oneCell' = true := by
  rcases h with ⟨rfl, _⟩ | ⟨b, ob, rfl, _⟩ <;> rfl
theorem MV.cell {α β : Type} {A : RT β} {ag : Bool} {kv : α → Value} {g : Gh} {m : List (α × β)} {v : Value} (h : MV A ag kv g m v) : v.cells.toList = [v] := by
  rcases h with ⟨rfl, _⟩ | ⟨b, ob, rfl, _⟩ <;> rfl
def rtM (A : RT β) (ag : Bool) (kv : α → Value) : RT (List (α × β)) :=
  ⟨1, fun g m cs => ∃ v, cs = [v] ∧ MV A ag kv g m v, fun ⟨v, h1, h2⟩ hg => ⟨v, h1, h2.mono hg⟩, fun ⟨v, h1, h2⟩ => by subst h1; exact ⟨rfl, One.one h2.one⟩⟩
theorem TL.flook {ok : Bool} {v : Value} (zv : Value) (ht : P.underlying t = some (.map K E)) (hk : KT P K kv) (hst : ∀ w', T (rp d) S w w' → St M w0 w' g ls) (hm : MV A ag kv g m v)
    (hz : (P.info? E).map (·.zero) = some (some zv)) (hx : ev l x = v) (hy : ev l y = kv a) (hg : Region.wanted ⟨some d, .lookup t x y ok, ty, pos, af, gd⟩ (yielded ops (F l).tmps) = true)
    (h1 : pget m a = none → TL P ops S rp Q rest (F (l.set d (if ok then .tuple #[zv, .bool false] else zv))) w)
    (h2 : ∀ q v, pget m a = some q → VR A g ag q v → TL P ops S rp Q rest (F (l.set d (if ok then .tuple #[v, .bool true] else v))) w) : TL P ops S rp Q (⟨some d, .lookup t x y ok, ty, pos, af, gd⟩ :: rest) (F l) w := by
  have hz' : ∀ w', (zeroValue E).run P w' = .ok zv w' := fun w' => by
    cases hq : P.info? E with
    | none => simp [hq] at hz
    | some i => simp [hq] at hz; simp [zeroValue, typeInfo, hq, hz, Sem.run_bind]
  rcases hm with ⟨rfl, rfl⟩ | ⟨b, ob, rfl, hb, r, hmo, h4⟩
  · refine TL.read _ rfl hg (fun w' hw => ?_) (h1 rfl)
    have hf : (Instr.findKey K (kv a) ([] : List MapEntry)).run P w' = .ok none w' := hk.find a [] [] w' rfl
    unfold execOp Instr.lookup
    simp only [hx, hy, Sem.run_bind, run_underlying ht, Result.andThen_ok, Sem.run_pure, hk.chk, hz', hf]
  · obtain ⟨es, clock, rfl, he⟩ := hmo
    have key : TL P ops S rp Q rest (F (l.set d (if ok then .tuple #[(mget r a).getD zv, .bool (mget r a).isSome] else (mget r a).getD zv))) w := by
      rcases h4.get a with ⟨h5, h6⟩ | ⟨q, v, h5, h6, h7⟩
      · rw [h6]; exact h1 h5
      · rw [h6]; exact h2 q v h5 h7
    refine TL.read _ rfl hg (fun w' hw => ?_) key
    unfold execOp
    simp only [hx, hy, Sem.run_bind, run_lookup_map ht hk ((hst w' hw).has _ _ hb) he (hz' w') ok, Result.andThen_ok]
    rfl
theorem _root_.Go.Proofs.Ytafmgghpcneoeaa.St.freezeM {α β : Type} {A : RT β} {ag : Bool} {kv : α → Value} {m : List (α × β)} {c : Nat} {g0 : Gh} (hst : St M w0 w g ((c, ob) :: ls)) (hm : MR A ag kv g m ob) (hgn : GN M w0 g0 g) :
    ∃ g', g.le g' ∧ St M w0 w g' ls ∧ MV A ag kv g' m (.map (some c)) ∧ GN M w0 g0 g' := by
  obtain ⟨h4, h5⟩ := hst.free
  exact ⟨_, h5, h4, .inr ⟨c, ob, rfl, Gh.add_self _ _ _, hm.mono h5⟩, hgn.add hst⟩
end
end Mp
end Go.Proofs.Ytafmgghpcneoeaa
