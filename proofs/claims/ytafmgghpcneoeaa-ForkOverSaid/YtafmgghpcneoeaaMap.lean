/- Maps whose keys are arrays of plain numbers: a row of pairs. -/
import Derived.Test.YtafmgghpcneoeaaNum
namespace Go.Proofs.Ytafmgghpcneoeaa
open Go Go.BigFrame

/-- A map's key type: keys are kc a, a < N. -/
structure KT (P : Program) (K : TypeId) (kc : Nat → List Value) (N : Nat) : Prop where
  eq : EQ P K kc N
  plain : ∃ n e, P.underlying K = some (.array n e)
  chk : ∀ a em w, (Instr.checkKey em 10000 K (.agg (kc a).toArray)).run P w = .ok () w
  ints : ∀ a, ∀ v ∈ kc a, ∃ k n, v = Value.int k n

abbrev Pairs := List (Nat × Value)
def mget (m : Pairs) (a : Nat) : Option Value := (m.find? (fun p => p.1 == a)).map (·.2)
def mset (m : Pairs) (a : Nat) (v : Value) : Pairs := if (mget m a).isSome then m.map (fun p => if p.1 = a then (a, v) else p) else m ++ [(a, v)]
def mdel (m : Pairs) (a : Nat) : Pairs := m.filter (fun p => p.1 != a)

/-- The block of a map that holds just these pairs. -/
structure ME (kc : Nat → List Value) (N : Nat) (m : Pairs) (es : Array MapEntry) (clock : Nat) : Prop where
  entries : es.toList.map (fun e => (e.key, e.val)) = m.map (fun p => (Value.agg (kc p.1).toArray, p.2))
  keys : ∀ p ∈ m, p.1 < N
  nd : (m.map (·.1)).Nodup
  born : (es.toList.map (·.born)).Nodup ∧ ∀ e ∈ es.toList, e.born < clock
def MO (kc : Nat → List Value) (N : Nat) (m : Pairs) (o : Obj) : Prop := ∃ es clock, o = .map es clock ∧ ME kc N m es clock

theorem MO.empty (kc : Nat → List Value) (N : Nat) : MO kc N [] (.map #[] 0) := ⟨#[], 0, rfl, ⟨rfl, by simp, by simp, by simp⟩⟩

section
variable {P : Program}

theorem run_checkKey_ints {t e : TypeId} {n : Nat} {k : IntKind} (ht : P.underlying t = some (.array n e)) (he : P.underlying e = some (.int k)) (hs : (P.info? e).map (·.size) = some 1)
    (xs : List Int) (hx : xs.length = n) (em : Bool) (w : World) : (Instr.checkKey em 10000 t (.agg (xs.map (Value.int k)).toArray)).run P w = .ok () w := by
  rw [show (10000 : Nat) = 9998 + 1 + 1 from rfl, Instr.checkKey]
  have hsz : (sizeOf e).run P w = .ok 1 w := run_sizeOf' hs w
  simp only [Sem.run_bind, run_underlying ht, Result.andThen_ok, Std.Legacy.Range.forIn_eq_forIn_range', Std.Legacy.Range.size, Nat.sub_zero, Nat.add_sub_cancel, Nat.div_one]
  have hl : ∀ i ∈ List.range' 0 n 1, i < n := fun i hi => by simpa using (List.mem_range'_1.1 hi).2
  generalize List.range' 0 n 1 = l at hl ⊢
  induction l with
  | nil => simp
  | cons i l ih =>
    have hi : i < n := hl i (by simp)
    have px : (part e (xs.map (Value.int k)).toArray (i * 1)).run P w = .ok (.int k (xs.getD i 0)) w := by
      simp [part, isAgg, run_underlying he, List.getD, List.getElem?_eq_getElem (show i < xs.length by omega)]
    have pc : (Instr.checkKey em (9998 + 1) e (.int k (xs.getD i 0))).run P w = .ok () w := by
      rw [Instr.checkKey]
      simp [Sem.run_bind, run_underlying he]
    simp only [List.forIn_cons, Sem.run_bind, hsz, px, pc, Result.andThen_ok, Sem.run_pure]
    exact ih fun j hj => hl j (by simp [hj])

theorem KT.adr {t e : TypeId} (ht : P.underlying t = some (.array 20 e)) (he : P.underlying e = some (.int .u8)) (hs : (P.info? e).map (·.size) = some 1) (hg : P.eqGuardType P.depth t = false) : KT P t adrC NA :=
  ⟨EQ.adr ht he hs hg, ⟨_, _, ht⟩, fun a em w => run_checkKey_ints ht he hs _ (by simp) em w, fun a v hv => by
    obtain ⟨x, _, rfl⟩ := List.mem_map.1 hv; exact ⟨_, _, rfl⟩⟩
theorem KT.wd {t e : TypeId} (ht : P.underlying t = some (.array 4 e)) (he : P.underlying e = some (.int .u64)) (hs : (P.info? e).map (·.size) = some 1) (hg : P.eqGuardType P.depth t = false) : KT P t wdC NW :=
  ⟨EQ.wd ht he hs hg, ⟨_, _, ht⟩, fun a em w => run_checkKey_ints ht he hs _ (by simp) em w, fun a v hv => by
    obtain ⟨x, _, rfl⟩ := List.mem_map.1 hv; exact ⟨_, _, rfl⟩⟩

variable {K : TypeId} {kc : Nat → List Value} {N : Nat} {m : Pairs} {es : Array MapEntry} {clock : Nat} {a : Nat}

/-- The place of a key. -/
def mfind : Pairs → Nat → Nat → Option (Nat × Value)
  | [], _, _ => none
  | p :: m, a, i => if p.1 = a then some (i, p.2) else mfind m a (i + 1)

theorem mfind_get : ∀ (m : Pairs) (a i : Nat), (mfind m a i).map (·.2) = mget m a
  | [], _, _ => rfl
  | p :: m, a, i => by
    unfold mfind mget
    by_cases h : p.1 = a
    · simp [h]
    · have := mfind_get m a (i + 1)
      unfold mget at this
      simp [h, this]

theorem mfind_some : ∀ (m : Pairs) (a i j : Nat) (v : Value), mfind m a i = some (j, v) → i ≤ j ∧ m[j - i]? = some (a, v)
  | [], _, _, _, _, h => by cases h
  | p :: m, a, i, j, v, h => by
    unfold mfind at h
    split at h
    · rename_i hp
      simp only [Option.some.injEq, Prod.mk.injEq] at h
      obtain ⟨rfl, rfl⟩ := h
      simp [← hp]
    · obtain ⟨h1, h2⟩ := mfind_some m a (i + 1) j v h
      refine ⟨by omega, ?_⟩
      rw [show j - i = (j - (i + 1)) + 1 by omega]; simpa using h2

theorem run_findAsking (hk : KT P K kc N) (ha : a < N) (w : World) : ∀ (m : Pairs) (es : List MapEntry) (i : Nat), (∀ p ∈ m, p.1 < N) → es.map (fun e => (e.key, e.val)) = m.map (fun p => (Value.agg (kc p.1).toArray, p.2)) →
    (Instr.findAsking K (.agg (kc a).toArray) es i).run P w = .ok (mfind m a i) w
  | [], [], _, _, _ => rfl
  | [], _ :: _, _, _, h => by simp at h
  | _ :: _, [], _, _, h => by simp at h
  | p :: m, e :: es, i, hN, h => by
    simp only [List.map_cons, List.cons.injEq, Prod.mk.injEq] at h
    obtain ⟨⟨h1, h2⟩, h3⟩ := h
    have ih := run_findAsking hk ha w m es (i + 1) (fun q hq => hN q (by simp [hq])) h3
    have heq : (Op.equal K (.agg (kc a).toArray) e.key).run P w = .ok (a == p.1) w := by
      rw [h1]; unfold Op.equal; exact hk.eq.eq a p.1 ha (hN p (by simp)) w
    unfold Instr.findAsking mfind
    simp only [Sem.run_bind, heq, Result.andThen_ok]
    by_cases hp : p.1 = a
    · simp [hp, h2]
    · have : (a == p.1) = false := by simp; exact fun e => hp e.symm
      simp [hp, this, ih]

theorem run_findKey (hk : KT P K kc N) (ha : a < N) (w : World) (he : ME kc N m es clock) :
    (Instr.findKey K (.agg (kc a).toArray) es.toList).run P w = .ok (mfind m a 0) w := by
  obtain ⟨n, e, hu⟩ := hk.plain
  unfold Instr.findKey
  simp only [Sem.run_bind, run_underlying hu, Result.andThen_ok]
  have hfa := run_findAsking hk ha w m es.toList 0 he.keys he.entries
  cases hes : es.toList with
  | nil =>
    have hm : m = [] := by
      have := he.entries
      rw [hes] at this
      cases m with
      | nil => rfl
      | cons p m => simp at this
    subst hm
    simp [Instr.findNow, mfind]
  | cons x xs =>
    rw [hes] at hfa
    have : Instr.findNow (.array n e) (.agg (kc a).toArray) (x :: xs) 0 = none := by
      simp [Instr.findNow, Instr.sameNow]
    simp only [this]
    exact hfa

theorem getObj_map {w : World} {b : Nat} {es : Array MapEntry} {clock : Nat} (h : w.heap[b]? = some (.map es clock)) : (getObj b).run P w = .ok (.map es clock) w := by
  simp [getObj, Sem.run, h]

/-- A look-up. -/
theorem run_lookup_map {t E : TypeId} {b : Nat} {z : Value} {w : World} (ht : P.underlying t = some (.map K E)) (hk : KT P K kc N) (ha : a < N) (hb : w.heap[b]? = some (.map es clock)) (he : ME kc N m es clock)
    (hz : (zeroValue E).run P w = .ok z w) (ok : Bool) :
    (Instr.lookup t (.map (some b)) (.agg (kc a).toArray) ok).run P w = .ok (if ok then .tuple #[(mget m a).getD z, .bool (mget m a).isSome] else (mget m a).getD z) w := by
  unfold Instr.lookup
  simp only [Sem.run_bind, run_underlying ht, Result.andThen_ok, getObj_map hb, hk.chk, run_findKey hk ha w he, Sem.run_pure]
  have hg := mfind_get m a 0
  cases hf : mfind m a 0 with
  | none =>
    rw [hf] at hg
    simp only [Option.map_none] at hg
    simp [← hg, Sem.run_bind, hz]
  | some p =>
    rw [hf] at hg
    simp only [Option.map_some] at hg
    simp [← hg]

theorem sameBits_ints {cs : List Value} (h : ∀ v ∈ cs, ∃ k n, v = Value.int k n) : Instr.sameBits 10000 (.agg cs.toArray) (.agg cs.toArray) = true := by
  have key : ∀ (l : List Value), (∀ v ∈ l, ∃ k n, v = Value.int k n) → (l.zip l).all (fun (x, y) => Instr.sameBits 9999 x y) = true := by
    intro l
    induction l with
    | nil => intro _; rfl
    | cons v l ih =>
      intro hl
      obtain ⟨k, n, rfl⟩ := hl v (by simp)
      rw [List.zip_cons_cons, List.all_cons, ih (fun u hu => hl u (by simp [hu]))]
      simp [Instr.sameBits]
  rw [show (10000 : Nat) = 9999 + 1 from rfl, Instr.sameBits]
  simp only [BEq.rfl, Bool.true_and]
  exact key cs h

theorem mget_mfind_none {m : Pairs} {a : Nat} (h : mfind m a 0 = none) : mget m a = none := by rw [← mfind_get m a 0, h]; rfl
theorem mget_mfind_some {m : Pairs} {a j : Nat} {v : Value} (h : mfind m a 0 = some (j, v)) : mget m a = some v := by rw [← mfind_get m a 0, h]; rfl

theorem mem_of_mget {m : Pairs} {a : Nat} {v : Value} (h : mget m a = some v) : (a, v) ∈ m := by
  unfold mget at h
  cases hf : m.find? (fun p => p.1 == a) with
  | none => rw [hf] at h; cases h
  | some p =>
    rw [hf] at h
    simp at h
    have h1 := List.mem_of_find?_eq_some hf
    have h2 := List.find?_some hf
    simp at h2
    subst h; rw [← h2]; exact h1

theorem not_mem_of_mget {m : Pairs} {a : Nat} (h : mget m a = none) : a ∉ m.map (·.1) := fun hm => by
  obtain ⟨p, hp, he⟩ := List.mem_map.1 hm
  unfold mget at h
  cases hf : m.find? (fun p => p.1 == a) with
  | none =>
    have := List.find?_eq_none.1 hf p hp
    simp [he] at this
  | some q => rw [hf] at h; cases h

theorem mset_keys {m : Pairs} {a : Nat} {v : Value} (h : (mget m a).isSome = true) : (m.map (fun p => if p.1 = a then (a, v) else p)).map (·.1) = m.map (·.1) := by
  rw [List.map_map]
  refine List.map_congr_left fun p _ => ?_
  simp only [Function.comp]
  split <;> simp_all

theorem setObj_run {w : World} {b : Nat} {o : Obj} {es : Array MapEntry} {clock : Nat} (h : w.heap[b]? = some (.map es clock)) : (setObj b o).run P w = .ok () { w with heap := w.heap.setIfInBounds b o } := by
  simp [setObj, Sem.run, h]

/-- A store. -/
theorem run_update_map {t E : TypeId} {b : Nat} {v : Value} {w : World} (ht : P.underlying t = some (.map K E)) (hk : KT P K kc N) (ha : a < N) (hb : w.heap[b]? = some (.map es clock)) (he : ME kc N m es clock) :
    ∃ o, (Instr.mapUpdate t (.map (some b)) (.agg (kc a).toArray) v).run P w = .ok () { w with heap := w.heap.setIfInBounds b o } ∧ MO kc N (mset m a v) o := by
  unfold Instr.mapUpdate
  simp only [Sem.run_bind, run_underlying ht, Result.andThen_ok, getObj_map hb, hk.chk, run_findKey hk ha w he]
  cases hf : mfind m a 0 with
  | none =>
    refine ⟨.map (es.push { key := .agg (kc a).toArray, val := v, born := clock }) (clock + 1), by simp [setObj_run hb], _, _, rfl, ?_⟩
    have hg := mget_mfind_none hf
    unfold mset
    rw [if_neg (by simp [hg])]
    refine ⟨?_, fun p hp => ?_, ?_, ?_, fun e hm => ?_⟩
    · simp [he.entries]
    · rcases List.mem_append.1 hp with hp | hp
      · exact he.keys p hp
      · rw [List.mem_singleton.1 hp]; exact ha
    · rw [List.map_append, List.nodup_append]
      refine ⟨he.nd, by simp, fun x hx y hy => ?_⟩
      simp at hy; subst hy
      intro e; subst e
      exact not_mem_of_mget hg hx
    · rw [Array.toList_push, List.map_append, List.nodup_append]
      refine ⟨he.born.1, by simp, fun x hx y hy => ?_⟩
      simp at hy; subst hy
      obtain ⟨e, hm, rfl⟩ := List.mem_map.1 hx
      exact Nat.ne_of_lt (he.born.2 e hm)
    · rw [Array.toList_push] at hm
      rcases List.mem_append.1 hm with hm | hm
      · have := he.born.2 e hm; omega
      · rw [List.mem_singleton.1 hm]; exact Nat.lt_succ_self _
  | some q =>
    obtain ⟨j, u⟩ := q
    obtain ⟨_, hj⟩ := mfind_some m a 0 j u hf
    rw [Nat.sub_zero] at hj
    have hj2 : (m.map (fun p => (Value.agg (kc p.1).toArray, p.2)))[j]? = some (Value.agg (kc a).toArray, u) := by simp [hj]
    rw [← he.entries, List.getElem?_map] at hj2
    obtain ⟨e0, h1, h2⟩ := Option.map_eq_some_iff.1 hj2
    simp only [Prod.mk.injEq] at h2
    have h1' : es[j]? = some e0 := by simpa using h1
    have hks : (Instr.keyThatStays (((es[j]?).map (·.key)).getD (.agg (kc a).toArray)) (.agg (kc a).toArray)).run P w = .ok (.agg (kc a).toArray) w := by
      simp only [h1', Option.map_some, Option.getD_some, h2.1]
      unfold Instr.keyThatStays
      rw [sameBits_ints (hk.ints a)]; rfl
    have hg := mget_mfind_some hf
    refine ⟨.map (es.modify j fun e => { e with key := .agg (kc a).toArray, val := v }) clock, by simp [hks, setObj_run hb], _, _, rfl, ?_⟩
    unfold mset
    rw [if_pos (by simp [hg])]
    have hjl : j < m.length := (List.getElem?_eq_some_iff.1 hj).1
    have hnd : ∀ i p, m[i]? = some p → p.1 = a → i = j := fun i p hi hp => by
      have hnd := List.pairwise_iff_getElem.1 he.nd
      have hil : i < m.length := (List.getElem?_eq_some_iff.1 hi).1
      have e1 : (m.map (·.1))[i]'(by simpa using hil) = a := by
        have := (List.getElem?_eq_some_iff.1 hi).2; simp [this, hp]
      have e2 : (m.map (·.1))[j]'(by simpa using hjl) = a := by
        have := (List.getElem?_eq_some_iff.1 hj).2; simp [this]
      rcases Nat.lt_trichotomy i j with h | h | h
      · exact absurd (e1.trans e2.symm) (hnd i j (by simpa using hil) (by simpa using hjl) h)
      · exact h
      · exact absurd (e2.trans e1.symm) (hnd j i (by simpa using hjl) (by simpa using hil) h)
    have hborn : (es.modify j fun e => { e with key := .agg (kc a).toArray, val := v }).toList.map (·.born) = es.toList.map (·.born) := by
      apply List.ext_getElem?
      intro i
      rw [List.getElem?_map, List.getElem?_map, Array.toList_modify, List.getElem?_modify]
      by_cases hij : j = i
      · subst hij; simp [h1']
      · simp [hij]
    refine ⟨?_, fun p hp => ?_, by rw [mset_keys (by simp [hg])]; exact he.nd, by rw [hborn]; exact he.born.1, fun e hm => ?_⟩
    · apply List.ext_getElem?
      intro i
      rw [List.getElem?_map, Array.toList_modify, List.getElem?_modify, List.getElem?_map, List.getElem?_map]
      have hent := congrArg (fun l => l[i]?) he.entries
      simp only [List.getElem?_map] at hent
      by_cases hij : j = i
      · subst hij
        simp [h1', hj]
      · simp only [hij, if_false]
        cases hi : m[i]? with
        | none => rw [hi] at hent; simpa using hent
        | some p =>
          rw [hi] at hent
          have hne : p.1 ≠ a := fun e => hij (hnd i p hi e).symm
          simpa [hne] using hent
    · obtain ⟨q, hq, rfl⟩ := List.mem_map.1 hp
      split
      · exact ha
      · exact he.keys q hq
    · have : e.born ∈ (es.modify j fun e => { e with key := .agg (kc a).toArray, val := v }).toList.map (·.born) := List.mem_map.2 ⟨e, hm, rfl⟩
      rw [hborn] at this
      obtain ⟨e', hm', hb'⟩ := List.mem_map.1 this
      rw [← hb']; exact he.born.2 e' hm'

theorem eraseIdx_map' {α β : Type} (f : α → β) : ∀ (l : List α) (i : Nat), (l.eraseIdx i).map f = (l.map f).eraseIdx i
  | [], _ => by simp
  | _ :: _, 0 => by simp
  | x :: l, i + 1 => by simp [eraseIdx_map' f l i]

/-- A deletion. -/
theorem run_delete_map {t u E ty : TypeId} {b : Nat} {w : World} (ht : P.underlying t = some (.map K E)) (hk : KT P K kc N) (ha : a < N) (hb : w.heap[b]? = some (.map es clock)) (he : ME kc N m es clock) :
    ∃ o, (Builtin.delete_ #[t, u] ty #[.map (some b), .agg (kc a).toArray]).run P w = .ok (.tuple #[]) { w with heap := w.heap.setIfInBounds b o } ∧ MO kc N (mdel m a) o := by
  unfold Builtin.delete_
  simp only [List.getElem?_toArray, List.getElem?_cons_zero, List.getElem?_cons_succ, Sem.run_bind, run_underlying ht, Result.andThen_ok, getObj_map hb, hk.chk, run_findKey hk ha w he]
  cases hf : mfind m a 0 with
  | none =>
    refine ⟨.map es clock, by simp [setObj_run hb], _, _, rfl, ?_⟩
    have hg := mget_mfind_none hf
    have : mdel m a = m := List.filter_eq_self.2 fun p hp => by
      simp only [bne_iff_ne, ne_eq]
      intro e
      exact not_mem_of_mget hg (List.mem_map.2 ⟨p, hp, e⟩)
    rw [this]; exact he
  | some q =>
    obtain ⟨j, u'⟩ := q
    obtain ⟨_, hj⟩ := mfind_some m a 0 j u' hf
    rw [Nat.sub_zero] at hj
    refine ⟨.map (es.eraseIdxIfInBounds j) clock, by simp [setObj_run hb], _, _, rfl, ?_⟩
    have hjl : j < m.length := (List.getElem?_eq_some_iff.1 hj).1
    have hdel : mdel m a = m.eraseIdx j := by
      have hnd := he.nd
      clear he hf hb
      induction m generalizing j with
      | nil => simp at hjl
      | cons p m ih =>
        simp only [List.map_cons, List.nodup_cons] at hnd
        unfold mdel
        cases j with
        | zero =>
          simp at hj; subst hj
          rw [List.filter_cons]
          simp only [bne_self_eq_false, Bool.false_eq_true, if_false, List.eraseIdx_cons_zero]
          exact List.filter_eq_self.2 fun q hq => by
            simp only [bne_iff_ne, ne_eq]
            intro e; exact hnd.1 (List.mem_map.2 ⟨q, hq, e⟩)
        | succ j =>
          simp at hj
          have hne : p.1 ≠ a := fun e => hnd.1 (by rw [e]; exact List.mem_map.2 ⟨_, List.mem_of_getElem? hj, rfl⟩)
          rw [List.filter_cons, if_pos (by simpa using hne), List.eraseIdx_cons_succ]
          have := ih j (by omega) hj (by simpa using hjl) hnd.2
          unfold mdel at this
          rw [this]
    have hel : (es.eraseIdxIfInBounds j).toList = es.toList.eraseIdx j := by simp
    refine ⟨?_, fun p hp => ?_, ?_, ?_, fun e hm => ?_⟩
    · rw [hel, eraseIdx_map', he.entries, hdel, eraseIdx_map']
    · exact he.keys p (List.filter_sublist.subset hp)
    · exact he.nd.sublist (List.filter_sublist.map _)
    · rw [hel]; exact he.born.1.sublist ((List.eraseIdx_sublist _ _).map _)
    · rw [hel] at hm; exact he.born.2 e ((List.eraseIdx_sublist _ _).subset hm)

theorem setObj_parts (w : World) (b : Nat) (o o0 : Obj) (h : w.heap[b]? = some o0) : ({ w with heap := w.heap.setIfInBounds b o } : World).heap[b]? = some o ∧ (∀ c, c ≠ b → ({ w with heap := w.heap.setIfInBounds b o } : World).heap[c]? = w.heap[c]?) ∧
    ({ w with heap := w.heap.setIfInBounds b o } : World).heap.size = w.heap.size := by
  have := lt_of_block h
  refine ⟨by simp [this], fun c hc => ?_, by simp⟩
  simp only
  rw [Array.getElem?_setIfInBounds_ne (fun e => hc e.symm)]

end

section
variable {P : Program} {ops : Array Oper} {S : World → Prop} {rp : Nat → Bool} {Q : Act → World → Prop}
variable {rest : List Oper} {l : List Value} {w : World} {d : Nat} {ty : TypeId} {pos : String} {af : Array Edge} {gd : Option (Nat × Bool)}
variable {M : Nat → Prop} {w0 : World} {g : Gh} {ls : List (Nat × Obj)}
variable {K E t : TypeId} {kc : Nat → List Value} {N : Nat} {m : Pairs} {a b i : Nat} {o : Obj}

theorem TL.lookOk {x y : Operand} (z : Value) (ht : P.underlying t = some (.map K E)) (hk : KT P K kc N) (hst : ∀ w', T (rp d) S w w' → St M w0 w' g ls) (hi : ls[i]? = some (b, o)) (hm : MO kc N m o) (ha : a < N)
    (hz : (P.info? E).map (·.zero) = some (some z)) (hx : ev l x = .map (some b)) (hy : ev l y = .agg (kc a).toArray) (hg : Region.wanted ⟨some d, .lookup t x y true, ty, pos, af, gd⟩ (yielded ops (F l).tmps) = true)
    (h : TL P ops S rp Q rest (F (l.set d (.tuple #[(mget m a).getD z, .bool (mget m a).isSome]))) w) : TL P ops S rp Q (⟨some d, .lookup t x y true, ty, pos, af, gd⟩ :: rest) (F l) w := by
  refine TL.read _ rfl hg (fun w' hw => ?_) h
  obtain ⟨es, clock, rfl, he⟩ := hm
  have hz' : (zeroValue E).run P w' = .ok z w' := by
    cases hq : P.info? E with
    | none => simp [hq] at hz
    | some i => simp [hq] at hz; simp [zeroValue, typeInfo, hq, hz, Sem.run_bind]
  unfold execOp
  simp only [hx, hy, Sem.run_bind, run_lookup_map ht hk ha ((hst w' hw).mem hi) he hz' true, Result.andThen_ok]
  rfl
theorem TL.look {x y : Operand} (z : Value) (ht : P.underlying t = some (.map K E)) (hk : KT P K kc N) (hst : ∀ w', T (rp d) S w w' → St M w0 w' g ls) (hi : ls[i]? = some (b, o)) (hm : MO kc N m o) (ha : a < N)
    (hz : (P.info? E).map (·.zero) = some (some z)) (hx : ev l x = .map (some b)) (hy : ev l y = .agg (kc a).toArray) (hg : Region.wanted ⟨some d, .lookup t x y false, ty, pos, af, gd⟩ (yielded ops (F l).tmps) = true)
    (h : TL P ops S rp Q rest (F (l.set d ((mget m a).getD z))) w) : TL P ops S rp Q (⟨some d, .lookup t x y false, ty, pos, af, gd⟩ :: rest) (F l) w := by
  refine TL.read _ rfl hg (fun w' hw => ?_) h
  obtain ⟨es, clock, rfl, he⟩ := hm
  have hz' : (zeroValue E).run P w' = .ok z w' := by
    cases hq : P.info? E with
    | none => simp [hq] at hz
    | some i => simp [hq] at hz; simp [zeroValue, typeInfo, hq, hz, Sem.run_bind]
  unfold execOp
  simp only [hx, hy, Sem.run_bind, run_lookup_map ht hk ha ((hst w' hw).mem hi) he hz' false, Result.andThen_ok]
  rfl

theorem TL.mset {x y z : Operand} (v : Value) (ht : P.underlying t = some (.map K E)) (hk : KT P K kc N) (hst : St M w0 w g ls) (hi : ls[i]? = some (b, o)) (hm : MO kc N m o) (ha : a < N)
    (hx : ev l x = .map (some b)) (hy : ev l y = .agg (kc a).toArray) (hv : ev l z = v) (hg : Region.wanted ⟨none, .mapUpdate t x y z, ty, pos, af, gd⟩ (yielded ops (F l).tmps) = true)
    (h : ∀ W o', MO kc N (mset m a v) o' → St M w0 W g (ls.set i (b, o')) → S W ∧ TL P ops S rp Q rest (F l) W) : TL P ops S rp Q (⟨none, .mapUpdate t x y z, ty, pos, af, gd⟩ :: rest) (F l) w := by
  obtain ⟨es, clock, rfl, he⟩ := hm
  have hb := hst.mem hi
  obtain ⟨o', h1, h2⟩ := run_update_map (v := v) ht hk ha hb he
  obtain ⟨h3, h4, h5⟩ := setObj_parts w b o' _ hb
  refine TL.effU { w with heap := w.heap.setIfInBounds b o' } (by simp [opKind]) hg ?_ (h _ o' h2 (hst.put hi rfl rfl rfl h5 h3 h4))
  unfold execOp
  simp only [hx, hy, hv, Sem.run_bind, h1, Result.andThen_ok]
  rfl

theorem TL.mdel {x y : Operand} {u : TypeId} (ht : P.underlying t = some (.map K E)) (hk : KT P K kc N) (hst : St M w0 w g ls) (hi : ls[i]? = some (b, o)) (hm : MO kc N m o) (ha : a < N)
    (hx : ev l x = .map (some b)) (hy : ev l y = .agg (kc a).toArray) (hg : Region.wanted ⟨none, .call { callee := .builtin .delete, args := #[x, y], argTypes := #[t, u] }, ty, pos, af, gd⟩ (yielded ops (F l).tmps) = true)
    (h : ∀ W o', MO kc N (mdel m a) o' → St M w0 W g (ls.set i (b, o')) → S W ∧ TL P ops S rp Q rest (F l) W) : TL P ops S rp Q (⟨none, .call { callee := .builtin .delete, args := #[x, y], argTypes := #[t, u] }, ty, pos, af, gd⟩ :: rest) (F l) w := by
  obtain ⟨es, clock, rfl, he⟩ := hm
  have hb := hst.mem hi
  obtain ⟨o', h1, h2⟩ := run_delete_map (u := u) (ty := ty) ht hk ha hb he
  obtain ⟨h3, h4, h5⟩ := setObj_parts w b o' _ hb
  refine TL.effN (.tuple #[]) { w with heap := w.heap.setIfInBounds b o' } (by simp [opKind]) hg ?_ (h _ o' h2 (hst.put hi rfl rfl rfl h5 h3 h4))
  rw [execOp_builtin, builtin_delete]
  simp only [List.map_toArray, List.map_cons, List.map_nil, hx, hy, Sem.run_bind, h1, Result.andThen_ok]
  rfl

theorem TL.makeMap (kc : Nat → List Value) (N : Nat) (hst : St M w0 w g ls) (hg : Region.wanted ⟨some d, .makeMap t none, ty, pos, af, gd⟩ (yielded ops (F l).tmps) = true)
    (h : ∀ W n o', MO kc N [] o' → St M w0 W g ((n, o') :: ls) → S W ∧ TL P ops S rp Q rest (F (l.set d (.map (some n)))) W) : TL P ops S rp Q (⟨some d, .makeMap t none, ty, pos, af, gd⟩ :: rest) (F l) w := by
  refine TL.eff (.map (some w.heap.size)) (w.alloc (.map #[] 0)) (by simp [opKind]) hg ?_ (h _ _ _ (MO.empty kc N) (hst.alloc _))
  unfold execOp
  simp [Instr.makeMap, Sem.run_bind]

theorem TL.lookOkN {x y : Operand} (z : Value) (hn : mget m a = none) (ht : P.underlying t = some (.map K E)) (hk : KT P K kc N) (hst : ∀ w', T (rp d) S w w' → St M w0 w' g ls) (hi : ls[i]? = some (b, o)) (hm : MO kc N m o) (ha : a < N)
    (hz : (P.info? E).map (·.zero) = some (some z)) (hx : ev l x = .map (some b)) (hy : ev l y = .agg (kc a).toArray) (hg : Region.wanted ⟨some d, .lookup t x y true, ty, pos, af, gd⟩ (yielded ops (F l).tmps) = true)
    (h : TL P ops S rp Q rest (F (l.set d (.tuple #[z, .bool false]))) w) : TL P ops S rp Q (⟨some d, .lookup t x y true, ty, pos, af, gd⟩ :: rest) (F l) w :=
  TL.lookOk z ht hk hst hi hm ha hz hx hy hg (by rw [hn]; exact h)
theorem TL.lookOkS {x y : Operand} (z v : Value) (hn : mget m a = some v) (ht : P.underlying t = some (.map K E)) (hk : KT P K kc N) (hst : ∀ w', T (rp d) S w w' → St M w0 w' g ls) (hi : ls[i]? = some (b, o)) (hm : MO kc N m o) (ha : a < N)
    (hz : (P.info? E).map (·.zero) = some (some z)) (hx : ev l x = .map (some b)) (hy : ev l y = .agg (kc a).toArray) (hg : Region.wanted ⟨some d, .lookup t x y true, ty, pos, af, gd⟩ (yielded ops (F l).tmps) = true)
    (h : TL P ops S rp Q rest (F (l.set d (.tuple #[v, .bool true]))) w) : TL P ops S rp Q (⟨some d, .lookup t x y true, ty, pos, af, gd⟩ :: rest) (F l) w :=
  TL.lookOk z ht hk hst hi hm ha hz hx hy hg (by rw [hn]; exact h)
theorem TL.lookN {x y : Operand} (z : Value) (hn : mget m a = none) (ht : P.underlying t = some (.map K E)) (hk : KT P K kc N) (hst : ∀ w', T (rp d) S w w' → St M w0 w' g ls) (hi : ls[i]? = some (b, o)) (hm : MO kc N m o) (ha : a < N)
    (hz : (P.info? E).map (·.zero) = some (some z)) (hx : ev l x = .map (some b)) (hy : ev l y = .agg (kc a).toArray) (hg : Region.wanted ⟨some d, .lookup t x y false, ty, pos, af, gd⟩ (yielded ops (F l).tmps) = true)
    (h : TL P ops S rp Q rest (F (l.set d z)) w) : TL P ops S rp Q (⟨some d, .lookup t x y false, ty, pos, af, gd⟩ :: rest) (F l) w :=
  TL.look z ht hk hst hi hm ha hz hx hy hg (by rw [hn]; exact h)
theorem TL.lookS {x y : Operand} (z v : Value) (hn : mget m a = some v) (ht : P.underlying t = some (.map K E)) (hk : KT P K kc N) (hst : ∀ w', T (rp d) S w w' → St M w0 w' g ls) (hi : ls[i]? = some (b, o)) (hm : MO kc N m o) (ha : a < N)
    (hz : (P.info? E).map (·.zero) = some (some z)) (hx : ev l x = .map (some b)) (hy : ev l y = .agg (kc a).toArray) (hg : Region.wanted ⟨some d, .lookup t x y false, ty, pos, af, gd⟩ (yielded ops (F l).tmps) = true)
    (h : TL P ops S rp Q rest (F (l.set d v)) w) : TL P ops S rp Q (⟨some d, .lookup t x y false, ty, pos, af, gd⟩ :: rest) (F l) w :=
  TL.look z ht hk hst hi hm ha hz hx hy hg (by rw [hn]; exact h)
end
end Go.Proofs.Ytafmgghpcneoeaa
