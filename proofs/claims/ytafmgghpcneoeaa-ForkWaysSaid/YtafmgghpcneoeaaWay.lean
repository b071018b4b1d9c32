/- The law ForkWays, without the program. -/
import Derived.Test.YtafmgghpcneoeaaDgs
namespace Go.Proofs.Ytafmgghpcneoeaa
open Go

theorem mget_cons (p : Nat × Value) (m : Pairs) (a : Nat) : mget (p :: m) a = if p.1 = a then some p.2 else mget m a := by
  unfold mget
  rw [List.find?_cons]
  by_cases h : p.1 = a
  · rw [if_pos h]; simp [h]
  · rw [if_neg h]
    have : (p.1 == a) = false := by simpa using h
    rw [this]
theorem mget_one (a : Nat) (v : Value) : mget [(a, v)] a = some v := by rw [mget_cons, if_pos rfl]
theorem mget_app (m n : Pairs) (a : Nat) : mget (m ++ n) a = (mget m a).or (mget n a) := by
  induction m with
  | nil => rfl
  | cons p m ih =>
    rw [List.cons_append, mget_cons, mget_cons, ih]
    by_cases h : p.1 = a
    · rw [if_pos h, if_pos h]; rfl
    · rw [if_neg h, if_neg h]
theorem mget_map (m : Pairs) (a b : Nat) (v : Value) : mget (m.map fun p => if p.1 = a then (a, v) else p) b = if b = a then (mget m a).map (fun _ => v) else mget m b := by
  induction m with
  | nil => by_cases h : b = a <;> simp [mget]
  | cons p m ih =>
    rw [List.map_cons, mget_cons, ih, mget_cons, mget_cons]
    by_cases h2 : b = a
    · subst h2
      by_cases h1 : p.1 = b
      · simp [h1]
      · simp [h1]
    · have h4 : ¬ a = b := fun e => h2 e.symm
      by_cases h1 : p.1 = a
      · simp [h1, h2, h4]
      · simp [h1, h2]
theorem mget_mset (m : Pairs) (a b : Nat) (v : Value) : mget (mset m a v) b = if b = a then some v else mget m b := by
  unfold mset
  cases h : mget m a with
  | some u =>
    simp only [Option.isSome_some, if_true]
    rw [mget_map, h]; rfl
  | none =>
    simp only [Option.isSome_none, Bool.false_eq_true, if_false]
    rw [mget_app, mget_cons]
    by_cases h2 : b = a
    · subst h2
      rw [if_pos rfl, h, if_pos rfl]; rfl
    · rw [if_neg h2, if_neg (fun e => h2 e.symm)]
      cases mget m b <;> rfl
theorem MO.mset1 {kc : Nat → List Value} {N a : Nat} {v u : Value} {q : Obj} (h : MO kc N (mset [(a, v)] a u) q) : MO kc N [(a, u)] q := by
  have e : mset [(a, v)] a u = [(a, u)] := by
    unfold mset
    rw [mget_one]
    simp
  rwa [e] at h
theorem MO.mdel1 {kc : Nat → List Value} {N a : Nat} {v : Value} {q : Obj} (h : MO kc N (mdel [(a, v)] a) q) : MO kc N [] q := by
  have e : mdel [(a, v)] a = [] := by simp [mdel]
  rwa [e] at h

def AOks (g : Gh) (xs : List AV) : Prop := ∀ x ∈ xs, AOk g x
theorem AOks.mono {g g' : Gh} {xs : List AV} (h : AOks g xs) (hg : g.le g') : AOks g' xs := fun x hx => (h x hx).mono hg
def findW (xs : List AV) (a : Nat) : AV := (findA xs a).getD (avE a)
theorem findW_some {xs : List AV} {a : Nat} {x : AV} (hx : x = findD xs a) (h : ¬ (!(findA xs a).isSome) = true) : x = findW xs a := by
  subst hx
  unfold findW findD
  cases hf : findA xs a with
  | none => rw [hf] at h; exact absurd rfl h
  | some y => rfl
theorem findW_none {xs : List AV} {a : Nat} (h : (!(findA xs a).isSome) = true) : avE a = findW xs a := by
  unfold findW
  cases hf : findA xs a with
  | none => rfl
  | some y => rw [hf] at h; cases h
theorem findA_mem {xs : List AV} {a : Nat} {x : AV} (h : findA xs a = some x) : x ∈ xs ∧ x.addr = a := by
  unfold findA at h
  have h1 := List.mem_of_find?_eq_some h
  have h2 := List.find?_some h
  exact ⟨h1, by simpa using h2⟩
theorem findD_ok {g : Gh} {xs : List AV} (a : Nat) (h : AOks g xs) : AOk g (findD xs a) := by
  unfold findD
  cases hf : findA xs a with
  | none => exact avE_ok (by decide)
  | some y => exact h y (findA_mem hf).1
theorem findW_ok {g : Gh} {xs : List AV} {a : Nat} (h : AOks g xs) (ha : a < NA) : AOk g (findW xs a) := by
  unfold findW
  cases hf : findA xs a with
  | none => exact avE_ok ha
  | some y => exact h y (findA_mem hf).1
theorem findW_addr (xs : List AV) (a : Nat) : (findW xs a).addr = a := by
  unfold findW
  cases hf : findA xs a with
  | none => rfl
  | some y => exact (findA_mem hf).2
theorem findW_right {xs : List AV} (a : Nat) (h : ∀ i, (hi : i < xs.length) → rightA xs[i] = true) : rightA (findW xs a) = true := by
  unfold findW
  cases hf : findA xs a with
  | none => rfl
  | some y =>
    obtain ⟨i, hi, rfl⟩ := List.mem_iff_getElem.1 (findA_mem hf).1
    exact h i hi

/-- What a cache knows is what is found. -/
def KOk (g : Gh) (xs : List AV) (K : Pairs) : Prop := ∀ a v, mget K a = some v → ∃ x : AV, v = .agg (avC x).toArray ∧ AOk g x ∧ sameA x (findW xs a) = true
theorem KOk.mono {g g' : Gh} {xs : List AV} {K : Pairs} (h : KOk g xs K) (hg : g.le g') : KOk g' xs K := fun a v hv => by
  obtain ⟨x, h1, h2, h3⟩ := h a v hv
  exact ⟨x, h1, h2.mono hg, h3⟩
theorem KOk.nil (g : Gh) (xs : List AV) : KOk g xs [] := fun a v h => by cases h
theorem KOk.set {g : Gh} {xs : List AV} {K : Pairs} {x : AV} {a : Nat} {cv sv : Value} (h : KOk g xs K) (hx : x = findW xs a) (hok : AOk g { x with code := cv, stor := sv }) : KOk g xs (mset K x.addr (.agg (avC { x with code := cv, stor := sv }).toArray)) := fun b v hv => by
  rw [mget_mset] at hv
  by_cases hb : b = x.addr
  · rw [if_pos hb] at hv
    have ha : x.addr = a := by rw [hx]; exact findW_addr xs a
    refine ⟨_, (Option.some.inj hv).symm, hok, ?_⟩
    have e : findW xs b = x := by rw [hb, ha]; exact hx.symm
    rw [e]
    exact sameA_refl x
  · rw [if_neg hb] at hv
    exact h b v hv
def Seen (as : List Nat) (K : Pairs) (I : Nat → Prop) : Prop := ∀ i, (h : i < as.length) → I i → ∃ v, mget K as[i] = some v
theorem Seen.known {as : List Nat} {K : Pairs} {I J : Nat → Prop} {k : Nat} {v : Value} (h : Seen as K I) (hk : k < as.length) (hv : mget K as[k] = some v) (hJ : ∀ i, J i → i < as.length → I i ∨ i = k) : Seen as K J := fun i hi hj => by
  rcases hJ i hj hi with h1 | rfl
  · exact h i hi h1
  · exact ⟨v, hv⟩
theorem Seen.set {as : List Nat} {K : Pairs} {I J : Nat → Prop} {k a : Nat} {v : Value} (h : Seen as K I) (hk : k < as.length) (ha : a = as[k]) (hJ : ∀ i, J i → i < as.length → I i ∨ i = k) : Seen as (mset K a v) J := fun i hi hj => by
  rw [mget_mset]
  by_cases e : as[i] = a
  · rw [if_pos e]; exact ⟨v, rfl⟩
  · rw [if_neg e]
    rcases hJ i hj hi with h1 | rfl
    · exact h i hi h1
    · exact absurd ha.symm e
theorem KOk.get {g : Gh} {xs : List AV} {K : Pairs} {a : Nat} (h : KOk g xs K) (hs : ∃ v, mget K a = some v) : ∃ x : AV, mget K a = some (.agg (avC x).toArray) ∧ AOk g x ∧ sameA x (findW xs a) = true := by
  obtain ⟨v, hv⟩ := hs
  obtain ⟨x, rfl, h2, h3⟩ := h a v hv
  exact ⟨x, hv, h2, h3⟩
theorem sameA_join {x y z : AV} {c1 s1 c2 s2 : Value} (h1 : sameA x z = true) (h2 : sameA y z = true) : sameA { x with code := c1, stor := s1 } { y with code := c2, stor := s2 } = true := by
  simp only [sameA, Bool.and_eq_true, beq_iff_eq] at *
  obtain ⟨a1, a2, a3, a4, a5⟩ := h1
  obtain ⟨b1, b2, b3, b4, b5⟩ := h2
  exact ⟨by rw [a1, b1], by rw [a2, b2], by rw [a3, b3], by rw [a4, b4], by rw [a5, b5]⟩
theorem rights_step {xs : List AV} {k : Nat} (hlt : k < xs.length) (hall : ∀ i, (hi : i < xs.length) → i < k → rightA xs[i] = true) (h : ¬ (!rightA xs[k]) = true) : ∀ i, (hi : i < xs.length) → i < k + 1 → rightA xs[i] = true := fun i hi hik => by
  by_cases h1 : i < k
  · exact hall i hi h1
  · have : i = k := by omega
    subst this
    cases h2 : rightA xs[i] with
    | true => rfl
    | false => rw [h2] at h; exact absurd rfl h
theorem adrRows_get {as : List Nat} {k : Nat} (h : k < as.length) : (as.map adrC)[k]? = some (adrC as[k]) := by simp [h]
end Go.Proofs.Ytafmgghpcneoeaa
