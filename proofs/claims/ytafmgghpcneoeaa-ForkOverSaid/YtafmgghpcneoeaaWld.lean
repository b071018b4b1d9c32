/- Worlds: what a walk knows of memory, and what becomes of it. -/
import Derived.Test.YtafmgghpcneoeaaBase
import Derived.Deep.MidRow
namespace Go.Proofs.Ytafmgghpcneoeaa
open Go

/-- What is known for good: these blocks hold this. -/
abbrev Gh := Nat → Option Obj
def Gh.le (g g' : Gh) : Prop := ∀ b o, g b = some o → g' b = some o
theorem Gh.le_refl (g : Gh) : g.le g := fun _ _ h => h
theorem Gh.le_trans {a b c : Gh} (h : a.le b) (k : b.le c) : a.le c := fun x o hx => k x o (h x o hx)
def Has (w : World) (g : Gh) : Prop := ∀ b o, g b = some o → w.heap[b]? = some o
theorem Has.mono {w : World} {g g' : Gh} (h : Has w g') (hg : g.le g') : Has w g := fun b o hb => h b o (hg b o hb)

/-- Blocks that stood at w, but for those of M, are as they were. -/
structure Keep (M : Nat → Prop) (w w' : World) : Prop where
  os : w'.os = w.os
  tape : w'.tape = w.tape
  output : w'.output = w.output
  size : w.heap.size ≤ w'.heap.size
  block : ∀ b, b < w.heap.size → ¬ M b → w'.heap[b]? = w.heap[b]?

def Non : Nat → Prop := fun _ => False

theorem Keep.refl (M : Nat → Prop) (w : World) : Keep M w w := ⟨rfl, rfl, rfl, Nat.le_refl _, fun _ _ _ => rfl⟩
theorem Keep.trans {M : Nat → Prop} {a b c : World} (h : Keep M a b) (k : Keep M b c) : Keep M a c :=
  ⟨k.os.trans h.os, k.tape.trans h.tape, k.output.trans h.output, Nat.le_trans h.size k.size, fun i hi hm => (k.block i (Nat.lt_of_lt_of_le hi h.size) hm).trans (h.block i hi hm)⟩
theorem Keep.mono {M M' : Nat → Prop} {w w' : World} (h : Keep M w w') (hM : ∀ b, b < w.heap.size → M b → M' b) : Keep M' w w' :=
  ⟨h.os, h.tape, h.output, h.size, fun b hb hm => h.block b hb (fun hm' => hm (hM b hb hm'))⟩
theorem Keep.non {M : Nat → Prop} {w w' : World} (h : Keep Non w w') : Keep M w w' := h.mono (fun _ _ h => h.elim)
theorem Keep.drew (M : Nat → Prop) (w : World) : Keep M w w.drew := ⟨rfl, rfl, rfl, Nat.le_refl _, fun _ _ _ => rfl⟩
theorem Keep.alloc (M : Nat → Prop) (w : World) (o : Obj) : Keep M w (w.alloc o) :=
  ⟨rfl, rfl, rfl, by simp, fun b hb _ => by
    show (w.heap.push o)[b]? = _
    rw [Array.getElem?_push, if_neg (by omega)]⟩
theorem Keep.has {w w' : World} {g : Gh} (h : Keep Non w w') (hg : Has w g) : Has w' g := fun b o hb => by
  have h1 := hg b o hb
  have h2 : b < w.heap.size := by
    rcases Nat.lt_or_ge b w.heap.size with h3 | h3
    · exact h3
    · rw [Array.getElem?_eq_none h3] at h1; cases h1
  rw [h.block b h2 (fun h => h)]; exact h1

theorem lt_of_block {w : World} {b : Nat} {o : Obj} (h : w.heap[b]? = some o) : b < w.heap.size := by
  rcases Nat.lt_or_ge b w.heap.size with h3 | h3
  · exact h3
  · rw [Array.getElem?_eq_none h3] at h; cases h

/-- What a walk knows: of the world at the start, of the one at hand, for good, and of the blocks that are its own. -/
structure St (M : Nat → Prop) (w0 w : World) (g : Gh) (l : List (Nat × Obj)) : Prop where
  keep : Keep M w0 w
  has : Has w g
  loc : ∀ p ∈ l, w.heap[p.1]? = some p.2 ∧ g p.1 = none ∧ (w0.heap.size ≤ p.1 ∨ M p.1)
  nd : (l.map (·.1)).Nodup

section
variable {M : Nat → Prop} {w0 w w' : World} {g g' : Gh} {l : List (Nat × Obj)}

theorem St.start (M : Nat → Prop) (hg : Has w g) : St M w w g [] := ⟨Keep.refl _ _, hg, by simp, List.nodup_nil⟩

theorem St.drew (h : St M w0 w g l) : St M w0 w.drew g l := ⟨h.keep.trans (Keep.drew _ _), h.has, h.loc, h.nd⟩
theorem St.drewN (h : St M w0 w g l) (n : Nat) : St M w0 { w with drawn := w.drawn + n } g l := ⟨h.keep.trans ⟨rfl, rfl, rfl, Nat.le_refl _, fun _ _ _ => rfl⟩, h.has, h.loc, h.nd⟩

theorem St.alloc (h : St M w0 w g l) (o : Obj) : St M w0 (w.alloc o) g ((w.heap.size, o) :: l) := by
  have hnew : (w.alloc o).heap[w.heap.size]? = some o := by
    show (w.heap.push o)[w.heap.size]? = _
    simp
  have hold : ∀ b o', w.heap[b]? = some o' → (w.alloc o).heap[b]? = some o' := fun b o' hb => by
    rw [(Keep.alloc Non w o).block b (lt_of_block hb) (fun h => h)]; exact hb
  refine ⟨h.keep.trans (Keep.alloc _ _ _), fun b o' hb => hold b o' (h.has b o' hb), fun p hp => ?_, ?_⟩
  · rcases List.mem_cons.1 hp with rfl | hp
    · refine ⟨hnew, ?_, .inl h.keep.size⟩
      cases hg : g w.heap.size with
      | none => rfl
      | some o' => have := lt_of_block (h.has _ _ hg); exact absurd this (Nat.lt_irrefl _)
    · obtain ⟨h1, h2⟩ := h.loc p hp
      exact ⟨hold _ _ h1, h2⟩
  · rw [List.map_cons, List.nodup_cons]
    refine ⟨fun hm => ?_, h.nd⟩
    obtain ⟨p, hp, he⟩ := List.mem_map.1 hm
    have := lt_of_block (h.loc p hp).1
    rw [he] at this
    exact absurd this (Nat.lt_irrefl _)

/-- Some of what was known. -/
theorem St.sub (h : St M w0 w g l) {l' : List (Nat × Obj)} (hs : l'.Sublist l) : St M w0 w g l' :=
  ⟨h.keep, h.has, fun p hp => h.loc p (hs.subset hp), h.nd.sublist (hs.map _)⟩

theorem St.perm (h : St M w0 w g l) {l' : List (Nat × Obj)} (hs : l.Perm l') : St M w0 w g l' :=
  ⟨h.keep, h.has, fun p hp => h.loc p (hs.mem_iff.2 hp), (hs.map _).nodup_iff.1 h.nd⟩

theorem St.mem (h : St M w0 w g l) {i b : Nat} {o : Obj} (hi : l[i]? = some (b, o)) : w.heap[b]? = some o := (h.loc (b, o) (List.mem_of_getElem? hi)).1

/-- Block number i of the walk's own holds something else. -/
theorem St.put (h : St M w0 w g l) {i b : Nat} {o o' : Obj} (hi : l[i]? = some (b, o)) (hos : w'.os = w.os) (ht : w'.tape = w.tape) (ho : w'.output = w.output)
    (hs : w'.heap.size = w.heap.size) (hb : w'.heap[b]? = some o') (hk : ∀ c, c ≠ b → w'.heap[c]? = w.heap[c]?) : St M w0 w' g (l.set i (b, o')) := by
  have hm := h.loc (b, o) (List.mem_of_getElem? hi)
  have hil : i < l.length := (List.getElem?_eq_some_iff.1 hi).1
  have hib : l[i] = (b, o) := (List.getElem?_eq_some_iff.1 hi).2
  have hmap : (l.set i (b, o')).map (·.1) = l.map (·.1) := by
    apply List.ext_getElem?
    intro j
    rw [List.getElem?_map, List.getElem?_map, List.getElem?_set]
    by_cases hij : i = j
    · subst hij; simp [hil, hib]
    · simp [hij]
  refine ⟨⟨hos.trans h.keep.os, ht.trans h.keep.tape, ho.trans h.keep.output, by rw [hs]; exact h.keep.size, fun c hc hM => ?_⟩, fun c o'' hc => ?_, fun p hp => ?_, ?_⟩
  · have hne : c ≠ b := fun e => by
      subst e
      rcases hm.2.2 with h1 | h1
      · exact absurd hc (Nat.not_lt.2 h1)
      · exact hM h1
    rw [hk c hne]; exact h.keep.block c hc hM
  · have hne : c ≠ b := fun e => by subst e; rw [hm.2.1] at hc; cases hc
    rw [hk c hne]; exact h.has c o'' hc
  · obtain ⟨j, hj⟩ := List.getElem?_of_mem hp
    rw [List.getElem?_set] at hj
    by_cases hij : i = j
    · subst hij
      simp [hil] at hj
      subst hj
      exact ⟨hb, hm.2⟩
    · rw [if_neg hij] at hj
      have hp' := h.loc p (List.mem_of_getElem? hj)
      have hjl : j < l.length := (List.getElem?_eq_some_iff.1 hj).1
      have hpj : l[j] = p := (List.getElem?_eq_some_iff.1 hj).2
      have hne : p.1 ≠ b := by
        intro e
        have hnd := List.pairwise_iff_getElem.1 h.nd
        rcases Nat.lt_or_gt_of_ne hij with hlt | hlt
        · exact hnd i j (by simpa using hil) (by simpa using hjl) hlt (by simp [hib, hpj, e])
        · exact hnd j i (by simpa using hjl) (by simpa using hil) hlt (by simp [hib, hpj, e])
      exact ⟨by rw [hk _ hne]; exact hp'.1, hp'.2⟩
  · rw [hmap]; exact h.nd

/-- What is new in g' lies in blocks that are new since w. -/
def GNew (w : World) (g g' : Gh) : Prop := ∀ b o, g' b = some o → g b = some o ∨ w.heap.size ≤ b
theorem GNew.refl (w : World) (g : Gh) : GNew w g g := fun _ _ h => .inl h

/-- Behind a call that changes nothing that was there. -/
theorem St.call (h : St M w0 w g l) (hk : Keep Non w w') : St M w0 w' g l :=
  ⟨h.keep.trans hk.non, hk.has h.has, fun p hp => by
    obtain ⟨h1, h2⟩ := h.loc p hp
    exact ⟨by rw [hk.block p.1 (lt_of_block h1) (fun h => h)]; exact h1, h2⟩, h.nd⟩

/-- The same, and it made something that is known for good. -/
theorem St.callG (h : St M w0 w g l) (hk : Keep Non w w') (hg : Has w' g') (hn : GNew w g g') : St M w0 w' g' l :=
  ⟨h.keep.trans hk.non, hg, fun p hp => by
    obtain ⟨h1, h2, h3⟩ := h.loc p hp
    refine ⟨by rw [hk.block p.1 (lt_of_block h1) (fun h => h)]; exact h1, ?_, h3⟩
    cases hp' : g' p.1 with
    | none => rfl
    | some o =>
      rcases hn p.1 o hp' with h4 | h4
      · rw [h2] at h4; cases h4
      · exact absurd (lt_of_block h1) (Nat.not_lt.2 h4), h.nd⟩

/-- The same, and some of the walk's own blocks (those of M') hold something else: l' tells. -/
theorem St.callM {M' : Nat → Prop} {l' : List (Nat × Obj)} (h : St M w0 w g l) (hk : Keep M' w w') (hg : Has w' g') (hn : GNew w g g')
    (hl : l'.map (·.1) = l.map (·.1)) (hM : ∀ b, b < w.heap.size → M' b → w0.heap.size ≤ b ∨ M b)
    (hloc : ∀ p ∈ l', w'.heap[p.1]? = some p.2) : St M w0 w' g' l' := by
  refine ⟨⟨hk.os.trans h.keep.os, hk.tape.trans h.keep.tape, hk.output.trans h.keep.output, Nat.le_trans h.keep.size hk.size, fun b hb hm => ?_⟩, hg, fun p hp => ?_, by rw [hl]; exact h.nd⟩
  · rw [hk.block b (Nat.lt_of_lt_of_le hb h.keep.size) (fun hm' => ?_)]
    · exact h.keep.block b hb hm
    · rcases hM b (Nat.lt_of_lt_of_le hb h.keep.size) hm' with h1 | h1
      · exact absurd hb (Nat.not_lt.2 h1)
      · exact hm h1
  · have : p.1 ∈ l.map (·.1) := by rw [← hl]; exact List.mem_map.2 ⟨p, hp, rfl⟩
    obtain ⟨q, hq, he⟩ := List.mem_map.1 this
    obtain ⟨h1, h2, h3⟩ := h.loc q hq
    rw [he] at h1 h2 h3
    refine ⟨hloc p hp, ?_, h3⟩
    cases hp' : g' p.1 with
    | none => rfl
    | some o =>
      rcases hn p.1 o hp' with h4 | h4
      · rw [h2] at h4; cases h4
      · exact absurd (lt_of_block h1) (Nat.not_lt.2 h4)

/-- What a callee made is the caller's own. -/
theorem St.join {l2 : List (Nat × Obj)} (h : St M w0 w g l) (k : St Non w w' g' l2) (hg : g.le g') (hn : GNew w g g') : St M w0 w' g' (l2 ++ l) := by
  have h1 := h.callG k.keep k.has hn
  refine ⟨h1.keep, h1.has, fun p hp => ?_, ?_⟩
  · rcases List.mem_append.1 hp with hp | hp
    · obtain ⟨h2, h3, h4⟩ := k.loc p hp
      refine ⟨h2, h3, .inl ?_⟩
      rcases h4 with h4 | h4
      · exact Nat.le_trans h.keep.size h4
      · exact h4.elim
    · exact h1.loc p hp
  · rw [List.map_append, List.nodup_append]
    refine ⟨k.nd, h.nd, fun x hx y hy e => ?_⟩
    subst e
    obtain ⟨p, hp, rfl⟩ := List.mem_map.1 hx
    obtain ⟨q, hq, he⟩ := List.mem_map.1 hy
    have h2 := lt_of_block (h.loc q hq).1
    rcases (k.loc p hp).2.2 with h3 | h3
    · rw [he] at h2; exact absurd h2 (Nat.not_lt.2 h3)
    · exact h3.elim

theorem St.join0 {l2 : List (Nat × Obj)} {gk : Gh} (h : St M w0 w g l) (k : St Non w w' gk l2) : St M w0 w' g (l2 ++ l) := by
  refine h.join (g' := g) ⟨k.keep, k.keep.has h.has, fun p hp => ?_, k.nd⟩ (Gh.le_refl g) (GNew.refl w g)
  obtain ⟨h1, _, h3⟩ := k.loc p hp
  refine ⟨h1, ?_, h3⟩
  cases hg : g p.1 with
  | none => rfl
  | some o =>
    have := lt_of_block (h.has _ _ hg)
    rcases h3 with h3 | h3
    · exact absurd this (Nat.not_lt.2 h3)
    · exact h3.elim

def Mof (ps : List (Nat × Obj)) : Nat → Prop := fun b => b ∈ ps.map (·.1)

/-- The blocks that a callee may change are handed to it. -/
theorem St.enter (h : St M w0 w g l) (ix : List Nat) {ps : List (Nat × Obj)} (hps : ix.map (fun i => l[i]?) = ps.map some) (hnd : ix.Nodup) : St (Mof ps) w w g ps := by
  have hmem : ∀ p ∈ ps, p ∈ l := fun p hp => by
    have : some p ∈ ix.map (fun i => l[i]?) := by rw [hps]; exact List.mem_map.2 ⟨p, hp, rfl⟩
    obtain ⟨i, _, hi⟩ := List.mem_map.1 this
    exact List.mem_of_getElem? hi
  refine ⟨Keep.refl _ _, h.has, fun p hp => ?_, ?_⟩
  · obtain ⟨h1, h2, _⟩ := h.loc p (hmem p hp)
    exact ⟨h1, h2, .inr (List.mem_map.2 ⟨p, hp, rfl⟩)⟩
  · have hl := List.pairwise_iff_getElem.1 h.nd
    have key : ∀ (ix : List Nat) (ps : List (Nat × Obj)), ix.map (fun i => l[i]?) = ps.map some → ix.Nodup → (ps.map (·.1)).Nodup := by
      intro ix
      induction ix with
      | nil => intro ps hps _; cases ps with
        | nil => simp
        | cons p ps => simp at hps
      | cons i ix ih =>
        intro ps hps hnd
        cases ps with
        | nil => simp
        | cons p ps =>
          simp only [List.map_cons, List.cons.injEq] at hps
          rw [List.nodup_cons] at hnd
          rw [List.map_cons, List.nodup_cons]
          refine ⟨fun hm => ?_, ih ps hps.2 hnd.2⟩
          obtain ⟨q, hq, he⟩ := List.mem_map.1 hm
          have : some q ∈ ix.map (fun i => l[i]?) := by rw [hps.2]; exact List.mem_map.2 ⟨q, hq, rfl⟩
          obtain ⟨j, hj, hjq⟩ := List.mem_map.1 this
          have hij : i ≠ j := fun e => by subst e; exact hnd.1 hj
          obtain ⟨hil, hib⟩ := List.getElem?_eq_some_iff.1 hps.1
          obtain ⟨hjl, hjb⟩ := List.getElem?_eq_some_iff.1 hjq
          rcases Nat.lt_or_gt_of_ne hij with hlt | hlt
          · exact hl i j (by simpa using hil) (by simpa using hjl) hlt (by simp [hib, hjb, he])
          · exact hl j i (by simpa using hjl) (by simpa using hil) hlt (by simp [hib, hjb, he])
    exact key ix ps hps hnd

def upd (l : List (Nat × Obj)) : List Nat → List (Nat × Obj) → List (Nat × Obj)
  | i :: ix, p :: ps => upd (l.set i p) ix ps
  | _, _ => l

theorem upd_mem : ∀ (ix : List Nat) (ps : List (Nat × Obj)) (l : List (Nat × Obj)) (p : Nat × Obj), p ∈ upd l ix ps → p ∈ ps ∨ ∃ j, j ∉ ix.take ps.length ∧ l[j]? = some p
  | [], ps, l, p, h => by
    obtain ⟨j, hj⟩ := List.getElem?_of_mem (show p ∈ l from by cases ps <;> exact h)
    exact .inr ⟨j, by simp, hj⟩
  | i :: ix, [], l, p, h => by
    obtain ⟨j, hj⟩ := List.getElem?_of_mem (show p ∈ l from h)
    exact .inr ⟨j, by simp, hj⟩
  | i :: ix, q :: ps, l, p, h => by
    rcases upd_mem ix ps (l.set i q) p h with h1 | ⟨j, h1, h2⟩
    · exact .inl (List.mem_cons_of_mem _ h1)
    · rw [List.getElem?_set] at h2
      by_cases hij : i = j
      · subst hij
        simp only [if_true] at h2
        split at h2
        · exact .inl (by simp at h2; subst h2; simp)
        · cases h2
      · rw [if_neg hij] at h2
        refine .inr ⟨j, ?_, h2⟩
        simp only [List.length_cons, List.take_succ_cons, List.mem_cons, not_or]
        exact ⟨fun e => hij e.symm, h1⟩

theorem upd_fst : ∀ (ix : List Nat) (ps : List (Nat × Obj)) (l : List (Nat × Obj)), (∀ (k i : Nat) (p : Nat × Obj), ix[k]? = some i → ps[k]? = some p → ∃ q : Nat × Obj, l[i]? = some q ∧ q.1 = p.1) → (upd l ix ps).map (·.1) = l.map (·.1)
  | [], ps, l, _ => by cases ps <;> rfl
  | i :: ix, [], l, _ => rfl
  | i :: ix, p :: ps, l, h => by
    obtain ⟨q, hq, he⟩ := h 0 i p rfl rfl
    have h0 : (l.set i p).map (·.1) = l.map (·.1) := by
      apply List.ext_getElem?
      intro j
      rw [List.getElem?_map, List.getElem?_map, List.getElem?_set]
      by_cases hij : i = j
      · subst hij
        have := (List.getElem?_eq_some_iff.1 hq).1
        simp [this]
        have h3 := (List.getElem?_eq_some_iff.1 hq).2
        rw [h3]; exact he.symm
      · simp [hij]
    show (upd (l.set i p) ix ps).map (·.1) = _
    rw [upd_fst ix ps (l.set i p) fun k i' p' hk hp' => ?_, h0]
    obtain ⟨q', hq', he'⟩ := h (k + 1) i' p' (by simpa using hk) (by simpa using hp')
    by_cases hij : i = i'
    · subst hij
      have hil := (List.getElem?_eq_some_iff.1 hq').1
      refine ⟨p, by simp [hil], ?_⟩
      rw [hq] at hq'; cases hq'
      rw [← he, he']
    · exact ⟨q', by rw [List.getElem?_set, if_neg hij]; exact hq', he'⟩

/-- ... and come back. -/
theorem St.leave (h : St M w0 w g l) (ix : List Nat) {ps ps' : List (Nat × Obj)} (hps : ix.map (fun i => l[i]?) = ps.map some) (hnd : ix.Nodup)
    (k : St (Mof ps) w w' g' ps') (hf : ps'.map (·.1) = ps.map (·.1)) (hn : GNew w g g') : St M w0 w' g' (upd l ix ps') := by
  have hlen : ix.length = ps'.length := by
    have h1 := congrArg List.length hps
    have h2 := congrArg List.length hf
    simp at h1 h2; omega
  have hmem : ∀ p ∈ ps, p ∈ l := fun p hp => by
    have : some p ∈ ix.map (fun i => l[i]?) := by rw [hps]; exact List.mem_map.2 ⟨p, hp, rfl⟩
    obtain ⟨i, _, hi⟩ := List.mem_map.1 this
    exact List.mem_of_getElem? hi
  refine h.callM k.keep k.has hn ?_ ?_ ?_
  · refine upd_fst ix ps' l fun q i p hi hp => ?_
    have h1 : (ix.map (fun i => l[i]?))[q]? = some (l[i]?) := by simp [hi]
    rw [hps] at h1
    have h2 : (ps'.map (·.1))[q]? = some p.1 := by simp [hp]
    rw [hf] at h2
    rw [List.getElem?_map] at h1 h2
    cases hq : ps[q]? with
    | none => rw [hq] at h1; cases h1
    | some r =>
      rw [hq] at h1 h2
      simp at h1 h2
      exact ⟨r, h1.symm, h2⟩
  · intro b _ hM
    obtain ⟨p, hp, rfl⟩ := List.mem_map.1 hM
    exact (h.loc p (hmem p hp)).2.2
  · intro p hp
    rcases upd_mem ix ps' l p hp with h1 | ⟨j, h1, h2⟩
    · exact (k.loc p h1).1
    · rw [← hlen, List.take_length] at h1
      have hpl := h.loc p (List.mem_of_getElem? h2)
      rw [k.keep.block p.1 (lt_of_block hpl.1) ?_]
      · exact hpl.1
      · intro hM
        obtain ⟨q, hq, he⟩ := List.mem_map.1 hM
        have : some q ∈ ix.map (fun i => l[i]?) := by rw [hps]; exact List.mem_map.2 ⟨q, hq, rfl⟩
        obtain ⟨i, hi, hiq⟩ := List.mem_map.1 this
        have hij : i ≠ j := fun e => by subst e; exact h1 hi
        obtain ⟨hil, hib⟩ := List.getElem?_eq_some_iff.1 hiq
        obtain ⟨hjl, hjb⟩ := List.getElem?_eq_some_iff.1 h2
        have hl := List.pairwise_iff_getElem.1 h.nd
        rcases Nat.lt_or_gt_of_ne hij with hlt | hlt
        · exact hl i j (by simpa using hil) (by simpa using hjl) hlt (by simp [hib, hjb, he])
        · exact hl j i (by simpa using hjl) (by simpa using hil) hlt (by simp [hib, hjb, he])

/-- A block of the walk's own is known for good from here on. -/
def Gh.add (g : Gh) (b : Nat) (o : Obj) : Gh := fun c => if c = b then some o else g c
theorem Gh.add_le {g : Gh} {b : Nat} {o : Obj} (h : g b = none) : g.le (g.add b o) := fun c o' hc => by
  unfold Gh.add
  rw [if_neg (fun e => by subst e; rw [h] at hc; cases hc)]; exact hc
theorem Gh.add_self (g : Gh) (b : Nat) (o : Obj) : (g.add b o) b = some o := by simp [Gh.add]
theorem GNew.add {w : World} {g g' : Gh} (h : GNew w g g') {b : Nat} (o : Obj) (hb : w.heap.size ≤ b) : GNew w g (g'.add b o) := fun c o' hc => by
  unfold Gh.add at hc
  by_cases e : c = b
  · subst e; exact .inr hb
  · rw [if_neg e] at hc; exact h c o' hc
theorem St.free {b : Nat} {o : Obj} (h : St M w0 w g ((b, o) :: l)) : St M w0 w (g.add b o) l ∧ g.le (g.add b o) := by
  obtain ⟨h1, h2, h3⟩ := h.loc (b, o) (by simp)
  refine ⟨⟨h.keep, fun c o' hc => ?_, fun p hp => ?_, (List.nodup_cons.1 h.nd).2⟩, Gh.add_le h2⟩
  · unfold Gh.add at hc
    by_cases e : c = b
    · subst e; simp at hc; subst hc; exact h1
    · rw [if_neg e] at hc; exact h.has c o' hc
  · obtain ⟨h4, h5, h6⟩ := h.loc p (List.mem_cons_of_mem _ hp)
    refine ⟨h4, ?_, h6⟩
    unfold Gh.add
    rw [if_neg, h5]
    intro e
    have := (List.nodup_cons.1 h.nd).1
    exact this (List.mem_map.2 ⟨p, hp, e⟩)

end

/-! ### Pieces of lists of cells -/
def Seg (L : List Value) (o : Nat) (cs : List Value) : Prop := ∀ j v, cs[j]? = some v → L[o + j]? = some v
theorem Seg.all (L : List Value) : Seg L 0 L := fun j v h => by rw [Nat.zero_add]; exact h
theorem Seg.here (s r : List Value) : Seg (s ++ r) 0 s := fun j v h => by
  rw [Nat.zero_add, List.getElem?_append_left (List.getElem?_eq_some_iff.1 h).1]; exact h
theorem Seg.skip {s r cs : List Value} {m o : Nat} (hs : s.length = m) (h : Seg r o cs) : Seg (s ++ r) (m + o) cs := fun j v hj => by
  rw [List.getElem?_append_right (by omega), show m + o + j - s.length = o + j by omega]
  exact h j v hj

/-- L' is L, with vs from o on. -/
structure Put (L : List Value) (o : Nat) (vs L' : List Value) : Prop where
  len : L'.length = L.length
  fit : o + vs.length ≤ L.length
  at_ : ∀ j, L'[j]? = if o ≤ j ∧ j < o + vs.length then vs[j - o]? else L[j]?
theorem Put.all {L vs : List Value} (h : vs.length = L.length) : Put L 0 vs vs :=
  ⟨h, by omega, fun j => by
    by_cases hj : j < vs.length
    · rw [if_pos ⟨by omega, by omega⟩]; simp
    · rw [if_neg (by omega), List.getElem?_eq_none (by omega), List.getElem?_eq_none (by omega)]⟩
theorem Put.here {s r vs : List Value} (h : vs.length = s.length) : Put (s ++ r) 0 vs (vs ++ r) :=
  ⟨by simp [h], by simp [h], fun j => by
    by_cases hj : j < vs.length
    · rw [if_pos ⟨by omega, by omega⟩, List.getElem?_append_left hj]; simp
    · rw [if_neg (by omega), List.getElem?_append_right (by omega), List.getElem?_append_right (by omega), h]⟩
theorem Put.skip {s r vs r' : List Value} {m o : Nat} (hs : s.length = m) (h : Put r o vs r') : Put (s ++ r) (m + o) vs (s ++ r') :=
  ⟨by simp [h.len], by have := h.fit; simp; omega, fun j => by
    by_cases hj : j < m
    · rw [if_neg (by omega), List.getElem?_append_left (by omega), List.getElem?_append_left (by omega)]
    · rw [List.getElem?_append_right (by omega), List.getElem?_append_right (by omega), h.at_, hs]
      by_cases hc : o ≤ j - m ∧ j - m < o + vs.length
      · rw [if_pos hc, if_pos (by omega)]; congr 1 <;> omega
      · rw [if_neg hc, if_neg (by omega)]⟩
theorem Put.one (L : List Value) {o : Nat} (v : Value) (h : o < L.length) : Put L o [v] (L.set o v) :=
  ⟨by simp, by simp; omega, fun j => by
    rw [List.getElem?_set]
    by_cases hj : o = j
    · subst hj; simp [h]
    · rw [if_neg hj, if_neg (by simp; omega)]⟩

theorem heap_setCell {w : World} {b o : Nat} {L : List Value} {E : TypeId} {fr : Nat × Nat} (v : Value) (h : w.heap[b]? = some (.cells L.toArray E fr)) :
    (w.setCell ⟨b, o, none⟩ v).heap[b]? = some (.cells (L.set o v).toArray E fr) := by
  simp [World.setCell, Array.getElem?_modify, h]

theorem heap_setCell_ne {w : World} {b o c : Nat} (v : Value) (h : c ≠ b) : (w.setCell ⟨b, o, none⟩ v).heap[c]? = w.heap[c]? := by
  simp only [World.setCell, Array.getElem?_modify]
  rw [if_neg (fun e => h e.symm)]

theorem setCells_all {b : Nat} {E : TypeId} {fr : Nat × Nat} : ∀ (vs : List Value) {o : Nat} {L L' : List Value} {w : World}, w.heap[b]? = some (.cells L.toArray E fr) → Put L o vs L' →
    (w.setCells b o vs).heap[b]? = some (.cells L'.toArray E fr) ∧ (∀ c, c ≠ b → (w.setCells b o vs).heap[c]? = w.heap[c]?) ∧ (w.setCells b o vs).heap.size = w.heap.size ∧
      (w.setCells b o vs).os = w.os ∧ (w.setCells b o vs).tape = w.tape ∧ (w.setCells b o vs).output = w.output
  | [], o, L, L', w, h, hp => by
    have : L' = L := List.ext_getElem? fun j => by rw [hp.at_, if_neg (by simp only [List.length_nil]; omega)]
    subst this
    exact ⟨h, fun _ _ => rfl, rfl, rfl, rfl, rfl⟩
  | v :: vs, o, L, L', w, h, hp => by
    have hp' : Put (L.set o v) (o + 1) vs L' := by
      refine ⟨by rw [hp.len]; simp, by have := hp.fit; simp at this ⊢; omega, fun j => ?_⟩
      rw [hp.at_, List.getElem?_set]
      have hf := hp.fit
      simp only [List.length_cons] at hf ⊢
      by_cases h1 : o = j
      · subst h1
        rw [if_pos ⟨Nat.le_refl _, by omega⟩, if_neg (by omega), if_pos rfl, if_pos (by omega)]; simp
      · rw [if_neg h1]
        by_cases h2 : o ≤ j ∧ j < o + (vs.length + 1)
        · rw [if_pos h2, if_pos (by omega), show j - o = (j - (o + 1)) + 1 by omega]; simp
        · rw [if_neg h2, if_neg (by omega)]
    obtain ⟨h1, h2, h3, h4, h5, h6⟩ := setCells_all vs (heap_setCell v h) hp'
    rw [World.setCells]
    exact ⟨h1, fun c hc => by rw [h2 c hc, heap_setCell_ne v hc], by rw [h3]; simp [World.setCell], h4, h5, h6⟩
end Go.Proofs.Ytafmgghpcneoeaa
