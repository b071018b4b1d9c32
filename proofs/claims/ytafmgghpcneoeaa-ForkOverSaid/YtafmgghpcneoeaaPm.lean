/- Plain lemmas: maps as rows of pairs, words as numbers. -/
import Derived.Test.YtafmgghpcneoeaaMp
import Derived.Test.YtafmgghpcneoeaaDgs
namespace Go.Proofs.Ytafmgghpcneoeaa
open Go
section
variable {α : Type} [DecidableEq α] {β : Type}
theorem pget_cons (p : α × β) (m : List (α × β)) (a : α) : Mp.pget (p :: m) a = if p.1 = a then some p.2 else Mp.pget m a := by
  unfold Mp.pget
  by_cases h : p.1 = a
  · simp [h]
  · have : (p.1 == a) = false := by simpa using h
    simp [h, this]
theorem pget_app (m n : List (α × β)) (a : α) : Mp.pget (m ++ n) a = (Mp.pget m a).or (Mp.pget n a) := by
  induction m with
  | nil => simp [Mp.pget]
  | cons p m ih =>
    rw [List.cons_append, pget_cons, pget_cons, ih]
    split <;> simp
theorem pget_map (m : List (α × β)) (a b : α) (v : β) : Mp.pget (m.map fun p => if p.1 = a then (a, v) else p) b = if b = a then (Mp.pget m a).map (fun _ => v) else Mp.pget m b := by
  induction m with
  | nil => simp [Mp.pget]
  | cons p m ih =>
    rw [List.map_cons, pget_cons, ih, pget_cons, pget_cons]
    by_cases h1 : p.1 = a
    · by_cases h2 : b = a
      · simp [h1, h2]
      · have : ¬ a = b := fun e => h2 e.symm
        simp [h1, h2, this]
    · by_cases h2 : b = a
      · subst h2; simp [h1]
      · simp [h1, h2]
theorem pget_pset (m : List (α × β)) (a b : α) (v : β) : Mp.pget (Mp.pset m a v) b = if b = a then some v else Mp.pget m b := by
  unfold Mp.pset
  split
  · rename_i h
    rw [pget_map]
    by_cases hb : b = a
    · obtain ⟨x, hx⟩ := Option.isSome_iff_exists.1 h
      simp [hb, hx]
    · simp [hb]
  · rename_i h
    rw [pget_app]
    have hn : Mp.pget m a = none := by simpa using h
    by_cases hb : b = a
    · subst hb; rw [hn, pget_cons]; simp
    · have : ¬ a = b := fun e => hb e.symm
      rw [pget_cons]
      simp [hb, this, Mp.pget]
theorem pget_pdel (m : List (α × β)) (a b : α) : Mp.pget (Mp.pdel m a) b = if b = a then none else Mp.pget m b := by
  unfold Mp.pdel
  induction m with
  | nil => simp [Mp.pget]
  | cons p m ih =>
    by_cases h1 : p.1 = a
    · have : (p.1 != a) = false := by simp [h1]
      rw [List.filter_cons, if_neg (by simp [this]), ih, pget_cons]
      by_cases hb : b = a
      · simp [hb]
      · have : ¬ p.1 = b := fun e => hb (e ▸ h1)
        simp [hb, this]
    · rw [List.filter_cons, if_pos (by simpa using h1), pget_cons, ih, pget_cons]
      by_cases hb : b = a
      · subst hb; simp [h1]
      · simp [hb]
end

/-- A word's parts are numbers of 64 bits. -/
def W4 (a : Ar 4) : Prop := ∀ x ∈ a.l, 0 ≤ x ∧ x < B64
def vN (a : Ar 4) : Nat := ofLe B64 a.l
theorem vN_lt {a : Ar 4} (h : W4 a) : vN a < NW := by
  have := ofLe_lt B64_pos a.l h
  rw [a.len] at this; exact this
theorem g_lb {a : Ar 4} (h : W4 a) {i : Nat} (hi : i < 4) : a.g (i : Int) = lb (vN a) i := by
  have h1 := le_ofLe B64_pos a.l h
  rw [a.len] at h1
  have h2 := le_get B64 4 (vN a) i hi
  unfold vN at h2
  rw [h1, a.g_nat i hi, Option.some.injEq] at h2
  exact h2
theorem vN_inj {a b : Ar 4} (ha : W4 a) (hb : W4 b) (h : vN a = vN b) : a = b := by
  have h1 := le_ofLe B64_pos a.l ha
  have h2 := le_ofLe B64_pos b.l hb
  rw [a.len] at h1; rw [b.len] at h2
  apply Ar.ext'
  rw [← h1, ← h2]
  unfold vN at h; rw [h]
theorem Ar.g_s {n : Nat} (a : Ar n) (i : Nat) (v : Int) (j : Nat) (hj : j < n) : (a.s (i : Int) v).g (j : Int) = if j = i then v else a.g (j : Int) := by
  have h1 := (a.s (i : Int) v).g_nat j hj
  have h2 := a.g_nat j hj
  simp only [Ar.s, Int.toNat_natCast, List.getElem?_set] at h1
  by_cases h : j = i
  · subst h
    rw [if_pos rfl, if_pos (by rw [a.len]; exact hj)] at h1
    simp only [Option.some.injEq] at h1
    rw [if_pos rfl]; exact h1.symm
  · rw [if_neg (fun e => h e.symm), h2] at h1
    simp only [Option.some.injEq] at h1
    rw [if_neg h]; exact h1.symm
theorem Ar.ext_g {n : Nat} {a b : Ar n} (h : ∀ i : Nat, i < n → a.g (i : Int) = b.g (i : Int)) : a = b := by
  apply Ar.ext'
  apply List.ext_getElem? 
  intro i
  by_cases hi : i < n
  · rw [a.g_nat i hi, b.g_nat i hi, h i hi]
  · rw [List.getElem?_eq_none (by rw [a.len]; omega), List.getElem?_eq_none (by rw [b.len]; omega)]
end Go.Proofs.Ytafmgghpcneoeaa
