/- Arguments read, as values without memory. -/
import Derived.Test.YtafmgghpcneoeaaRow
import Derived.Test.YtafmgghpcneoeaaMp
namespace Go.Proofs.Ytafmgghpcneoeaa
open Go Go.BigFrame Go.ChangeShapes Go.RowKit

/-- n numbers of a kind. -/
def RIa (k : IntKind) (n : Nat) : Gh → List Value → Prop := fun _ cs => ∃ a : Ar n, cs = iaC k a ∧ ∀ x ∈ a.l, inR k x
theorem RD.ia {P : Program} {t e : TypeId} {k : IntKind} {n : Nat} (ht : P.underlying t = some (.array n e)) (he : P.underlying e = some (.int k)) (hc : P.cellsOf e = 1) (hn : P.cellsOf t = n) : RD P t (RIa k n) :=
  (RD.arr ht he hc hn).mono fun g cs ⟨l, h1, h2, h3⟩ => ⟨⟨l, h1⟩, h2, h3⟩

/-- A value of a kind of rows, of which something is known. -/
def RV {α : Type} (A : RT α) (ok : α → Prop) : Gh → List Value → Prop := fun g cs => ∃ x, A.R g x cs ∧ ok x
/-- A slice. -/
def RL {α : Type} (A : RT α) (ok : α → Prop) (bz : Nat) : Gh → List Value → Prop := fun g cs => ∃ (xs : List α) (v : Value), cs = [v] ∧ Sl A g xs v ∧ (∀ x ∈ xs, ok x) ∧ xs.length * bz ≤ reachBytes

theorem rws_of {α : Type} {A : RT α} {ok : α → Prop} {g : Gh} : ∀ rows : List (List Value), (∀ r ∈ rows, RV A ok g r) → ∃ xs : List α, Rws A g xs rows ∧ ∀ x ∈ xs, ok x
  | [], _ => ⟨[], Rws.nil, by simp⟩
  | r :: rows, hr => by
    obtain ⟨x, h1, h2⟩ := hr r (by simp)
    obtain ⟨xs, h3, h4⟩ := rws_of rows (fun r' h' => hr r' (by simp [h']))
    exact ⟨x :: xs, h3.cons h1, by simpa using ⟨h2, h4⟩⟩

theorem RD.ll {α : Type} {A : RT α} {ok : α → Prop} {P : Program} {t e : TypeId} {bz : Nat} (ht : P.underlying t = some (.slice e)) (hc : P.cellsOf e = A.sz) (hs : 0 < A.sz) (hb : P.bytesOf e = bz) (hr : RD P e (RV A ok)) : RD P t (RL A ok bz) := by
  intro H enc w spare held fuel cs y hy hw
  obtain ⟨rows, v, rfl, h1, h2, h3⟩ := RD.sl ht hc hs hb hr H enc w spare held fuel cs y hy hw
  obtain ⟨xs, h4, h5⟩ := rws_of rows (fun r hr' => (h2 r hr').2)
  refine ⟨xs, v, rfl, ⟨⟨rows, h1, h4⟩, fun a n c e => ?_⟩, h5, by rw [← h4.len]; exact h3⟩
  subst e
  rcases DataW.trod_slice ht hy with ⟨h, _⟩ | ⟨_, len, cap, _, _, _, _, h, _, _, hl, _⟩
  · simp only [List.cons.injEq, Value.slice.injEq, and_true] at h
    omega
  · simp only [List.cons.injEq, Value.slice.injEq, and_true] at h
    omega
theorem RD.iv {P : Program} {t : TypeId} {k : IntKind} (ht : P.underlying t = some (.int k)) : RD P t (RV (rtI k) (inR k)) :=
  (RD.int ht).mono fun g cs ⟨n, h1, h2⟩ => ⟨n, h1, h2⟩
theorem RD.sv {P : Program} {t : TypeId} (ht : P.underlying t = some .string) : RD P t (RV rtS fun _ => True) := by
  intro H enc w spare held fuel cs y hy _
  obtain ⟨s, rfl, _⟩ := DataW.trod_string ht hy
  exact ⟨s, rfl, trivial⟩
theorem RL.one {α : Type} {A : RT α} {ok : α → Prop} {bz : Nat} {g : Gh} {cs : List Value} (h : RL A ok bz g cs) : ∃ (xs : List α) (v : Value), cs = [v] ∧ Sl A g xs v ∧ (∀ x ∈ xs, ok x) ∧ xs.length * bz ≤ reachBytes := h
theorem RD.bv {P : Program} {t : TypeId} (ht : P.underlying t = some .bool) : RD P t (RV rtB fun _ => True) := by
  intro H enc w spare held fuel cs y hy _
  obtain ⟨s, rfl, _⟩ := DataW.trod_bool ht hy
  exact ⟨s, rfl, trivial⟩
end Go.Proofs.Ytafmgghpcneoeaa
