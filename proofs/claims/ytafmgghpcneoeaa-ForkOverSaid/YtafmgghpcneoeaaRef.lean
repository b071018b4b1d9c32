/- Plain laws: what the references say of accounts. -/
import Derived.Test.YtafmgghpcneoeaaAcc
namespace Go.Proofs.Ytafmgghpcneoeaa
open Go

def bigA (x : AV) : Bool := decide (3000 < x.cb.length) || decide (100 < x.ss.length)
theorem calls_ret {P : Program} {f : FuncId} {args : Array Value} {w : World} {R R' : Value → World → Prop} (h : Calls P f args w (Ret R)) (k : ∀ v w', R v w' → R' v w') : Calls P f args w (Ret R') :=
  h.mono fun e w' hR => by
    cases e with
    | returned v => exact k v w' hR
    | panicked c => exact hR
    | outgrown => exact hR

/-- More than is gone through? -/
def great (xs : List AV) : Bool := decide (50 < xs.length) || xs.any bigA

theorem great_len {xs : List AV} (h : (50 : Int) < (xs.length : Int)) : true = great xs := by
  have : 50 < xs.length := by omega
  simp [great, this]
theorem great_at {xs : List AV} {k : Nat} (hk : k < xs.length) (h : (3000 : Int) < (xs[k].cb.length : Int) ∨ (100 : Int) < (xs[k].ss.length : Int)) : true = great xs := by
  have hb : bigA xs[k] = true := by
    unfold bigA
    rcases h with h | h
    · have : 3000 < xs[k].cb.length := by omega
      simp [this]
    · have : 100 < xs[k].ss.length := by omega
      simp [this]
  have : xs.any bigA = true := List.any_eq_true.2 ⟨xs[k], List.getElem_mem hk, hb⟩
  simp [great, this]
theorem great_step {xs : List AV} {k : Nat} (hk : k < xs.length) (h : ∀ i, (hi : i < xs.length) → i < k → bigA xs[i] = false) (h1 : ¬ (3000 : Int) < (xs[k].cb.length : Int)) (h2 : ¬ (100 : Int) < (xs[k].ss.length : Int)) :
    ∀ i, (hi : i < xs.length) → i < k + 1 → bigA xs[i] = false := fun i hi hik => by
  rcases Nat.lt_or_ge i k with h3 | h3
  · exact h i hi h3
  · have : i = k := by omega
    subst this
    unfold bigA
    have h4 : ¬ 3000 < xs[i].cb.length := by omega
    have h5 : ¬ 100 < xs[i].ss.length := by omega
    simp [h4, h5]
theorem great_no {xs : List AV} {k : Nat} (hl : ¬ (50 : Int) < (xs.length : Int)) (hk : ¬ (k : Int) < (xs.length : Int)) (h : ∀ i, (hi : i < xs.length) → i < k → bigA xs[i] = false) : false = great xs := by
  have h1 : ¬ 50 < xs.length := by omega
  have h2 : xs.any bigA = false := by
    rw [List.any_eq_false]
    intro x hx
    obtain ⟨i, hi, rfl⟩ := List.mem_iff_getElem.1 hx
    simp [h i hi (by omega)]
  simp [great, h1, h2]

/-- The same account? (the lists by what they hold) -/
def sameA (x y : AV) : Bool := x.addr == y.addr && (x.nonce == y.nonce && (x.bal == y.bal && (x.cb == y.cb && x.ss == y.ss)))
theorem sameA_refl (x : AV) : sameA x x = true := by simp [sameA]
theorem sameA_len {x y : AV} (h : (x.ss.length : Int) ≠ (y.ss.length : Int)) : false = sameA x y := by
  have : x.ss ≠ y.ss := fun e => h (by rw [e])
  simp [sameA, this]
theorem sameA_slot {x y : AV} {k : Nat} (hx : k < x.ss.length) (hy : k < y.ss.length) (h : x.ss[k] ≠ y.ss[k]) : false = sameA x y := by
  have : x.ss ≠ y.ss := fun e => h (by simp [e])
  simp [sameA, this]
theorem sameA_step {x y : AV} {k : Nat} (h : ∀ i, (hx : i < x.ss.length) → (hy : i < y.ss.length) → i < k → x.ss[i] = y.ss[i]) (hx : k < x.ss.length) (hy : k < y.ss.length) (he : x.ss[k] = y.ss[k]) :
    ∀ i, (hx : i < x.ss.length) → (hy : i < y.ss.length) → i < k + 1 → x.ss[i] = y.ss[i] := fun i h1 h2 h3 => by
  rcases Nat.lt_or_ge i k with h4 | h4
  · exact h i h1 h2 h4
  · have : i = k := by omega
    subst this; exact he
theorem sameA_yes {x y : AV} {k : Nat} (h1 : x.addr = y.addr) (h2 : x.nonce = y.nonce) (h3 : x.bal = y.bal) (h4 : x.cb = y.cb) (h5 : (x.ss.length : Int) = (y.ss.length : Int)) (hk : ¬ (k : Int) < (x.ss.length : Int))
    (h : ∀ i, (hx : i < x.ss.length) → (hy : i < y.ss.length) → i < k → x.ss[i] = y.ss[i]) : true = sameA x y := by
  have : x.ss = y.ss := List.ext_getElem (by omega) fun i hx hy => h i hx hy (by omega)
  simp [sameA, h1, h2, h3, h4, this]
end Go.Proofs.Ytafmgghpcneoeaa
