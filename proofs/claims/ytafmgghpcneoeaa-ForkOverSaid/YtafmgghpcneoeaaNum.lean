/- Plain laws on numbers and their digits. -/
import Derived.Test.YtafmgghpcneoeaaDat
namespace Go.Proofs.Ytafmgghpcneoeaa

/-- How two numbers stand to each other. -/
def ncmp (a b : Nat) : Int := if a = b then 0 else if a < b then -1 else 1

theorem dig_eq_above {b : Nat} (hb : 0 < b) (n : Nat) {x y : Nat} : ∀ (m k : Nat), k + m = n → x < b ^ n → y < b ^ n → (∀ i, k ≤ i → i < n → x / b ^ i % b = y / b ^ i % b) → x / b ^ k = y / b ^ k
  | 0, k, hk, hx, hy, _ => by
    have : k = n := by omega
    subst this
    rw [Nat.div_eq_of_lt hx, Nat.div_eq_of_lt hy]
  | m + 1, k, hk, hx, hy, h => by
    have h1 := dig_eq_above hb n m (k + 1) (by omega) hx hy (fun i h1 h2 => h i (by omega) h2)
    have h2 := h k (Nat.le_refl _) (by omega)
    have h3 : ∀ z : Nat, z / b ^ k = b * (z / b ^ (k + 1)) + z / b ^ k % b := fun z => by
      rw [Nat.pow_succ, ← Nat.div_div_eq_div_mul, Nat.div_add_mod]
    rw [h3 x, h3 y, h1, h2]

theorem dig_lt {b : Nat} (hb : 0 < b) (n : Nat) {x y : Nat} (hx : x < b ^ n) (hy : y < b ^ n) (k : Nat) (hk : k < n) (h : ∀ i, k < i → i < n → x / b ^ i % b = y / b ^ i % b) (hlt : x / b ^ k % b < y / b ^ k % b) : x < y := by
  have h1 := dig_eq_above hb n (x := x) (y := y) (n - (k + 1)) (k + 1) (by omega) hx hy (fun i h1 h2 => h i (by omega) h2)
  have h3 : ∀ z : Nat, z / b ^ k = b * (z / b ^ (k + 1)) + z / b ^ k % b := fun z => by
    rw [Nat.pow_succ, ← Nat.div_div_eq_div_mul, Nat.div_add_mod]
  have h4 : x / b ^ k < y / b ^ k := by rw [h3 x, h3 y, h1]; omega
  exact Nat.lt_of_not_le fun hle => absurd (Nat.div_le_div_right hle) (Nat.not_le.2 h4)

theorem dig_eq {b : Nat} (hb : 0 < b) (n : Nat) {x y : Nat} (hx : x < b ^ n) (hy : y < b ^ n) (h : ∀ i, i < n → x / b ^ i % b = y / b ^ i % b) : x = y := by
  have := dig_eq_above hb n (x := x) (y := y) n 0 (by omega) hx hy (fun i _ h2 => h i h2)
  simpa using this

theorem lb_inj {a b i : Nat} (h : lb a i = lb b i) : a / B64 ^ i % B64 = b / B64 ^ i % B64 := by
  unfold lb at h; exact_mod_cast h

theorem wcmp_all {a b k : Nat} (ha : a < NW) (hb : b < NW) (hs : ∀ i, k < i → i < 4 → lb a i = lb b i) (h : lb a k = lb b k) (hk : k = 0) : a = b :=
  dig_eq B64_pos 4 ha hb fun i hi => by
    rcases Nat.lt_or_ge k i with h1 | h1
    · exact lb_inj (hs i h1 hi)
    · have : i = k := by omega
      subst this; exact lb_inj h

theorem wcmp_next {a b k : Nat} (hs : ∀ i, k < i → i < 4 → lb a i = lb b i) (h : lb a k = lb b k) : ∀ i, k - 1 < i → i < 4 → lb a i = lb b i := fun i h1 h2 => by
  rcases Nat.lt_or_ge k i with h3 | h3
  · exact hs i h3 h2
  · have : i = k := by omega
    subst this; exact h

theorem wcmp_pos {a b k : Nat} (ha : a < NW) (hb : b < NW) (hs : ∀ i, k < i → i < 4 → lb a i = lb b i) (h : lb a k = lb b k) (hne : a ≠ b) : 0 < k := by
  rcases Nat.eq_zero_or_pos k with h0 | h0
  · exact absurd (wcmp_all ha hb hs h h0) hne
  · exact h0

theorem ncmp_eq {a b : Nat} (h : a = b) : (0 : Int) = ncmp a b := by simp [ncmp, h]
theorem ncmp_lt {a b : Nat} (h : a < b) : (-1 : Int) = ncmp a b := by unfold ncmp; rw [if_neg (by omega), if_pos h]
theorem ncmp_gt {a b : Nat} (h : b < a) : (1 : Int) = ncmp a b := by unfold ncmp; rw [if_neg (by omega), if_neg (by omega)]

theorem wcmp_lt {a b k : Nat} (ha : a < NW) (hb : b < NW) (hk : k ≤ 3) (hs : ∀ i, k < i → i < 4 → lb a i = lb b i) (h : lb a k < lb b k) : (-1 : Int) = ncmp a b :=
  ncmp_lt (dig_lt B64_pos 4 ha hb k (by omega) (fun i h1 h2 => lb_inj (hs i h1 h2)) (by unfold lb at h; exact_mod_cast h))
theorem wcmp_gt {a b k : Nat} (ha : a < NW) (hb : b < NW) (hk : k ≤ 3) (hs : ∀ i, k < i → i < 4 → lb a i = lb b i) (hn : lb a k ≠ lb b k) (h : ¬ lb a k < lb b k) : (1 : Int) = ncmp a b :=
  ncmp_gt (dig_lt B64_pos 4 hb ha k (by omega) (fun i h1 h2 => (lb_inj (hs i h1 h2)).symm) (by unfold lb at h hn; omega))

theorem veq {k : Go.IntKind} {a b : Int} (h : a = b) : Go.Value.int k a = Go.Value.int k b := by rw [h]
theorem vbq {a b : Bool} (h : a = b) : Go.Value.bool a = Go.Value.bool b := by rw [h]
theorem adr_put1 : Put (adrC 0) (19 * 1) [Go.Value.int .u8 1] (adrC 1) := by
  have := Put.one (adrC 0) (o := 19) (Go.Value.int .u8 1) (by simp)
  have e : (adrC 0).set 19 (Go.Value.int .u8 1) = adrC 1 := by simp [adrC, le]
  rw [e] at this; exact this

def g0 : Gh := fun _ => none
theorem has0 (w : Go.World) : Has w g0 := fun _ _ h => by cases h
end Go.Proofs.Ytafmgghpcneoeaa
