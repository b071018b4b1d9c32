/- Words, addresses, hashes: as numbers, and their cells. -/
import Derived.Test.YtafmgghpcneoeaaCtl
namespace Go.Proofs.Ytafmgghpcneoeaa
open Go

def le (b : Nat) : Nat → Nat → List Int
  | 0, _ => []
  | n + 1, a => ((a % b : Nat) : Int) :: le b n (a / b)

@[simp] theorem le_length (b : Nat) : ∀ n a, (le b n a).length = n
  | 0, _ => rfl
  | n + 1, a => by simp [le, le_length b n]

theorem le_inj {b : Nat} (hb : 0 < b) : ∀ n {a c : Nat}, a < b ^ n → c < b ^ n → le b n a = le b n c → a = c
  | 0, a, c, ha, hc, _ => by simp at ha hc; omega
  | n + 1, a, c, ha, hc, h => by
    simp only [le, List.cons.injEq] at h
    obtain ⟨h1, h2⟩ := h
    have h3 : a % b = c % b := by exact_mod_cast h1
    have h4 : a / b = c / b := le_inj hb n (by rw [Nat.div_lt_iff_lt_mul hb]; rwa [Nat.pow_succ] at ha) (by rw [Nat.div_lt_iff_lt_mul hb]; rwa [Nat.pow_succ] at hc) h2
    rw [← Nat.div_add_mod a b, ← Nat.div_add_mod c b, h3, h4]

theorem le_get (b : Nat) : ∀ n a i, i < n → (le b n a)[i]? = some ((a / b ^ i % b : Nat) : Int)
  | 0, _, _, h => by omega
  | n + 1, a, 0, _ => by simp [le]
  | n + 1, a, i + 1, h => by
    simp only [le, List.getElem?_cons_succ]
    rw [le_get b n (a / b) i (by omega), Nat.div_div_eq_div_mul, Nat.pow_succ, Nat.mul_comm b]

theorem le_mem {b : Nat} (hb : 0 < b) : ∀ n a x, x ∈ le b n a → 0 ≤ x ∧ x < b
  | 0, _, _, h => by cases h
  | n + 1, a, x, h => by
    simp only [le, List.mem_cons] at h
    rcases h with rfl | h
    · have := Nat.mod_lt a hb
      exact ⟨by omega, by exact_mod_cast this⟩
    · exact le_mem hb n _ x h

/-- The number whose digits these are. -/
def ofLe (b : Nat) : List Int → Nat
  | [] => 0
  | x :: xs => x.toNat + b * ofLe b xs

theorem ofLe_lt {b : Nat} (hb : 0 < b) : ∀ (l : List Int), (∀ x ∈ l, 0 ≤ x ∧ x < b) → ofLe b l < b ^ l.length
  | [], _ => by simp [ofLe]
  | x :: xs, h => by
    have h1 := h x (by simp)
    have h2 := ofLe_lt hb xs (fun y hy => h y (by simp [hy]))
    simp only [ofLe, List.length_cons, Nat.pow_succ]
    have h3 : x.toNat < b := by omega
    have h4 : ofLe b xs + 1 ≤ b ^ xs.length := h2
    have h5 := Nat.mul_le_mul_left b h4
    rw [Nat.mul_comm (b ^ xs.length) b]
    rw [Nat.mul_add] at h5
    omega

theorem le_ofLe {b : Nat} (hb : 0 < b) : ∀ (l : List Int), (∀ x ∈ l, 0 ≤ x ∧ x < b) → le b l.length (ofLe b l) = l
  | [], _ => rfl
  | x :: xs, h => by
    have h1 := h x (by simp)
    have h3 : x.toNat < b := by omega
    simp only [List.length_cons, le, ofLe]
    rw [Nat.add_mul_mod_self_left, Nat.mod_eq_of_lt h3, Nat.add_mul_div_left _ _ hb, Nat.div_eq_of_lt h3, Nat.zero_add, le_ofLe hb xs (fun y hy => h y (by simp [hy]))]
    congr 1
    omega

def B64 : Nat := 18446744073709551616
theorem B64_pos : 0 < B64 := by decide
/-- How many words there are; addresses; hashes. -/
def NW : Nat := B64 ^ 4
def NA : Nat := 256 ^ 20
def NH : Nat := 256 ^ 32

def wdC (a : Nat) : List Value := (le B64 4 a).map (Value.int .u64)
def adrC (a : Nat) : List Value := (le 256 20 a).reverse.map (Value.int .u8)
def hashC (a : Nat) : List Value := (le 256 32 a).reverse.map (Value.int .u8)

@[simp] theorem wdC_length (a : Nat) : (wdC a).length = 4 := by simp [wdC]
@[simp] theorem adrC_length (a : Nat) : (adrC a).length = 20 := by simp [adrC]
@[simp] theorem hashC_length (a : Nat) : (hashC a).length = 32 := by simp [hashC]

theorem One.map (k : IntKind) (l : List Int) : One (l.map (Value.int k)) := fun u hu => by
  obtain ⟨x, _, rfl⟩ := List.mem_map.1 hu; rfl
theorem One.wd (a : Nat) : One (wdC a) := One.map _ _
theorem One.adr (a : Nat) : One (adrC a) := One.map _ _
theorem One.hash (a : Nat) : One (hashC a) := One.map _ _

/-- A limb of a word. -/
def lb (a i : Nat) : Int := ((a / B64 ^ i % B64 : Nat) : Int)
theorem lb_bd (a i : Nat) : 0 ≤ lb a i ∧ lb a i < B64 := by
  unfold lb
  have := Nat.mod_lt (a / B64 ^ i) B64_pos
  exact ⟨by omega, by exact_mod_cast this⟩
theorem wdC_get (a i : Nat) (h : i < 4) : (wdC a)[i]? = some (.int .u64 (lb a i)) := by
  simp [wdC, le_get B64 4 a i h, lb]

theorem wd_seg (a : Nat) {i : Int} (h0 : 0 ≤ i) (h : i < 4) : Seg (wdC a) (0 + i.toNat * 1) [.int .u64 (lb a i.toNat)] := fun j v hj => by
  have hj0 : j = 0 := by
    have := (List.getElem?_eq_some_iff.1 hj).1
    simpa using this
  subst hj0
  simp at hj; subst hj
  rw [Nat.zero_add, Nat.mul_one, Nat.add_zero]
  exact wdC_get a _ (by omega)

theorem wdC_zero : wdC 0 = [Value.int .u64 0, .int .u64 0, .int .u64 0, .int .u64 0] := by simp [wdC, le]
theorem adrC_zero : adrC 0 = List.replicate 20 (.int .u8 0) := by simp [adrC, le]
theorem hashC_zero : hashC 0 = List.replicate 32 (.int .u8 0) := by simp [hashC, le]

section
variable {P : Program}

theorem all_eq {xs ys : List Int} (h : xs.length = ys.length) : ((List.range xs.length).all fun i => xs.getD i 0 == ys.getD i 0) = (xs == ys) := by
  induction xs generalizing ys with
  | nil => cases ys with
    | nil => rfl
    | cons y ys => simp at h
  | cons x xs ih =>
    cases ys with
    | nil => simp at h
    | cons y ys =>
      have ih := ih (ys := ys) (by simpa using h)
      rw [List.length_cons, List.range_succ_eq_map, List.all_cons, List.all_map]
      simp only [List.getD_cons_zero, Function.comp_def, List.getD_cons_succ, ih]
      simp [List.cons_beq_cons]

theorem run_equalIn_ints (w : World) (d : Nat) (t e : TypeId) (n : Nat) (k : IntKind) (ht : P.underlying t = some (.array n e)) (he : P.underlying e = some (.int k)) (hs : (P.info? e).map (·.size) = some 1)
    (xs ys : List Int) (hx : xs.length = n) (hy : ys.length = n) :
    (Op.equalIn (d + 2) t (.agg (xs.map (Value.int k)).toArray) (.agg (ys.map (Value.int k)).toArray)).run P w = .ok (xs == ys) w := by
  rw [← all_eq (hx.trans hy.symm), hx, List.range_eq_range', Op.equalIn]
  have hsz : (sizeOf e).run P w = .ok 1 w := run_sizeOf' hs w
  simp only [Sem.run_bind, run_underlying ht, Result.andThen_ok, hsz, Std.Legacy.Range.forIn_eq_forIn_range', Std.Legacy.Range.size, Nat.sub_zero, Nat.add_sub_cancel, Nat.div_one]
  have hl : ∀ i ∈ List.range' 0 n 1, i < n := fun i hi => by simpa using (List.mem_range'_1.1 hi).2
  generalize List.range' 0 n 1 = l at hl ⊢
  induction l with
  | nil => simp
  | cons i l ih =>
    have hi : i < n := hl i (by simp)
    have px : (part e (xs.map (Value.int k)).toArray (i * 1)).run P w = .ok (.int k (xs.getD i 0)) w := by
      simp [part, isAgg, run_underlying he, List.getD, List.getElem?_eq_getElem (show i < xs.length by omega)]
    have py : (part e (ys.map (Value.int k)).toArray (i * 1)).run P w = .ok (.int k (ys.getD i 0)) w := by
      simp [part, isAgg, run_underlying he, List.getD, List.getElem?_eq_getElem (show i < ys.length by omega)]
    have pe : (Op.equalIn (d + 1) e (.int k (xs.getD i 0)) (.int k (ys.getD i 0))).run P w = .ok (xs.getD i 0 == ys.getD i 0) w :=
      run_equalIn_int w d e k k _ _ he
    simp only [List.forIn_cons, Sem.run_bind, px, py, pe, Result.andThen_ok, List.all_cons]
    cases hb : (xs.getD i 0 == ys.getD i 0)
    · simp
    · simp only [Bool.not_true, Bool.false_eq_true, if_false, Sem.run_pure, Result.andThen_ok, Bool.true_and]
      exact ih fun j hj => hl j (by simp [hj])

theorem beq_of_iff {α β : Type} [BEq α] [LawfulBEq α] [BEq β] [LawfulBEq β] {a b : α} {c d : β} (h : a = b ↔ c = d) : (a == b) = (c == d) := by
  rw [Bool.eq_iff_iff]; simp [h]

theorem EQ.wd {t e : TypeId} (ht : P.underlying t = some (.array 4 e)) (he : P.underlying e = some (.int .u64)) (hs : (P.info? e).map (·.size) = some 1) (hg : P.eqGuardType P.depth t = false) : EQ P t wdC NW :=
  ⟨fun a b ha hb w => by
    unfold wdC
    rw [run_equalIn_ints w 9998 t e 4 .u64 ht he hs _ _ (by simp) (by simp)]
    congr 1
    exact beq_of_iff ⟨fun h => le_inj B64_pos 4 ha hb h, fun h => by rw [h]⟩, hg⟩
theorem EQ.adr {t e : TypeId} (ht : P.underlying t = some (.array 20 e)) (he : P.underlying e = some (.int .u8)) (hs : (P.info? e).map (·.size) = some 1) (hg : P.eqGuardType P.depth t = false) : EQ P t adrC NA :=
  ⟨fun a b ha hb w => by
    unfold adrC
    rw [run_equalIn_ints w 9998 t e 20 .u8 ht he hs _ _ (by simp) (by simp)]
    congr 1
    exact beq_of_iff ⟨fun h => le_inj (by decide) 20 ha hb (List.reverse_inj.1 h), fun h => by rw [h]⟩, hg⟩
theorem EQ.hash {t e : TypeId} (ht : P.underlying t = some (.array 32 e)) (he : P.underlying e = some (.int .u8)) (hs : (P.info? e).map (·.size) = some 1) (hg : P.eqGuardType P.depth t = false) : EQ P t hashC NH :=
  ⟨fun a b ha hb w => by
    unfold hashC
    rw [run_equalIn_ints w 9998 t e 32 .u8 ht he hs _ _ (by simp) (by simp)]
    congr 1
    exact beq_of_iff ⟨fun h => le_inj (by decide) 32 ha hb (List.reverse_inj.1 h), fun h => by rw [h]⟩, hg⟩
end
end Go.Proofs.Ytafmgghpcneoeaa
