/- Numbers as 32 digits, each in a cell; the reference's words. -/
import Derived.Test.YtafmgghpcneoeaaApp
namespace Go.Proofs.Ytafmgghpcneoeaa
open Go Go.BigFrame

def dg (a i : Nat) : Int := ((a / 256 ^ i % 256 : Nat) : Int)
theorem dg_bd (a i : Nat) : 0 ≤ dg a i ∧ dg a i < 256 := by
  unfold dg
  have := Nat.mod_lt (a / 256 ^ i) (by decide : 0 < 256)
  omega
def dC (a : Nat) : List Value := (le 256 32 a).map (Value.int .i64)
@[simp] theorem dC_length (a : Nat) : (dC a).length = 32 := by simp [dC]
theorem dC_get (a i : Nat) (h : i < 32) : (dC a)[i]? = some (.int .i64 (dg a i)) := by
  simp [dC, le_get 256 32 a i h, dg]
theorem d_seg (a : Nat) {i : Int} (h0 : 0 ≤ i) (h : i < 32) : Seg (dC a) (0 + i.toNat * 1) [.int .i64 (dg a i.toNat)] := fun j v hj => by
  cases j with
  | succ j => simp at hj
  | zero =>
    simp only [List.getElem?_cons_zero, Option.some.injEq] at hj
    rw [← hj, show 0 + i.toNat * 1 + 0 = i.toNat by omega]
    exact dC_get a _ (by omega)
theorem One.d (a : Nat) : One (dC a) := fun v hv => by
  obtain ⟨x, _, rfl⟩ := List.mem_map.1 hv
  rfl
def dPre (a k : Nat) : List Value := (dC a).take k ++ List.replicate (32 - k) (.int .i64 0)
theorem dPre_zero (a : Nat) : dPre a 0 = List.replicate 32 (.int .i64 0) := by simp [dPre]
theorem dPre_all (a : Nat) : dPre a 32 = dC a := by
  unfold dPre
  rw [List.take_of_length_le (by simp), Nat.sub_self, List.replicate_zero, List.append_nil]
theorem dPre_length (a k : Nat) (h : k ≤ 32) : (dPre a k).length = 32 := by
  simp [dPre]; omega
theorem dPre_put (a k : Nat) (h : k < 32) : Put (dPre a k) (0 + (k : Int).toNat * 1) [.int .i64 (dg a k)] (dPre a (k + 1)) := by
  have h1 := Put.one (dPre a k) (o := k) (.int .i64 (dg a k)) (by rw [dPre_length a k (by omega)]; exact h)
  have e : (dPre a k).set k (.int .i64 (dg a k)) = dPre a (k + 1) := by
    apply List.ext_getElem?
    intro j
    have hl : ((dC a).take k).length = k := by simp; omega
    have hl' : ((dC a).take (k + 1)).length = k + 1 := by simp; omega
    rw [List.getElem?_set]
    unfold dPre
    by_cases hj : k = j
    · subst hj
      rw [if_pos rfl, if_pos (by simp; omega), List.getElem?_append_left (by omega), List.getElem?_take, if_pos (by omega), dC_get a k h]
    · rw [if_neg hj]
      by_cases hlt : j < k
      · rw [List.getElem?_append_left (by omega), List.getElem?_append_left (by omega), List.getElem?_take, List.getElem?_take, if_pos hlt, if_pos (by omega)]
      · rw [List.getElem?_append_right (by omega), List.getElem?_append_right (by omega), hl, hl', List.getElem?_replicate, List.getElem?_replicate]
        by_cases h3 : j < 32
        · rw [if_pos (by omega), if_pos (by omega)]
        · rw [if_neg (by omega), if_neg (by omega)]
  rw [e] at h1
  have e2 : 0 + (k : Int).toNat * 1 = k := by omega
  rw [e2]; exact h1

/-- A limb's byte is the number's. -/
theorem limb_byte (a k : Nat) : a / B64 ^ (k / 8) % B64 / 2 ^ (8 * (k % 8)) % 256 = a / 256 ^ k % 256 := by
  have e64 : B64 = 2 ^ (8 * (k % 8)) * 2 ^ (64 - 8 * (k % 8)) := by
    rw [← Nat.pow_add]
    have : 8 * (k % 8) + (64 - 8 * (k % 8)) = 64 := by omega
    rw [this]; rfl
  have e1 : a / B64 ^ (k / 8) % B64 / 2 ^ (8 * (k % 8)) = a / B64 ^ (k / 8) / 2 ^ (8 * (k % 8)) % 2 ^ (64 - 8 * (k % 8)) := by
    have key : ∀ x p q : Nat, x % (p * q) / p = x / p % q := fun x p q => Nat.mod_mul_right_div_self _ _ _
    have := key (a / B64 ^ (k / 8)) (2 ^ (8 * (k % 8))) (2 ^ (64 - 8 * (k % 8)))
    rw [← e64] at this; exact this
  rw [e1, Nat.mod_mod_of_dvd _ (by
    rw [show 64 - 8 * (k % 8) = 8 + (56 - 8 * (k % 8)) by omega, Nat.pow_add]
    exact Nat.dvd_mul_right _ _), Nat.div_div_eq_div_mul]
  congr 2
  have e2 : B64 = 2 ^ 64 := rfl
  rw [e2, ← Nat.pow_mul, ← Nat.pow_add, show (256 : Nat) = 2 ^ 8 from rfl, ← Nat.pow_mul]
  congr 1
  omega

theorem NW_256 : NW = 256 ^ 32 := by decide
theorem dg_inj {a b i : Nat} (h : dg a i = dg b i) : a / 256 ^ i % 256 = b / 256 ^ i % 256 := by
  unfold dg at h; exact_mod_cast h
theorem dcmp_next {a b k : Nat} (hs : ∀ i : Nat, (k : Int) < i → i < 32 → dg a i = dg b i) (h1 : ¬ dg a k < dg b k) (h2 : ¬ dg b k < dg a k) : ∀ i : Nat, (k : Int) - 1 < i → i < 32 → dg a i = dg b i := fun i h3 h4 => by
  by_cases h5 : (k : Int) < i
  · exact hs i h5 h4
  · have : i = k := by omega
    subst this; omega
theorem dcmp_lt {a b k : Nat} (ha : a < NW) (hb : b < NW) (hk : (k : Int) ≤ 31) (hs : ∀ i : Nat, (k : Int) < i → i < 32 → dg a i = dg b i) (h : dg a k < dg b k) : (-1 : Int) = ncmp a b :=
  ncmp_lt (dig_lt (by decide : 0 < 256) 32 (NW_256 ▸ ha) (NW_256 ▸ hb) k (by omega) (fun i h1 h2 => dg_inj (hs i (by omega) h2)) (by unfold dg at h; exact_mod_cast h))
theorem dcmp_gt {a b k : Nat} (ha : a < NW) (hb : b < NW) (hk : (k : Int) ≤ 31) (hs : ∀ i : Nat, (k : Int) < i → i < 32 → dg a i = dg b i) (h : dg b k < dg a k) : (1 : Int) = ncmp a b :=
  ncmp_gt (dig_lt (by decide : 0 < 256) 32 (NW_256 ▸ hb) (NW_256 ▸ ha) k (by omega) (fun i h1 h2 => (dg_inj (hs i (by omega) h2)).symm) (by unfold dg at h; exact_mod_cast h))
theorem dcmp_eq {a b : Nat} {z : Int} (ha : a < NW) (hb : b < NW) (hz : -1 ≤ z) (hs : ∀ i : Nat, z < i → i < 32 → dg a i = dg b i) (h : ¬ 0 ≤ z) : (0 : Int) = ncmp a b :=
  ncmp_eq (dig_eq (by decide : 0 < 256) 32 (NW_256 ▸ ha) (NW_256 ▸ hb) (fun i h2 => dg_inj (hs i (by omega) h2)))

theorem ncmp_neg (a b : Nat) : decide (ncmp a b < 0) = decide (a < b) := by
  unfold ncmp
  by_cases h : a = b
  · subst h; simp
  · by_cases h2 : a < b
    · simp [h, h2]
    · simp [h, h2]
theorem ncmp_lss {a b : Nat} (h : ncmp a b < 0) : a < b := of_decide_eq_true ((ncmp_neg a b).symm.trans (decide_eq_true h))
theorem ncmp_nlss {a b : Nat} (h : 0 ≤ ncmp a b) : ¬ a < b := of_decide_eq_false ((ncmp_neg a b).symm.trans (decide_eq_false (by omega)))

def findA (xs : List AV) (a : Nat) : Option AV := xs.find? fun x => x.addr == a
def findD (xs : List AV) (a : Nat) : AV := (findA xs a).getD (avE 0)
theorem find_step {xs : List AV} {a k : Nat} (hlt : k < xs.length) (hall : ∀ i, (hi : i < xs.length) → i < k → xs[i].addr ≠ a) (h : xs[k].addr ≠ a) : ∀ i, (hi : i < xs.length) → i < k + 1 → xs[i].addr ≠ a := fun i hi hik => by
  by_cases h1 : i < k
  · exact hall i hi h1
  · have : i = k := by omega
    subst this; exact h
theorem findA_at {xs : List AV} {a k : Nat} (hlt : k < xs.length) (hall : ∀ i, (hi : i < xs.length) → i < k → xs[i].addr ≠ a) (h : xs[k].addr = a) : findA xs a = some xs[k] := by
  unfold findA
  rw [List.find?_eq_some_iff_getElem]
  refine ⟨by simpa using h, k, hlt, rfl, fun j hj => ?_⟩
  simpa using hall j (by omega) hj
theorem findA_no {xs : List AV} {a k : Nat} (hk : xs.length ≤ k) (hall : ∀ i, (hi : i < xs.length) → i < k → xs[i].addr ≠ a) : findA xs a = none := by
  unfold findA
  rw [List.find?_eq_none]
  intro x hx
  obtain ⟨i, hi, rfl⟩ := List.mem_iff_getElem.1 hx
  simpa using hall i hi (by omega)
theorem find_at {xs : List AV} {a k : Nat} (hlt : k < xs.length) (hall : ∀ i, (hi : i < xs.length) → i < k → xs[i].addr ≠ a) (h : xs[k].addr = a) :
    Value.tuple #[.agg (avC xs[k]).toArray, .bool true] = .tuple #[.agg (avC (findD xs a)).toArray, .bool (findA xs a).isSome] := by
  unfold findD; rw [findA_at hlt hall h]; rfl
theorem find_no {xs : List AV} {a k : Nat} (hk : xs.length ≤ k) (hall : ∀ i, (hi : i < xs.length) → i < k → xs[i].addr ≠ a) :
    Value.tuple #[.agg (avC (avE 0)).toArray, .bool false] = .tuple #[.agg (avC (findD xs a)).toArray, .bool (findA xs a).isSome] := by
  unfold findD; rw [findA_no hk hall]; rfl
theorem one_bytes (bs : List Int) : ∀ r ∈ byteRows bs, r.length = 1 ∧ One r := fun r hr => by
  obtain ⟨b, _, rfl⟩ := List.mem_map.1 hr
  exact ⟨rfl, One.one rfl⟩
theorem one_slots (ss : List (Nat × Nat)) : ∀ r ∈ slotRows ss, r.length = 8 ∧ One r := fun r hr => by
  obtain ⟨b, _, rfl⟩ := List.mem_map.1 hr
  exact ⟨slotC_length _, One.slot _⟩
theorem AOk.own {g : Gh} {x : AV} {cv sv : Value} (h : AOk g x) (hc : SlAt g 1 (byteRows x.cb) cv) (hs : SlAt g 8 (slotRows x.ss) sv) : AOk g { x with code := cv, stor := sv } :=
  ⟨h.addr, h.bal, h.nonce, hc, hs, h.bytes, h.slots, h.small⟩

/-- A slot that may stand where it stands. -/
def slotOk (ss : List (Nat × Nat)) (i : Nat) (h : i < ss.length) : Prop := ss[i].2 ≠ 0 ∧ (0 < i → ss[i - 1].1 < ss[i].1)
def rightS : List (Nat × Nat) → Bool
  | [] => true
  | [s] => s.2 != 0
  | s :: t :: r => s.2 != 0 && decide (s.1 < t.1) && rightS (t :: r)
def rightA (x : AV) : Bool := rightS x.ss
theorem rightS_iff : ∀ ss : List (Nat × Nat), rightS ss = true ↔ ∀ i (h : i < ss.length), slotOk ss i h
  | [] => by simp [rightS]
  | [s] => by
    simp only [rightS, slotOk, bne_iff_ne, List.length_singleton]
    constructor
    · intro h i hi
      have : i = 0 := by omega
      subst this
      exact ⟨h, fun h0 => absurd h0 (by omega)⟩
    · intro h
      exact (h 0 (by omega)).1
  | s :: t :: r => by
    have ih := rightS_iff (t :: r)
    simp only [rightS, Bool.and_eq_true, bne_iff_ne, decide_eq_true_eq, ih]
    constructor
    · rintro ⟨⟨h1, h2⟩, h3⟩ i hi
      match i, hi with
      | 0, _ => exact ⟨h1, fun h0 => absurd h0 (by omega)⟩
      | 1, hi => exact ⟨(h3 0 (by simp)).1, fun _ => h2⟩
      | i + 2, hi =>
        have := h3 (i + 1) (by simpa using hi)
        exact ⟨this.1, fun _ => this.2 (by omega)⟩
    · intro h
      refine ⟨⟨(h 0 (by simp)).1, (h 1 (by simp)).2 (by omega)⟩, fun i hi => ?_⟩
      have := h (i + 1) (by simpa using hi)
      refine ⟨this.1, fun h0 => ?_⟩
      have h4 := this.2 (by omega)
      obtain ⟨j, rfl⟩ : ∃ j, i = j + 1 := ⟨i - 1, by omega⟩
      simpa using h4
theorem right_step {x : AV} {k : Nat} (hlx : k < x.ss.length) (hall : ∀ i, (hx : i < x.ss.length) → i < k → slotOk x.ss i hx) (h0 : ¬ x.ss[k].2 = 0) (h1 : 0 < k → x.ss[k - 1].1 < x.ss[k].1) : ∀ i, (hx : i < x.ss.length) → i < k + 1 → slotOk x.ss i hx := fun i hx hi => by
  by_cases h : i < k
  · exact hall i hx h
  · have : i = k := by omega
    subst this
    exact ⟨h0, h1⟩
theorem right_no0 {x : AV} {k : Nat} (hlx : k < x.ss.length) (h : x.ss[k].2 = 0) : false = rightA x := by
  cases h1 : rightA x with
  | false => rfl
  | true => exact absurd h ((rightS_iff _).1 h1 k hlx).1
theorem right_no1 {x : AV} {k : Nat} (hlx : k < x.ss.length) (h0 : 0 < k) (h : ¬ x.ss[k - 1].1 < x.ss[k].1) : false = rightA x := by
  cases h1 : rightA x with
  | false => rfl
  | true => exact absurd (((rightS_iff _).1 h1 k hlx).2 h0) h
theorem right_yes {x : AV} {k : Nat} (hk : x.ss.length ≤ k) (hall : ∀ i, (hx : i < x.ss.length) → i < k → slotOk x.ss i hx) : true = rightA x :=
  ((rightS_iff _).2 fun i h => hall i h (by omega)).symm

section
variable {P : Program} {ops : Array Oper} {S : World → Prop} {rp : Nat → Bool} {Q : Act → World → Prop}
variable {rest : List Oper} {l : List Value} {w : World} {d : Nat} {ty : TypeId} {pos : String} {af : Array Edge} {gd : Option (Nat × Bool)}

theorem TL.shrN {t u : TypeId} {x y : Operand} {k j : IntKind} {a n : Nat} (z : Int) (hx : ev l x = .int k (a : Int)) (hy : ev l y = .int j (n : Int)) (hn : n ≤ k.bits) (hz : ((a / 2 ^ n : Nat) : Int) = z)
    (hg : Region.wanted ⟨some d, .binOp .shr t x y u, ty, pos, af, gd⟩ (yielded ops (F l).tmps) = true)
    (h : TL P ops S rp Q rest (F (l.set d (.int k z))) w) : TL P ops S rp Q (⟨some d, .binOp .shr t x y u, ty, pos, af, gd⟩ :: rest) (F l) w :=
  TL.bin _ (fun w' => by
    have h1 : (eqGuard .shr t x y (.int k (a : Int)) (.int j (n : Int))).run P w' = .ok () w' := eqGuard_int w'
    rw [hx, hy, Sem.run_bind, h1, Result.andThen_ok]
    have e : ((a : Int)).fdiv (2 ^ n) = z := by
      rw [← hz, Int.natCast_ediv, Int.fdiv_eq_ediv_of_nonneg _ (Int.le_of_lt (Int.pow_pos (by decide)))]
      simp
    have e2 : min ((n : Int)).toNat k.bits = n := by omega
    show (Op.shift .shr k (a : Int) j (n : Int)).run P w' = _
    unfold Op.shift
    rw [if_neg (by omega)]
    simp only [e2, e]
    rfl) hg h
end
end Go.Proofs.Ytafmgghpcneoeaa
