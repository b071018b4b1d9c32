/- What the cache, the store and their references come to, in plain Lean. -/
import Derived.Test.YtafmgghpcneoeaaF4
import Derived.Test.YtafmgghpcneoeaaPm
namespace Go.Proofs.Ytafmgghpcneoeaa
open Go
set_option maxRecDepth 100000

/-- An account that is small, its keys words. -/
structure AcOk (x : T_api_Account) : Prop where
  code : x.fCode.length ≤ 3000
  stor : x.fStorage.length ≤ 100
  keys : ∀ s ∈ x.fStorage, W4 s.fKey

theorem Great_spec (xs : List T_api_Account) (Q : Bool → Prop) (h1 : Q true) (h2 : (xs.length ≤ 50 ∧ ∀ x ∈ xs, x.fCode.length ≤ 3000 ∧ x.fStorage.length ≤ 100) → Q false) : smithyref13_Great xs Q := by
  unfold smithyref13_Great
  refine ⟨fun _ => h1, fun hl => ⟨fun x => ∃ k : Nat, x = (k : Int) ∧ k ≤ xs.length ∧ ∀ i (h : i < xs.length), i < k → xs[i].fCode.length ≤ 3000 ∧ xs[i].fStorage.length ≤ 100, fun x => (xs.length - x).toNat, ⟨0, rfl, by omega, fun i _ h => by omega⟩, ?_⟩⟩
  rintro _ ⟨k, rfl, hk, hP⟩
  refine ⟨fun hx => ⟨by omega, hx, fun _ => h1, fun hc => ⟨by omega, hx, fun _ => h1, fun hs => ⟨by simp only [inR]; omega, ⟨k + 1, by omega, by omega, fun i hi hik => ?_⟩, by dsimp only; omega⟩⟩⟩, fun hx => h2 ⟨by omega, fun x hm => ?_⟩⟩
  · by_cases he : i = k
    · subst he
      rw [nth_get hi] at hc hs
      omega
    · exact hP i hi (by omega)
  · obtain ⟨i, hi, rfl⟩ := List.mem_iff_getElem.1 hm
    exact hP i hi (by omega)

theorem Same_refl (x : T_api_Account) (hx : x.fStorage.length ≤ 1000000) (Q : Bool → Prop) (h : Q true) : smithyref13_Same x x Q := by
  unfold smithyref13_Same
  refine ⟨fun h' => absurd rfl h', fun _ => ⟨fun h' => absurd rfl h', fun _ => ⟨fun h' => absurd rfl h', fun _ => ⟨fun h' => absurd rfl h', fun _ => ⟨fun h' => absurd rfl h', fun _ => ?_⟩⟩⟩⟩⟩
  refine ⟨fun z => ∃ k : Nat, z = (k : Int) ∧ k ≤ x.fStorage.length, fun z => (x.fStorage.length - z).toNat, ⟨0, rfl, by omega⟩, ?_⟩
  rintro _ ⟨k, rfl, hk⟩
  exact ⟨fun hx => ⟨by omega, hx, by omega, hx, fun h' => absurd rfl h', fun _ => ⟨by simp only [inR]; omega, ⟨k + 1, by omega, by omega⟩, by dsimp only; omega⟩⟩, fun _ => h⟩

theorem CloneB_spec (l : List Int) (hl : l.length ≤ 1000000) (Q : List Int → Prop) (h : Q l) : slices_Clone_l_byte_byte l Q :=
  fun b hb => ⟨fun h1 => by rw [hb h1] at h; exact h, fun _ => ⟨by simp; omega, h⟩⟩
theorem CloneS_spec (l : List T_api_Slot) (hl : l.length ≤ 1000000) (Q : List T_api_Slot → Prop) (h : Q l) : slices_Clone_l_api_Slot_api_Slot l Q :=
  fun b hb => ⟨fun h1 => by rw [hb h1] at h; exact h, fun _ => ⟨by simp; omega, h⟩⟩
theorem own_spec (x : T_api_Account) (h1 : x.fCode.length ≤ 1000000) (h2 : x.fStorage.length ≤ 1000000) (Q : T_api_Account → Prop) (h : Q x) : fork_own x Q :=
  CloneB_spec _ h1 _ (CloneS_spec _ h2 _ h)
theorem sown_spec (x : T_api_Account) (h1 : x.fCode.length ≤ 1000000) (h2 : x.fStorage.length ≤ 1000000) (Q : T_api_Account → Prop) (h : Q x) : store_own x Q :=
  CloneB_spec _ h1 _ (CloneS_spec _ h2 _ h)

/-! ### The order of words -/
theorem wcmp_spec (a b : Ar 4) (ha : W4 a) (hb : W4 b) (Q : Int → Prop) (h : Q (ncmp (vN a) (vN b))) : word_Compare a b Q := by
  unfold word_Compare
  refine ⟨fun e => by subst e; rw [← ncmp_eq rfl] at h; exact h, fun hne => ?_⟩
  have hne' : vN a ≠ vN b := fun e => hne (vN_inj ha hb e)
  refine ⟨fun x => ∃ k : Nat, x = (k : Int) ∧ k ≤ 3 ∧ ∀ i, k < i → i < 4 → lb (vN a) i = lb (vN b) i, fun x => x.toNat, ⟨3, rfl, by omega, fun i h1 h2 => by omega⟩, ?_⟩
  rintro _ ⟨k, rfl, hk, hs⟩
  have ea := g_lb ha (i := k) (by omega)
  have eb := g_lb hb (i := k) (by omega)
  rw [ea, eb]
  refine ⟨by omega, by omega, by omega, by omega, fun he => ?_, fun hn => ⟨by omega, by omega, by omega, by omega, fun hlt => ?_, fun hnl => ?_⟩⟩
  · have hp := wcmp_pos (vN_lt ha) (vN_lt hb) hs he hne'
    exact ⟨by simp only [inR]; omega, ⟨k - 1, by omega, by omega, wcmp_next hs he⟩, by dsimp only; omega⟩
  · rw [wcmp_lt (vN_lt ha) (vN_lt hb) hk hs hlt]; exact h
  · rw [wcmp_gt (vN_lt ha) (vN_lt hb) hk hs hn hnl]; exact h

/-- A word's digits. -/
def dA (n : Nat) : Ar 32 := ⟨le 256 32 n, by simp⟩
theorem dA_g (n : Nat) {i : Nat} (h : i < 32) : (dA n).g (i : Int) = dg n i := by
  have h1 := (dA n).g_nat i h
  have h2 := le_get 256 32 n i h
  unfold dA at h1
  rw [h2, Option.some.injEq] at h1
  exact h1.symm
theorem Of_spec (a : Ar 4) (ha : W4 a) (Q : Ar 32 → Prop) (h : Q (dA (vN a))) : smithyref01_Of a Q := by
  unfold smithyref01_Of
  refine ⟨fun x d => ∃ k : Nat, x = (k : Int) ∧ k ≤ 32 ∧ ∀ i : Nat, i < k → d.g (i : Int) = dg (vN a) i, fun x _ => (32 - x).toNat, ⟨0, rfl, by omega, fun i h => by omega⟩, ?_⟩
  rintro _ d ⟨k, rfl, hk, hP⟩
  refine ⟨fun hx => ?_, fun hx => ?_⟩
  · have e1 : IntKind.i64.wrap ((k : Int).tdiv 8) = ((k / 8 : Nat) : Int) := by
      rw [Int.tdiv_eq_ediv_of_nonneg (by omega), wrap_in (by simp only [inR]; omega)]; omega
    have e2 : (k : Int).tmod 8 = ((k % 8 : Nat) : Int) := by rw [Int.tmod_eq_emod_of_nonneg (by omega)]; omega
    have e3 : ishr .u64 (a.g ((k / 8 : Nat) : Int)) (8 * ((k % 8 : Nat) : Int)) = (((vN a) / B64 ^ (k / 8) % B64 / 2 ^ (8 * (k % 8)) : Nat) : Int) := by
      rw [g_lb ha (by omega)]
      unfold ishr lb
      have h1 : min (8 * ((k % 8 : Nat) : Int)).toNat IntKind.u64.bits = 8 * (k % 8) := by
        show min _ 64 = _; omega
      rw [h1, Int.fdiv_eq_ediv_of_nonneg _ (Int.le_of_lt (Int.pow_pos (by decide)))]
      rw [Int.natCast_ediv]; simp
    have e4 : IntKind.i64.wrap ((ishr .u64 (a.g ((k / 8 : Nat) : Int)) (8 * ((k % 8 : Nat) : Int))).tmod 256) = dg (vN a) k := by
      rw [e3, Int.tmod_eq_emod_of_nonneg (Int.natCast_nonneg _)]
      have h2 : ((((vN a) / B64 ^ (k / 8) % B64 / 2 ^ (8 * (k % 8)) : Nat) : Int) % 256) = dg (vN a) k := by
        unfold dg; rw [← limb_byte]; exact (Int.natCast_emod _ 256).symm
      rw [h2]
      have := dg_bd (vN a) k
      exact wrap_in (by simp only [inR]; omega)
    rw [e1, e2, e4]
    refine ⟨by omega, by omega, by simp only [inR]; omega, by omega, by omega, by omega, by simp only [inR]; omega, ⟨k + 1, by omega, by omega, fun i hi => ?_⟩, by dsimp only; omega⟩
    rw [Ar.g_s _ _ _ _ (by omega)]
    split
    · rename_i e; subst e; rfl
    · exact hP i (by omega)
  · have : d = dA (vN a) := Ar.ext_g fun i hi => by rw [dA_g _ hi]; exact hP i (by omega)
    rw [this]; exact h
theorem Cmp_spec (a b : Nat) (ha : a < NW) (hb : b < NW) (Q : Int → Prop) (h : Q (ncmp a b)) : smithyref01_Compare (dA a) (dA b) Q := by
  unfold smithyref01_Compare
  refine ⟨fun x => -1 ≤ x ∧ x ≤ 31 ∧ ∀ i : Nat, x < i → i < 32 → dg a i = dg b i, fun x => (x + 1).toNat, ⟨by omega, by omega, fun i h1 h2 => by omega⟩, ?_⟩
  rintro x ⟨h0, h1, hs⟩
  refine ⟨fun hx => ?_, fun hx => ?_⟩
  · obtain ⟨k, rfl⟩ := Int.eq_ofNat_of_zero_le hx
    rw [dA_g a (by omega), dA_g b (by omega)]
    refine ⟨by omega, by omega, by omega, by omega, fun hlt => ?_, fun hn => ⟨by omega, by omega, by omega, by omega, fun hgt => ?_, fun hn2 => ⟨by simp only [inR]; omega, ⟨by omega, by omega, dcmp_next hs hn hn2⟩, by dsimp only; omega⟩⟩⟩
    · rw [dcmp_lt ha hb h1 hs hlt]; exact h
    · rw [dcmp_gt ha hb h1 hs hgt]; exact h
  · rw [dcmp_eq ha hb h0 hs hx]; exact h
theorem less_spec (a b : Ar 4) (ha : W4 a) (hb : W4 b) (Q : Bool → Prop) (h : Q (decide (vN a < vN b))) : smithyref13_less a b Q :=
  Of_spec a ha _ (Of_spec b hb _ (Cmp_spec _ _ (vN_lt ha) (vN_lt hb) _ (by rw [ncmp_neg]; exact h)))

/-! ### Is it right? -/
def okAt (ss : List T_api_Slot) (i : Nat) (h : i < ss.length) : Prop := ss[i].fValue ≠ Ar.zero 4 ∧ (0 < i → vN (ss[i - 1]'(by omega)).fKey < vN ss[i].fKey)
def rightP (x : T_api_Account) : Prop := ∀ i (h : i < x.fStorage.length), okAt x.fStorage i h
theorem sright_spec (x : T_api_Account) (hx : AcOk x) (Q : Bool → Prop) (h1 : rightP x → Q true) (h2 : ¬ rightP x → Q false) : store_Right x Q := by
  have hst := hx.stor
  unfold store_Right
  refine ⟨fun z => ∃ k : Nat, z = (k : Int) ∧ k ≤ x.fStorage.length ∧ ∀ i (h : i < x.fStorage.length), i < k → okAt x.fStorage i h, fun z => (x.fStorage.length - z).toNat, ⟨0, rfl, by omega, fun i _ h => by omega⟩, ?_⟩
  rintro _ ⟨k, rfl, hk, hP⟩
  refine ⟨fun hlt => ?_, fun hx' => h1 fun i h => hP i h (by omega)⟩
  have hkl : k < x.fStorage.length := by omega
  refine ⟨okAt x.fStorage k hkl, fun hj => ⟨by simp only [inR]; omega, ⟨k + 1, by omega, by omega, fun i h hik => ?_⟩, by dsimp only; omega⟩, by omega, hlt, ?_⟩
  · by_cases e : i = k
    · subst e; exact hj
    · exact hP i h (by omega)
  rw [nth_get hkl]
  refine ⟨fun hz => h2 fun hr => (hr k hkl).1 hz, fun hnz => ⟨fun h0 => ?_, fun h0 => ⟨hnz, fun h => absurd h (by omega)⟩⟩⟩
  have hc : (k : Int) - 1 = ((k - 1 : Nat) : Int) := by omega
  rw [hc, nth_get (show k - 1 < x.fStorage.length by omega)]
  refine ⟨by simp only [inR]; omega, by omega, by omega, wcmp_spec _ _ (hx.keys _ (List.getElem_mem _)) (hx.keys _ (List.getElem_mem _)) _ ⟨fun hge => h2 fun hr => ?_, fun hlt' => ?_⟩⟩
  · exact ncmp_nlss hge ((hr k hkl).2 (by omega))
  · exact ⟨hnz, fun _ => ncmp_lss (by omega)⟩
theorem rright_spec (x : T_api_Account) (hx : AcOk x) (Q : Bool → Prop) (h1 : rightP x → Q true) (h2 : ¬ rightP x → Q false) : smithyref13_Right x Q := by
  have hst := hx.stor
  unfold smithyref13_Right
  refine ⟨fun z => ∃ k : Nat, z = (k : Int) ∧ k ≤ x.fStorage.length ∧ ∀ i (h : i < x.fStorage.length), i < k → okAt x.fStorage i h, fun z => (x.fStorage.length - z).toNat, ⟨0, rfl, by omega, fun i _ h => by omega⟩, ?_⟩
  rintro _ ⟨k, rfl, hk, hP⟩
  refine ⟨fun hlt => ?_, fun hx' => h1 fun i h => hP i h (by omega)⟩
  have hkl : k < x.fStorage.length := by omega
  refine ⟨okAt x.fStorage k hkl, fun hj => ⟨by simp only [inR]; omega, ⟨k + 1, by omega, by omega, fun i h hik => ?_⟩, by dsimp only; omega⟩, by omega, hlt, ?_⟩
  · by_cases e : i = k
    · subst e; exact hj
    · exact hP i h (by omega)
  rw [nth_get hkl]
  refine ⟨fun hz => h2 fun hr => (hr k hkl).1 hz, fun hnz => ⟨fun h0 => ?_, fun h0 => ⟨hnz, fun h => absurd h (by omega)⟩⟩⟩
  have hc : (k : Int) - 1 = ((k - 1 : Nat) : Int) := by omega
  rw [hc, nth_get (show k - 1 < x.fStorage.length by omega)]
  refine ⟨by simp only [inR]; omega, by omega, by omega, by omega, by omega, less_spec _ _ (hx.keys _ (List.getElem_mem _)) (hx.keys _ (List.getElem_mem _)) _ ⟨fun hf => h2 fun hr => ?_, fun ht => ?_⟩⟩
  · exact of_decide_eq_false hf ((hr k hkl).2 (by omega))
  · exact ⟨hnz, fun _ => of_decide_eq_true ht⟩
end Go.Proofs.Ytafmgghpcneoeaa
