/- ForkOver: what a version has set stands ahead of what the cache knows. -/
import Derived.Test.YtafmgghpcneoeaaPf
namespace Go.Proofs.Ytafmgghpcneoeaa
open Go
set_option maxRecDepth 100000

/-! ### The fixed part -/
theorem fixed_spec (Q : Bool → Prop) (h : Q true) : smithylaw15_fixed Q := by
  unfold smithylaw15_fixed fork_New
  generalize (Ar.zero 20).s 19 1 = a
  refine ⟨fun _ => ⟨fun _ => ?_, fun x hx => absurd hx (by simp [Mp.pget])⟩, fun x hx => absurd hx (by simp [Mp.pget])⟩
  refine ⟨fun _ => ⟨fun hn => absurd hn (by simp [pget_pset]), fun x4 _ => ?_⟩, fun x hx => absurd hx (by simp [Mp.pget])⟩
  refine ⟨fun x K T => ∃ k : Nat, x = (k : Int) ∧ k ≤ 7 ∧ K = [] ∧ T = [(a, (k : Int))], fun x _ _ => (7 - x).toNat, ⟨0, rfl, by omega, rfl, by simp [Mp.pset, Mp.pget]⟩, ?_⟩
  rintro _ _ _ ⟨k, rfl, hk, rfl, rfl⟩
  have hg : Mp.pget [(a, (k : Int))] a = some (k : Int) := by simp [Mp.pget]
  refine ⟨fun hlt => ⟨fun hn => absurd hn (by rw [hg]; simp), fun x hx => ?_⟩, fun hge => ⟨fun _ => ⟨fun _ => ⟨fun hn => absurd hn (by rw [hg]; simp), fun x hx => ?_⟩, fun hn => absurd rfl hn⟩, fun hn => absurd rfl hn⟩⟩
  · rw [hg, Option.some.injEq] at hx
    subst hx
    refine ⟨by simp only [inR]; omega, fun h8 => absurd h8 (by omega), fun _ => ⟨by simp only [inR]; omega, fun h4 => absurd rfl h4, fun _ => ⟨by simp only [inR]; omega, ⟨k + 1, by omega, by omega, rfl, ?_⟩, by dsimp only; omega⟩⟩⟩
    unfold Mp.pset
    rw [hg]; simp
  · rw [hg, Option.some.injEq] at hx
    subst hx
    have h7 : k = 7 := by omega
    subst h7
    refine ⟨by simp only [inR]; omega, fun _ => ⟨fun _ => ?_, fun hn => absurd rfl hn⟩, fun hn => absurd rfl hn⟩
    have hd : Mp.pdel [(a, ((7 : Nat) : Int))] a = [] := by simp [Mp.pdel]
    rw [hd]
    refine ⟨fun _ => ⟨fun _ => by simpa using h, fun x hx => absurd hx (by simp [Mp.pget])⟩, fun x hx => absurd hx (by simp [Mp.pget])⟩

/-! ### The reference's row of accounts -/
theorem Less_spec (a b : Ar 20) (Q : Bool → Prop) (h : ∀ r, Q r) : smithyref08_Less a b Q := by
  unfold smithyref08_Less
  refine ⟨fun x => ∃ k : Nat, x = (k : Int) ∧ k ≤ 20, fun x => (20 - x).toNat, ⟨0, rfl, by omega⟩, ?_⟩
  rintro _ ⟨k, rfl, hk⟩
  exact ⟨fun hx => ⟨by omega, hx, by omega, hx, fun _ => ⟨by omega, hx, by omega, hx, h _⟩, fun _ => ⟨by simp only [inR]; omega, ⟨k + 1, by omega, by omega⟩, by dsimp only; omega⟩⟩, fun _ => h _⟩

def findL (l : List T_api_Account) (a : Ar 20) : Option T_api_Account := l.find? (fun x => decide (x.fAddress = a))
theorem findL_app (l m : List T_api_Account) (a : Ar 20) : findL (l ++ m) a = (findL l a).or (findL m a) := by
  simp [findL, List.find?_append]
theorem findL_one (x : T_api_Account) (a : Ar 20) : findL [x] a = if x.fAddress = a then some x else none := by
  by_cases h : x.fAddress = a <;> simp [findL, h]
theorem take_one {α : Type} {l : List α} {k : Nat} (h : k < l.length) : l.take (k + 1) = l.take k ++ [l[k]] := by
  rw [List.take_add_one, List.getElem?_eq_getElem h]; rfl
theorem findL_mem {l : List T_api_Account} {a : Ar 20} {x : T_api_Account} (h : findL l a = some x) : x ∈ l ∧ x.fAddress = a :=
  ⟨List.mem_of_find?_eq_some h, by simpa using List.find?_some h⟩

abbrev zAcc : T_api_Account := T_api_Account.mk (Ar.zero 20) 0 (Ar.zero 4) ([]) ([])
theorem Find_spec (l : List T_api_Account) (hl : l.length ≤ 1000000) (a : Ar 20) (Q : T_api_Account → Bool → Prop) (h1 : ∀ x, findL l a = some x → Q x true) (h2 : findL l a = none → Q zAcc false) : smithyref13_Find l a Q := by
  unfold smithyref13_Find
  refine ⟨fun x => ∃ k : Nat, x = (k : Int) ∧ k ≤ l.length ∧ findL (l.take k) a = none, fun x => (l.length - x).toNat, ⟨0, rfl, by omega, rfl⟩, ?_⟩
  rintro _ ⟨k, rfl, hk, hP⟩
  refine ⟨fun hx => ?_, fun hx => h2 (by rw [← hP, List.take_of_length_le (by omega)])⟩
  have hkl : k < l.length := by omega
  have ht := take_one hkl
  rw [nth_get hkl]
  refine ⟨by omega, hx, fun he => ⟨by omega, hx, h1 _ ?_⟩, fun he => ⟨by simp only [inR]; omega, ⟨k + 1, by omega, by omega, ?_⟩, by dsimp only; omega⟩⟩
  · have hd : findL (l.take (k + 1) ++ l.drop (k + 1)) a = some l[k] := by rw [findL_app, ht, findL_app, hP, findL_one, if_pos he]; rfl
    rw [List.take_append_drop] at hd; exact hd
  · rw [ht, findL_app, hP, findL_one, if_neg he]; rfl

structure PutR (l : List T_api_Account) (y : T_api_Account) (out : List T_api_Account) : Prop where
  find : ∀ b, findL out b = if b = y.fAddress then some y else findL l b
  len : out.length ≤ l.length + 1
  mem : ∀ x ∈ out, x = y ∨ x ∈ l

structure PutI (l : List T_api_Account) (y : T_api_Account) (k : Nat) (out : List T_api_Account) (done : Bool) : Prop where
  kl : k ≤ l.length
  find : ∀ b, findL out b = if b = y.fAddress then (if done = true then some y else none) else findL (l.take k) b
  len : out.length ≤ k + (if done = true then 1 else 0)
  mem : ∀ x ∈ out, x = y ∨ x ∈ l

theorem Put_spec (l : List T_api_Account) (hl : l.length ≤ 1000000) (y : T_api_Account) (Q : List T_api_Account → Prop) (h : ∀ out, PutR l y out → Q out) : smithyref13_Put l y Q := by
  unfold smithyref13_Put
  refine ⟨fun out done x => ∃ k : Nat, x = (k : Int) ∧ PutI l y k out done, fun _ _ x => (l.length - x).toNat, ⟨0, rfl, by omega, fun b => by simp [findL], by simp, by simp⟩, ?_⟩
  rintro out done _ ⟨k, rfl, hI⟩
  have hlen := hI.len
  have hlen' : out.length ≤ k + 1 := by revert hlen; cases done <;> simp <;> omega
  have hkl' := hI.kl
  refine ⟨fun hx => ?_, fun hx => ⟨fun o => PutR l y o, h, fun hd => ⟨?_, ?_⟩, fun hd => ?_⟩⟩
  · have hkl : k < l.length := by omega
    have ht := take_one hkl
    rw [nth_get hkl]
    refine ⟨fun o d => PutI l y (k + 1) o d, fun o d hI' => ⟨by simp only [inR]; omega, ⟨k + 1, by omega, hI'⟩, by dsimp only; omega⟩, ?_⟩
    refine ⟨fun o d => (∀ b, findL o b = if b = y.fAddress then (if d = true then some y else none) else findL (l.take k) b) ∧ o.length ≤ k + (if d = true then 1 else 0) ∧ (∀ x ∈ o, x = y ∨ x ∈ l), ?_, ?_⟩
    · rintro o d ⟨hf, hln, hm⟩
      have hln' : o.length ≤ k + 1 := by revert hln; cases d <;> simp <;> omega
      refine ⟨by omega, hx, fun he => ⟨by simp; omega, ?_⟩, fun he => ⟨by omega, hx, by simp; omega, ?_⟩⟩
      · refine ⟨by omega, fun b => ?_, by simp; omega, fun x hxm => ?_⟩
        · rw [findL_app, hf, ht, findL_app, findL_one, findL_one]
          by_cases hb : b = y.fAddress
          · subst hb
            cases d <;> simp
          · have : ¬ y.fAddress = b := fun e => hb e.symm
            have h3 : ¬ (l[k]).fAddress = b := fun e => hb (by rw [← e, he])
            simp [hb, this, h3]
        · rcases List.mem_append.1 hxm with h4 | h4
          · exact hm x h4
          · left; simpa using h4
      · refine ⟨by omega, fun b => ?_, by simp; omega, fun x hxm => ?_⟩
        · rw [findL_app, hf, ht, findL_app, findL_one]
          by_cases hb : b = y.fAddress
          · subst hb
            simp [he]
          · simp [hb]
        · rcases List.mem_append.1 hxm with h4 | h4
          · exact hm x h4
          · right; simp at h4; rw [h4]; exact List.getElem_mem _
    · refine ⟨fun hd => ⟨by omega, hx, Less_spec _ _ _ fun r => ⟨fun hr => ⟨by simp; omega, ?_⟩, fun hr => ⟨hI.find, hI.len, hI.mem⟩⟩⟩, fun hd => ⟨hI.find, hI.len, hI.mem⟩⟩
      subst hd
      refine ⟨fun b => ?_, by simp at hlen ⊢; omega, fun x hxm => ?_⟩
      · rw [findL_app, hI.find, findL_one]
        by_cases hb : b = y.fAddress
        · subst hb; simp
        · have : ¬ y.fAddress = b := fun e => hb e.symm
          simp [hb, this]
      · rcases List.mem_append.1 hxm with h4 | h4
        · exact hI.mem x h4
        · left; simpa using h4
  · simp; omega
  · have hke : k = l.length := by omega
    subst hd
    refine ⟨fun b => ?_, by simp at hlen ⊢; omega, fun x hxm => ?_⟩
    · rw [findL_app, hI.find, findL_one, List.take_of_length_le (by omega)]
      by_cases hb : b = y.fAddress
      · subst hb; simp
      · have : ¬ y.fAddress = b := fun e => hb e.symm
        simp [hb, this]
    · rcases List.mem_append.1 hxm with h4 | h4
      · exact hI.mem x h4
      · left; simpa using h4
  · subst hd
    refine ⟨fun b => ?_, by simp at hlen ⊢; omega, hI.mem⟩
    rw [hI.find, List.take_of_length_le (by omega)]; simp

/-! ### The reference's cache -/
abbrev TRY := T_smithyref15_Try
def asks (l : List TRY) (a : Ar 20) : Prop := ∃ t ∈ l, t.fA = a
theorem At_spec (c : T_smithyref15_Cache) (hl : c.fAsked.length ≤ 1000000) (a : Ar 20) (Q : Int → Prop) (h1 : ∀ i (h : i < c.fAsked.length), c.fAsked[i].fA = a → Q (i : Int)) (h2 : ¬ asks c.fAsked a → Q (-1)) : smithyref15_Cache_At c a Q := by
  unfold smithyref15_Cache_At
  refine ⟨fun x => ∃ k : Nat, x = (k : Int) ∧ k ≤ c.fAsked.length ∧ ∀ i (h : i < c.fAsked.length), i < k → c.fAsked[i].fA ≠ a, fun x => (c.fAsked.length - x).toNat, ⟨0, rfl, by omega, fun i _ h => by omega⟩, ?_⟩
  rintro _ ⟨k, rfl, hk, hP⟩
  refine ⟨fun hx => ?_, fun hx => h2 ?_⟩
  · have hkl : k < c.fAsked.length := by omega
    rw [nth_get hkl]
    refine ⟨by omega, hx, fun he => h1 k hkl he, fun he => ⟨by simp only [inR]; omega, ⟨k + 1, by omega, by omega, fun i h hi => ?_⟩, by dsimp only; omega⟩⟩
    by_cases e : i = k
    · subst e; exact he
    · exact hP i h (by omega)
  · rintro ⟨t, ht, he⟩
    obtain ⟨i, hi, rfl⟩ := List.mem_iff_getElem.1 ht
    exact hP i hi (by omega) he
def askedW (Kn : List T_api_Account) (As As' : List TRY) (a : Ar 20) : Prop := (As' = As ∧ ((findL Kn a).isSome ∨ asks As a)) ∨ (As' = As ++ [⟨a, 0⟩] ∧ findL Kn a = none ∧ ¬ asks As a)
theorem rWant_spec (Kn : List T_api_Account) (As : List TRY) (a : Ar 20) (hk : Kn.length ≤ 1000000) (ha : As.length ≤ 1000000) (Q : Int → T_smithyref15_Cache → Prop) (h : ∀ r As', askedW Kn As As' a → Q r ⟨Kn, As'⟩) : smithyref15_Cache_Want ⟨Kn, As⟩ a Q := by
  unfold smithyref15_Cache_Want
  refine Find_spec _ hk _ _ (fun x hx => ⟨fun _ => h _ _ (.inl ⟨rfl, .inl (by rw [hx]; rfl)⟩), fun hn => by cases hn⟩) (fun hn => ⟨fun hn => (by cases hn), fun _ => ?_⟩)
  refine At_spec _ ha _ _ (fun i hi he => ⟨fun _ => h _ _ (.inl ⟨rfl, .inr ⟨_, List.getElem_mem _, he⟩⟩), fun hneg => absurd hneg (by omega)⟩) (fun hna => ⟨fun hneg => absurd hneg (by omega), fun _ => ⟨by simp; omega, by simp; omega, h _ _ (.inr ⟨rfl, hn, hna⟩)⟩⟩)
theorem without_spec (c : T_smithyref15_Cache) (hl : c.fAsked.length ≤ 1000000) (hd : (c.fAsked.map (·.fA)).Nodup) (i : Nat) (hi : i < c.fAsked.length) (Q : T_smithyref15_Cache → Prop) (h : Q ⟨c.fKnown, c.fAsked.filter (fun t => decide (t.fA ≠ c.fAsked[i].fA))⟩) : smithyref15_Cache_without c (i : Int) Q := by
  unfold smithyref15_Cache_without
  refine ⟨fun xs x => ∃ k : Nat, x = (k : Int) ∧ k ≤ c.fAsked.length ∧ xs = (c.fAsked.take k).filter (fun t => decide (t.fA ≠ c.fAsked[i].fA)), fun _ x => (c.fAsked.length - x).toNat, ⟨0, rfl, by omega, by simp⟩, ?_⟩
  rintro _ _ ⟨k, rfl, hk, rfl⟩
  refine ⟨fun hx => ?_, fun hx => by rw [List.take_of_length_le (by omega)]; exact h⟩
  have hkl : k < c.fAsked.length := by omega
  have ht := take_one hkl
  have hln : ((c.fAsked.take k).filter (fun t => decide (t.fA ≠ c.fAsked[i].fA))).length ≤ k := by
    refine Nat.le_trans (List.length_filter_le _ _) ?_
    rw [List.length_take]; omega
  rw [nth_get hkl]
  refine ⟨fun xs => xs = (c.fAsked.take (k + 1)).filter (fun t => decide (t.fA ≠ c.fAsked[i].fA)), fun xs hxs => ⟨by simp only [inR]; omega, ⟨k + 1, by omega, by omega, hxs⟩, by dsimp only; omega⟩, fun hne => ⟨by omega, hx, ?_, ?_⟩, fun he => ?_⟩
  · generalize (List.take k c.fAsked).filter _ = z at hln
    simp; omega
  · rw [ht, List.filter_append]
    have hne' : ¬ c.fAsked[k].fA = c.fAsked[i].fA := fun e => by
      have hp := List.pairwise_iff_getElem.1 hd
      rcases Nat.lt_or_gt_of_ne (show k ≠ i by omega) with h' | h'
      · exact hp k i (by simpa using hkl) (by simpa using hi) h' (by simpa using e)
      · exact hp i k (by simpa using hi) (by simpa using hkl) h' (by simpa using e.symm)
    congr 1
    rw [List.filter_cons_of_pos (by simpa using hne')]; rfl
  · have hki : k = i := by omega
    subst hki
    rw [ht, List.filter_append, List.filter_cons_of_neg (by simp)]; simp
theorem rFill_spec (Kn : List T_api_Account) (As : List TRY) (y : T_api_Account) (hy : AcOk y) (hk : Kn.length ≤ 1000000) (ha : As.length ≤ 1000000) (hd : (As.map (·.fA)).Nodup) (Q : Bool → T_smithyref15_Cache → Prop)
    (h1 : rightP y → asks As y.fAddress → ∀ out, PutR Kn y out → Q true ⟨out, As.filter (fun t => decide (t.fA ≠ y.fAddress))⟩) (h2 : ¬ (rightP y ∧ asks As y.fAddress) → Q false ⟨Kn, As⟩) : smithyref15_Cache_Fill ⟨Kn, As⟩ y Q := by
  unfold smithyref15_Cache_Fill
  refine At_spec _ ha _ _ (fun i hi he => ⟨fun hn => absurd hn (by omega), fun _ => ?_⟩) (fun hna => ⟨fun _ => h2 fun hh => hna hh.2, fun hn => absurd hn (by omega)⟩)
  have hasks : asks As y.fAddress := ⟨_, List.getElem_mem _, he⟩
  refine rright_spec y hy _ (fun hr => ⟨fun hn => (by cases hn), fun _ => ?_⟩) (fun hr => ⟨fun _ => h2 fun hh => hr hh.1, fun hn => by cases hn⟩)
  refine without_spec ⟨Kn, As⟩ ha hd i hi _ (Put_spec _ hk _ _ fun out hout => ?_)
  dsimp only at he hi ⊢
  rw [he]
  exact h1 hr hasks out hout

/-! ### The program's cache -/
abbrev KM := List (Ar 20 × T_api_Account)
abbrev TM := List (Ar 20 × Int)
def triesW (K : KM) (T T' : TM) (a : Ar 20) : Prop := (T' = T ∧ ((Mp.pget K a).isSome ∨ (Mp.pget T a).isSome)) ∨ (T' = Mp.pset T a 0 ∧ Mp.pget K a = none ∧ Mp.pget T a = none)
theorem fWant_spec (K : KM) (T : TM) (a : Ar 20) (Q : Int → KM → TM → Prop) (h : ∀ r T', triesW K T T' a → Q r K T') : fork_Cache_Want K T a Q := by
  unfold fork_Cache_Want
  exact ⟨fun hk => ⟨fun ht => h _ _ (.inr ⟨rfl, hk, ht⟩), fun x hx => h _ _ (.inl ⟨rfl, .inr (by rw [hx]; rfl)⟩)⟩, fun x hx => h _ _ (.inl ⟨rfl, .inl (by rw [hx]; rfl)⟩)⟩
theorem fFill_spec (K : KM) (T : TM) (y : T_api_Account) (hy : AcOk y) (Q : Bool → KM → TM → Prop)
    (h1 : rightP y → (Mp.pget T y.fAddress).isSome → Q true (Mp.pset K y.fAddress y) (Mp.pdel T y.fAddress)) (h2 : ¬ (rightP y ∧ (Mp.pget T y.fAddress).isSome) → Q false K T) : fork_Cache_Fill K T y Q := by
  unfold fork_Cache_Fill
  have hc := hy.code
  have hs := hy.stor
  refine sright_spec y hy _ (fun hr => ⟨fun hn => (by cases hn), fun _ => ⟨fun hn => h2 fun hh => ?_, fun x hx => own_spec y (by omega) (by omega) _ (h1 hr (by rw [hx]; rfl))⟩⟩) (fun hr => ⟨fun _ => h2 fun hh => hr hh.1, fun hn => by cases hn⟩)
  rw [hn] at hh; simp at hh
structure CR (K : KM) (T : TM) (Kn : List T_api_Account) (As : List TRY) (k : Nat) : Prop where
  known : ∀ a, Mp.pget K a = findL Kn a
  tries : ∀ a, (Mp.pget T a).isSome ↔ asks As a
  nodup : (As.map (·.fA)).Nodup
  lk : Kn.length ≤ k
  la : As.length ≤ k
  ok : ∀ x ∈ Kn, AcOk x
theorem asks_app (l m : List TRY) (a : Ar 20) : asks (l ++ m) a ↔ asks l a ∨ asks m a := by
  unfold asks
  constructor
  · rintro ⟨t, ht, he⟩
    rcases List.mem_append.1 ht with h | h
    · exact .inl ⟨t, h, he⟩
    · exact .inr ⟨t, h, he⟩
  · rintro (⟨t, ht, he⟩ | ⟨t, ht, he⟩)
    · exact ⟨t, List.mem_append.2 (.inl ht), he⟩
    · exact ⟨t, List.mem_append.2 (.inr ht), he⟩
theorem CR.want {K : KM} {T T' : TM} {Kn : List T_api_Account} {As As' : List TRY} {k : Nat} {a : Ar 20} (h : CR K T Kn As k) (h1 : triesW K T T' a) (h2 : askedW Kn As As' a) : CR K T' Kn As' (k + 1) := by
  have hka := h.known a
  have hta := h.tries a
  have hlk := h.lk
  have hla := h.la
  rcases h1 with ⟨rfl, h1⟩ | ⟨rfl, h1, h1'⟩
  · rcases h2 with ⟨rfl, h2⟩ | ⟨rfl, h2, h2'⟩
    · exact ⟨h.known, h.tries, h.nodup, by omega, by omega, h.ok⟩
    · exfalso
      rcases h1 with h1 | h1
      · rw [hka, h2] at h1; simp at h1
      · exact h2' (hta.1 h1)
  · rcases h2 with ⟨rfl, h2⟩ | ⟨rfl, h2, h2'⟩
    · exfalso
      rcases h2 with h2 | h2
      · rw [← hka, h1] at h2; simp at h2
      · have := hta.2 h2
        rw [h1'] at this; simp at this
    · refine ⟨h.known, fun b => ?_, ?_, by omega, by simp; omega, h.ok⟩
      · rw [pget_pset, asks_app, ← h.tries b]
        have h3 : asks [(⟨a, 0⟩ : TRY)] b ↔ b = a := by
          unfold asks
          constructor
          · rintro ⟨t, ht, he⟩
            simp at ht; subst ht; exact he.symm
          · rintro rfl; exact ⟨⟨b, 0⟩, by simp, rfl⟩
        rw [h3]
        by_cases hb : b = a
        · simp [hb]
        · simp [hb]
      · rw [List.map_append, List.nodup_append]
        refine ⟨h.nodup, by simp, ?_⟩
        intro b hb c hc e
        simp at hc
        obtain ⟨t, ht, rfl⟩ := List.mem_map.1 hb
        exact h2' ⟨t, ht, by rw [e, hc]⟩
theorem CR.fill {K : KM} {T : TM} {Kn out : List T_api_Account} {As : List TRY} {k : Nat} {y : T_api_Account} (hy : AcOk y) (h : CR K T Kn As k) (hout : PutR Kn y out) : CR (Mp.pset K y.fAddress y) (Mp.pdel T y.fAddress) out (As.filter (fun t => decide (t.fA ≠ y.fAddress))) (k + 1) := by
  have hlk := h.lk
  have hla := h.la
  have hol := hout.len
  refine ⟨fun b => ?_, fun b => ?_, ?_, by omega, ?_, fun x hx => ?_⟩
  · rw [pget_pset, hout.find b, h.known b]
  · rw [pget_pdel]
    by_cases hb : b = y.fAddress
    · simp only [hb, if_true]
      refine ⟨fun hn => by simp at hn, ?_⟩
      rintro ⟨t, ht, he⟩
      have := (List.mem_filter.1 ht).2
      simp [he] at this
    · rw [if_neg hb, h.tries b]
      constructor
      · rintro ⟨t, ht, he⟩
        exact ⟨t, List.mem_filter.2 ⟨ht, by simpa using fun e => hb (by rw [← he, e])⟩, he⟩
      · rintro ⟨t, ht, he⟩
        exact ⟨t, (List.mem_filter.1 ht).1, he⟩
  · exact h.nodup.sublist (List.Sublist.map _ List.filter_sublist)
  · exact Nat.le_trans (List.length_filter_le _ _) (by omega)
  · rcases hout.mem x hx with rfl | hm
    · exact hy
    · exact h.ok x hm
theorem CR.le {K : KM} {T : TM} {Kn : List T_api_Account} {As : List TRY} {k j : Nat} (h : CR K T Kn As k) (hk : k ≤ j) : CR K T Kn As j :=
  ⟨h.known, h.tries, h.nodup, Nat.le_trans h.lk hk, Nat.le_trans h.la hk, h.ok⟩

/-! ### The store -/
def lastL (l : List T_api_Account) (a : Ar 20) : Option T_api_Account := l.foldl (fun o x => if x.fAddress = a then some x else o) none
theorem lastL_app (l : List T_api_Account) (x : T_api_Account) (a : Ar 20) : lastL (l ++ [x]) a = if x.fAddress = a then some x else lastL l a := by
  simp [lastL, List.foldl_append]
theorem lastL_mem {l : List T_api_Account} {a : Ar 20} {x : T_api_Account} (h : lastL l a = some x) : x ∈ l := by
  have : ∀ (l : List T_api_Account) (o : Option T_api_Account), l.foldl (fun o x => if x.fAddress = a then some x else o) o = some x → x ∈ l ∨ o = some x := by
    intro l
    induction l with
    | nil => intro o h; exact .inr h
    | cons z l ih =>
      intro o h
      rw [List.foldl_cons] at h
      rcases ih _ h with h | h
      · exact .inl (List.mem_cons_of_mem _ h)
      · split at h
        · simp only [Option.some.injEq] at h; subst h; exact .inl (List.mem_cons_self ..)
        · exact .inr h
  rcases this l none h with h | h
  · exact h
  · cases h
def mapL (l : List T_api_Account) : KM := l.foldl (fun m x => Mp.pset m x.fAddress x) []
theorem mapL_app (l : List T_api_Account) (x : T_api_Account) : mapL (l ++ [x]) = Mp.pset (mapL l) x.fAddress x := by
  simp [mapL, List.foldl_append]
theorem pget_mapL (l : List T_api_Account) (a : Ar 20) : Mp.pget (mapL l) a = lastL l a := by
  have : ∀ (l : List T_api_Account) (m : KM), Mp.pget (l.foldl (fun m x => Mp.pset m x.fAddress x) m) a = l.foldl (fun o x => if x.fAddress = a then some x else o) (Mp.pget m a) := by
    intro l
    induction l with
    | nil => intro m; rfl
    | cons z l ih =>
      intro m
      rw [List.foldl_cons, List.foldl_cons, ih, pget_pset]
      congr 1
      by_cases h : z.fAddress = a
      · simp [h]
      · have : ¬ a = z.fAddress := fun e => h e.symm
        simp [h, this]
  exact this l []
theorem Contains_spec (l : List T_api_Account) (hl : l.length ≤ 1000000) (hk : ∀ x ∈ l, AcOk x) (Q : Bool → Prop) (h : ∀ r, Q r) : slices_ContainsFunc_l_api_Account_api_Account_store_Store_Commit_1 l Q := by
  unfold slices_ContainsFunc_l_api_Account_api_Account_store_Store_Commit_1 slices_IndexFunc_l_api_Account_api_Account_store_Store_Commit_1
  refine ⟨fun x => ∃ k : Nat, x = (k : Int) ∧ k ≤ l.length, fun x => (l.length - x).toNat, ⟨0, rfl, by omega⟩, ?_⟩
  rintro _ ⟨k, rfl, hkl⟩
  refine ⟨fun hx => ⟨by omega, hx, ?_⟩, fun _ => h _⟩
  have hk' : k < l.length := by omega
  rw [nth_get hk']
  have h3 : ∀ r : Bool, (r = true → Q (decide ((0:Int) ≤ (k : Int)))) ∧ (r = false → (inR .i64 ((k : Int) + 1)) ∧ ((∃ j : Nat, (k : Int) + 1 = (j : Int) ∧ j ≤ l.length) ∧ ((l.length : Int) - ((k : Int) + 1)).toNat < ((l.length : Int) - (k : Int)).toNat)) :=
    fun r => ⟨fun _ => h _, fun _ => ⟨by simp only [inR]; omega, ⟨k + 1, by omega, by omega⟩, by omega⟩⟩
  exact sright_spec _ (hk _ (List.getElem_mem _)) _ (fun _ => h3 _) (fun _ => h3 _)
abbrev n0 : T_store_node := T_store_node.mk (-1) []
theorem Commit_spec (l : List T_api_Account) (hl : l.length ≤ 1000) (hk : ∀ x ∈ l, AcOk x) (Q : Int → Int → List T_store_node → Prop) (h1 : Q 0 1 [n0]) (h2 : Q 1 0 [n0, ⟨0, mapL l⟩]) : store_Store_Commit [n0] 0 l Q := by
  unfold store_Store_Commit store_Store_has
  refine ⟨fun _ => ⟨fun hn => absurd hn (by simp), fun _ => ?_⟩, fun hn => absurd hn (by omega)⟩
  refine Contains_spec l (by omega) hk _ fun r => ⟨fun _ => h1, fun _ => ⟨fun hn => absurd hn (by simp), fun _ => ?_⟩⟩
  refine ⟨fun x m => ∃ k : Nat, x = (k : Int) ∧ k ≤ l.length ∧ m = mapL (l.take k), fun x _ => (l.length - x).toNat, ⟨0, rfl, by omega, rfl⟩, ?_⟩
  rintro _ _ ⟨k, rfl, hkl, rfl⟩
  refine ⟨fun hx => ⟨by omega, hx, ?_⟩, fun hx => ⟨by simp, by simp [inR], ?_⟩⟩
  · have hk' : k < l.length := by omega
    have hy := hk _ (List.getElem_mem hk')
    have hc := hy.code
    have hs := hy.stor
    rw [nth_get hk']
    refine sown_spec _ (by omega) (by omega) _ ⟨by simp only [inR]; omega, ⟨k + 1, by omega, by omega, ?_⟩, by dsimp only; omega⟩
    rw [take_one hk', mapL_app]
  · rw [List.take_of_length_le (by omega)]; exact h2
/-- What the store has at a version. -/
theorem sFind0_spec (a : Ar 20) (Q : T_api_Account → Bool → List T_store_node → Prop) (h : Q zAcc false [n0]) : store_Store_Find [n0] 0 a Q := by
  unfold store_Store_Find store_Store_find store_Store_has
  refine ⟨fun _ => ⟨fun hn => absurd hn (by simp), fun _ => ?_⟩, fun hn => absurd hn (by omega)⟩
  refine ⟨fun x => x = 0 ∨ x = -1, fun x => (x + 1).toNat, .inl rfl, ?_⟩
  rintro _ (rfl | rfl)
  · have h0 : nth [n0] 0 = n0 := rfl
    refine ⟨fun _ => ⟨by omega, by simp, fun _ => ⟨by omega, by simp, .inr rfl, by rw [h0]; simp⟩, fun x hx => ?_⟩, fun hn => absurd hn (by omega)⟩
    rw [h0] at hx; simp [Mp.pget] at hx
  · exact ⟨fun hn => absurd hn (by omega), fun _ => sown_spec _ (by simp) (by simp) _ h⟩
theorem sFind1_spec (m : KM) (hm : ∀ a x, Mp.pget m a = some x → AcOk x) (a : Ar 20) (Q : T_api_Account → Bool → List T_store_node → Prop) (h1 : ∀ x, Mp.pget m a = some x → Q x true [n0, ⟨0, m⟩]) (h2 : Mp.pget m a = none → Q zAcc false [n0, ⟨0, m⟩]) : store_Store_Find [n0, ⟨0, m⟩] 1 a Q := by
  unfold store_Store_Find store_Store_find store_Store_has
  refine ⟨fun _ => ⟨fun hn => absurd hn (by simp), fun _ => ?_⟩, fun hn => absurd hn (by omega)⟩
  refine ⟨fun x => x = 1 ∨ (x = 0 ∧ Mp.pget m a = none) ∨ (x = -1 ∧ Mp.pget m a = none), fun x => (x + 1).toNat, .inl rfl, ?_⟩
  have e0 : nth [n0, (⟨0, m⟩ : T_store_node)] 0 = n0 := rfl
  have e1 : nth [n0, (⟨0, m⟩ : T_store_node)] 1 = ⟨0, m⟩ := rfl
  rintro _ (rfl | ⟨rfl, hn⟩ | ⟨rfl, hn⟩)
  · rw [e1]
    refine ⟨fun _ => ⟨by omega, by simp, fun hn => ⟨by omega, by simp, .inr (.inl ⟨rfl, hn⟩), by simp⟩, fun x hx => ?_⟩, fun hn => absurd hn (by omega)⟩
    have hc := (hm _ _ hx).code
    have hs := (hm _ _ hx).stor
    exact sown_spec _ (by omega) (by omega) _ (h1 x hx)
  · rw [e0]
    refine ⟨fun _ => ⟨by omega, by simp, fun _ => ⟨by omega, by simp, .inr (.inr ⟨rfl, hn⟩), by simp⟩, fun x hx => ?_⟩, fun hn => absurd hn (by omega)⟩
    simp [Mp.pget] at hx
  · exact ⟨fun hn => absurd hn (by omega), fun _ => sown_spec _ (by simp) (by simp) _ (h2 hn)⟩

/-! ### The law -/
/-- What is answered: what is found, or an account that only has its address. -/
def sel (a : Ar 20) (o : Option T_api_Account) : Bool × T_api_Account := match o with
  | some x => (true, x)
  | none => (false, ⟨a, 0, Ar.zero 4, [], []⟩)
theorem cAcc_spec (K : KM) (T : TM) (a : Ar 20) (hK : ∀ x, Mp.pget K a = some x → AcOk x) (Q : T_api_Account → Bool → KM → TM → Prop) (h : Q (sel a (Mp.pget K a)).2 (sel a (Mp.pget K a)).1 K T) : fork_Cache_Account K T a Q := by
  unfold fork_Cache_Account
  refine ⟨fun hn => by rw [hn] at h; exact h, fun x hx => ?_⟩
  have hc := (hK _ hx).code
  have hs := (hK _ hx).stor
  rw [hx] at h
  exact own_spec _ (by omega) (by omega) _ h
theorem store_spec (l : List T_api_Account) (hl : l.length ≤ 1000) (ok0 : ∀ x ∈ l, AcOk x) (a : Ar 20) (Q : Int → Int → List T_store_node → Prop)
    (h : ∀ (r15 r16 : Int) (fl : List T_store_node) (o : Option T_api_Account), (r16 ≠ 0 → r15 = 0) → o = (if r16 = 0 then lastL l a else none) →
      (∀ Q' : T_api_Account → Bool → List T_store_node → Prop, (∀ x, o = some x → Q' x true fl) → (o = none → Q' zAcc false fl) → store_Store_Find fl r15 a Q') → Q r15 r16 fl) : store_Store_Commit [n0] 0 l Q := by
  refine Commit_spec l hl ok0 _ (h 0 1 [n0] none (fun _ => rfl) rfl fun Q' _ h2 => sFind0_spec _ _ (h2 rfl)) (h 1 0 _ (lastL l a) (fun hn => absurd rfl hn) rfl fun Q' h1 h2 => ?_)
  refine sFind1_spec _ (fun b x hx => ok0 x (lastL_mem (by rw [← pget_mapL]; exact hx))) _ _ (fun x hx => h1 x (by rw [← pget_mapL]; exact hx)) (fun hn => h2 (by rw [← pget_mapL]; exact hn))
theorem law_spec (p0 p1 : List T_api_Account) (p2 : Ar 20) (hk0 : ∀ x ∈ p0, ∀ s ∈ x.fStorage, W4 s.fKey) (hk1 : ∀ x ∈ p1, ∀ s ∈ x.fStorage, W4 s.fKey) (Q : Bool → Prop) (hQ : Q true) : smithylaw15_ForkOver p0 p1 p2 Q := by
  unfold smithylaw15_ForkOver
  refine Great_spec p0 _ ⟨fun _ => fixed_spec _ hQ, fun h => by cases h⟩ fun ⟨hl0, hs0⟩ => ⟨fun h => (by cases h), fun _ => ?_⟩
  refine Great_spec p1 _ ⟨fun _ => fixed_spec _ hQ, fun h => by cases h⟩ fun ⟨hl1, hs1⟩ => ⟨fun h => (by cases h), fun _ => ?_⟩
  have ok0 : ∀ x ∈ p0, AcOk x := fun x hx => ⟨(hs0 x hx).1, (hs0 x hx).2, hk0 x hx⟩
  have ok1 : ∀ x ∈ p1, AcOk x := fun x hx => ⟨(hs1 x hx).1, (hs1 x hx).2, hk1 x hx⟩
  unfold store_New fork_New
  refine store_spec p0 (by omega) ok0 p2 _ fun r15 r16 fl o hr15 ho hfind => ?_
  refine ⟨fun x Kn As K T => ∃ k : Nat, x = (k : Int) ∧ k ≤ p1.length ∧ CR K T Kn As (2 * k), fun x _ _ _ _ => (p1.length - x).toNat, ⟨0, rfl, by omega, fun a => rfl, fun a => ?_, by simp, by simp, by simp, by simp⟩, ?_⟩
  · simp [Mp.pget, asks]
  rintro _ Kn As K T ⟨k, rfl, hk, hR⟩
  have hlk := hR.lk
  have hla := hR.la
  refine ⟨fun hx => ⟨by omega, hx, ?_⟩, fun hx => ?_⟩
  · have hk' : k < p1.length := by omega
    have hy := ok1 _ (List.getElem_mem hk')
    rw [nth_get hk']
    generalize p1[k] = y at hy
    refine fWant_spec _ _ _ _ fun r T' hT' => ?_
    have key : ∀ (K' : KM) (T'' : TM) (Kn' : List T_api_Account) (As'' : List TRY), CR K' T'' Kn' As'' (2 * (k + 1)) → (inR .i64 ((k : Int) + 1)) ∧ ((∃ j : Nat, (k : Int) + 1 = (j : Int) ∧ j ≤ p1.length ∧ CR K' T'' Kn' As'' (2 * j)) ∧ ((p1.length : Int) - ((k : Int) + 1)).toNat < ((p1.length : Int) - (k : Int)).toNat) :=
      fun K' T'' Kn' As'' h => ⟨by simp only [inR]; omega, ⟨k + 1, by omega, by omega, h⟩, by omega⟩
    refine fFill_spec _ _ _ hy _ (fun hr hs => ?_) (fun hn => ?_)
    · refine rWant_spec _ _ _ (by omega) (by omega) _ fun r2 As' hAs' => ?_
      have hR' := hR.want hT' hAs'
      have hla' := hR'.la
      refine rFill_spec _ _ _ hy (by omega) (by omega) hR'.nodup _ (fun _ _ out hout => key _ _ _ _ ((hR'.fill hy hout).le (by omega))) (fun hn => absurd ⟨hr, (hR'.tries _).1 hs⟩ hn)
    · refine rWant_spec _ _ _ (by omega) (by omega) _ fun r2 As' hAs' => ?_
      have hR' := hR.want hT' hAs'
      have hla' := hR'.la
      refine rFill_spec _ _ _ hy (by omega) (by omega) hR'.nodup _ (fun hr hs _ _ => absurd ⟨hr, (hR'.tries _).2 hs⟩ hn) (fun _ => key _ _ _ _ (hR'.le (by omega)))
  · refine ⟨fun v => v = r15, fun v hv => ?_, fun hn => ?_, fun hn => rfl⟩
    · subst hv
      refine ⟨fun is a n b c s => (is, (⟨a, n, b, c, s⟩ : T_api_Account)) = sel p2 (findL Kn p2), fun is a n b c s hsel => ?_, ?_⟩
      · refine ⟨fun is a n b c s => (is, (⟨a, n, b, c, s⟩ : T_api_Account)) = sel p2 (o.or (findL Kn p2)), fun is a n b c s hsel' => ?_, fun h0 => ?_, fun h0 => ?_⟩
        · unfold fork_Over fork_over_Account
          have hKn : ∀ x, Mp.pget K p2 = some x → AcOk x := fun x hx => hR.ok x (findL_mem (by rw [← hR.known]; exact hx)).1
          have done : ∀ (z : T_api_Account) (i : Bool), (i, z) = sel p2 (o.or (findL Kn p2)) → smithylaw15_fixed (fun r95 => ((r95 = true) → (((i = is) → (smithyref13_Same z (T_api_Account.mk a n b c s) (fun r98 => Q r98))) ∧ ((¬ (i = is)) → (Q false)))) ∧ ((r95 = false) → (Q false))) := by
            intro z i hz
            refine fixed_spec _ ⟨fun _ => ?_, fun h => by cases h⟩
            rw [← hsel', Prod.mk.injEq] at hz
            obtain ⟨rfl, rfl⟩ := hz
            refine ⟨fun _ => Same_refl _ ?_ _ hQ, fun h => absurd rfl h⟩
            have hok : ∀ w, w = sel p2 (o.or (findL Kn p2)) → w.2.fStorage.length ≤ 1000000 := by
              intro w hw
              cases hoo : o with
              | some x =>
                rw [hoo] at hw ho
                have : x ∈ p0 := by
                  split at ho
                  · exact lastL_mem ho.symm
                  · cases ho
                have := (ok0 x this).stor
                subst hw
                show x.fStorage.length ≤ _
                omega
              | none =>
                rw [hoo] at hw
                cases hff : findL Kn p2 with
                | some x =>
                  rw [hff] at hw
                  have := (hR.ok x (findL_mem hff).1).stor
                  subst hw
                  show x.fStorage.length ≤ _
                  omega
                | none => rw [hff] at hw; subst hw; simp [sel]
            have := hok _ hsel'
            exact this
          refine hfind _ (fun x hx => ⟨fun _ => done _ _ (by rw [hx]; rfl), fun h => by cases h⟩) (fun hn => ⟨fun h => (by cases h), fun _ => ?_⟩)
          refine cAcc_spec _ _ _ hKn _ (done _ _ (by rw [hn, hR.known]; rfl))
        · subst h0
          refine ⟨fun is x a n b c s => ∃ k : Nat, x = (k : Int) ∧ k ≤ p0.length ∧ (is, (⟨a, n, b, c, s⟩ : T_api_Account)) = sel p2 ((lastL (p0.take k) p2).or (findL Kn p2)), fun _ x _ _ _ _ _ => (p0.length - x).toNat, ⟨0, rfl, by omega, hsel⟩, ?_⟩
          rintro is' _ a' n' b' c' s' ⟨j, rfl, hj, hs'⟩
          refine ⟨fun hx => ?_, fun hx => ?_⟩
          · have hj' : j < p0.length := by omega
            rw [nth_get hj']
            refine ⟨fun is a n b c s => (is, (⟨a, n, b, c, s⟩ : T_api_Account)) = sel p2 ((lastL (p0.take (j + 1)) p2).or (findL Kn p2)), fun _ _ _ _ _ _ h => ⟨by simp only [inR]; omega, ⟨j + 1, by omega, by omega, h⟩, by dsimp only; omega⟩, by omega, hx, fun he => ?_, fun he => ?_⟩
            · rw [take_one hj', lastL_app, if_pos he]; rfl
            · rw [take_one hj', lastL_app, if_neg he]; exact hs'
          · rw [List.take_of_length_le (by omega)] at hs'
            rw [ho]; exact hs'
        · rw [ho, if_neg h0]; exact hsel
      · refine Find_spec _ (by omega) _ _ (fun x hx => ⟨fun _ => by rw [hx]; rfl, fun h => by cases h⟩) (fun hn => ⟨fun h => (by cases h), fun _ => by rw [hn]; rfl⟩)
    · exact (hr15 hn).symm
end Go.Proofs.Ytafmgghpcneoeaa
