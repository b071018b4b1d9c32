/- The engine: a region whose order is drawn is walked in the text's order, if each two operations that no edge orders do not touch one another. -/
import Derived.OrdersHeld
import Derived.Deep.RegionHeld3
namespace Go.Proofs.Ytafmgghpcneoeaa
open Go

/-- What an operation is to the others of its region: p yields in every world that meets S; q yields in the world at hand; e may change the world. -/
inductive OK where | p | q | e
  deriving DecidableEq

def noQ : Exit → Act → World → Prop := fun _ _ _ => False

section
variable {P : Program} {ops : Array Oper} {S : World → Prop}

def TOp (P : Program) (ops : Array Oper) (S : World → Prop) (k : OK) (i : Nat) (K : Act → World → Prop) (a : Act) (w : World) : Prop :=
  match ops[i]? with
  | none => K a w
  | some o =>
    match k with
    | .p => ∃ v, YieldsIf P ops S o v a ∧ K (a.put o.dst v) w
    | .q => ∃ v, YieldsIf P ops (· = w) o v a ∧ K (a.put o.dst v) w
    | .e => wpOp P ops noQ i (fun a' w' => S w' ∧ K a' w') a w

theorem TOp.mono {k : OK} {i : Nat} {K K' : Act → World → Prop} {a : Act} {w : World} (hS : S w) (h : ∀ a w, S w → K a w → K' a w)
    (hh : TOp P ops S k i K a w) : TOp P ops S k i K' a w := by
  unfold TOp at *
  split at hh
  · exact h _ _ hS hh
  · split at hh
    · obtain ⟨v, h1, h2⟩ := hh; exact ⟨v, h1, h _ _ hS h2⟩
    · obtain ⟨v, h1, h2⟩ := hh; exact ⟨v, h1, h _ _ hS h2⟩
    · exact wpOp_mono (fun a w hk => ⟨hk.1, h _ _ hk.1 hk.2⟩) hh

theorem LetsOut_noQ : ¬ LetsOut noQ := fun ⟨_, _, h⟩ => h

theorem wpOp_noQ {Q : Exit → Act → World → Prop} {i : Nat} {K : Act → World → Prop} {a : Act} {w : World} (h : wpOp P ops noQ i K a w) : wpOp P ops Q i K a w := by
  unfold wpOp at *
  split
  · simpa [*] using h
  · rename_i o ho
    simp only [ho] at h
    split
    · rename_i hw
      simp only [hw, if_true] at h
      rcases h with h | ⟨_, h⟩
      · refine .inl ?_
        unfold Oper.wp at *
        generalize (execOp a.eval o).run P w = r at *
        cases r with
        | ok n w' =>
          cases n <;> simp only [Oper.upon] at h ⊢ <;> first
            | exact h
            | exact Calls.mono h (fun e w'' he => by cases e <;> first | exact he | exact he.elim | exact (LetsOut_noQ he).elim)
        | halt x w' => cases x <;> simp only [Oper.upon] at h ⊢ <;> first | exact h | exact h.elim
      · exact (LetsOut_noQ h).elim
    · rename_i hw
      simp only [hw] at h
      exact h

theorem TOp.toWp {Q : Exit → Act → World → Prop} {k : OK} {i : Nat} {K : Act → World → Prop} {a : Act} {w : World} (hS : S w) (h : TOp P ops S k i K a w) :
    wpOp P ops Q i (fun a' w' => S w' ∧ K a' w') a w := by
  unfold TOp at h
  split at h
  · rename_i ho; simp only [wpOp, ho]; exact ⟨hS, h⟩
  · rename_i o ho
    split at h
    · obtain ⟨v, h1, h2⟩ := h
      exact h1.wpOp ho hS ⟨hS, h2⟩
    · obtain ⟨v, h1, h2⟩ := h
      exact h1.wpOp ho rfl ⟨hS, h2⟩
    · exact wpOp_noQ h

/-- An effect has an outcome. -/
theorem wpOp_ex {i : Nat} {o : Oper} (ho : ops[i]? = some o) {K : Act → World → Prop} {a : Act} {w : World} (h : wpOp P ops noQ i K a w) :
    ∃ u w' ds, K (({ a with defers := ds } : Act).put o.dst u) w' := by
  unfold wpOp at h
  simp only [ho] at h
  split at h
  · rcases h with h | ⟨_, h⟩
    · unfold Oper.wp at h
      generalize (execOp a.eval o).run P w = r at *
      cases r with
      | ok n w' =>
        cases n <;> simp only [Oper.upon] at h
        case value u => exact ⟨u, w', a.defers, h⟩
        case skip => exact ⟨undef, w', a.defers, h⟩
        case defer d => exact ⟨undef, w', d :: a.defers, h⟩
        case enter f args =>
          obtain ⟨e, w'', fr, hR, _⟩ := h []
          cases e with
          | returned v => exact ⟨v, w'', a.defers, hR⟩
          | panicked c => exact hR.elim
          | outgrown => exact (LetsOut_noQ hR).elim
        case row row args =>
          obtain ⟨v, w'', hR, _⟩ := h default []
          exact ⟨v, w'', a.defers, hR⟩
      | halt x w' => cases x <;> simp only [Oper.upon, noQ] at h
    · exact (LetsOut_noQ h).elim
  · exact ⟨undef, w, a.defers, h⟩

/-- An effect, where something that it does not look at was written ahead. -/
theorem wpOp_put_back {i : Nat} {oi oj : Oper} {v : Value} (hi : ops[i]? = some oi) (hap : oi.apart ops oj = true)
    (hsi : ∀ cs b, oi.op ≠ .select cs b) {K : Act → World → Prop} {a : Act} {w : World}
    (h : wpOp P ops noQ i (fun a' w' => K (a'.put oj.dst v) w') a w) : wpOp P ops noQ i K (a.put oj.dst v) w := by
  obtain ⟨h1, h2, h3⟩ := Oper.apart_spec hap
  unfold wpOp at *
  simp only [hi] at *
  rw [wanted_put oi a oj.dst v h3]
  split
  · rename_i hw
    simp only [hw, if_true] at h
    rcases h with h | ⟨_, h⟩
    · refine .inl ?_
      unfold Oper.wp at *
      rw [execOp_put oi hsi a oj.dst v h3]
      generalize (execOp a.eval oi).run P w = r at *
      cases r with
      | ok n w' =>
        cases n <;> simp only [Oper.upon] at h ⊢
        case value u => rw [← Act.put_comm a u v h2]; exact h
        case skip => rw [← Act.put_comm a undef v h2]; exact h
        case defer d => rw [Act.put_defers, ← Act.put_comm _ undef v h2]; exact h
        case enter f args =>
          refine Calls.mono h fun e w'' he => ?_
          cases e with
          | returned u =>
            show K ((a.put oj.dst v).put oi.dst u) w''
            rw [← Act.put_comm a u v h2]; exact he
          | panicked c => exact he
          | outgrown => exact he
        case row row args => exact Rows.mono h fun u w'' he => by rw [← Act.put_comm a u v h2]; exact he
      | halt x w' =>
        cases x <;> simp only [Oper.upon] at h ⊢
        case panic u => exact h
    · exact (LetsOut_noQ h).elim
  · rename_i hw
    simp only [hw] at h
    rw [← Act.put_comm a undef v h2]; exact h

def OK.fits : OK → OK → Bool
  | .p, _ => true
  | _, .p => true
  | .q, .q => true
  | _, _ => false

theorem yields_unique {o : Oper} {v v' : Value} {a : Act} {w : World} (hS : S w) (h : YieldsIf P ops S o v a) (h' : YieldsIf P ops S o v' a) : v = v' := by
  rcases h with ⟨hw, h⟩ | ⟨hw, rfl⟩ <;> rcases h' with ⟨hw', h'⟩ | ⟨hw', rfl⟩
  · have := (h w hS).symm.trans (h' w hS)
    simpa using this
  · rw [hw] at hw'; cases hw'
  · rw [hw] at hw'; cases hw'
  · rfl

theorem TOp.swap {ki kj : OK} {i j : Nat} {oi oj : Oper} (hi : ops[i]? = some oi) (hj : ops[j]? = some oj) (hf : ki.fits kj = true)
    (hij : oi.apart ops oj = true) (hsi : ∀ cs b, oi.op ≠ .select cs b) (hsj : ∀ cs b, oj.op ≠ .select cs b)
    {K : Act → World → Prop} {a : Act} {w : World} (hS : S w) (h : TOp P ops S ki i (TOp P ops S kj j K) a w) :
    TOp P ops S kj j (TOp P ops S ki i K) a w := by
  obtain ⟨h1, h2, h3⟩ := Oper.apart_spec hij
  have back : ∀ {S' : World → Prop} {u v : Value}, YieldsIf P ops S' oj v (a.put oi.dst u) → YieldsIf P ops S' oj v a := fun h =>
    h.of_same (execOp_put oj hsj a oi.dst _ h1).symm (wanted_put oj a oi.dst _ h1).symm
  have forth : ∀ {S' : World → Prop} {u v : Value}, YieldsIf P ops S' oi v a → YieldsIf P ops S' oi v (a.put oj.dst u) := fun h =>
    h.of_same (execOp_put oi hsi a oj.dst _ h3) (wanted_put oi a oj.dst _ h3)
  have two : ∀ {S1 S2 : World → Prop} {u v : Value}, YieldsIf P ops S1 oi u a → YieldsIf P ops S2 oj v (a.put oi.dst u) → K ((a.put oi.dst u).put oj.dst v) w →
      YieldsIf P ops S2 oj v a ∧ YieldsIf P ops S1 oi u (a.put oj.dst v) ∧ K ((a.put oj.dst v).put oi.dst u) w := fun x y k =>
    ⟨back y, forth x, by rw [← Act.put_comm a _ _ h2]; exact k⟩
  unfold TOp at h ⊢
  simp only [hi, hj] at h ⊢
  cases ki <;> cases kj <;> simp only [OK.fits, Bool.false_eq_true] at hf <;> simp only at h ⊢
  · obtain ⟨u, hu, v, hv, k⟩ := h; obtain ⟨x, y, z⟩ := two hu hv k; exact ⟨v, x, u, y, z⟩
  · obtain ⟨u, hu, v, hv, k⟩ := h; obtain ⟨x, y, z⟩ := two hu hv k; exact ⟨v, x, u, y, z⟩
  · obtain ⟨u, hu, k⟩ := h
    refine wpOp_mono ?_ (wpOp_putIf hj hij hsi hsj (fun _ _ _ h => h) hu k)
    rintro a' w' ⟨h4, h5, h6⟩
    exact ⟨h5, u, h4, h6⟩
  · obtain ⟨u, hu, v, hv, k⟩ := h; obtain ⟨x, y, z⟩ := two hu hv k; exact ⟨v, x, u, y, z⟩
  · obtain ⟨u, hu, v, hv, k⟩ := h; obtain ⟨x, y, z⟩ := two hu hv k; exact ⟨v, x, u, y, z⟩
  · obtain ⟨u, w', ds, _, v, hv, _⟩ := wpOp_ex hi h
    have hv0 : YieldsIf P ops S oj v a := by
      have : YieldsIf P ops S oj v ({ a with defers := ds } : Act) := hv.of_same (execOp_put oj hsj _ oi.dst _ h1).symm (wanted_put oj _ oi.dst _ h1).symm
      exact this.of_same rfl rfl
    refine ⟨v, hv0, ?_⟩
    refine wpOp_put_back hi hij hsi ?_
    have key : ∀ (K' : Act → World → Prop), (∀ u w' ds, (S w' ∧ ∃ v', YieldsIf P ops S oj v' (({ a with defers := ds } : Act).put oi.dst u) ∧ K ((({ a with defers := ds } : Act).put oi.dst u).put oj.dst v') w') → K' (({ a with defers := ds } : Act).put oi.dst u) w') →
        wpOp P ops noQ i (fun a' w' => S w' ∧ ∃ v', YieldsIf P ops S oj v' a' ∧ K (a'.put oj.dst v') w') a w → wpOp P ops noQ i K' a w := by
      intro K' hK hh
      unfold wpOp at *
      simp only [hi] at *
      split
      · rename_i hw
        simp only [hw, if_true] at hh
        rcases hh with hh | ⟨_, hh⟩
        · refine .inl ?_
          unfold Oper.wp at *
          generalize (execOp a.eval oi).run P w = r at *
          cases r with
          | ok n w' =>
            cases n <;> simp only [Oper.upon] at hh ⊢
            case value u => exact hK u w' a.defers hh
            case skip => exact hK undef w' a.defers hh
            case defer d => exact hK undef w' (d :: a.defers) hh
            case enter f args =>
              refine Calls.mono hh fun e w'' he => ?_
              cases e with
              | returned u => exact hK u w'' a.defers he
              | panicked c => exact he
              | outgrown => exact he
            case row row args => exact Rows.mono hh fun u w'' he => hK u w'' a.defers he
          | halt x w' =>
            cases x <;> simp only [Oper.upon] at hh ⊢
            case panic u => exact hh
        · exact (LetsOut_noQ hh).elim
      · rename_i hw
        simp only [hw] at hh
        exact hK undef w a.defers hh
    refine key _ ?_ h
    rintro u' w'' ds' ⟨hs, v', hv', hk⟩
    have e : v' = v := by
      refine yields_unique (P := P) (ops := ops) hS (a := a) (o := oj) ?_ hv0
      have : YieldsIf P ops S oj v' ({ a with defers := ds' } : Act) := hv'.of_same (execOp_put oj hsj _ oi.dst _ h1).symm (wanted_put oj _ oi.dst _ h1).symm
      exact this.of_same rfl rfl
    subst e
    exact ⟨hs, hk⟩

/-- The operations of a list of numbers, one behind the other. -/
def TX (P : Program) (ops : Array Oper) (S : World → Prop) (kd : Nat → OK) (Q : Act → World → Prop) : List Nat → Act → World → Prop
  | [], a, w => Q a w
  | i :: rest, a, w => TOp P ops S (kd i) i (TX P ops S kd Q rest) a w

variable {kd : Nat → OK} {Q : Act → World → Prop}

/-- Two operations of which neither waits for the other: they may be exchanged. -/
def apartB (ops : Array Oper) (kd : Nat → OK) (i j : Nat) : Bool :=
  match ops[i]?, ops[j]? with
  | some oi, some oj => (kd i).fits (kd j) && oi.apart ops oj
  | _, _ => true

/-- Does j wait for i: at once, or through others? (bef j: the numbers that j waits for, as bits.) -/
def orderedB (bef : Array Nat) (i j : Nat) : Bool := (bef.getD j 0).testBit i

/-- A number may come to the list's head, past all that stand ahead of it. -/
theorem TX.front (hs : Region.noSelect ops = true) {j : Nat} : ∀ (l : List Nat) {r : List Nat} {a : Act} {w : World}, S w →
    (∀ i ∈ l, apartB ops kd i j = true) → TX P ops S kd Q (l ++ j :: r) a w → TX P ops S kd Q (j :: (l ++ r)) a w
  | [], _, _, _, _, _, h => h
  | i :: l, r, a, w, hS, hl, h => by
    have h1 : TOp P ops S (kd i) i (TX P ops S kd Q (j :: (l ++ r))) a w :=
      TOp.mono hS (fun a w hS h => TX.front hs l hS (fun i hi => hl i (List.mem_cons_of_mem _ hi)) h) h
    have hij := hl i List.mem_cons_self
    show TOp P ops S (kd j) j (TOp P ops S (kd i) i (TX P ops S kd Q (l ++ r))) a w
    have h2 : TOp P ops S (kd i) i (TOp P ops S (kd j) j (TX P ops S kd Q (l ++ r))) a w := h1
    cases hi : ops[i]? with
    | none =>
      unfold TOp at h2
      simp only [hi] at h2
      refine TOp.mono hS (fun a w _ h => ?_) h2
      unfold TOp; simp only [hi]; exact h
    | some oi =>
      cases hj : ops[j]? with
      | none =>
        unfold TOp; simp only [hj]
        refine TOp.mono hS (fun a w _ h => ?_) h2
        unfold TOp at h; simp only [hj] at h; exact h
      | some oj =>
        simp only [apartB, hi, hj, Bool.and_eq_true] at hij
        exact TOp.swap hi hj hij.1 hij.2 (fun cs b => Region.noSelect_spec hs i oi cs b hi) (fun cs b => Region.noSelect_spec hs j oj cs b hj) hS h2

/-- Each two numbers i < j of the region: j waits for i, or they are apart. -/
def pairsB (ops : Array Oper) (kd : Nat → OK) (bef : Array Nat) : Bool :=
  (List.range ops.size).all fun j => (List.range j).all fun i => orderedB bef i j || apartB ops kd i j

/-- 'bef' says no more than the edges do: what j waits for, it waits for at once or through another. Edges lead back. -/
def befB (md : Region.Mode) (ops : Array Oper) (bef : Array Nat) : Bool :=
  (List.range ops.size).all fun j =>
    match ops[j]? with
    | none => true
    | some o => (List.range ops.size).all fun i => !(bef.getD j 0).testBit i || o.after.any fun e => Region.binds md e && (e.on == i || (bef.getD e.on 0).testBit i) && decide (e.on < j)

/-- Edges lead back. -/
def backB (md : Region.Mode) (ops : Array Oper) : Bool :=
  (List.range ops.size).all fun j =>
    match ops[j]? with
    | none => true
    | some o => o.after.all fun e => !Region.binds md e || decide (e.on < j)

theorem listed_of_bef {md : Region.Mode} {bef : Array Nat} (hb : befB md ops bef = true) {listed : Array Bool}
    (hc : ∀ (j : Nat) (o : Oper), ops[j]? = some o → listed.getD j false = true → ∀ e ∈ o.after, Region.binds md e = true → listed.getD e.on false = true) (i : Nat) (hi : i < ops.size) :
    ∀ (j : Nat), listed.getD j false = true → j < ops.size → (bef.getD j 0).testBit i = true → listed.getD i false = true := by
  intro j
  induction j using Nat.strongRecOn with
  | _ j ih =>
    intro hl hj hbit
    have hj' : ∃ o, ops[j]? = some o := ⟨_, Array.getElem?_eq_getElem hj⟩
    obtain ⟨o, ho⟩ := hj'
    have h1 := List.all_eq_true.1 hb j (List.mem_range.2 hj)
    simp only [ho] at h1
    have h2 := List.all_eq_true.1 h1 i (List.mem_range.2 hi)
    simp only [hbit, Bool.not_true, Bool.false_or] at h2
    obtain ⟨e, he, h3⟩ := Array.any_eq_true'.1 h2
    simp only [Bool.and_eq_true, Bool.or_eq_true, beq_iff_eq, decide_eq_true_eq] at h3
    obtain ⟨⟨h4, h5⟩, h6⟩ := h3
    have h7 := hc j o ho hl e he h4
    rcases h5 with h5 | h5
    · rw [← h5]; exact h7
    · exact ih e.on h6 h7 (by omega) h5

/-- What has not come up yet, in the text's order. -/
def unlisted (ops : Array Oper) (listed : Array Bool) : List Nat := (List.range ops.size).filter fun i => !listed.getD i true

theorem unlisted_set {listed : Array Bool} {j : Nat} (hsz : listed.size = ops.size) {l r : List Nat} (h : unlisted ops listed = l ++ j :: r) (hnd : (l ++ j :: r).Nodup) :
    unlisted ops (listed.setIfInBounds j true) = l ++ r := by
  have hjm : j ∈ unlisted ops listed := by rw [h]; simp
  have hjs : j < ops.size := by
    have := (List.mem_filter.1 hjm).1; simpa using this
  have e1 : unlisted ops (listed.setIfInBounds j true) = (unlisted ops listed).filter (fun i => i != j) := by
    unfold unlisted
    rw [List.filter_filter]
    refine List.filter_congr fun i hi => ?_
    by_cases hij : j = i
    · subst hij
      simp [hsz, hjs]
    · rw [getD_set_ne true hij]
      have : (i != j) = true := by simp; exact fun e => hij e.symm
      simp [this]
  rw [e1, h, List.filter_append, List.filter_cons]
  have hl : l.filter (fun i => i != j) = l := List.filter_eq_self.2 fun i hi => by
    have := List.nodup_append.1 hnd
    simp only [bne_iff_ne, ne_eq]
    intro e; subst e
    exact this.2.2 i hi i (by simp) rfl
  have hr : r.filter (fun i => i != j) = r := List.filter_eq_self.2 fun i hi => by
    have := (List.nodup_cons.1 (List.nodup_append.1 hnd).2.1).1
    simp only [bne_iff_ne, ne_eq]
    intro e; subst e
    exact this hi
  rw [hl, hr]
  simp

theorem wpAny_of_TX {md : Region.Mode} {Q' : Exit → Act → World → Prop} (hQ : ∀ a w, Q a w → Q' .normal a w) {bef : Array Nat} (hs : Region.noSelect ops = true) (hb : befB md ops bef = true) (hk : backB md ops = true)
    (hp : pairsB ops kd bef = true) : ∀ (n : Nat) (listed : Array Bool) (a : Act) (w : World), listed.size = ops.size → (unlisted ops listed).length = n →
    (∀ (j : Nat) (o : Oper), ops[j]? = some o → listed.getD j false = true → ∀ e ∈ o.after, Region.binds md e = true → listed.getD e.on false = true) → S w →
    TX P ops S kd Q (unlisted ops listed) a w → wpAny P md ops Q' n listed a w
  | 0, listed, a, w, hsz, hn, hc, hS, h => by
    have h0 : unlisted ops listed = [] := List.eq_nil_of_length_eq_zero hn
    rw [h0] at h
    refine ⟨?_, hQ _ _ h⟩
    refine List.eq_nil_iff_forall_not_mem.2 fun i hi => ?_
    obtain ⟨h1, o, ho, _⟩ := mem_ready.1 hi
    have : i ∈ unlisted ops listed := List.mem_filter.2 ⟨by simpa using (Array.getElem?_eq_some_iff.1 ho).1, by rw [h1]; rfl⟩
    rw [h0] at this; cases this
  | n + 1, listed, a, w, hsz, hn, hc, hS, h => by
    have hnd : (unlisted ops listed).Nodup := List.Nodup.sublist List.filter_sublist List.nodup_range
    have step : ∀ j, j ∈ Region.ready md ops listed → wpOp P ops Q' j (wpAny P md ops Q' n (listed.setIfInBounds j true)) a w := by
      intro j hj
      obtain ⟨h1, o, ho, hall⟩ := mem_ready.1 hj
      have hjs : j < ops.size := (Array.getElem?_eq_some_iff.1 ho).1
      have hjm : j ∈ unlisted ops listed := List.mem_filter.2 ⟨by simpa using hjs, by rw [h1]; rfl⟩
      obtain ⟨l, r, hlr⟩ := List.append_of_mem hjm
      have hsorted : (unlisted ops listed).Pairwise (· < ·) := List.Pairwise.filter _ List.pairwise_lt_range
      have hap : ∀ i ∈ l, apartB ops kd i j = true := by
        intro i hi
        have hilt : i < j := by
          rw [hlr] at hsorted
          exact (List.pairwise_append.1 hsorted).2.2 i hi j (by simp)
        have him : i ∈ unlisted ops listed := by rw [hlr]; simp [hi]
        have hiu := (List.mem_filter.1 him).2
        have hp1 := List.all_eq_true.1 (List.all_eq_true.1 hp j (List.mem_range.2 hjs)) i (List.mem_range.2 hilt)
        simp only [Bool.or_eq_true] at hp1
        rcases hp1 with hp1 | hp1
        · exfalso
          unfold orderedB at hp1
          have hb1 := List.all_eq_true.1 hb j (List.mem_range.2 hjs)
          simp only [ho] at hb1
          have hb2 := List.all_eq_true.1 hb1 i (List.mem_range.2 (by omega))
          simp only [hp1, Bool.not_true, Bool.false_or] at hb2
          obtain ⟨e, he, h3⟩ := Array.any_eq_true'.1 hb2
          simp only [Bool.and_eq_true, Bool.or_eq_true, beq_iff_eq, decide_eq_true_eq] at h3
          obtain ⟨⟨h4, h5⟩, h6⟩ := h3
          have h7 := hall e he h4
          have hli : listed.getD i false = true := by
            rcases h5 with h5 | h5
            · rw [← h5]; exact h7
            · exact listed_of_bef hb hc i (by omega) e.on h7 (by omega) h5
          have : listed.getD i true = true := by
            rcases Nat.lt_or_ge i listed.size with h' | h'
            · simp [h'] at hli ⊢; exact hli
            · simp [Array.getElem?_eq_none h'] at hli
          rw [this] at hiu; cases hiu
        · exact hp1
      rw [hlr] at h
      have h2 := TX.front hs l hS hap h
      have h3 := TOp.toWp (Q := Q') hS (show TOp P ops S (kd j) j (TX P ops S kd Q (l ++ r)) a w from h2)
      refine wpOp_mono ?_ h3
      rintro a' w' ⟨hS', h4⟩
      have hul := unlisted_set hsz hlr (by rw [← hlr]; exact hnd)
      refine wpAny_of_TX hQ hs hb hk hp n _ a' w' (by simpa using hsz) ?_ ?_ hS' (by rw [hul]; exact h4)
      · rw [hul]; rw [hlr] at hn; simp at hn ⊢; omega
      · intro k ok hk hlk e he hbe
        by_cases hkj : j = k
        · subst hkj
          rw [ho] at hk; cases hk
          exact getD_set_true (hall e he hbe)
        · rw [getD_set_ne false hkj] at hlk
          exact getD_set_true (hc k ok hk hlk e he hbe)
    refine ⟨fun h0 => ?_, step⟩
    · -- something is ready: the first of those that have not come up
      exfalso
      cases hu : unlisted ops listed with
      | nil => rw [hu] at hn; cases hn
      | cons j r =>
        have hjm : j ∈ unlisted ops listed := by rw [hu]; simp
        have hjs : j < ops.size := by have := (List.mem_filter.1 hjm).1; simpa using this
        have hsorted : (unlisted ops listed).Pairwise (· < ·) := List.Pairwise.filter _ List.pairwise_lt_range
        have hjr : j ∈ Region.ready md ops listed := by
          refine mem_ready.2 ⟨?_, ops[j], Array.getElem?_eq_getElem hjs, fun e he hbe => ?_⟩
          · have := (List.mem_filter.1 hjm).2
            cases hl : listed.getD j true
            · rfl
            · rw [hl] at this; cases this
          · have h1 := List.all_eq_true.1 hk j (List.mem_range.2 hjs)
            simp only [Array.getElem?_eq_getElem hjs] at h1
            have h2 := (Array.all_eq_true_iff_forall_mem.1 h1) e he
            simp only [hbe, Bool.not_true, Bool.false_or, decide_eq_true_eq] at h2
            have h3 : e.on ∉ unlisted ops listed := by
              intro hm
              rw [hu] at hm hsorted
              rcases List.mem_cons.1 hm with h4 | h4
              · omega
              · have := (List.pairwise_cons.1 hsorted).1 e.on h4
                omega
            have h4 : listed.getD e.on true = true := by
              cases hl : listed.getD e.on true
              · exact absurd (List.mem_filter.2 ⟨List.mem_range.2 (by omega), by rw [hl]; rfl⟩) h3
              · rfl
            have h5 : e.on < listed.size := by omega
            simpa [h5] using h4
        rw [h0] at hjr
        cases hjr

/-- The same, where the last operation of all waits for all the others: what it leaves need not meet S. -/
theorem wpAny_of_TXL {md : Region.Mode} {Q' : Exit → Act → World → Prop} (hQ : ∀ a w, Q a w → Q' .normal a w) {bef : Array Nat} {e : Nat} (hs : Region.noSelect ops = true) (hb : befB md ops bef = true) (hk : backB md ops = true)
    (hp : pairsB ops kd bef = true) (he : ops.size = e + 1) (hall : ∀ i, i < e → orderedB bef i e = true) : ∀ (n : Nat) (listed : Array Bool) (u : List Nat) (a : Act) (w : World), listed.size = ops.size → unlisted ops listed = u ++ [e] → u.length = n →
    (∀ (j : Nat) (o : Oper), ops[j]? = some o → listed.getD j false = true → ∀ e ∈ o.after, Region.binds md e = true → listed.getD e.on false = true) → S w →
    TX P ops S kd (fun a w => wpOp P ops noQ e Q a w) u a w → wpAny P md ops Q' (n + 1) listed a w := by
  intro n
  induction n with
  | zero =>
    intro listed u a w hsz hu hn hc hS h
    have h0 : u = [] := List.eq_nil_of_length_eq_zero hn
    subst h0
    have hem : e ∈ unlisted ops listed := by rw [hu]; simp
    refine ⟨fun hr => ?_, fun j hj => ?_⟩
    · exfalso
      have hes : e < ops.size := by omega
      have hjr : e ∈ Region.ready md ops listed := by
        refine mem_ready.2 ⟨?_, ops[e], Array.getElem?_eq_getElem hes, fun d hd hbd => ?_⟩
        · have := (List.mem_filter.1 hem).2
          cases hl : listed.getD e true
          · rfl
          · rw [hl] at this; cases this
        · have h1 := List.all_eq_true.1 hk e (List.mem_range.2 hes)
          simp only [Array.getElem?_eq_getElem hes] at h1
          have h2 := (Array.all_eq_true_iff_forall_mem.1 h1) d hd
          simp only [hbd, Bool.not_true, Bool.false_or, decide_eq_true_eq] at h2
          have h3 : d.on ∉ unlisted ops listed := by rw [hu]; simp; omega
          have h4 : listed.getD d.on true = true := by
            cases hl : listed.getD d.on true
            · exact absurd (List.mem_filter.2 ⟨List.mem_range.2 (by omega), by rw [hl]; rfl⟩) h3
            · rfl
          have h5 : d.on < listed.size := by omega
          simpa [h5] using h4
      rw [hr] at hjr; cases hjr
    · obtain ⟨h1, o, ho, _⟩ := mem_ready.1 hj
      have hjm : j ∈ unlisted ops listed := List.mem_filter.2 ⟨by simpa using (Array.getElem?_eq_some_iff.1 ho).1, by rw [h1]; rfl⟩
      rw [hu] at hjm
      have hje : j = e := by simpa using hjm
      subst hje
      refine wpOp_mono (fun a' w' hq => ?_) (wpOp_noQ (show wpOp P ops noQ j Q a w from h))
      refine ⟨?_, hQ _ _ hq⟩
      refine List.eq_nil_iff_forall_not_mem.2 fun i hi => ?_
      obtain ⟨h1, o, ho, _⟩ := mem_ready.1 hi
      have hnd : (unlisted ops listed).Nodup := List.Nodup.sublist List.filter_sublist List.nodup_range
      have hul := unlisted_set hsz (l := []) (r := []) hu (by rw [hu] at hnd; exact hnd)
      have : i ∈ unlisted ops (listed.setIfInBounds j true) := List.mem_filter.2 ⟨by simpa using (Array.getElem?_eq_some_iff.1 ho).1, by rw [h1]; rfl⟩
      rw [hul] at this; cases this
  | succ n ih =>
    intro listed u a w hsz hu hn hc hS h
    have hnd : (unlisted ops listed).Nodup := List.Nodup.sublist List.filter_sublist List.nodup_range
    have hsorted : (unlisted ops listed).Pairwise (· < ·) := List.Pairwise.filter _ List.pairwise_lt_range
    refine ⟨fun h0 => ?_, fun j hj => ?_⟩
    · exfalso
      cases hu' : u with
      | nil => rw [hu'] at hn; cases hn
      | cons j r =>
        rw [hu'] at hu
        have hjm : j ∈ unlisted ops listed := by rw [hu]; simp
        have hjs : j < ops.size := by have := (List.mem_filter.1 hjm).1; simpa using this
        have hjr : j ∈ Region.ready md ops listed := by
          refine mem_ready.2 ⟨?_, ops[j], Array.getElem?_eq_getElem hjs, fun e he hbe => ?_⟩
          · have := (List.mem_filter.1 hjm).2
            cases hl : listed.getD j true
            · rfl
            · rw [hl] at this; cases this
          · have h1 := List.all_eq_true.1 hk j (List.mem_range.2 hjs)
            simp only [Array.getElem?_eq_getElem hjs] at h1
            have h2 := (Array.all_eq_true_iff_forall_mem.1 h1) e he
            simp only [hbe, Bool.not_true, Bool.false_or, decide_eq_true_eq] at h2
            have h3 : e.on ∉ unlisted ops listed := by
              intro hm
              rw [hu] at hm hsorted
              rcases List.mem_cons.1 hm with h4 | h4
              · omega
              · have := (List.pairwise_cons.1 hsorted).1 e.on h4
                omega
            have h4 : listed.getD e.on true = true := by
              cases hl : listed.getD e.on true
              · exact absurd (List.mem_filter.2 ⟨List.mem_range.2 (by omega), by rw [hl]; rfl⟩) h3
              · rfl
            have h5 : e.on < listed.size := by omega
            simpa [h5] using h4
        rw [h0] at hjr; cases hjr
    · obtain ⟨h1, o, ho, hrd⟩ := mem_ready.1 hj
      have hjs : j < ops.size := (Array.getElem?_eq_some_iff.1 ho).1
      have hjm : j ∈ unlisted ops listed := List.mem_filter.2 ⟨by simpa using hjs, by rw [h1]; rfl⟩
      -- whoever j waits for has come up
      have hwait : ∀ i, i < j → orderedB bef i j = true → listed.getD i false = true := by
        intro i hij hp1
        unfold orderedB at hp1
        have hb1 := List.all_eq_true.1 hb j (List.mem_range.2 hjs)
        simp only [ho] at hb1
        have hb2 := List.all_eq_true.1 hb1 i (List.mem_range.2 (by omega))
        simp only [hp1, Bool.not_true, Bool.false_or] at hb2
        obtain ⟨d, hd, h3⟩ := Array.any_eq_true'.1 hb2
        simp only [Bool.and_eq_true, Bool.or_eq_true, beq_iff_eq, decide_eq_true_eq] at h3
        obtain ⟨⟨h4, h5⟩, h6⟩ := h3
        have h7 := hrd d hd h4
        rcases h5 with h5 | h5
        · rw [← h5]; exact h7
        · exact listed_of_bef hb hc i (by omega) d.on h7 (by omega) h5
      have hun : ∀ i, i ∈ unlisted ops listed → listed.getD i false = true → False := by
        intro i him hli
        have hiu := (List.mem_filter.1 him).2
        have : listed.getD i true = true := by
          rcases Nat.lt_or_ge i listed.size with h' | h'
          · simp [h'] at hli ⊢; exact hli
          · simp [Array.getElem?_eq_none h'] at hli
        rw [this] at hiu; cases hiu
      have hju : j ∈ u := by
        rw [hu] at hjm
        rcases List.mem_append.1 hjm with h2 | h2
        · exact h2
        · exfalso
          have hje : j = e := by simpa using h2
          subst hje
          cases hu' : u with
          | nil => rw [hu'] at hn; cases hn
          | cons i r =>
            rw [hu'] at hu
            have him : i ∈ unlisted ops listed := by rw [hu]; simp
            have hie : i < j := by
              rw [hu] at hsorted
              exact (List.pairwise_cons.1 hsorted).1 j (by simp)
            exact hun i him (hwait i hie (hall i hie))
      obtain ⟨l, r, hlr⟩ := List.append_of_mem hju
      have hap : ∀ i ∈ l, apartB ops kd i j = true := by
        intro i hi
        have hu2 : unlisted ops listed = l ++ (j :: (r ++ [e])) := by rw [hu, hlr]; simp
        have hilt : i < j := by
          rw [hu2] at hsorted
          exact (List.pairwise_append.1 hsorted).2.2 i hi j (by simp)
        have him : i ∈ unlisted ops listed := by rw [hu2]; simp [hi]
        have hp1 := List.all_eq_true.1 (List.all_eq_true.1 hp j (List.mem_range.2 hjs)) i (List.mem_range.2 hilt)
        simp only [Bool.or_eq_true] at hp1
        rcases hp1 with hp1 | hp1
        · exact (hun i him (hwait i hilt hp1)).elim
        · exact hp1
      rw [hlr] at h
      have h2 := TX.front hs l hS hap h
      have h3 := TOp.toWp (Q := Q') hS (show TOp P ops S (kd j) j (TX P ops S kd _ (l ++ r)) a w from h2)
      refine wpOp_mono ?_ h3
      rintro a' w' ⟨hS', h4⟩
      have hu2 : unlisted ops listed = l ++ (j :: (r ++ [e])) := by rw [hu, hlr]; simp
      have hul := unlisted_set hsz hu2 (by rw [← hu2]; exact hnd)
      refine ih _ (l ++ r) a' w' (by simpa using hsz) (by rw [hul]; simp) ?_ ?_ hS' h4
      · rw [hlr] at hn; simp at hn ⊢; omega
      · intro k ok hk' hlk d hd hbe
        by_cases hkj : j = k
        · subst hkj
          rw [ho] at hk'; cases hk'
          exact getD_set_true (hrd d hd hbe)
        · rw [getD_set_ne false hkj] at hlk
          exact getD_set_true (hc k ok hk' hlk d hd hbe)

theorem unlisted_none (n : Nat) (hn : n = ops.size) : unlisted ops (Array.replicate n false) = List.range n := by
  subst hn
  refine List.filter_eq_self.2 fun i hi => ?_
  have : i < ops.size := by simpa using hi
  simp [this]

/-- A region whose order is drawn, in the text's order. -/
theorem wp_drawn {id : Nat} {Q' : Exit → Act → World → Prop} {a : Act} {w : World} (S : World → Prop) (kd : Nat → OK) (bef : Array Nat) (hm : P.follows .mixedOrders = true)
    (hc : (Region.noSelect ops && befB .any ops bef && backB .any ops && pairsB ops kd bef) = true) (hS : S w.drew)
    (h : TX P ops S kd (fun a w => Q' .normal a w) (List.range ops.size) a w.drew) : (Code.region id ops true).wp P Q' a w := by
  simp only [Bool.and_eq_true] at hc
  obtain ⟨⟨⟨h1, h2⟩, h3⟩, h4⟩ := hc
  refine wp_region_any hm ?_
  refine wpAny_of_TX (fun _ _ h => h) h1 h2 h3 h4 ops.size _ a w.drew (by simp) ?_ ?_ hS ?_
  · rw [unlisted_none _ rfl]; simp
  · intro j o _ hl
    rcases Nat.lt_or_ge j ops.size with h' | h'
    · simp [h'] at hl
    · simp [h'] at hl
  · rw [unlisted_none _ rfl]; exact h

theorem wp_drawnL {id e : Nat} {Q' : Exit → Act → World → Prop} {a : Act} {w : World} (S : World → Prop) (kd : Nat → OK) (bef : Array Nat) (hm : P.follows .mixedOrders = true)
    (hc : (Region.noSelect ops && befB .any ops bef && backB .any ops && pairsB ops kd bef) = true) (he : ops.size = e + 1) (hall : (List.range e).all (fun i => orderedB bef i e) = true) (hS : S w.drew)
    (h : TX P ops S kd (fun a w => wpOp P ops noQ e (fun a w => Q' .normal a w) a w) (List.range e) a w.drew) : (Code.region id ops true).wp P Q' a w := by
  simp only [Bool.and_eq_true] at hc
  obtain ⟨⟨⟨h1, h2⟩, h3⟩, h4⟩ := hc
  refine wp_region_any hm ?_
  rw [he]
  refine wpAny_of_TXL (e := e) (fun _ _ h => h) h1 h2 h3 h4 he (fun i hi => List.all_eq_true.1 hall i (List.mem_range.2 hi)) e _ (List.range e) a w.drew (by simp [he]) ?_ (by simp) ?_ hS h
  · rw [unlisted_none _ he.symm, List.range_succ]
  · intro j o _ hl
    rcases Nat.lt_or_ge j (e + 1) with h' | h'
    · simp [h'] at hl
    · simp [h'] at hl

/-- A plain region. -/
theorem wpOps_of_TX {Q' : Exit → Act → World → Prop} (hQ : ∀ a w, Q a w → Q' .normal a w) : ∀ (l : List Nat) (a : Act) (w : World), S w → TX P ops S kd Q l a w → wpOps P ops Q' l a w
  | [], a, w, _, h => hQ _ _ h
  | i :: l, a, w, hS, h => by
    rw [wpOps_cons]
    exact wpOp_mono (fun a w h => wpOps_of_TX hQ l a w h.1 h.2) (TOp.toWp hS (show TOp P ops S (kd i) i (TX P ops S kd Q l) a w from h))

theorem wp_plain {id : Nat} {Q' : Exit → Act → World → Prop} {a : Act} {w : World} (kd : Nat → OK)
    (h : TX P ops (fun _ => True) kd (fun a w => Q' .normal a w) (List.range ops.size) a w) : (Code.region id ops false).wp P Q' a w :=
  wp_region (wpOps_of_TX (fun _ _ h => h) _ a w trivial h)

end
end Go.Proofs.Ytafmgghpcneoeaa
