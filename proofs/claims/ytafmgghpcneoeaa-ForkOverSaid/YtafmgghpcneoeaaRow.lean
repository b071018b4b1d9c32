/- Arguments read: what the walks want to know of them, from what the reader read; and the end of a row. -/
import Derived.Test.YtafmgghpcneoeaaStr
import Derived.ProofKit
import Derived.OpenShut
namespace Go.Proofs.Ytafmgghpcneoeaa
open Go Go.BigFrame Go.ChangeShapes Go.RowKit

def gW (w : World) : Gh := fun b => w.heap[b]?
theorem gW_has (w : World) : Has w (gW w) := fun _ _ h => h

/-- What is read at a type has R. -/
def RD (P : Program) (t : TypeId) (R : Gh → List Value → Prop) : Prop :=
  ∀ (H : Type) (enc : TypeId × Value → H) (w : World) (spare : Nat → Bool) (held : Bool) (fuel : Nat) (cs : List Value) (y : DataW H × List MemPlace),
    DataW.trod enc P w 0 spare held fuel t cs = some y → (∀ n ∈ y.1.weights P t, n ≤ reachBytes) → R (gW w) cs

theorem RD.mono {P : Program} {t : TypeId} {R R' : Gh → List Value → Prop} (h : RD P t R) (k : ∀ g cs, R g cs → R' g cs) : RD P t R' :=
  fun H enc w spare held fuel cs y hy hw => k _ _ (h H enc w spare held fuel cs y hy hw)

theorem inR_wf {k : IntKind} {n : Int} (h : (Lit.int k n).wf = true) : inR k n := by
  simp only [Lit.wf, Bool.and_eq_true, decide_eq_true_eq] at h
  cases k <;> simpa [inR, IntKind.min, IntKind.max, IntKind.signed, IntKind.bits] using h

def RInt (k : IntKind) : Gh → List Value → Prop := fun _ cs => ∃ n, cs = [.int k n] ∧ inR k n
theorem RD.int {P : Program} {t : TypeId} {k : IntKind} (ht : P.underlying t = some (.int k)) : RD P t (RInt k) := by
  intro H enc w spare held fuel cs y hy _
  obtain ⟨n, rfl, _, hn⟩ := DataW.trod_int ht hy
  exact ⟨n, rfl, inR_wf hn⟩

def intOf : Value → Int
  | .int _ n => n
  | _ => 0

theorem RD.arr {P : Program} {t e : TypeId} {k : IntKind} {n : Nat} (ht : P.underlying t = some (.array n e)) (he : P.underlying e = some (.int k)) (hc : P.cellsOf e = 1) (hn : P.cellsOf t = n) :
    RD P t (fun _ cs => ∃ l : List Int, l.length = n ∧ cs = l.map (Value.int k) ∧ ∀ x ∈ l, inR k x) := by
  intro H enc w spare held fuel cs y hy _
  obtain ⟨xs, m, _, _, hl, hx, hi⟩ := DataW.trod_array ht hy
  rw [hn] at hl
  have key : ∀ i (h : i < cs.length), ∃ z, cs[i] = .int k z ∧ inR k z := by
    intro i h
    have h1 := hi i (by omega)
    rw [hc, Nat.mul_one, List.getElem?_eq_getElem (by omega)] at h1
    obtain ⟨z, h2, _, h3⟩ := DataW.trod_int he h1
    have h4 : (cs.drop i).take 1 = [cs[i]] := by rw [List.drop_eq_getElem_cons h]; rfl
    rw [h4] at h2
    exact ⟨z, by simpa using h2, inR_wf h3⟩
  refine ⟨cs.map intOf, by simpa using hl, ?_, ?_⟩
  · rw [List.map_map]
    apply List.ext_getElem (by simp)
    intro i h1 h2
    obtain ⟨z, h3, _⟩ := key i h1
    simp [h3, intOf]
  · intro x hx'
    obtain ⟨v, hv, rfl⟩ := List.mem_map.1 hx'
    obtain ⟨i, hi', rfl⟩ := List.mem_iff_getElem.1 hv
    obtain ⟨z, h3, h4⟩ := key i hi'
    rw [h3]; exact h4

def RAdr : Gh → List Value → Prop := fun _ cs => ∃ a, a < NA ∧ cs = adrC a
def RWd : Gh → List Value → Prop := fun _ cs => ∃ a, a < NW ∧ cs = wdC a
def RHash : Gh → List Value → Prop := fun _ cs => ∃ a, a < NH ∧ cs = hashC a

theorem big_of {l : List Int} {n : Nat} (hl : l.length = n) (h : ∀ x ∈ l, inR .u8 x) : ofLe 256 l.reverse < 256 ^ n ∧ (le 256 n (ofLe 256 l.reverse)).reverse = l := by
  have h1 : ∀ x ∈ l.reverse, 0 ≤ x ∧ x < ((256 : Nat) : Int) := fun x hx => by
    have := h x (by simpa using hx)
    simp only [inR] at this; omega
  have h2 := ofLe_lt (by decide : 0 < 256) _ h1
  have h3 := le_ofLe (by decide : 0 < 256) _ h1
  rw [List.length_reverse, hl] at h2 h3
  exact ⟨h2, by rw [h3, List.reverse_reverse]⟩

theorem RD.adr {P : Program} {t e : TypeId} (ht : P.underlying t = some (.array 20 e)) (he : P.underlying e = some (.int .u8)) (hc : P.cellsOf e = 1) (hn : P.cellsOf t = 20) : RD P t RAdr :=
  (RD.arr ht he hc hn).mono fun g cs ⟨l, h1, h2, h3⟩ => by
    obtain ⟨h4, h5⟩ := big_of h1 h3
    exact ⟨ofLe 256 l.reverse, h4, by unfold adrC; rw [h5]; exact h2⟩
theorem RD.hash {P : Program} {t e : TypeId} (ht : P.underlying t = some (.array 32 e)) (he : P.underlying e = some (.int .u8)) (hc : P.cellsOf e = 1) (hn : P.cellsOf t = 32) : RD P t RHash :=
  (RD.arr ht he hc hn).mono fun g cs ⟨l, h1, h2, h3⟩ => by
    obtain ⟨h4, h5⟩ := big_of h1 h3
    exact ⟨ofLe 256 l.reverse, h4, by unfold hashC; rw [h5]; exact h2⟩
theorem RD.wd {P : Program} {t e : TypeId} (ht : P.underlying t = some (.array 4 e)) (he : P.underlying e = some (.int .u64)) (hc : P.cellsOf e = 1) (hn : P.cellsOf t = 4) : RD P t RWd :=
  (RD.arr ht he hc hn).mono fun g cs ⟨l, h1, h2, h3⟩ => by
    have k1 : ∀ x ∈ l, 0 ≤ x ∧ x < ((B64 : Nat) : Int) := fun x hx => by
      have := h3 x hx
      simp only [inR] at this; unfold B64; omega
    have k2 := ofLe_lt B64_pos _ k1
    have k3 := le_ofLe B64_pos _ k1
    rw [h1] at k2 k3
    exact ⟨ofLe B64 l, k2, by unfold wdC; rw [k3]; exact h2⟩

/-- The parts of a struct, one behind the other. -/
inductive Parts (g : Gh) : List (Nat × (Gh → List Value → Prop)) → List Value → Prop
  | nil : Parts g [] []
  | cons {n : Nat} {R : Gh → List Value → Prop} {Rs : List (Nat × (Gh → List Value → Prop))} {a b : List Value} : a.length = n → R g a → Parts g Rs b → Parts g ((n, R) :: Rs) (a ++ b)

theorem Parts.inv {g : Gh} {n : Nat} {R : Gh → List Value → Prop} {Rs : List (Nat × (Gh → List Value → Prop))} {cs : List Value} (h : Parts g ((n, R) :: Rs) cs) : ∃ a b, cs = a ++ b ∧ R g a ∧ Parts g Rs b := by
  cases h with
  | cons _ h1 h2 => exact ⟨_, _, rfl, h1, h2⟩
theorem Parts.inv0 {g : Gh} {cs : List Value} (h : Parts g [] cs) : cs = [] := by
  cases h; rfl

inductive FS (P : Program) : Nat → List Field → List (Nat × (Gh → List Value → Prop)) → Prop
  | nil {o : Nat} : FS P o [] []
  | cons {o n : Nat} {f : Field} {fs : List Field} {R : Gh → List Value → Prop} {Rs : List (Nat × (Gh → List Value → Prop))} : f.offset = o → P.cellsOf f.type = n → RD P f.type R → FS P (o + n) fs Rs → FS P o (f :: fs) ((n, R) :: Rs)

theorem FS.parts {P : Program} {H : Type} {enc : TypeId × Value → H} {w : World} {spare : Nat → Bool} {held : Bool} {m : Nat} {cs : List Value} :
    ∀ {o : Nat} {fs : List Field} {Rs : List (Nat × (Gh → List Value → Prop))} {xs : List (DataW H × List MemPlace)}, FS P o fs Rs → xs.length = fs.length →
      (∀ (i : Nat) (f : Field), fs[i]? = some f → DataW.trod enc P w 0 spare held m f.type ((cs.drop f.offset).take (P.cellsOf f.type)) = xs[i]?) →
      (∀ n ∈ DataW.weightsEach P (fs.map (·.type)) (xs.map (·.1)), n ≤ reachBytes) → cs.length = o + (Rs.map (·.1)).sum → Parts (gW w) Rs (cs.drop o)
  | o, _, _, xs, .nil, _, _, _, hl => by
    have : cs.drop o = [] := List.drop_eq_nil_of_le (by simp at hl; omega)
    rw [this]; exact .nil
  | o, f :: fs, (n, R) :: Rs, x :: xs, .cons ho hn hr hf, hlen, hx, hw, hl => by
    simp only [List.map_cons, List.sum_cons] at hl
    have h0 := hx 0 f rfl
    rw [ho, hn] at h0
    simp only [List.getElem?_cons_zero] at h0
    simp only [List.map_cons, DataW.weightsEach, List.mem_append] at hw
    have h1 := hr H enc w spare held m _ _ h0 (fun k hk => hw k (.inl hk))
    have h2 := FS.parts hf (by simpa using hlen) (fun i f' h => hx (i + 1) f' (by simpa using h)) (fun k hk => hw k (.inr hk)) (by omega)
    have h3 : cs.drop o = (cs.drop o).take n ++ cs.drop (o + n) := by
      rw [← List.drop_drop, List.take_append_drop]
    rw [h3]
    exact .cons (by simp; omega) h1 h2

theorem RD.st {P : Program} {t : TypeId} {fs : Array Field} {Rs : List (Nat × (Gh → List Value → Prop))} (ht : P.underlying t = some (.struct fs)) (h : FS P 0 fs.toList Rs) (hn : P.cellsOf t = (Rs.map (·.1)).sum) : RD P t (fun g cs => Parts g Rs cs) := by
  intro H enc w spare held fuel cs y hy hw
  obtain ⟨xs, m, _, rfl, hl, hx, hi⟩ := DataW.trod_struct ht hy
  simp only [DataW.weights, ht] at hw
  have := FS.parts h (by simpa using hx) (fun i f hf => hi i f (by simpa using hf)) hw (by rw [hl, hn, Nat.zero_add])
  rwa [List.drop_zero] at this

def RSl (sz bz : Nat) (R : Gh → List Value → Prop) : Gh → List Value → Prop := fun g cs => ∃ rows v, cs = [v] ∧ SlAt g sz rows v ∧ (∀ r ∈ rows, r.length = sz ∧ R g r) ∧ rows.length * bz ≤ reachBytes

theorem weightsAll_mem {P : Program} {H : Type} {e : TypeId} {d : DataW H} : ∀ {ds : List (DataW H)}, d ∈ ds → ∀ n ∈ d.weights P e, n ∈ DataW.weightsAll P e ds
  | x :: ds, h, n, hn => by
    simp only [DataW.weightsAll, List.mem_append]
    rcases List.mem_cons.1 h with rfl | h
    · exact .inl hn
    · exact .inr (weightsAll_mem h n hn)

theorem RD.sl {P : Program} {t e : TypeId} {sz bz : Nat} {R : Gh → List Value → Prop} (ht : P.underlying t = some (.slice e)) (hc : P.cellsOf e = sz) (hs : 0 < sz) (hb : P.bytesOf e = bz) (hr : RD P e R) : RD P t (RSl sz bz R) := by
  intro H enc w spare held fuel cs y hy hw
  rcases DataW.trod_slice ht hy with ⟨rfl, _⟩ | ⟨a, len, cap, elems, rest, n, _, rfl, rfl, _, hl, hm, hlen, hel, hsp, hns⟩
  · exact ⟨[], _, rfl, SlAt.nil _ _, by simp, by simp⟩
  · simp only [DataW.weights, ht, hb, List.length_map, List.mem_cons, List.mem_append] at hw
    rw [hc] at hel
    have key : ∀ i, i < len → ∃ r, w.cells? 0 (a.add (i * sz)) sz = some r ∧ R (gW w) r := by
      intro i hi
      have h1 := hel i hi
      rw [List.getElem?_eq_getElem (by omega)] at h1
      obtain ⟨r, h2, h3⟩ := Option.bind_eq_some_iff.1 h1
      exact ⟨r, h2, hr H enc w spare held n r _ h3 (fun k hk => hw k (.inr (.inl (weightsAll_mem (List.mem_map_of_mem (List.getElem_mem (by omega))) k hk))))⟩
    let rows : List (List Value) := (List.range len).map fun i => (w.cells? 0 (a.add (i * sz)) sz).getD []
    have hrows : rows.length = len := by simp [rows]
    have hget : ∀ i r, rows[i]? = some r → i < len ∧ w.cells? 0 (a.add (i * sz)) sz = some r ∧ R (gW w) r := by
      intro i r h
      have hi : i < len := by have := (List.getElem?_eq_some_iff.1 h).1; omega
      obtain ⟨r', h1, h2⟩ := key i hi
      simp only [rows, List.getElem?_map, List.getElem?_range hi, Option.map_some, h1, Option.getD_some, Option.some.injEq] at h
      subst h
      exact ⟨hi, h1, h2⟩
    have hspot : len ≠ 0 → ∃ C E fr, w.heap[a.block]? = some (.cells C E fr) ∧ a.spot = none := by
      intro h0
      obtain ⟨r, h1, _⟩ := key 0 (by omega)
      obtain ⟨_, h2, h3⟩ := World.cells?_some h1
      have h4 := h3 0 hs
      rw [Nat.zero_mul] at h4
      have e0 : (a.add 0).add 0 = a := by simp [Addr.add]
      rw [e0, List.getElem?_eq_getElem (by omega)] at h4
      unfold World.cell? at h4
      split at h4
      · rename_i C E fr heq
        refine ⟨C, E, fr, heq, ?_⟩
        cases hsp' : a.spot with
        | none => rfl
        | some _ => simp [hsp'] at h4
      · cases h4
    refine ⟨rows, _, rfl, ⟨some a, cap, by rw [hrows], ?_⟩, ?_, ?_⟩
    · intro hne
      have h0 : len ≠ 0 := fun h => hne (List.eq_nil_of_length_eq_zero (by omega))
      obtain ⟨C, E, fr, h1, h2⟩ := hspot h0
      obtain ⟨b, o, s⟩ := a
      simp only at h1 h2
      subst h2
      refine ⟨b, o, rfl, fun i r hi => ⟨C.toList, E, fr, by simpa [gW] using h1, fun j v hj => ?_⟩⟩
      obtain ⟨h3, h4, _⟩ := hget i r hi
      obtain ⟨_, h5, h6⟩ := World.cells?_some h4
      have hj' : j < sz := by have := (List.getElem?_eq_some_iff.1 hj).1; omega
      have h7 := h6 j hj'
      have ea : ((⟨b, o, none⟩ : Addr).add (i * sz)).add j = ⟨b, o + i * sz + j, none⟩ := by
        unfold Addr.add
        by_cases e1 : i * sz = 0 <;> by_cases e2 : j = 0 <;> simp [e1, e2]
      rw [ea, hj] at h7
      unfold World.cell? at h7
      simp only [h1, Option.isSome_none, Bool.false_eq_true, if_false] at h7
      simpa using h7
    · intro r hr'
      obtain ⟨i, hi, rfl⟩ := List.mem_iff_getElem.1 hr'
      obtain ⟨_, h4, h5⟩ := hget i _ (List.getElem?_eq_getElem hi)
      exact ⟨(World.cells?_some h4).2.1, h5⟩
    · have := hw _ (.inl rfl)
      rw [hrows]
      have h9 : elems.length * bz ≤ (elems.length + rest.length) * bz := Nat.mul_le_mul_right _ (by omega)
      rw [hlen] at h9 this
      omega

/-! ### Bytes, slots, accounts -/
theorem RSl.bytes {g : Gh} {cs : List Value} (h : RSl 1 1 (RInt .u8) g cs) : ∃ bs v, cs = [v] ∧ SlAt g 1 (byteRows bs) v ∧ (∀ b ∈ bs, inR .u8 b) ∧ bs.length ≤ 140737488355328 := by
  obtain ⟨rows, v, rfl, h1, h2, h3⟩ := h
  have e : rows = byteRows (rows.map fun r => intOf (r.headD .nilIface)) := by
    unfold byteRows
    rw [List.map_map]
    apply List.ext_getElem (by simp)
    intro i h4 h5
    obtain ⟨_, n, h6, _⟩ := h2 _ (List.getElem_mem h4)
    simp [h6, intOf]
  refine ⟨rows.map fun r => intOf (r.headD .nilIface), v, rfl, e ▸ h1, ?_, ?_⟩
  · intro b hb
    obtain ⟨r, hr, rfl⟩ := List.mem_map.1 hb
    obtain ⟨_, n, h6, h7⟩ := h2 _ hr
    rw [h6]; exact h7
  · rw [List.length_map]; unfold reachBytes at h3; omega

theorem list_of {α : Type} {R : List Value → Prop} {C : α → List Value} {ok : α → Prop} (h : ∀ r, R r → ∃ x, r = C x ∧ ok x) : ∀ rows : List (List Value), (∀ r ∈ rows, R r) → ∃ xs : List α, rows = xs.map C ∧ ∀ x ∈ xs, ok x
  | [], _ => ⟨[], rfl, by simp⟩
  | r :: rows, hr => by
    obtain ⟨x, h1, h2⟩ := h r (hr r (by simp))
    obtain ⟨xs, h3, h4⟩ := list_of h rows (fun r' h' => hr r' (by simp [h']))
    exact ⟨x :: xs, by rw [h1, h3]; rfl, by simpa using ⟨h2, h4⟩⟩

def RSlot : Gh → List Value → Prop := fun _ cs => ∃ s : Nat × Nat, cs = slotC s ∧ s.1 < NW ∧ s.2 < NW
theorem RD.slot {P : Program} {t : TypeId} {fs : Array Field} (ht : P.underlying t = some (.struct fs)) (h : FS P 0 fs.toList [(4, RWd), (4, RWd)]) (hn : P.cellsOf t = 8) : RD P t RSlot :=
  (RD.st ht h hn).mono fun g cs hp => by
    obtain ⟨_, _, rfl, h1, hp⟩ := hp.inv
    obtain ⟨_, _, rfl, h2, hp⟩ := hp.inv
    cases hp.inv0
    obtain ⟨a, ha, rfl⟩ := h1
    obtain ⟨b, hb, rfl⟩ := h2
    exact ⟨(a, b), by simp [slotC], ha, hb⟩

def RAv : Gh → List Value → Prop := fun g cs => ∃ x : AV, cs = avC x ∧ AOk g x
theorem RD.av {P : Program} {t : TypeId} {fs : Array Field} (ht : P.underlying t = some (.struct fs)) (h : FS P 0 fs.toList [(20, RAdr), (1, RInt .u64), (4, RWd), (1, RSl 1 1 (RInt .u8)), (1, RSl 8 64 RSlot)]) (hn : P.cellsOf t = 27) : RD P t RAv :=
  (RD.st ht h hn).mono fun g cs hp => by
    obtain ⟨_, _, rfl, h1, hp⟩ := hp.inv
    obtain ⟨_, _, rfl, h2, hp⟩ := hp.inv
    obtain ⟨_, _, rfl, h3, hp⟩ := hp.inv
    obtain ⟨_, _, rfl, h4, hp⟩ := hp.inv
    obtain ⟨_, _, rfl, h5, hp⟩ := hp.inv
    cases hp.inv0
    obtain ⟨a, ha, rfl⟩ := h1
    obtain ⟨n, rfl, hn'⟩ := h2
    obtain ⟨b, hb, rfl⟩ := h3
    obtain ⟨bs, v, rfl, k1, k2, k3⟩ := h4.bytes
    obtain ⟨rows, u, rfl, k4, k5, k6⟩ := h5
    obtain ⟨ss, rfl, k7⟩ := list_of (C := slotC) (ok := fun s => s.1 < NW ∧ s.2 < NW) (fun r (hr : RSlot g r) => by obtain ⟨s, h6, h7⟩ := hr; exact ⟨s, h6, h7⟩) rows (fun r hr => (k5 r hr).2)
    refine ⟨⟨a, n, b, v, u, bs, ss⟩, by simp [avC], ⟨ha, hb, hn', k1, k4, k2, k7, k3, ?_⟩⟩
    simp only [List.length_map] at k6
    unfold reachBytes at k6
    show ss.length ≤ _
    omega

theorem RSl.avs {g : Gh} {cs : List Value} (h : RSl 27 112 RAv g cs) : ∃ (xs : List AV) (v : Value), cs = [v] ∧ SlAt g 27 (avRows xs) v ∧ (∀ x ∈ xs, AOk g x) ∧ xs.length ≤ 1256584717458 := by
  obtain ⟨rows, v, rfl, h1, h2, h3⟩ := h
  obtain ⟨xs, rfl, h4⟩ := list_of (C := avC) (ok := AOk g) (fun r (hr : RAv g r) => hr) rows (fun r hr => (h2 r hr).2)
  refine ⟨xs, v, rfl, h1, h4, ?_⟩
  simp only [List.length_map] at h3
  unfold reachBytes at h3
  omega

theorem RSl.adrs {g : Gh} {cs : List Value} (h : RSl 20 20 RAdr g cs) : ∃ (as : List Nat) (v : Value), cs = [v] ∧ SlAt g 20 (as.map adrC) v ∧ (∀ a ∈ as, a < NA) ∧ as.length ≤ 7036874417766 := by
  obtain ⟨rows, v, rfl, h1, h2, h3⟩ := h
  obtain ⟨as, rfl, h4⟩ := list_of (C := adrC) (ok := (· < NA)) (fun r (hr : RAdr g r) => by obtain ⟨a, h5, h6⟩ := hr; exact ⟨a, h6, h5⟩) rows (fun r hr => (h2 r hr).2)
  refine ⟨as, v, rfl, h1, h4, ?_⟩
  simp only [List.length_map] at h3
  unfold reachBytes at h3
  omega

theorem okWide_slice {P : Program} {w : World} {base : Nat} {t e : TypeId} {v u : Value} (ht : P.underlying t = some (.slice e)) (h : Value.okWide P w .any base t v) (hc : v.cells.toList = [u]) : v = u := by
  cases v with
  | agg cs =>
    simp only [Value.okWide, ht, Cell.okWide, Cell.ok] at h
  | _ => simpa [Value.cells] using hc
theorem okWide_agg {P : Program} {w : World} {base : Nat} {t : TypeId} {v : Value} {cs : List Value} (ht : (∃ fs, P.underlying t = some (.struct fs)) ∨ ∃ n e, P.underlying t = some (.array n e)) (h : Value.okWide P w .any base t v) (hc : v.cells.toList = cs) : v = .agg cs.toArray := by
  rcases ht with ⟨fs, ht⟩ | ⟨n, e, ht⟩ <;>
  · simp only [Value.okWide, ht] at h
    obtain ⟨cs', rfl, _, _⟩ := h
    have : cs'.toList = cs := hc
    rw [← this, Array.toArray_toList]

/-! ### The end of a row -/
theorem Keep.below {w w' : World} (h : Keep Non w w') : Below w.heap.size w w' := ⟨h.os, h.tape, h.output, h.size, fun k hk => h.block k hk (fun x => x)⟩

theorem trodAll_keep {H : Type} {enc : TypeId × Value → H} {P : Program} (hl : laidOutB P = true) {W W' : World} (hk : Keep Non W W') :
    ∀ {ts : List TypeId} {vs : List Value} {ds : List (DataW H)} {ps : List MemPlace}, (ts.all fun t => P.readableRec t && decide (t < P.types.size)) = true →
      DataW.TrodAll enc P W 0 (fun _ => true) true ts vs ds ps → (∀ x ∈ ps, x.block < W.heap.size) → DataW.TrodAll enc P W' 0 (fun b => decide (b < W.heap.size)) true ts vs ds ps
  | [], [], [], _, _, h, _ => h
  | t :: ts, v :: vs, d :: ds, _, hr, h, hlt => by
    obtain ⟨p, q, h1, h2, rfl⟩ := h
    simp only [List.all_cons, Bool.and_eq_true, decide_eq_true_eq] at hr
    exact ⟨p, q, Below.trod hl hr.1.1 hr.1.2 h1 hk.below (fun x hx => hlt x (by simp [hx])), trodAll_keep hl hk hr.2 h2 (fun x hx => hlt x (by simp [hx])), rfl⟩

/-- Nothing that stood has turned; a Bool comes back. -/
theorem post_keep {H : Type} {enc : TypeId × Value → H} {P : Program} {f : Func} {s : ChangeSpec} {apart : Bool} {W W' : World} {args : Array Value} {u : Value} {ds gs : List (DataW H)} {before : List MemPlace} {tb : TypeId} {b : Bool}
    (hl : laidOutB P = true) (hr : (f.params.toList.all fun t => P.readableRec t && decide (t < P.types.size)) = true) (hv : s.vars = []) (htb : P.underlying tb = some .bool) (hres : f.resultTypes = #[tb]) (hu : u = .bool b)
    (hs : gs = [] → (s.fn H ds).results = [.lit (.bool b)] ∧ (s.fn H ds).args = ds ∧ (s.fn H ds).vars = [])
    (hW : DataW.Whole enc P f.params.toList s.vars apart W args.toList ds gs before) (hk : Keep Non W W') :
    s.post enc P f apart true false false W args u W' := by
  have hlt := hW.lt
  have hW' := hW
  obtain ⟨p, q, hA, hV, rfl, _, _⟩ := hW
  rw [hv] at hV
  obtain ⟨rfl, rfl⟩ := trodVars_none hV
  obtain ⟨s1, s2, s3⟩ := hs rfl
  subst hu
  refine ⟨ds, [], p ++ [], [], p, [], hW', ?_, ?_, ?_, ?_, fun h => by cases h⟩
  · rw [List.append_nil, hres, s1]
    exact trodAll_mk1 (v := .bool b) ⟨1, by simp [DataW.trod, Value.cells, htb]⟩
  · rw [List.append_nil, s2]
    exact trodAll_keep hl hk hr hA (fun x hx => hlt x (by simp [hx]))
  · rw [List.append_nil, hv, s3]; rfl
  · refine ⟨hk.os, hk.output, fun i hi => ?_⟩
    rw [hk.block i hi (fun x => x)]
    cases W.heap[i]? with
    | none => trivial
    | some o => cases o <;> simp
