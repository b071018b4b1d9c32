/- Strings out of bytes; slots held against one another. -/
import Derived.Test.YtafmgghpcneoeaaRef
import Derived.Laws.StructEq
namespace Go.Proofs.Ytafmgghpcneoeaa
open Go Go.BigFrame

/-- The string of some bytes. -/
def bstr (bs : List Int) : ByteArray := ⟨(bs.map fun b => UInt8.ofNat b.toNat).toArray⟩

theorem bstr_inj {a b : List Int} (ha : ∀ x ∈ a, inR .u8 x) (hb : ∀ x ∈ b, inR .u8 x) (h : bstr a = bstr b) : a = b := by
  have h1 : a.map (fun b => UInt8.ofNat b.toNat) = b.map (fun b => UInt8.ofNat b.toNat) := by
    have := congrArg (fun z : ByteArray => z.data.toList) h
    simpa [bstr] using this
  clear h
  induction a generalizing b with
  | nil => cases b with
    | nil => rfl
    | cons y b => simp at h1
  | cons x a ih =>
    cases b with
    | nil => simp at h1
    | cons y b =>
      simp only [List.map_cons, List.cons.injEq] at h1
      have hx := ha x (by simp)
      have hy := hb y (by simp)
      simp only [inR] at hx hy
      have h2 : x.toNat = y.toNat := by
        have := congrArg UInt8.toNat h1.1
        simp [UInt8.toNat_ofNat] at this
        omega
      have h3 : x = y := by omega
      rw [h3, ih (fun z hz => ha z (by simp [hz])) (fun z hz => hb z (by simp [hz])) h1.2]

theorem bstr_beq {a b : List Int} (ha : ∀ x ∈ a, inR .u8 x) (hb : ∀ x ∈ b, inR .u8 x) : ((bstr a).toList == (bstr b).toList) = (a == b) := by
  rw [Bool.eq_iff_iff, beq_iff_eq, beq_iff_eq, ByteArray.toList_eq, ByteArray.toList_eq]
  exact ⟨fun h => bstr_inj ha hb (by
    have h1 : (bstr a).data = (bstr b).data := Array.toList_inj.1 h
    cases ha' : bstr a; cases hb' : bstr b
    rw [ha', hb'] at h1
    exact congrArg ByteArray.mk h1), fun h => by rw [h]⟩

section
variable {P : Program}

theorem foldl_bytes (f : Value → ByteArray → Sem (ForInStep ByteArray)) (hf : ∀ n s, f (.int .u8 n) s = pure (ForInStep.yield (s.push (UInt8.ofNat n.toNat)))) (bs : List Int) (s : ByteArray) (w : World) :
    (forIn (bs.map (fun b => Value.int .u8 b)) s f : Sem ByteArray).run P w = .ok ⟨s.data ++ (bs.map fun b => UInt8.ofNat b.toNat).toArray⟩ w := by
  induction bs generalizing s with
  | nil => simp
  | cons b bs ih =>
    rw [List.map_cons, List.forIn_cons, Sem.run_bind, hf]
    simp only [Sem.run_pure, Result.andThen_ok]
    rw [ih]
    simp [ByteArray.push]

theorem run_bytesToString {g : Gh} {bs : List Int} {v : Value} {w : World} (h : SlAt g 1 (byteRows bs) v) (hg : Has w g) : (Conv.bytesToString v).run P w = .ok (.string (bstr bs)) w := by
  obtain ⟨a, cap, rfl, h1⟩ := h.ex
  unfold Conv.bytesToString
  cases bs with
  | nil =>
    cases a with
    | none => simp [bstr]; rfl
    | some a =>
      simp [loadCells, loadCellsFrom, byteRows, bstr, Sem.run_bind]
      rfl
  | cons b0 bs =>
    obtain ⟨b, o, rfl, h2⟩ := h1 (by simp [byteRows])
    have hl : (loadCells ⟨b, o, none⟩ (byteRows (b0 :: bs)).length).run P w = .ok ((b0 :: bs).map (fun b => Value.int .u8 b)).toArray w := by
      have := run_loadCells_list (P := P) w ⟨b, o, none⟩ ((b0 :: bs).map (fun b => Value.int .u8 b)) (fun j v hv => by
        rw [addr_add]
        have hj : (byteRows (b0 :: bs))[j]? = some [v] := by
          simp only [byteRows, List.getElem?_map] at hv ⊢
          cases hq : (b0 :: bs)[j]? with
          | none => rw [hq] at hv; cases hv
          | some x => rw [hq] at hv; simp at hv; subst hv; rfl
        have := (h2 j [v] hj).cell hg
        rwa [Nat.mul_one] at this)
      rw [List.length_map] at this
      rw [byteRows_length]; exact this
    simp only [Sem.run_bind, hl, Result.andThen_ok]
    rw [← Array.forIn_toList]
    rw [List.toList_toArray, foldl_bytes _ (fun _ _ => rfl)]
    simp [bstr]

theorem slot_eq {t wt e : TypeId} (hw : P.underlying wt = some (.array 4 e)) (he : P.underlying e = some (.int .u64)) (hs : (P.info? e).map (·.size) = some 1) (hws : (P.info? wt).map (·.size) = some 4)
    (hu : P.underlying t = some (.struct (P.fieldsOf t))) (hp : P.stoodInHeld t = false) (hf : (P.fieldsOf t).toList.map (fun f => (f.name == "_", f.type, f.offset)) = [(false, wt, 0), (false, wt, 4)])
    (a b : Nat × Nat) (ha : a.1 < NW ∧ a.2 < NW) (hb : b.1 < NW ∧ b.2 < NW) (w : World) :
    (Op.equalIn 10000 t (.agg (slotC a).toArray) (.agg (slotC b).toArray)).run P w = .ok (a == b) w := by
  rw [show (10000 : Nat) = 9999 + 1 from rfl, run_equalIn_struct w 9999 t _ _ hu hp]
  cases hfs : (P.fieldsOf t).toList with
  | nil => rw [hfs] at hf; simp at hf
  | cons f1 fs =>
    cases fs with
    | nil => rw [hfs] at hf; simp at hf
    | cons f2 fs =>
      rw [hfs] at hf
      simp only [List.map_cons, List.cons.injEq, Prod.mk.injEq, List.map_eq_nil_iff] at hf
      obtain ⟨⟨n1, t1, o1⟩, ⟨n2, t2, o2⟩, rfl⟩ := hf
      have hagg : (isAgg wt).run P w = .ok true w := by
        unfold isAgg; rw [Sem.run_bind, run_underlying hw w]; rfl
      have part0 : ∀ s : Nat × Nat, (part wt (slotC s).toArray 0).run P w = .ok (.agg (wdC s.1).toArray) w := fun s => by
        unfold part
        simp only [Sem.run_bind, hagg, Result.andThen_ok, if_true, run_sizeOf' hws, Sem.run_pure]
        congr 2
      have part4 : ∀ s : Nat × Nat, (part wt (slotC s).toArray 4).run P w = .ok (.agg (wdC s.2).toArray) w := fun s => by
        unfold part
        simp only [Sem.run_bind, hagg, Result.andThen_ok, if_true, run_sizeOf' hws, Sem.run_pure]
        congr 2
      have weq : ∀ x y : Nat, x < NW → y < NW → (Op.equalIn 9999 wt (.agg (wdC x).toArray) (.agg (wdC y).toArray)).run P w = .ok (x == y) w := fun x y hx hy => by
        unfold wdC
        rw [show (9999 : Nat) = 9997 + 2 from rfl, run_equalIn_ints w 9997 wt e 4 .u64 hw he hs _ _ (by simp) (by simp)]
        congr 1
        exact beq_of_iff ⟨fun h => le_inj B64_pos 4 hx hy h, fun h => by rw [h]⟩
      have hn1 : f1.name ≠ "_" := by simpa using n1
      have hn2 : f2.name ≠ "_" := by simpa using n2
      have e1 := weq _ _ ha.1 hb.1
      have e2 := weq _ _ ha.2 hb.2
      have hab : (a == b) = (a.1 == b.1 && a.2 == b.2) := rfl
      rw [hab]
      simp only [Op.eqFields, hn1, hn2, ne_eq, not_false_eq_true, if_true, Sem.run_bind, t1, t2, o1, o2, part0, part4, e1, Result.andThen_ok]
      cases h1 : (a.1 == b.1)
      · simp
      · simp only [Bool.not_true, Bool.false_eq_true, if_false, Sem.run_bind, part4, e2, Result.andThen_ok, Bool.true_and]
        cases h2 : (a.2 == b.2) <;> simp

/-- '==' of slots. -/
structure EQS (P : Program) (t : TypeId) : Prop where
  eq : ∀ a b : Nat × Nat, (a.1 < NW ∧ a.2 < NW) → (b.1 < NW ∧ b.2 < NW) → ∀ w, (Op.equalIn 10000 t (.agg (slotC a).toArray) (.agg (slotC b).toArray)).run P w = .ok (a == b) w
  guard : P.eqGuardType P.depth t = false
end

section
variable {P : Program} {ops : Array Oper} {S : World → Prop} {rp : Nat → Bool} {Q : Act → World → Prop}
variable {rest : List Oper} {l : List Value} {w : World} {d : Nat} {ty : TypeId} {pos : String} {af : Array Edge} {gd : Option (Nat × Bool)}
variable {M : Nat → Prop} {w0 : World} {g : Gh} {ls : List (Nat × Obj)}

theorem TL.neqS {t u : TypeId} {x y : Operand} {a b : Nat × Nat} (he : EQS P t) (hx : ev l x = .agg (wdC a.1 ++ wdC a.2).toArray) (hy : ev l y = .agg (wdC b.1 ++ wdC b.2).toArray) (ha : a.1 < NW ∧ a.2 < NW) (hb : b.1 < NW ∧ b.2 < NW)
    (hg : Region.wanted ⟨some d, .binOp .neq t x y u, ty, pos, af, gd⟩ (yielded ops (F l).tmps) = true)
    (h : TL P ops S rp Q rest (F (l.set d (.bool (a != b)))) w) : TL P ops S rp Q (⟨some d, .binOp .neq t x y u, ty, pos, af, gd⟩ :: rest) (F l) w :=
  TL.bin _ (fun w' => by
    rw [hx, hy, Sem.run_bind, run_eqGuard_agg w' _ t x y _ _ he.guard, Result.andThen_ok, run_neq_struct]
    have := he.eq a b ha hb w'
    unfold slotC at this
    rw [this]; rfl) hg h

theorem TL.convS {t u e : TypeId} {x : Operand} {bs : List Int} {v : Value} (hst : ∀ w', T (rp d) S w w' → St M w0 w' g ls) (hr : SlAt g 1 (byteRows bs) v) (ht : P.underlying t = some (.slice e)) (he : P.underlying e = some (.int .u8)) (hu : P.underlying u = some .string) (hx : ev l x = v)
    (hg : Region.wanted ⟨some d, .convert t u x, ty, pos, af, gd⟩ (yielded ops (F l).tmps) = true)
    (h : TL P ops S rp Q rest (F (l.set d (.string (bstr bs)))) w) : TL P ops S rp Q (⟨some d, .convert t u x, ty, pos, af, gd⟩ :: rest) (F l) w := by
  refine TL.read _ rfl hg (fun w' hw => ?_) h
  have h1 := run_bytesToString (P := P) hr (hst w' hw).has
  obtain ⟨a, cap, rfl, _⟩ := hr.ex
  unfold execOp
  simp only [hx, convert, Sem.run_bind, run_underlying ht, run_underlying hu, run_underlying he, Result.andThen_ok, h1]
  rfl

theorem TL.neqStr {t u : TypeId} {x y : Operand} {a b : List Int} (hx : ev l x = .string (bstr a)) (hy : ev l y = .string (bstr b)) (ha : ∀ x ∈ a, inR .u8 x) (hb : ∀ x ∈ b, inR .u8 x)
    (hg : Region.wanted ⟨some d, .binOp .neq t x y u, ty, pos, af, gd⟩ (yielded ops (F l).tmps) = true)
    (h : TL P ops S rp Q rest (F (l.set d (.bool (a != b)))) w) : TL P ops S rp Q (⟨some d, .binOp .neq t x y u, ty, pos, af, gd⟩ :: rest) (F l) w :=
  TL.bin _ (fun w' => by
    rw [hx, hy]
    have h1 : (eqGuard .neq t x y (.string (bstr a)) (.string (bstr b))).run P w' = .ok () w' := by unfold eqGuard; rfl
    rw [Sem.run_bind, h1, Result.andThen_ok]
    show (Op.stringOp .neq (bstr a) (bstr b)).run P w' = _
    simp only [Op.stringOp, bstr_beq ha hb]
    rfl) hg h
end
end Go.Proofs.Ytafmgghpcneoeaa
