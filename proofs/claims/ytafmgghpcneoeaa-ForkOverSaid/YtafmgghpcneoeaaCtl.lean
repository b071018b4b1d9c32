/- Control: sequences, tests, loops, results; numbers. -/
import Derived.Test.YtafmgghpcneoeaaOps
import Derived.ChangeKeysEq
import Derived.DeepKeys
namespace Go.Proofs.Ytafmgghpcneoeaa
open Go Go.BigFrame

section
variable {P : Program} {Q : Exit → Act → World → Prop} {l : List Value} {w : World}

theorem E.seq {x y : Code} (h : ∀ K : Act → World → Prop, (∀ l w, y.wp P Q (F l) w → K (F l) w) → x.wp P (Exit.then K Q) (F l) w) : (Code.seq x y).wp P Q (F l) w :=
  wp_seq (h _ fun _ _ h => h)

theorem E.cond {c : Operand} {x y : Code} {t : Bool} (hc : ev l c = .bool t) (ht : t = true → x.wp P Q (F l) w) (hf : t = false → y.wp P Q (F l) w) : (Code.cond c x y).wp P Q (F l) w :=
  wp_cond_split (by rw [F_eval]; exact hc) ht hf

theorem E.condT {c : Operand} {x y : Code} (hc : ev l c = .bool true) (h : x.wp P Q (F l) w) : (Code.cond c x y).wp P Q (F l) w :=
  wp_cond_true (by rw [F_eval]; exact hc) h
theorem E.condF {c : Operand} {x y : Code} (hc : ev l c = .bool false) (h : y.wp P Q (F l) w) : (Code.cond c x y).wp P Q (F l) w :=
  wp_cond_false (by rw [F_eval]; exact hc) h

theorem E.norm {c : Code} {l' : List Value} (h : l = l') (k : c.wp P Q (F l') w) : c.wp P Q (F l) w := h ▸ k

theorem least_ex {p : Nat → Prop} : ∀ n, p n → ∃ m, p m ∧ ∀ k, p k → m ≤ k := by
  intro n
  induction n using Nat.strongRecOn with
  | _ n ih =>
    intro hn
    by_cases h : ∃ k, k < n ∧ p k
    · obtain ⟨k, hk, hp⟩ := h; exact ih k hk hp
    · exact ⟨n, hn, fun k hk => Nat.le_of_not_lt fun hlt => h ⟨k, hlt, hk⟩⟩

open Classical in
theorem E.loop {c : Code} (I : Nat → List Value → World → Prop) (n : Nat) (h0 : I n l w)
    (round : ∀ n l w, I n l w → c.wp P (Exit.then (fun a' w' => ∃ n' l', n' < n ∧ a' = F l' ∧ I n' l' w') Q) (F l) w) : (Code.loop c).wp P Q (F l) w := by
  let J (a : Act) (w : World) (n : Nat) : Prop := ∃ l, a = F l ∧ I n l w
  have hex : ∀ a w, (∃ n, J a w n) → ∃ m, J a w m ∧ ∀ k, J a w k → m ≤ k := fun a w ⟨n, hn⟩ => least_ex n hn
  let μ (a : Act) (w : World) : Nat := if h : ∃ n, J a w n then Classical.choose (hex a w h) else 0
  have hμ : ∀ a w n, J a w n → μ a w ≤ n := fun a w n h => by
    have hx : ∃ n, J a w n := ⟨n, h⟩
    simp only [μ, hx, dif_pos]
    exact (Classical.choose_spec (hex a w hx)).2 n h
  have hμ' : ∀ a w, (∃ n, J a w n) → J a w (μ a w) := fun a w hx => by
    simp only [μ, hx, dif_pos]
    exact (Classical.choose_spec (hex a w hx)).1
  refine wp_loop (fun a w => ∃ n, J a w n) μ ⟨n, l, rfl, h0⟩ fun a w hx => ?_
  obtain ⟨l', rfl, hI⟩ := hμ' a w hx
  refine wp_mono (round _ l' w hI) fun e a' w' hq => ?_
  cases e with
  | normal =>
    obtain ⟨n', l'', h1, rfl, h2⟩ := hq
    exact ⟨⟨n', l'', rfl, h2⟩, Nat.lt_of_le_of_lt (hμ _ _ n' ⟨l'', rfl, h2⟩) h1⟩
  | exit id => exact hq
  | goto id => exact hq
  | ret => exact hq
  | panic c => exact hq
  | outgrown => exact hq

/-- The end of a function. -/
theorem E.ret {fn : Func} {R : Value → World → Prop} (v : Value) (hr : (results fn (F l).tmps).run P w = .ok v w) (hR : R v w) : bodyPost P fn (Ret R) .ret (F l) w :=
  ⟨rfl, v, hr, hR⟩
theorem E.end_ {fn : Func} {R : Value → World → Prop} (v : Value) (hr : (results fn (F l).tmps).run P w = .ok v w) (hR : R v w) : bodyPost P fn (Ret R) .normal (F l) w :=
  ⟨rfl, v, hr, hR⟩

theorem F_get (l : List Value) (t : Nat) : (F l).tmps[t]?.getD undef = l.getD t undef := by simp [F, List.getD]
theorem F_getD (l : List Value) (t : Nat) : (F l).tmps.getD t undef = l.getD t undef := by simp [F, List.getD]

theorem Rs.z {fn : Func} (h : fn.results = #[]) : (results fn (F l).tmps).run P w = .ok (.tuple #[]) w := results_none h _ _ _
theorem Rs.t {fn : Func} {t : Tmp} (v : Value) (h : fn.results = #[.tmp t]) (hv : l.getD t undef = v) : (results fn (F l).tmps).run P w = .ok v w := by
  rw [results_tmp h, F_getD, hv]
theorem Rs.tt {fn : Func} {t u : Tmp} (v v' : Value) (h : fn.results = #[.tmp t, .tmp u]) (hv : l.getD t undef = v) (hv' : l.getD u undef = v') : (results fn (F l).tmps).run P w = .ok (.tuple #[v, v']) w := by
  rw [results_tmp2 h, F_getD, F_getD, hv, hv']

theorem run_loadVar_agg {ty : TypeId} {b o : Nat} {cs : List Value} (hT : TA P ty cs.length) (hr : w.rangeAt b o cs) : (loadVar ty ⟨b, o, none⟩).run P w = .ok (.agg cs.toArray) w := by
  obtain ⟨d, hu, hd⟩ := hT.row
  exact run_loadVar_mid w b o ty cs d hr hu hd hT.size

theorem Rs.c {fn : Func} {t : Tmp} {ty : TypeId} {b o : Nat} (cs : List Value) (h : fn.results = #[.cell t ty]) (hv : l.getD t undef = .pointer (some ⟨b, o, none⟩)) (hT : TA P ty cs.length) (hr : w.rangeAt b o cs) :
    (results fn (F l).tmps).run P w = .ok (.agg cs.toArray) w := by
  rw [List.getD_eq_getElem?_getD] at hv
  unfold results
  rw [h]
  simp [F_get, hv, asAddr, run_loadVar_agg hT hr, Sem.run_bind]
theorem Rs.ct {fn : Func} {t u : Tmp} {ty : TypeId} {b o : Nat} (cs : List Value) (v : Value) (h : fn.results = #[.cell t ty, .tmp u]) (hv : l.getD t undef = .pointer (some ⟨b, o, none⟩)) (hT : TA P ty cs.length) (hr : w.rangeAt b o cs)
    (hu : l.getD u undef = v) : (results fn (F l).tmps).run P w = .ok (.tuple #[.agg cs.toArray, v]) w := by
  rw [List.getD_eq_getElem?_getD] at hv hu
  unfold results
  rw [h]
  simp [F_get, hv, hu, asAddr, run_loadVar_agg hT hr, Sem.run_bind]
theorem Rs.tc {fn : Func} {t u : Tmp} {ty : TypeId} {b o : Nat} (cs : List Value) (v : Value) (h : fn.results = #[.tmp u, .cell t ty]) (hv : l.getD t undef = .pointer (some ⟨b, o, none⟩)) (hT : TA P ty cs.length) (hr : w.rangeAt b o cs)
    (hu : l.getD u undef = v) : (results fn (F l).tmps).run P w = .ok (.tuple #[v, .agg cs.toArray]) w := by
  rw [List.getD_eq_getElem?_getD] at hv hu
  unfold results
  rw [h]
  simp [F_get, hv, hu, asAddr, run_loadVar_agg hT hr, Sem.run_bind]

/-- A cell of one cell alone (a slice, a map, a pointer that is a result's variable). -/
theorem run_loadVar_one {ty : TypeId} {b o : Nat} {v : Value} (hT : TS P ty) (hr : w.cell? ⟨b, o, none⟩ = some v) : (loadVar ty ⟨b, o, none⟩).run P w = .ok v w := by
  obtain ⟨d, hu, hd⟩ := hT.one
  have hagg : (isAgg ty).run P w = .ok false w := by
    unfold isAgg
    rw [Sem.run_bind, run_underlying hu w]
    cases d <;> simp_all
  simp [loadVar, Sem.run_bind, hagg, hr]
theorem Rs.c1 {fn : Func} {t : Tmp} {ty : TypeId} {b o : Nat} (v : Value) (h : fn.results = #[.cell t ty]) (hv : l.getD t undef = .pointer (some ⟨b, o, none⟩)) (hT : TS P ty) (hr : w.cell? ⟨b, o, none⟩ = some v) :
    (results fn (F l).tmps).run P w = .ok v w := by
  rw [List.getD_eq_getElem?_getD] at hv
  unfold results
  rw [h]
  simp [F_get, hv, asAddr, run_loadVar_one hT hr, Sem.run_bind]
end

section
variable {P : Program} {ops : Array Oper} {S : World → Prop} {rp : Nat → Bool} {Q : Act → World → Prop}
variable {rest : List Oper} {l : List Value} {w : World} {d : Nat} {ty : TypeId} {pos : String} {af : Array Edge} {gd : Option (Nat × Bool)}

/-- An operation of two operands that comes to v whatever the world. -/
theorem TL.bin {op : BinOp} {t u : TypeId} {x y : Operand} (v : Value) (hr : ∀ w', (do eqGuard op t x y (ev l x) (ev l y); binOp op t (ev l x) (ev l y) : Sem Value).run P w' = .ok v w')
    (hg : Region.wanted ⟨some d, .binOp op t x y u, ty, pos, af, gd⟩ (yielded ops (F l).tmps) = true)
    (h : TL P ops S rp Q rest (F (l.set d v)) w) : TL P ops S rp Q (⟨some d, .binOp op t x y u, ty, pos, af, gd⟩ :: rest) (F l) w := by
  refine TL.val v (by cases rp d <;> simp [opKind]) hg (fun w' => ?_) h
  unfold execOp
  simp only [Sem.run_bind]
  have := hr w'
  simp only [Sem.run_bind] at this
  rw [this]
  rfl

theorem eqGuard_int {op : BinOp} {t : TypeId} {x y : Operand} {j k : IntKind} {a b : Int} (w : World) : (eqGuard op t x y (.int j a) (.int k b)).run P w = .ok () w := by
  unfold eqGuard; cases op <;> rfl
theorem eqGuard_bool {op : BinOp} {t : TypeId} {x y : Operand} {a b : Bool} (w : World) : (eqGuard op t x y (.bool a) (.bool b)).run P w = .ok () w := by
  unfold eqGuard; cases op <;> rfl

section ints
variable {t u : TypeId} {x y : Operand} {k : IntKind} {a b : Int}
variable (hx : ev l x = .int k a) (hy : ev l y = .int k b)
include hx hy

theorem TL.addW (hg : Region.wanted ⟨some d, .binOp .add t x y u, ty, pos, af, gd⟩ (yielded ops (F l).tmps) = true)
    (h : TL P ops S rp Q rest (F (l.set d (.int k (k.wrap (a + b))))) w) : TL P ops S rp Q (⟨some d, .binOp .add t x y u, ty, pos, af, gd⟩ :: rest) (F l) w :=
  TL.bin _ (fun w' => by simp [hx, hy, eqGuard_int, binOp, Op.intArith]) hg h
theorem TL.subW (hg : Region.wanted ⟨some d, .binOp .sub t x y u, ty, pos, af, gd⟩ (yielded ops (F l).tmps) = true)
    (h : TL P ops S rp Q rest (F (l.set d (.int k (k.wrap (a - b))))) w) : TL P ops S rp Q (⟨some d, .binOp .sub t x y u, ty, pos, af, gd⟩ :: rest) (F l) w :=
  TL.bin _ (fun w' => by simp [hx, hy, eqGuard_int, binOp, Op.intArith]) hg h
theorem TL.mulW (hg : Region.wanted ⟨some d, .binOp .mul t x y u, ty, pos, af, gd⟩ (yielded ops (F l).tmps) = true)
    (h : TL P ops S rp Q rest (F (l.set d (.int k (k.wrap (a * b))))) w) : TL P ops S rp Q (⟨some d, .binOp .mul t x y u, ty, pos, af, gd⟩ :: rest) (F l) w :=
  TL.bin _ (fun w' => by simp [hx, hy, eqGuard_int, binOp, Op.intArith]) hg h
theorem TL.quoW (hb : b ≠ 0) (hg : Region.wanted ⟨some d, .binOp .quo t x y u, ty, pos, af, gd⟩ (yielded ops (F l).tmps) = true)
    (h : TL P ops S rp Q rest (F (l.set d (.int k (k.wrap (a.tdiv b))))) w) : TL P ops S rp Q (⟨some d, .binOp .quo t x y u, ty, pos, af, gd⟩ :: rest) (F l) w :=
  TL.bin _ (fun w' => by simp [hx, hy, eqGuard_int, binOp, Op.intDiv, hb]) hg h
theorem TL.remW (hb : b ≠ 0) (hg : Region.wanted ⟨some d, .binOp .rem t x y u, ty, pos, af, gd⟩ (yielded ops (F l).tmps) = true)
    (h : TL P ops S rp Q rest (F (l.set d (.int k (a.tmod b)))) w) : TL P ops S rp Q (⟨some d, .binOp .rem t x y u, ty, pos, af, gd⟩ :: rest) (F l) w :=
  TL.bin _ (fun w' => by simp [hx, hy, eqGuard_int, binOp, Op.intDiv, hb]) hg h
theorem TL.eqlI (hg : Region.wanted ⟨some d, .binOp .eql t x y u, ty, pos, af, gd⟩ (yielded ops (F l).tmps) = true)
    (h : TL P ops S rp Q rest (F (l.set d (.bool (a == b)))) w) : TL P ops S rp Q (⟨some d, .binOp .eql t x y u, ty, pos, af, gd⟩ :: rest) (F l) w :=
  TL.bin _ (fun w' => by rw [hx, hy, Sem.run_bind, eqGuard_int]; simp [binOp, Op.intCmp]) hg h
theorem TL.neqI (hg : Region.wanted ⟨some d, .binOp .neq t x y u, ty, pos, af, gd⟩ (yielded ops (F l).tmps) = true)
    (h : TL P ops S rp Q rest (F (l.set d (.bool (a != b)))) w) : TL P ops S rp Q (⟨some d, .binOp .neq t x y u, ty, pos, af, gd⟩ :: rest) (F l) w :=
  TL.bin _ (fun w' => by rw [hx, hy, Sem.run_bind, eqGuard_int]; simp [binOp, Op.intCmp]) hg h
theorem TL.lss (hg : Region.wanted ⟨some d, .binOp .lss t x y u, ty, pos, af, gd⟩ (yielded ops (F l).tmps) = true)
    (h : TL P ops S rp Q rest (F (l.set d (.bool (decide (a < b))))) w) : TL P ops S rp Q (⟨some d, .binOp .lss t x y u, ty, pos, af, gd⟩ :: rest) (F l) w :=
  TL.bin _ (fun w' => by simp [hx, hy, eqGuard_int, binOp, Op.intCmp]) hg h
theorem TL.leq (hg : Region.wanted ⟨some d, .binOp .leq t x y u, ty, pos, af, gd⟩ (yielded ops (F l).tmps) = true)
    (h : TL P ops S rp Q rest (F (l.set d (.bool (decide (a ≤ b))))) w) : TL P ops S rp Q (⟨some d, .binOp .leq t x y u, ty, pos, af, gd⟩ :: rest) (F l) w :=
  TL.bin _ (fun w' => by simp [hx, hy, eqGuard_int, binOp, Op.intCmp]) hg h
theorem TL.gtr (hg : Region.wanted ⟨some d, .binOp .gtr t x y u, ty, pos, af, gd⟩ (yielded ops (F l).tmps) = true)
    (h : TL P ops S rp Q rest (F (l.set d (.bool (decide (b < a))))) w) : TL P ops S rp Q (⟨some d, .binOp .gtr t x y u, ty, pos, af, gd⟩ :: rest) (F l) w :=
  TL.bin _ (fun w' => by simp [hx, hy, eqGuard_int, binOp, Op.intCmp]) hg h
theorem TL.geq (hg : Region.wanted ⟨some d, .binOp .geq t x y u, ty, pos, af, gd⟩ (yielded ops (F l).tmps) = true)
    (h : TL P ops S rp Q rest (F (l.set d (.bool (decide (b ≤ a))))) w) : TL P ops S rp Q (⟨some d, .binOp .geq t x y u, ty, pos, af, gd⟩ :: rest) (F l) w :=
  TL.bin _ (fun w' => by simp [hx, hy, eqGuard_int, binOp, Op.intCmp]) hg h
end ints

/-- A number that its kind bears. -/
def inR : IntKind → Int → Prop
  | .i8, n => -128 ≤ n ∧ n ≤ 127
  | .i16, n => -32768 ≤ n ∧ n ≤ 32767
  | .i32, n => -2147483648 ≤ n ∧ n ≤ 2147483647
  | .i64, n => -9223372036854775808 ≤ n ∧ n ≤ 9223372036854775807
  | .u8, n => 0 ≤ n ∧ n ≤ 255
  | .u16, n => 0 ≤ n ∧ n ≤ 65535
  | .u32, n => 0 ≤ n ∧ n ≤ 4294967295
  | .u64, n => 0 ≤ n ∧ n ≤ 18446744073709551615

theorem wrap_in {k : IntKind} {n : Int} (h : inR k n) : k.wrap n = n := by
  cases k <;> simp only [inR] at h <;> simp [IntKind.wrap, IntKind.bits, IntKind.signed, IntKind.min, IntKind.max] <;> omega

section ints2
variable {t u : TypeId} {x y : Operand} {k : IntKind} {a b : Int}
theorem TL.add (z : Int) (hx : ev l x = .int k a) (hy : ev l y = .int k b) (hz : a + b = z ∧ inR k z) (hg : Region.wanted ⟨some d, .binOp .add t x y u, ty, pos, af, gd⟩ (yielded ops (F l).tmps) = true)
    (h : TL P ops S rp Q rest (F (l.set d (.int k z))) w) : TL P ops S rp Q (⟨some d, .binOp .add t x y u, ty, pos, af, gd⟩ :: rest) (F l) w :=
  TL.addW hx hy hg (by rw [hz.1, wrap_in hz.2]; exact h)
theorem TL.sub (z : Int) (hx : ev l x = .int k a) (hy : ev l y = .int k b) (hz : a - b = z ∧ inR k z) (hg : Region.wanted ⟨some d, .binOp .sub t x y u, ty, pos, af, gd⟩ (yielded ops (F l).tmps) = true)
    (h : TL P ops S rp Q rest (F (l.set d (.int k z))) w) : TL P ops S rp Q (⟨some d, .binOp .sub t x y u, ty, pos, af, gd⟩ :: rest) (F l) w :=
  TL.subW hx hy hg (by rw [hz.1, wrap_in hz.2]; exact h)
theorem TL.mul (z : Int) (hx : ev l x = .int k a) (hy : ev l y = .int k b) (hz : a * b = z ∧ inR k z) (hg : Region.wanted ⟨some d, .binOp .mul t x y u, ty, pos, af, gd⟩ (yielded ops (F l).tmps) = true)
    (h : TL P ops S rp Q rest (F (l.set d (.int k z))) w) : TL P ops S rp Q (⟨some d, .binOp .mul t x y u, ty, pos, af, gd⟩ :: rest) (F l) w :=
  TL.mulW hx hy hg (by rw [hz.1, wrap_in hz.2]; exact h)
theorem TL.quo (z : Int) (hx : ev l x = .int k a) (hy : ev l y = .int k b) (hb : b ≠ 0) (hz : a.tdiv b = z ∧ inR k z) (hg : Region.wanted ⟨some d, .binOp .quo t x y u, ty, pos, af, gd⟩ (yielded ops (F l).tmps) = true)
    (h : TL P ops S rp Q rest (F (l.set d (.int k z))) w) : TL P ops S rp Q (⟨some d, .binOp .quo t x y u, ty, pos, af, gd⟩ :: rest) (F l) w :=
  TL.quoW hx hy hb hg (by rw [hz.1, wrap_in hz.2]; exact h)
theorem TL.rem (z : Int) (hx : ev l x = .int k a) (hy : ev l y = .int k b) (hb : b ≠ 0) (hz : a.tmod b = z) (hg : Region.wanted ⟨some d, .binOp .rem t x y u, ty, pos, af, gd⟩ (yielded ops (F l).tmps) = true)
    (h : TL P ops S rp Q rest (F (l.set d (.int k z))) w) : TL P ops S rp Q (⟨some d, .binOp .rem t x y u, ty, pos, af, gd⟩ :: rest) (F l) w :=
  TL.remW hx hy hb hg (by rw [hz]; exact h)
theorem TL.conv (z : Int) {s e : TypeId} {j : IntKind} {n : Int} {ds : TypeDesc} (hs : P.underlying s = some ds) (he : P.underlying e = some (.int k)) (hx : ev l x = .int j n) (hz : n = z ∧ inR k z)
    (hg : Region.wanted ⟨some d, .convert s e x, ty, pos, af, gd⟩ (yielded ops (F l).tmps) = true)
    (h : TL P ops S rp Q rest (F (l.set d (.int k z))) w) : TL P ops S rp Q (⟨some d, .convert s e x, ty, pos, af, gd⟩ :: rest) (F l) w := by
  refine TL.val _ (by cases rp d <;> simp [opKind]) hg (fun w' => ?_) h
  unfold execOp
  simp [hx, convert, run_underlying hs, run_underlying he, Conv.intToInt, Sem.run_bind, hz.1, wrap_in hz.2]
end ints2

theorem wrap_u {k : IntKind} {n : Int} (h : k.min ≤ n ∧ n ≤ k.max) : k.wrap n = n := by
  cases k <;> simp [IntKind.min, IntKind.max, IntKind.bits, IntKind.signed] at h <;> simp [IntKind.wrap, IntKind.bits, IntKind.signed] <;> omega

theorem TL.notB {t : TypeId} {x : Operand} {b : Bool} (hx : ev l x = .bool b) (hg : Region.wanted ⟨some d, .unOp .not t x, ty, pos, af, gd⟩ (yielded ops (F l).tmps) = true)
    (h : TL P ops S rp Q rest (F (l.set d (.bool (!b)))) w) : TL P ops S rp Q (⟨some d, .unOp .not t x, ty, pos, af, gd⟩ :: rest) (F l) w := by
  refine TL.val _ (by simp [opKind]) hg (fun w' => ?_) h
  unfold execOp
  simp [hx, Op.unary]

theorem TL.convI {s e : TypeId} {x : Operand} {j k : IntKind} {n : Int} {ds : TypeDesc} (hs : P.underlying s = some ds) (he : P.underlying e = some (.int k)) (hx : ev l x = .int j n)
    (hg : Region.wanted ⟨some d, .convert s e x, ty, pos, af, gd⟩ (yielded ops (F l).tmps) = true)
    (h : TL P ops S rp Q rest (F (l.set d (.int k (k.wrap n)))) w) : TL P ops S rp Q (⟨some d, .convert s e x, ty, pos, af, gd⟩ :: rest) (F l) w := by
  refine TL.val _ (by cases rp d <;> simp [opKind]) hg (fun w' => ?_) h
  unfold execOp
  simp [hx, convert, run_underlying hs, run_underlying he, Conv.intToInt, Sem.run_bind]

/-- '==' of two values of a type of plain numbers: as the numbers are. -/
structure EQ (P : Program) (t : TypeId) (c : Nat → List Value) (N : Nat) : Prop where
  eq : ∀ a b, a < N → b < N → ∀ w, (Op.equalIn 10000 t (.agg (c a).toArray) (.agg (c b).toArray)).run P w = .ok (a == b) w
  guard : P.eqGuardType P.depth t = false

theorem TL.eqlA {t u : TypeId} {x y : Operand} {c : Nat → List Value} {N a b : Nat} (he : EQ P t c N) (hx : ev l x = .agg (c a).toArray) (hy : ev l y = .agg (c b).toArray) (ha : a < N) (hb : b < N)
    (hg : Region.wanted ⟨some d, .binOp .eql t x y u, ty, pos, af, gd⟩ (yielded ops (F l).tmps) = true)
    (h : TL P ops S rp Q rest (F (l.set d (.bool (a == b)))) w) : TL P ops S rp Q (⟨some d, .binOp .eql t x y u, ty, pos, af, gd⟩ :: rest) (F l) w :=
  TL.bin _ (fun w' => by
    rw [hx, hy, Sem.run_bind, run_eqGuard_agg w' _ t x y _ _ he.guard, Result.andThen_ok, run_eql_struct, he.eq a b ha hb]; rfl) hg h
theorem TL.neqA {t u : TypeId} {x y : Operand} {c : Nat → List Value} {N a b : Nat} (he : EQ P t c N) (hx : ev l x = .agg (c a).toArray) (hy : ev l y = .agg (c b).toArray) (ha : a < N) (hb : b < N)
    (hg : Region.wanted ⟨some d, .binOp .neq t x y u, ty, pos, af, gd⟩ (yielded ops (F l).tmps) = true)
    (h : TL P ops S rp Q rest (F (l.set d (.bool (a != b)))) w) : TL P ops S rp Q (⟨some d, .binOp .neq t x y u, ty, pos, af, gd⟩ :: rest) (F l) w :=
  TL.bin _ (fun w' => by
    rw [hx, hy, Sem.run_bind, run_eqGuard_agg w' _ t x y _ _ he.guard, Result.andThen_ok, run_neq_struct, he.eq a b ha hb]; rfl) hg h

end
end Go.Proofs.Ytafmgghpcneoeaa
