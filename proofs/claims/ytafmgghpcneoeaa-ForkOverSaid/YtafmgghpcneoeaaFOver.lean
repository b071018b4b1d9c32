/- ForkOver, for every row of local accounts, of fetched ones, and every address. -/
import Derived.Test.YtafmgghpcneoeaaPo
import Derived.Test.YtafmgghpcneoeaaRw
import Derived.Test.YtafmgghpcneoeaaRows
import Derived.SizedLaws
namespace Go.Proofs.Ytafmgghpcneoeaa
open Go Go.ChangeShapes Go.WideShapes Go.ChangeAt Go.RowKit

set_option maxRecDepth 100000
theorem own_knob : ownKnob Try.prog.godebug = none := by kernel_rfl
theorem laidO : laidOutB Try.prog = true := by kernel_rfl

theorem ra28 : RD Try.prog 28 (RIa .u8 20) := RD.ia Try.underlying28 Try.underlying5 (by kernel_rfl) (by kernel_rfl)
theorem ra29 : RD Try.prog 29 (RInt .u64) := RD.int Try.underlying29
theorem ra31 : RD Try.prog 31 (RIa .u64 4) := RD.ia Try.underlying31 Try.underlying29 (by kernel_rfl) (by kernel_rfl)
theorem ra24 : RD Try.prog 24 (RL (rtI .u8) (inR .u8) 1) := RD.ll Try.underlying24 (by kernel_rfl) (by decide) (by kernel_rfl) (RD.iv Try.underlying5)
def SlotOk (s : T_api_Slot) : Prop := W4 s.fKey
theorem ra131 : RD Try.prog 131 (RV rT_api_Slot SlotOk) :=
  (RD.st (Rs := [(4, RIa .u64 4), (4, RIa .u64 4)]) Try.underlying131 (.cons rfl (by kernel_rfl) ra31 (.cons rfl (by kernel_rfl) ra31 .nil)) (by kernel_rfl)).mono fun g cs hp => by
    obtain ⟨_, _, rfl, h1, hp⟩ := hp.inv
    obtain ⟨_, _, rfl, h2, hp⟩ := hp.inv
    cases hp.inv0
    obtain ⟨a, rfl, ha⟩ := h1
    obtain ⟨b, rfl, hb⟩ := h2
    refine ⟨⟨a, b⟩, by simp [rT_api_Slot], fun x hx => ?_⟩
    have := ha x hx
    simp only [inR] at this
    unfold B64; omega
theorem ra32 : RD Try.prog 32 (RL rT_api_Slot SlotOk 64) := RD.ll Try.underlying32 (by kernel_rfl) (by decide) (by kernel_rfl) ra131
def AccOk (x : T_api_Account) : Prop := ∀ s ∈ x.fStorage, W4 s.fKey
theorem ra34 : RD Try.prog 34 (RV rT_api_Account AccOk) :=
  (RD.st (Rs := [(20, RIa .u8 20), (1, RInt .u64), (4, RIa .u64 4), (1, RL (rtI .u8) (inR .u8) 1), (1, RL rT_api_Slot SlotOk 64)]) Try.underlying34 (.cons rfl (by kernel_rfl) ra28 (.cons rfl (by kernel_rfl) ra29 (.cons rfl (by kernel_rfl) ra31 (.cons rfl (by kernel_rfl) ra24 (.cons rfl (by kernel_rfl) ra32 .nil))))) (by kernel_rfl)).mono fun g cs hp => by
    obtain ⟨_, _, rfl, h1, hp⟩ := hp.inv
    obtain ⟨_, _, rfl, h2, hp⟩ := hp.inv
    obtain ⟨_, _, rfl, h3, hp⟩ := hp.inv
    obtain ⟨_, _, rfl, h4, hp⟩ := hp.inv
    obtain ⟨_, _, rfl, h5, hp⟩ := hp.inv
    cases hp.inv0
    obtain ⟨a, rfl, _⟩ := h1
    obtain ⟨n, rfl, _⟩ := h2
    obtain ⟨b, rfl, _⟩ := h3
    obtain ⟨c, v, rfl, k1, _, _⟩ := h4
    obtain ⟨s, u, rfl, k2, k3, _⟩ := h5
    exact ⟨⟨a, n, b, c, s⟩, ⟨v, u, by simp, k1, k2⟩, k3⟩
theorem ra22 : RD Try.prog 22 (RL rT_api_Account AccOk 112) := RD.ll Try.underlying22 (by kernel_rfl) (by decide) (by kernel_rfl) ra34

theorem forkover_lifted (os : Os) (started : os.Started) (H : Type) (enc : TypeId × Value → H) :
    ReturnsInHanded {} Try.checked os 4 .any (Rows.forkOverSpec.pre6 enc Try.prog Try.f4 Rows.forkOverRow.domain false) (Rows.forkOverSpec.post enc Try.prog Try.f4 false true false false) := by
  refine returnsInHanded_of_change_sized (C := Try.checked) own_knob started (by kernel_rfl) Try.func4
    (ChangeSpec.witness6 (enc := enc) (C := Try.checked) false ⟨#[], #[.slice none 0 0, .slice none 0 0, .agg (iaC .u8 (Ar.zero 20)).toArray], []⟩ 8 (by kernel_rfl) (by kernel_rfl) (by kernel_rfl) (by kernel_rfl)) ?_
  intro W base args ds gs before hval0 hW hcnd hsz _
  have hval : ∀ (j : Nat) t v, Try.f4.params[j]? = some t → args[j]? = some v → Value.okWide Try.prog W .any base t v := hval0
  have hW1 : DataW.Whole enc Try.prog Try.f4.params.toList [] false W args.toList ds gs before := hW
  have hW2 := hW1
  obtain ⟨p, q, hA0, hV, rfl, hfz, hnd⟩ := hW2
  have hA : DataW.TrodAll enc Try.prog W 0 (fun _ => true) true Try.f4.params.toList args.toList ds p := hA0
  rw [Try.params4] at hA hval
  obtain ⟨v0, v1, v2, d0, d1, d2, p0, p1, p2, rfl, rfl, rfl, ⟨f0, h0⟩, ⟨f1, h1⟩, ⟨f2, h2⟩⟩ := trodAll_three hA
  obtain ⟨rfl, rfl⟩ := trodVars_none hV
  have hsz1 : (DataW.weightsEach Try.prog (Try.f4.params.toList ++ []) ([d0, d1, d2] ++ [])).all (· ≤ reachBytes) = true := hsz
  rw [Try.params4, List.all_eq_true] at hsz1
  obtain ⟨xs, u0, e0, hv, hok, _⟩ := ra22 H enc W _ _ f0 _ _ h0 (fun n hn => by simpa using hsz1 n (by simp [DataW.weightsEach, hn]))
  obtain ⟨ys, u1, e1, hva, hoy, _⟩ := ra22 H enc W _ _ f1 _ _ h1 (fun n hn => by simpa using hsz1 n (by simp [DataW.weightsEach, hn]))
  obtain ⟨a, e2, _⟩ := ra28 H enc W _ _ f2 _ _ h2 (fun n hn => by simpa using hsz1 n (by simp [DataW.weightsEach, hn]))
  obtain rfl := okWide_slice Try.underlying22 (hval 0 22 v0 rfl rfl) e0
  obtain rfl := okWide_slice Try.underlying22 (hval 1 22 v1 rfl rfl) e1
  obtain rfl := okWide_agg (.inr ⟨_, _, Try.underlying28⟩) (hval 2 28 v2 rfl rfl) e2
  refine (w_smithylaw15_ForkOver xs ys a v0 v1 (gW W) W (gW_has W) hv hva (fun b => b = true) (law_spec xs ys a hok hoy _ rfl)).mono fun e W' hR => ?_
  obtain ⟨u, w⟩ : ∃ u, e = .returned u := by
    cases e <;> first | exact ⟨_, rfl⟩ | exact hR.elim
  subst w
  obtain ⟨g', hk, r, rfl, hu⟩ := hR
  exact ⟨u, rfl, post_keep (tb := 4) (b := true) laidO (by rw [Try.params4]; kernel_rfl) rfl Try.underlying4 rfl hu (fun _ => ⟨rfl, rfl, rfl⟩) hW hk.keep⟩

theorem forkover_holds : Rows.ForkOverSaid :=
  OpenClaim.holds_of_wide 4 Try.f4 rfl rfl rfl rfl rfl rfl rfl ⟨rfl, rfl, rfl, rfl, rfl⟩ rfl rfl rfl rfl rfl (by kernel_rfl) Try.func4 (by kernel_rfl)
    (of_decide_eq_true (by kernel_rfl)) (by unfold Func.isWrapper; first | (rw [if_pos (by decide +kernel)]; kernel_rfl) | (rw [if_neg (by decide +kernel)]; exact ⟨rfl, rfl⟩))
    (fun os started H enc _ => forkover_lifted os started H enc)
end Go.Proofs.Ytafmgghpcneoeaa
