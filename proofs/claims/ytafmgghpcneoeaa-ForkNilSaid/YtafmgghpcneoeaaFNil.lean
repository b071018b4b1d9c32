/- ForkNil, for every account. -/
import Derived.Test.YtafmgghpcneoeaaLawNil
import Derived.Test.YtafmgghpcneoeaaRd
import Derived.Test.YtafmgghpcneoeaaRows
import Derived.SizedLaws
namespace Go.Proofs.Ytafmgghpcneoeaa
open Go Go.ChangeShapes Go.WideShapes Go.ChangeAt Go.RowKit

set_option maxRecDepth 100000
theorem forknil_lifted (os : Os) (started : os.Started) (H : Type) (enc : TypeId × Value → H) :
    ReturnsInHanded {} Try.checked os 6 .any (Rows.forkNilSpec.pre6 enc Try.prog Try.f6 Rows.forkNilRow.domain false) (Rows.forkNilSpec.post enc Try.prog Try.f6 false true false false) := by
  refine returnsInHanded_of_change_sized (C := Try.checked) own started (by kernel_rfl) Try.func6
    (ChangeSpec.witness6 (enc := enc) (C := Try.checked) false ⟨#[], #[.agg (avC (avE 0)).toArray], []⟩ 8 (by kernel_rfl) (by kernel_rfl) (by kernel_rfl) (by kernel_rfl)) ?_
  intro W base args ds gs before hval0 hW hcnd hsz _
  have hval : ∀ (j : Nat) t v, Try.f6.params[j]? = some t → args[j]? = some v → Value.okWide Try.prog W .any base t v := hval0
  have hW1 : DataW.Whole enc Try.prog Try.f6.params.toList [] false W args.toList ds gs before := hW
  have hW2 := hW1
  obtain ⟨p, q, hA0, hV, rfl, hfz, hnd⟩ := hW2
  have hA : DataW.TrodAll enc Try.prog W 0 (fun _ => true) true Try.f6.params.toList args.toList ds p := hA0
  rw [Try.params6] at hA hval
  obtain ⟨v0, d0, rfl, rfl, f0, h0⟩ := trodAll_one hA
  obtain ⟨rfl, rfl⟩ := trodVars_none hV
  have hw : ∀ n ∈ d0.weights Try.prog 34, n ≤ reachBytes := fun n hn => by
    have h1 : (DataW.weightsEach Try.prog (Try.f6.params.toList ++ []) ([d0] ++ [])).all (· ≤ reachBytes) = true := hsz
    rw [Try.params6, List.all_eq_true] at h1
    simpa using h1 n (by simp [DataW.weightsEach, hn])
  obtain ⟨x, hx, hok⟩ := rd34 H enc W _ _ f0 _ _ h0 hw
  have hv : v0 = .agg (avC x).toArray := by
    have h1 := hval 0 34 v0 rfl rfl
    simp only [Value.okWide, Try.underlying34] at h1
    obtain ⟨cs, rfl, _, _⟩ := h1
    have : cs.toList = avC x := hx
    rw [← this, Array.toArray_toList]
  subst hv
  refine (law_forknil x (gW W) W (gW_has W) hok).mono fun e W' hR => ?_
  obtain ⟨u, w⟩ : ∃ u, e = .returned u := by
    cases e <;> first | exact ⟨_, rfl⟩ | exact hR.elim
  subst w
  obtain ⟨hu, hk⟩ := hR
  exact ⟨u, rfl, post_keep (tb := 4) (b := true) laid (by rw [Try.params6]; kernel_rfl) rfl Try.underlying4 rfl hu (fun _ => ⟨rfl, rfl, rfl⟩) hW hk⟩

theorem forknil_holds : Rows.ForkNilSaid :=
  OpenClaim.holds_of_wide 6 Try.f6 rfl rfl rfl rfl rfl rfl rfl ⟨rfl, rfl, rfl, rfl, rfl⟩ rfl rfl rfl rfl rfl (by kernel_rfl) Try.func6 (by kernel_rfl)
    (of_decide_eq_true (by kernel_rfl)) (by unfold Func.isWrapper; first | (rw [if_pos (by decide +kernel)]; kernel_rfl) | (rw [if_neg (by decide +kernel)]; exact ⟨rfl, rfl⟩))
    (fun os started H enc _ => forknil_lifted os started H enc)

end Go.Proofs.Ytafmgghpcneoeaa
