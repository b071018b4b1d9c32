/- ForkWays, for every remote state, order and row of failures. -/
import Derived.Test.YtafmgghpcneoeaaLawWays
import Derived.Test.YtafmgghpcneoeaaRd
import Derived.SizedLaws
namespace Go.Proofs.Ytafmgghpcneoeaa
open Go Go.ChangeShapes Go.WideShapes Go.ChangeAt Go.RowKit

set_option maxRecDepth 100000
theorem rd22 : RD Try.prog 22 (RSl 27 112 RAv) := RD.sl Try.underlying22 (by kernel_rfl) (by decide) (by kernel_rfl) rd34
theorem rd23 : RD Try.prog 23 (RSl 20 20 RAdr) := RD.sl Try.underlying23 (by kernel_rfl) (by decide) (by kernel_rfl) rd28

theorem forkways_lifted (os : Os) (started : os.Started) (H : Type) (enc : TypeId × Value → H) :
    ReturnsInHanded {} Try.checked os 3 .any (Rows.forkWaysSpec.pre6 enc Try.prog Try.f3 Rows.forkWaysRow.domain false) (Rows.forkWaysSpec.post enc Try.prog Try.f3 false true false false) := by
  refine returnsInHanded_of_change_sized (C := Try.checked) own started (by kernel_rfl) Try.func3
    (ChangeSpec.witness6 (enc := enc) (C := Try.checked) false ⟨#[], #[.slice none 0 0, .slice none 0 0, .slice none 0 0], []⟩ 8 (by kernel_rfl) (by kernel_rfl) (by kernel_rfl) (by kernel_rfl)) ?_
  intro W base args ds gs before hval0 hW hcnd hsz _
  have hval : ∀ (j : Nat) t v, Try.f3.params[j]? = some t → args[j]? = some v → Value.okWide Try.prog W .any base t v := hval0
  have hW1 : DataW.Whole enc Try.prog Try.f3.params.toList [] false W args.toList ds gs before := hW
  have hW2 := hW1
  obtain ⟨p, q, hA0, hV, rfl, hfz, hnd⟩ := hW2
  have hA : DataW.TrodAll enc Try.prog W 0 (fun _ => true) true Try.f3.params.toList args.toList ds p := hA0
  rw [Try.params3] at hA hval
  obtain ⟨v0, v1, v2, d0, d1, d2, p0, p1, p2, rfl, rfl, rfl, ⟨f0, h0⟩, ⟨f1, h1⟩, ⟨f2, h2⟩⟩ := trodAll_three hA
  obtain ⟨rfl, rfl⟩ := trodVars_none hV
  have hsz1 : (DataW.weightsEach Try.prog (Try.f3.params.toList ++ []) ([d0, d1, d2] ++ [])).all (· ≤ reachBytes) = true := hsz
  rw [Try.params3, List.all_eq_true] at hsz1
  obtain ⟨xs, u0, e0, hv, hok, hlen⟩ := (rd22 H enc W _ _ f0 _ _ h0 (fun n hn => by simpa using hsz1 n (by simp [DataW.weightsEach, hn]))).avs
  obtain ⟨as', u1, e1, hva, has, _⟩ := (rd23 H enc W _ _ f1 _ _ h1 (fun n hn => by simpa using hsz1 n (by simp [DataW.weightsEach, hn]))).adrs
  obtain ⟨fs, u2, e2, hvf, hfs, _⟩ := (rd24 H enc W _ _ f2 _ _ h2 (fun n hn => by simpa using hsz1 n (by simp [DataW.weightsEach, hn]))).bytes
  obtain rfl := okWide_slice Try.underlying22 (hval 0 22 v0 rfl rfl) e0
  obtain rfl := okWide_slice Try.underlying23 (hval 1 23 v1 rfl rfl) e1
  obtain rfl := okWide_slice Try.underlying24 (hval 2 24 v2 rfl rfl) e2
  refine (law_forkways xs as' fs v0 v1 v2 (gW W) W (gW_has W) hv hva hvf hok has hfs (by omega)).mono fun e W' hR => ?_
  obtain ⟨u, w⟩ : ∃ u, e = .returned u := by
    cases e <;> first | exact ⟨_, rfl⟩ | exact hR.elim
  subst w
  obtain ⟨hu, hk⟩ := hR
  exact ⟨u, rfl, post_keep (tb := 4) (b := true) laid (by rw [Try.params3]; kernel_rfl) rfl Try.underlying4 rfl hu (fun _ => ⟨rfl, rfl, rfl⟩) hW hk⟩

theorem forkways_holds : Rows.ForkWaysSaid :=
  OpenClaim.holds_of_wide 3 Try.f3 rfl rfl rfl rfl rfl rfl rfl ⟨rfl, rfl, rfl, rfl, rfl⟩ rfl rfl rfl rfl rfl (by kernel_rfl) Try.func3 (by kernel_rfl)
    (of_decide_eq_true (by kernel_rfl)) (by unfold Func.isWrapper; first | (rw [if_pos (by decide +kernel)]; kernel_rfl) | (rw [if_neg (by decide +kernel)]; exact ⟨rfl, rfl⟩))
    (fun os started H enc _ => forkways_lifted os started H enc)
end Go.Proofs.Ytafmgghpcneoeaa
