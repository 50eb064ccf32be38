/-
  For every input the law GammonRolls answers true, and leaves what came in as it was: the walk of its text and the plain law, joined.
  No condition.
-/
import Derived.Test.YtbmhcapeikebgaaRows
import Derived.Test.YtbmhcapeikebgaaLibU
import Derived.Test.YtbmhcapeikebgaaNGR
import Derived.Test.YtbmhcapeikebgaaRLd
namespace Go.Proofs.Ytbmhcapeikebgaa
open Go Go.GL Go.RowKit Go.ChangeShapes Go.WideShapes Go.ChangeAt

theorem own_gammonRolls : ownKnob Try.prog.godebug = none := by kernel_rfl
theorem laid_gammonRolls : laidOutB Try.prog = true := by kernel_rfl

set_option maxRecDepth 100000 in
theorem gammonRolls_lifted (os : Os) (started : os.Started) (H : Type) (enc : TypeId × Value → H) :
    ReturnsInHanded {} Try.checked os 6 .any (Rows.gammonRollsSpec.pre6 enc Try.prog Try.f6 Rows.gammonRollsRow.domain false) (Rows.gammonRollsSpec.post enc Try.prog Try.f6 false true false false) := by
  refine returnsInHanded_of_change_sized (C := Try.checked) own_gammonRolls started (by kernel_rfl) Try.func6
    (ChangeSpec.witness6 (enc := enc) (C := Try.checked) false ⟨#[], #[.slice none 0 0], []⟩ 8 (by kernel_rfl) (by kernel_rfl) (by kernel_rfl) (by kernel_rfl)) ?_
  intro W base args ds gs before hval0 hW _ hsz0 _
  have hsz : (DataW.weightsEach Try.prog (Try.f6.params.toList ++ Rows.gammonRollsSpec.plain.varTypes Try.prog) (ds ++ gs)).all (· ≤ reachBytes) = true := hsz0
  have hval : ∀ (j : Nat) t v, Try.f6.params[j]? = some t → args[j]? = some v → Value.okWide Try.prog W .any base t v := hval0
  have hW' := hW
  obtain ⟨p, q, hA0, hV, rfl, _, _⟩ := hW
  have hA : DataW.TrodAll enc Try.prog W 0 (fun _ => true) true Try.f6.params.toList args.toList ds p := hA0
  have hlt : ∀ x ∈ p, x.block < W.heap.size := fun x hx => by simpa using hW'.lt x (by simp [hx])
  have hld : ds.length = Try.f6.params.size := by have := (trodAll_len hA).2; simpa using this
  rw [Try.params6] at hA hval hsz
  obtain ⟨v0, vs0, d0, ds0, p0, q0, e0, rfl, rfl, h0, hA⟩ := trodAll_cons hA
  obtain ⟨hv9, rfl, rfl⟩ := trodAll_nil hA
  obtain rfl : args = #[v0] := by
    apply Array.ext'
    rw [e0, hv9]
  obtain ⟨A0, c0, x0, rfl, hr0, hc0, hl0, hi0⟩ := open_rd Try.underlying40 Try.underlying3 (by kernel_rfl) (by kernel_rfl) (hval 0 40 v0 rfl rfl) h0 (fun y hy => hlt y (by simp [hy])) (weights_at hsz 0 rfl rfl)
  have hm := true_GammonRolls x0 hl0 hi0
  refine (gameroomlaw_GammonRolls_w hm (Sep.start W) (RdF.of hr0) hc0 rfl).mono fun e W' ⟨he, hS⟩ => ?_
  subst he
  exact ⟨_, rfl, law_post laid_gammonRolls (by decide +kernel) rfl Try.underlying4 rfl hW' (fun ds h => by match ds, h with | [_], _ => rfl) hld hS.below⟩

theorem gammonRolls_holds : Rows.GammonRollsSaid :=
  OpenClaim.holds_of_wide 6 Try.f6 rfl rfl rfl rfl rfl rfl rfl ⟨rfl, rfl, rfl, rfl, rfl⟩ rfl rfl rfl rfl rfl (by kernel_rfl) Try.func6 (by kernel_rfl)
    (of_decide_eq_true (by kernel_rfl)) (by unfold Func.isWrapper; first | (rw [if_pos (by decide +kernel)]; kernel_rfl) | (rw [if_neg (by decide +kernel)]; exact ⟨rfl, rfl⟩))
    (fun os started H enc _ => gammonRolls_lifted os started H enc)

end Go.Proofs.Ytbmhcapeikebgaa
