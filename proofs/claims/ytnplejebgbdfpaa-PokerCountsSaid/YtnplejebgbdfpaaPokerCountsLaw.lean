/-
  For every input the law PokerCounts answers true, and leaves what came in as it was: the walk of its text and the plain law, joined.
  No condition.
-/
import Derived.Test.YtnplejebgbdfpaaRows
import Derived.Test.YtnplejebgbdfpaaLibU
import Derived.Test.YtnplejebgbdfpaaNPC
import Derived.Test.YtnplejebgbdfpaaPCl
namespace Go.Proofs.Ytnplejebgbdfpaa
open Go Go.GL Go.RowKit Go.ChangeShapes Go.WideShapes Go.ChangeAt

theorem own_pokerCounts : ownKnob Try.prog.godebug = none := by kernel_rfl
theorem laid_pokerCounts : laidOutB Try.prog = true := by kernel_rfl

set_option maxRecDepth 100000 in
theorem pokerCounts_lifted (os : Os) (started : os.Started) (H : Type) (enc : TypeId × Value → H) :
    ReturnsInHanded {} Try.checked os 4 .any (Rows.pokerCountsSpec.pre6 enc Try.prog Try.f4 Rows.pokerCountsRow.domain false) (Rows.pokerCountsSpec.post enc Try.prog Try.f4 false true false false) := by
  refine returnsInHanded_of_change_sized (C := Try.checked) own_pokerCounts started (by kernel_rfl) Try.func4
    (ChangeSpec.witness6 (enc := enc) (C := Try.checked) false ⟨#[], #[.int .i64 0], []⟩ 8 (by kernel_rfl) (by kernel_rfl) (by kernel_rfl) (by kernel_rfl)) ?_
  intro W base args ds gs before hval0 hW _ hsz0 _
  have hsz : (DataW.weightsEach Try.prog (Try.f4.params.toList ++ Rows.pokerCountsSpec.plain.varTypes Try.prog) (ds ++ gs)).all (· ≤ reachBytes) = true := hsz0
  have hval : ∀ (j : Nat) t v, Try.f4.params[j]? = some t → args[j]? = some v → Value.okWide Try.prog W .any base t v := hval0
  have hW' := hW
  obtain ⟨p, q, hA0, hV, rfl, _, _⟩ := hW
  have hA : DataW.TrodAll enc Try.prog W 0 (fun _ => true) true Try.f4.params.toList args.toList ds p := hA0
  have hlt : ∀ x ∈ p, x.block < W.heap.size := fun x hx => by simpa using hW'.lt x (by simp [hx])
  have hld : ds.length = Try.f4.params.size := by have := (trodAll_len hA).2; simpa using this
  rw [Try.params4] at hA hval hsz
  obtain ⟨v0, vs0, d0, ds0, p0, q0, e0, rfl, rfl, h0, hA⟩ := trodAll_cons hA
  obtain ⟨hv9, rfl, rfl⟩ := trodAll_nil hA
  obtain rfl : args = #[v0] := by
    apply Array.ext'
    rw [e0, hv9]
  obtain ⟨x0, rfl, _, _, wf0⟩ := open_int Try.underlying3 (hval 0 3 v0 rfl rfl) h0
  have hm := true_PokerCounts x0 (wf_inI wf0)
  refine (gameroomlaw_PokerCounts_w hm (Sep.start W)).mono fun e W' ⟨he, hS⟩ => ?_
  subst he
  exact ⟨_, rfl, law_post laid_pokerCounts (by decide +kernel) rfl Try.underlying4 rfl hW' (fun ds h => by match ds, h with | [_], _ => rfl) hld hS.below⟩

theorem pokerCounts_holds : Rows.PokerCountsSaid :=
  OpenClaim.holds_of_wide 4 Try.f4 rfl rfl rfl rfl rfl rfl rfl ⟨rfl, rfl, rfl, rfl, rfl⟩ rfl rfl rfl rfl rfl (by kernel_rfl) Try.func4 (by kernel_rfl)
    (of_decide_eq_true (by kernel_rfl)) (by unfold Func.isWrapper; first | (rw [if_pos (by decide +kernel)]; kernel_rfl) | (rw [if_neg (by decide +kernel)]; exact ⟨rfl, rfl⟩))
    (fun os started H enc _ => pokerCounts_lifted os started H enc)

end Go.Proofs.Ytnplejebgbdfpaa
