/-
  For every input the law BridgeScores answers true, and leaves what came in as it was: the walk of its text and the plain law, joined.
  No condition.
-/
import Derived.Test.YtnplejebgbdfpaaRows
import Derived.Test.YtnplejebgbdfpaaLibT
import Derived.Test.YtnplejebgbdfpaaP3
import Derived.Lib.SmallJoins
namespace Go.Proofs.Ytnplejebgbdfpaa
open Go Go.GL Go.RowKit Go.ChangeShapes Go.WideShapes Go.ChangeAt Go.Joins

theorem own_bridgeScores : ownKnob Try.prog.godebug = none := by kernel_rfl
theorem laid_bridgeScores : laidOutB Try.prog = true := by kernel_rfl

set_option maxRecDepth 100000 in
theorem bridgeScores_lifted (os : Os) (started : os.Started) (H : Type) (enc : TypeId × Value → H) :
    ReturnsInHanded {} Try.checked os 8 .any (Rows.bridgeScoresSpec.pre6 enc Try.prog Try.f8 Rows.bridgeScoresRow.domain false) (Rows.bridgeScoresSpec.post enc Try.prog Try.f8 false true false false) := by
  refine returnsInHanded_of_change_sized (C := Try.checked) own_bridgeScores started (by kernel_rfl) Try.func8
    (ChangeSpec.witness6 (enc := enc) (C := Try.checked) false ⟨#[], #[.agg #[.int .i64 0, .int .i64 0, .int .i64 0, .int .i64 0], .bool false, .int .i64 0], []⟩ 8 (by kernel_rfl) (by kernel_rfl) (by kernel_rfl) (by kernel_rfl)) ?_
  intro W base args ds gs before hval0 hW _ hsz0 _
  have hsz : (DataW.weightsEach Try.prog (Try.f8.params.toList ++ Rows.bridgeScoresSpec.plain.varTypes Try.prog) (ds ++ gs)).all (· ≤ reachBytes) = true := hsz0
  have hval : ∀ (j : Nat) t v, Try.f8.params[j]? = some t → args[j]? = some v → Value.okWide Try.prog W .any base t v := hval0
  have hW' := hW
  obtain ⟨p, q, hA0, hV, rfl, _, _⟩ := hW
  have hA : DataW.TrodAll enc Try.prog W 0 (fun _ => true) true Try.f8.params.toList args.toList ds p := hA0
  have hlt : ∀ x ∈ p, x.block < W.heap.size := fun x hx => by simpa using hW'.lt x (by simp [hx])
  have hld : ds.length = Try.f8.params.size := by have := (trodAll_len hA).2; simpa using this
  rw [Try.params8] at hA hval hsz
  obtain ⟨v0, vs0, d0, ds0, p0, q0, e0, rfl, rfl, h0, hA⟩ := trodAll_cons hA
  obtain ⟨v1, vs1, d1, ds1, p1, q1, e1, rfl, rfl, h1, hA⟩ := trodAll_cons hA
  obtain ⟨v2, vs2, d2, ds2, p2, q2, e2, rfl, rfl, h2, hA⟩ := trodAll_cons hA
  obtain ⟨hv9, rfl, rfl⟩ := trodAll_nil hA
  obtain rfl : args = #[v0, v1, v2] := by
    apply Array.ext'
    rw [e0, e1, e2, hv9]
  obtain ⟨c0_0, c0_1, c0_2, c0_3, y0_0, y0_1, y0_2, y0_3, fu0, rfl, rfl, rfl, g0_0, g0_1, g0_2, g0_3⟩ := open_agg4 Try.underlying47 (by kernel_rfl) (by kernel_rfl) (hval 0 47 v0 rfl rfl) h0
  obtain ⟨x0_0, e0_0, rfl, wf0_0⟩ := DataW.trod_int Try.underlying3 g0_0
  injection e0_0 with e0_0 _
  subst e0_0
  obtain ⟨x0_1, e0_1, rfl, wf0_1⟩ := DataW.trod_int Try.underlying3 g0_1
  injection e0_1 with e0_1 _
  subst e0_1
  obtain ⟨x0_2, e0_2, rfl, wf0_2⟩ := DataW.trod_int Try.underlying3 g0_2
  injection e0_2 with e0_2 _
  subst e0_2
  obtain ⟨x0_3, e0_3, rfl, wf0_3⟩ := DataW.trod_int Try.underlying3 g0_3
  injection e0_3 with e0_3 _
  subst e0_3
  obtain ⟨x1, rfl, _, _⟩ := open_bool Try.underlying4 (hval 1 4 v1 rfl rfl) h1
  obtain ⟨x2, rfl, _, _, wf2⟩ := open_int Try.underlying3 (hval 2 3 v2 rfl rfl) h2
  have hm := true_BridgeScores x0_0 x0_1 x0_2 x0_3 x1 x2 (wf_inI wf0_0) (wf_inI wf0_1) (wf_inI wf0_2) (wf_inI wf0_3) (wf_inI wf2)
  refine (gameroomlaw_BridgeScores_w hm).mono fun e W' ⟨he, hS⟩ => ?_
  subst he
  exact ⟨_, rfl, law_post laid_bridgeScores (by decide +kernel) rfl Try.underlying4 rfl hW' (fun ds h => by match ds, h with | [_, _, _], _ => rfl) hld hS.below⟩

theorem bridgeScores_holds : Rows.BridgeScoresSaid :=
  OpenClaim.holds_of_wide 8 Try.f8 rfl rfl rfl rfl rfl rfl rfl ⟨rfl, rfl, rfl, rfl, rfl⟩ rfl rfl rfl rfl rfl (by kernel_rfl) Try.func8 (by kernel_rfl)
    (of_decide_eq_true (by kernel_rfl)) (by unfold Func.isWrapper; first | (rw [if_pos (by decide +kernel)]; kernel_rfl) | (rw [if_neg (by decide +kernel)]; exact ⟨rfl, rfl⟩))
    (fun os started H enc _ => bridgeScores_lifted os started H enc)

end Go.Proofs.Ytnplejebgbdfpaa
