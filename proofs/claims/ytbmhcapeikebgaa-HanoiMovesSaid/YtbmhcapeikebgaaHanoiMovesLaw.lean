/-
  For every input the law HanoiMoves answers true, and leaves what came in as it was: the walk of its text and the plain law, joined.
  No condition.
-/
import Derived.Test.YtbmhcapeikebgaaRows
import Derived.Test.YtbmhcapeikebgaaLibU
import Derived.Test.YtbmhcapeikebgaaPV
import Derived.Lib.SmallJoins
namespace Go.Proofs.Ytbmhcapeikebgaa
open Go Go.GL Go.RowKit Go.ChangeShapes Go.WideShapes Go.ChangeAt Go.Joins

theorem own_hanoiMoves : ownKnob Try.prog.godebug = none := by kernel_rfl
theorem laid_hanoiMoves : laidOutB Try.prog = true := by kernel_rfl

set_option maxRecDepth 100000 in
theorem hanoiMoves_lifted (os : Os) (started : os.Started) (H : Type) (enc : TypeId × Value → H) :
    ReturnsInHanded {} Try.checked os 9 .any (Rows.hanoiMovesSpec.pre6 enc Try.prog Try.f9 Rows.hanoiMovesRow.domain false) (Rows.hanoiMovesSpec.post enc Try.prog Try.f9 false true false false) := by
  refine returnsInHanded_of_change_sized (C := Try.checked) own_hanoiMoves started (by kernel_rfl) Try.func9
    (ChangeSpec.witness6 (enc := enc) (C := Try.checked) false ⟨#[], #[.slice none 0 0, .agg #[.int .i64 0, .int .i64 0, .int .i64 0], .int .i64 0, .int .i64 0, .int .i64 0, .int .i64 0], []⟩ 8 (by kernel_rfl) (by kernel_rfl) (by kernel_rfl) (by kernel_rfl)) ?_
  intro W base args ds gs before hval0 hW _ hsz0 _
  have hsz : (DataW.weightsEach Try.prog (Try.f9.params.toList ++ Rows.hanoiMovesSpec.plain.varTypes Try.prog) (ds ++ gs)).all (· ≤ reachBytes) = true := hsz0
  have hval : ∀ (j : Nat) t v, Try.f9.params[j]? = some t → args[j]? = some v → Value.okWide Try.prog W .any base t v := hval0
  have hW' := hW
  obtain ⟨p, q, hA0, hV, rfl, _, _⟩ := hW
  have hA : DataW.TrodAll enc Try.prog W 0 (fun _ => true) true Try.f9.params.toList args.toList ds p := hA0
  have hlt : ∀ x ∈ p, x.block < W.heap.size := fun x hx => by simpa using hW'.lt x (by simp [hx])
  have hld : ds.length = Try.f9.params.size := by have := (trodAll_len hA).2; simpa using this
  rw [Try.params9] at hA hval hsz
  obtain ⟨v0, vs0, d0, ds0, p0, q0, e0, rfl, rfl, h0, hA⟩ := trodAll_cons hA
  obtain ⟨v1, vs1, d1, ds1, p1, q1, e1, rfl, rfl, h1, hA⟩ := trodAll_cons hA
  obtain ⟨v2, vs2, d2, ds2, p2, q2, e2, rfl, rfl, h2, hA⟩ := trodAll_cons hA
  obtain ⟨v3, vs3, d3, ds3, p3, q3, e3, rfl, rfl, h3, hA⟩ := trodAll_cons hA
  obtain ⟨v4, vs4, d4, ds4, p4, q4, e4, rfl, rfl, h4, hA⟩ := trodAll_cons hA
  obtain ⟨v5, vs5, d5, ds5, p5, q5, e5, rfl, rfl, h5, hA⟩ := trodAll_cons hA
  obtain ⟨hv9, rfl, rfl⟩ := trodAll_nil hA
  obtain rfl : args = #[v0, v1, v2, v3, v4, v5] := by
    apply Array.ext'
    rw [e0, e1, e2, e3, e4, e5, hv9]
  obtain ⟨A0, c0, x0, rfl, hr0, hc0, hl0, hi0⟩ := open_rd Try.underlying40 Try.underlying3 (by kernel_rfl) (by kernel_rfl) (hval 0 40 v0 rfl rfl) h0 (fun y hy => hlt y (by simp [hy])) (weights_at hsz 0 rfl rfl)
  obtain ⟨c1_0, c1_1, c1_2, y1_0, y1_1, y1_2, fu1, rfl, rfl, rfl, g1_0, g1_1, g1_2⟩ := open_agg3 Try.underlying52 (by kernel_rfl) (by kernel_rfl) (hval 1 52 v1 rfl rfl) h1
  obtain ⟨x1_0, e1_0, rfl, wf1_0⟩ := DataW.trod_int Try.underlying3 g1_0
  injection e1_0 with e1_0 _
  subst e1_0
  obtain ⟨x1_1, e1_1, rfl, wf1_1⟩ := DataW.trod_int Try.underlying3 g1_1
  injection e1_1 with e1_1 _
  subst e1_1
  obtain ⟨x1_2, e1_2, rfl, wf1_2⟩ := DataW.trod_int Try.underlying3 g1_2
  injection e1_2 with e1_2 _
  subst e1_2
  obtain ⟨x2, rfl, _, _, wf2⟩ := open_int Try.underlying3 (hval 2 3 v2 rfl rfl) h2
  obtain ⟨x3, rfl, _, _, wf3⟩ := open_int Try.underlying3 (hval 3 3 v3 rfl rfl) h3
  obtain ⟨x4, rfl, _, _, wf4⟩ := open_int Try.underlying3 (hval 4 3 v4 rfl rfl) h4
  obtain ⟨x5, rfl, _, _, wf5⟩ := open_int Try.underlying3 (hval 5 3 v5 rfl rfl) h5
  have hm := true_HanoiMoves x0 x1_0 x1_1 x1_2 x2 x3 x4 x5 hl0 hi0 (wf_inI wf1_0) (wf_inI wf1_1) (wf_inI wf1_2) (wf_inI wf2) (wf_inI wf3) (wf_inI wf4) (wf_inI wf5)
  refine (gameroomlaw_HanoiMoves_w hm (Sep.start W) (RdF.of hr0) hc0 rfl).mono fun e W' ⟨he, hS⟩ => ?_
  subst he
  exact ⟨_, rfl, law_post laid_hanoiMoves (by decide +kernel) rfl Try.underlying4 rfl hW' (fun ds h => by match ds, h with | [_, _, _, _, _, _], _ => rfl) hld hS.below⟩

theorem hanoiMoves_holds : Rows.HanoiMovesSaid :=
  OpenClaim.holds_of_wide 9 Try.f9 rfl rfl rfl rfl rfl rfl rfl ⟨rfl, rfl, rfl, rfl, rfl⟩ rfl rfl rfl rfl rfl (by kernel_rfl) Try.func9 (by kernel_rfl)
    (of_decide_eq_true (by kernel_rfl)) (by unfold Func.isWrapper; first | (rw [if_pos (by decide +kernel)]; kernel_rfl) | (rw [if_neg (by decide +kernel)]; exact ⟨rfl, rfl⟩))
    (fun os started H enc _ => hanoiMoves_lifted os started H enc)

end Go.Proofs.Ytbmhcapeikebgaa
