/-
  For every input the law MancalaNews answers true, and leaves what came in as it was: the walk of its text and the plain law, joined.
  No condition.
-/
import Derived.Test.YtbmhcapeikebgaaRows
import Derived.Test.YtbmhcapeikebgaaLibU
import Derived.Test.YtbmhcapeikebgaaLibO
import Derived.Test.YtbmhcapeikebgaaMNa
namespace Go.Proofs.Ytbmhcapeikebgaa
open Go Go.GL Go.RowKit Go.ChangeShapes Go.WideShapes Go.ChangeAt

theorem own_mancalaNews : ownKnob Try.prog.godebug = none := by kernel_rfl
theorem laid_mancalaNews : laidOutB Try.prog = true := by kernel_rfl

set_option maxRecDepth 100000 in
theorem mancalaNews_lifted (os : Os) (started : os.Started) (H : Type) (enc : TypeId × Value → H) :
    ReturnsInHanded {} Try.checked os 8 .any (Rows.mancalaNewsSpec.pre6 enc Try.prog Try.f8 Rows.mancalaNewsRow.domain false) (Rows.mancalaNewsSpec.post enc Try.prog Try.f8 false true false false) := by
  refine returnsInHanded_of_change_sized (C := Try.checked) own_mancalaNews started (by kernel_rfl) Try.func8
    (ChangeSpec.witness6 (enc := enc) (C := Try.checked) false ⟨#[], #[.int .i64 0, .int .i64 0, .agg #[.slice none 0 0, .int .i64 0]], []⟩ 8 (by kernel_rfl) (by kernel_rfl) (by kernel_rfl) (by kernel_rfl)) ?_
  intro W base args ds gs before hval0 hW _ hsz0 _
  have hsz : (DataW.weightsEach Try.prog (Try.f8.params.toList ++ Rows.mancalaNewsSpec.plain.varTypes Try.prog) (ds ++ gs)).all (· ≤ reachBytes) = true := hsz0
  have hval : ∀ (j : Nat) t v, Try.f8.params[j]? = some t → args[j]? = some v → Value.okWide Try.prog W .any base t v := hval0
  have hW' := hW
  obtain ⟨p, q, hA0, hV, rfl, _, _⟩ := hW
  have hA : DataW.TrodAll enc Try.prog W 0 (fun _ => true) true Try.f8.params.toList args.toList ds p := hA0
  have hlt : ∀ x ∈ p, x.block < W.heap.size := fun x hx => by simpa using hW'.lt x (by simp [hx])
  have hld : ds.length = Try.f8.params.size := by have := (trodAll_len hA).2; simpa using this
  rw [Try.params8] at hA hval hsz
  obtain ⟨v0, vs0, d0, ds0, p0, q0, e0, rfl, rfl, h0, hA⟩ := trodAll_cons hA
  obtain ⟨v1, vs1, d1, ds1, p1, q1, e1, rfl, rfl, h1, hA⟩ := trodAll_cons hA
  obtain ⟨v2, vs2, d2, ds2, p2, q2, e2, rfl, rfl, h2, hA⟩ := trodAll_cons hA
  obtain ⟨hv9, rfl, rfl⟩ := trodAll_nil hA
  obtain rfl : args = #[v0, v1, v2] := by
    apply Array.ext'
    rw [e0, e1, e2, hv9]
  obtain ⟨x0, rfl, _, _, wf0⟩ := open_int Try.underlying3 (hval 0 3 v0 rfl rfl) h0
  obtain ⟨x1, rfl, _, _, wf1⟩ := open_int Try.underlying3 (hval 1 3 v1 rfl rfl) h1
  obtain ⟨cs2, rfl, hcs2, hf2⟩ := open_fields Try.underlying71 (hval 2 71 v2 rfl rfl) h2 (fun y hy => hlt y (by simp [hy])) (weights_at hsz 2 rfl rfl)
  obtain ⟨c2_0, c2_1, rfl⟩ := arr2 (hcs2.trans (by kernel_rfl))
  obtain ⟨n2_0, y2_0, t2_0, l2_0, z2_0⟩ := hf2 0 _ rfl
  have t2_0 : DataW.trod enc Try.prog W 0 (fun _ => true) true n2_0 40 ((#[c2_0, c2_1].toList.drop 0).take (Program.cellsOf Try.prog 40)) = some y2_0 := t2_0
  rw [show Program.cellsOf Try.prog 40 = 1 by kernel_rfl] at t2_0
  have t2_0 : DataW.trod enc Try.prog W 0 (fun _ => true) true n2_0 40 [c2_0] = some y2_0 := t2_0
  obtain ⟨A2_0, d2_0, x2_0, ex2_0, hr2_0, hc2_0, hl2_0, hi2_0⟩ := cell_ints Try.underlying40 Try.underlying3 (by kernel_rfl) (by kernel_rfl) t2_0 l2_0 z2_0
  obtain ⟨n2_1, y2_1, t2_1, l2_1, z2_1⟩ := hf2 1 _ rfl
  have t2_1 : DataW.trod enc Try.prog W 0 (fun _ => true) true n2_1 3 ((#[c2_0, c2_1].toList.drop 1).take (Program.cellsOf Try.prog 3)) = some y2_1 := t2_1
  rw [show Program.cellsOf Try.prog 3 = 1 by kernel_rfl] at t2_1
  have t2_1 : DataW.trod enc Try.prog W 0 (fun _ => true) true n2_1 3 [c2_1] = some y2_1 := t2_1
  obtain ⟨x2_1, ex2_1, wf2_1⟩ := cell_int Try.underlying3 t2_1
  subst ex2_0 ex2_1
  have hm := true_MancalaNews x0 x1 x2_0 x2_1 (wf_inI wf0) (wf_inI wf1) hl2_0 hi2_0 wf2_1
  refine (gameroomlaw_MancalaNews_w hm (Sep.start W) (RdF.of hr2_0) hc2_0 rfl).mono fun e W' ⟨he, hS⟩ => ?_
  subst he
  exact ⟨_, rfl, law_post laid_mancalaNews (by decide +kernel) rfl Try.underlying4 rfl hW' (fun ds h => by match ds, h with | [_, _, _], _ => rfl) hld hS.below⟩

theorem mancalaNews_holds : Rows.MancalaNewsSaid :=
  OpenClaim.holds_of_wide 8 Try.f8 rfl rfl rfl rfl rfl rfl rfl ⟨rfl, rfl, rfl, rfl, rfl⟩ rfl rfl rfl rfl rfl (by kernel_rfl) Try.func8 (by kernel_rfl)
    (of_decide_eq_true (by kernel_rfl)) (by unfold Func.isWrapper; first | (rw [if_pos (by decide +kernel)]; kernel_rfl) | (rw [if_neg (by decide +kernel)]; exact ⟨rfl, rfl⟩))
    (fun os started H enc _ => mancalaNews_lifted os started H enc)

end Go.Proofs.Ytbmhcapeikebgaa
