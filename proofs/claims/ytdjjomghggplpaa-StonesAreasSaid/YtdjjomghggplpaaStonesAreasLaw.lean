/-
  For every input the law StonesAreas answers true, and leaves what came in as it was: the walk of its text and the plain law, joined.
  No condition.
-/
import Derived.Test.YtdjjomghggplpaaRows
import Derived.Test.YtdjjomghggplpaaLibU
import Derived.Test.YtdjjomghggplpaaLibO
import Derived.Test.YtdjjomghggplpaaKH
namespace Go.Proofs.Ytdjjomghggplpaa
open Go Go.GL Go.RowKit Go.ChangeShapes Go.WideShapes Go.ChangeAt

theorem own_stonesAreas : ownKnob Try.prog.godebug = none := by kernel_rfl
theorem laid_stonesAreas : laidOutB Try.prog = true := by kernel_rfl

set_option maxRecDepth 100000 in
theorem stonesAreas_lifted (os : Os) (started : os.Started) (H : Type) (enc : TypeId × Value → H) :
    ReturnsInHanded {} Try.checked os 3 .any (Rows.stonesAreasSpec.pre6 enc Try.prog Try.f3 Rows.stonesAreasRow.domain false) (Rows.stonesAreasSpec.post enc Try.prog Try.f3 false true false false) := by
  refine returnsInHanded_of_change_sized (C := Try.checked) own_stonesAreas started (by kernel_rfl) Try.func3
    (ChangeSpec.witness6 (enc := enc) (C := Try.checked) false ⟨#[], #[.agg #[.int .i64 0, .int .i64 0, .slice none 0 0], .int .i64 0], []⟩ 8 (by kernel_rfl) (by kernel_rfl) (by kernel_rfl) (by kernel_rfl)) ?_
  intro W base args ds gs before hval0 hW _ hsz0 _
  have hsz : (DataW.weightsEach Try.prog (Try.f3.params.toList ++ Rows.stonesAreasSpec.plain.varTypes Try.prog) (ds ++ gs)).all (· ≤ reachBytes) = true := hsz0
  have hval : ∀ (j : Nat) t v, Try.f3.params[j]? = some t → args[j]? = some v → Value.okWide Try.prog W .any base t v := hval0
  have hW' := hW
  obtain ⟨p, q, hA0, hV, rfl, _, _⟩ := hW
  have hA : DataW.TrodAll enc Try.prog W 0 (fun _ => true) true Try.f3.params.toList args.toList ds p := hA0
  have hlt : ∀ x ∈ p, x.block < W.heap.size := fun x hx => by simpa using hW'.lt x (by simp [hx])
  have hld : ds.length = Try.f3.params.size := by have := (trodAll_len hA).2; simpa using this
  rw [Try.params3] at hA hval hsz
  obtain ⟨v0, vs0, d0, ds0, p0, q0, e0, rfl, rfl, h0, hA⟩ := trodAll_cons hA
  obtain ⟨v1, vs1, d1, ds1, p1, q1, e1, rfl, rfl, h1, hA⟩ := trodAll_cons hA
  obtain ⟨hv9, rfl, rfl⟩ := trodAll_nil hA
  obtain rfl : args = #[v0, v1] := by
    apply Array.ext'
    rw [e0, e1, hv9]
  obtain ⟨cs0, rfl, hcs0, hf0⟩ := open_fields Try.underlying24 (hval 0 24 v0 rfl rfl) h0 (fun y hy => hlt y (by simp [hy])) (weights_at hsz 0 rfl rfl)
  obtain ⟨c0_0, c0_1, c0_2, rfl⟩ := arr3 (hcs0.trans (by kernel_rfl))
  obtain ⟨n0_0, y0_0, t0_0, l0_0, z0_0⟩ := hf0 0 _ rfl
  have t0_0 : DataW.trod enc Try.prog W 0 (fun _ => true) true n0_0 3 ((#[c0_0, c0_1, c0_2].toList.drop 0).take (Program.cellsOf Try.prog 3)) = some y0_0 := t0_0
  rw [show Program.cellsOf Try.prog 3 = 1 by kernel_rfl] at t0_0
  have t0_0 : DataW.trod enc Try.prog W 0 (fun _ => true) true n0_0 3 [c0_0] = some y0_0 := t0_0
  obtain ⟨x0_0, ex0_0, wf0_0⟩ := cell_int Try.underlying3 t0_0
  obtain ⟨n0_1, y0_1, t0_1, l0_1, z0_1⟩ := hf0 1 _ rfl
  have t0_1 : DataW.trod enc Try.prog W 0 (fun _ => true) true n0_1 3 ((#[c0_0, c0_1, c0_2].toList.drop 1).take (Program.cellsOf Try.prog 3)) = some y0_1 := t0_1
  rw [show Program.cellsOf Try.prog 3 = 1 by kernel_rfl] at t0_1
  have t0_1 : DataW.trod enc Try.prog W 0 (fun _ => true) true n0_1 3 [c0_1] = some y0_1 := t0_1
  obtain ⟨x0_1, ex0_1, wf0_1⟩ := cell_int Try.underlying3 t0_1
  obtain ⟨n0_2, y0_2, t0_2, l0_2, z0_2⟩ := hf0 2 _ rfl
  have t0_2 : DataW.trod enc Try.prog W 0 (fun _ => true) true n0_2 22 ((#[c0_0, c0_1, c0_2].toList.drop 2).take (Program.cellsOf Try.prog 22)) = some y0_2 := t0_2
  rw [show Program.cellsOf Try.prog 22 = 1 by kernel_rfl] at t0_2
  have t0_2 : DataW.trod enc Try.prog W 0 (fun _ => true) true n0_2 22 [c0_2] = some y0_2 := t0_2
  obtain ⟨A0_2, d0_2, x0_2, ex0_2, hr0_2, hc0_2, hl0_2, hi0_2⟩ := cell_ints Try.underlying22 Try.underlying3 (by kernel_rfl) (by kernel_rfl) t0_2 l0_2 z0_2
  subst ex0_0 ex0_1 ex0_2
  obtain ⟨x1, rfl, _, _, wf1⟩ := open_int Try.underlying3 (hval 1 3 v1 rfl rfl) h1
  have hm := true_StonesAreas x0_0 x0_1 x0_2 x1 wf0_0 wf0_1 hl0_2 hi0_2 (wf_inI wf1)
  refine (gameroomlaw_StonesAreas_w hm (Sep.start W) (RdF.of hr0_2) hc0_2 rfl).mono fun e W' ⟨he, hS⟩ => ?_
  subst he
  exact ⟨_, rfl, law_post laid_stonesAreas (by decide +kernel) rfl Try.underlying4 rfl hW' (fun ds h => by match ds, h with | [_, _], _ => rfl) hld hS.below⟩

theorem stonesAreas_holds : Rows.StonesAreasSaid :=
  OpenClaim.holds_of_wide 3 Try.f3 rfl rfl rfl rfl rfl rfl rfl ⟨rfl, rfl, rfl, rfl, rfl⟩ rfl rfl rfl rfl rfl (by kernel_rfl) Try.func3 (by kernel_rfl)
    (of_decide_eq_true (by kernel_rfl)) (by unfold Func.isWrapper; first | (rw [if_pos (by decide +kernel)]; kernel_rfl) | (rw [if_neg (by decide +kernel)]; exact ⟨rfl, rfl⟩))
    (fun os started H enc _ => stonesAreas_lifted os started H enc)

end Go.Proofs.Ytdjjomghggplpaa
