/-
  For every input the law SlideHomes answers true, and leaves what came in as it was: the walk of its text and the plain law, joined.
  No condition.
-/
import Derived.Test.YtkpkkdpfcbnfdaaRows
import Derived.Test.YtkpkkdpfcbnfdaaLibU
import Derived.Test.YtkpkkdpfcbnfdaaLibO
import Derived.Test.YtkpkkdpfcbnfdaaHm
import Derived.Test.YtkpkkdpfcbnfdaaHnk
namespace Go.Proofs.Ytkpkkdpfcbnfdaa
open Go Go.GL Go.RowKit Go.ChangeShapes Go.WideShapes Go.ChangeAt

theorem own_slideHomes : ownKnob Try.prog.godebug = none := by kernel_rfl
theorem laid_slideHomes : laidOutB Try.prog = true := by kernel_rfl

set_option maxRecDepth 100000 in
theorem slideHomes_lifted (os : Os) (started : os.Started) (H : Type) (enc : TypeId × Value → H) :
    ReturnsInHanded {} Try.checked os 4 .any (Rows.slideHomesSpec.pre6 enc Try.prog Try.f4 Rows.slideHomesRow.domain false) (Rows.slideHomesSpec.post enc Try.prog Try.f4 false true false false) := by
  refine returnsInHanded_of_change_sized (C := Try.checked) own_slideHomes started (by kernel_rfl) Try.func4
    (ChangeSpec.witness6 (enc := enc) (C := Try.checked) false ⟨#[], #[.agg #[.int .i64 0, .int .i64 0, .slice none 0 0], .int .i64 0, .int .i64 0, .int .i64 0], []⟩ 8 (by kernel_rfl) (by kernel_rfl) (by kernel_rfl) (by kernel_rfl)) ?_
  intro W base args ds gs before hval0 hW _ hsz0 _
  have hsz : (DataW.weightsEach Try.prog (Try.f4.params.toList ++ Rows.slideHomesSpec.plain.varTypes Try.prog) (ds ++ gs)).all (· ≤ reachBytes) = true := hsz0
  have hval : ∀ (j : Nat) t v, Try.f4.params[j]? = some t → args[j]? = some v → Value.okWide Try.prog W .any base t v := hval0
  have hW' := hW
  obtain ⟨p, q, hA0, hV, rfl, _, _⟩ := hW
  have hA : DataW.TrodAll enc Try.prog W 0 (fun _ => true) true Try.f4.params.toList args.toList ds p := hA0
  have hlt : ∀ x ∈ p, x.block < W.heap.size := fun x hx => by simpa using hW'.lt x (by simp [hx])
  have hld : ds.length = Try.f4.params.size := by have := (trodAll_len hA).2; simpa using this
  rw [Try.params4] at hA hval hsz
  obtain ⟨v0, vs0, d0, ds0, p0, q0, e0, rfl, rfl, h0, hA⟩ := trodAll_cons hA
  obtain ⟨v1, vs1, d1, ds1, p1, q1, e1, rfl, rfl, h1, hA⟩ := trodAll_cons hA
  obtain ⟨v2, vs2, d2, ds2, p2, q2, e2, rfl, rfl, h2, hA⟩ := trodAll_cons hA
  obtain ⟨v3, vs3, d3, ds3, p3, q3, e3, rfl, rfl, h3, hA⟩ := trodAll_cons hA
  obtain ⟨hv9, rfl, rfl⟩ := trodAll_nil hA
  obtain rfl : args = #[v0, v1, v2, v3] := by
    apply Array.ext'
    rw [e0, e1, e2, e3, hv9]
  obtain ⟨cs0, rfl, hcs0, hf0⟩ := open_fields Try.underlying32 (hval 0 32 v0 rfl rfl) h0 (fun y hy => hlt y (by simp [hy])) (weights_at hsz 0 rfl rfl)
  obtain ⟨c0_0, c0_1, c0_2, rfl⟩ := arr3 (hcs0.trans (by kernel_rfl))
  obtain ⟨n0_0, y0_0, t0_0, l0_0, z0_0⟩ := hf0 0 _ rfl
  have t0_0 : DataW.trod enc Try.prog W 0 (fun _ => true) true n0_0 3 ((#[c0_0, c0_1, c0_2].toList.drop 0).take (Program.cellsOf Try.prog 3)) = some y0_0 := t0_0
  rw [show Program.cellsOf Try.prog 3 = 1 by kernel_rfl] at t0_0
  have t0_0 : DataW.trod enc Try.prog W 0 (fun _ => true) true n0_0 3 [c0_0] = some y0_0 := t0_0
  obtain ⟨x0_0, ex0_0, wf0_0⟩ := cell_int Try.underlying3 t0_0
  obtain ⟨n0_1, y0_1, t0_1, l0_1, z0_1⟩ := hf0 1 _ rfl
  have t0_1 : DataW.trod enc Try.prog W 0 (fun _ => true) true n0_1 3 ((#[c0_0, c0_1, c0_2].toList.drop 1).take (Program.cellsOf Try.prog 3)) = some y0_1 := t0_1
  rw [show Program.cellsOf Try.prog 3 = 1 by kernel_rfl] at t0_1
  have t0_1 : DataW.trod enc Try.prog W 0 (fun _ => true) true n0_1 3 [c0_1] = some y0_1 := t0_1
  obtain ⟨x0_1, ex0_1, wf0_1⟩ := cell_int Try.underlying3 t0_1
  obtain ⟨n0_2, y0_2, t0_2, l0_2, z0_2⟩ := hf0 2 _ rfl
  have t0_2 : DataW.trod enc Try.prog W 0 (fun _ => true) true n0_2 22 ((#[c0_0, c0_1, c0_2].toList.drop 2).take (Program.cellsOf Try.prog 22)) = some y0_2 := t0_2
  rw [show Program.cellsOf Try.prog 22 = 1 by kernel_rfl] at t0_2
  have t0_2 : DataW.trod enc Try.prog W 0 (fun _ => true) true n0_2 22 [c0_2] = some y0_2 := t0_2
  obtain ⟨A0_2, d0_2, x0_2, ex0_2, hr0_2, hc0_2, hl0_2, hi0_2⟩ := cell_ints Try.underlying22 Try.underlying3 (by kernel_rfl) (by kernel_rfl) t0_2 l0_2 z0_2
  subst ex0_0 ex0_1 ex0_2
  obtain ⟨x1, rfl, _, _, wf1⟩ := open_int Try.underlying3 (hval 1 3 v1 rfl rfl) h1
  obtain ⟨x2, rfl, _, _, wf2⟩ := open_int Try.underlying3 (hval 2 3 v2 rfl rfl) h2
  obtain ⟨x3, rfl, _, _, wf3⟩ := open_int Try.underlying3 (hval 3 3 v3 rfl rfl) h3
  have hm := true_SlideHomes x0_0 x0_1 x0_2 x1 x2 x3 wf0_0 wf0_1 hl0_2 hi0_2 (wf_inI wf1) (wf_inI wf2) (wf_inI wf3)
  refine (gameroomlaw_SlideHomes_w hm (Sep.start W) (RdF.of hr0_2) hc0_2 rfl).mono fun e W' ⟨he, hS⟩ => ?_
  subst he
  exact ⟨_, rfl, law_post laid_slideHomes (by decide +kernel) rfl Try.underlying4 rfl hW' (fun ds h => by match ds, h with | [_, _, _, _], _ => rfl) hld hS.below⟩

theorem slideHomes_holds : Rows.SlideHomesSaid :=
  OpenClaim.holds_of_wide 4 Try.f4 rfl rfl rfl rfl rfl rfl rfl ⟨rfl, rfl, rfl, rfl, rfl⟩ rfl rfl rfl rfl rfl (by kernel_rfl) Try.func4 (by kernel_rfl)
    (of_decide_eq_true (by kernel_rfl)) (by unfold Func.isWrapper; first | (rw [if_pos (by decide +kernel)]; kernel_rfl) | (rw [if_neg (by decide +kernel)]; exact ⟨rfl, rfl⟩))
    (fun os started H enc _ => slideHomes_lifted os started H enc)

end Go.Proofs.Ytkpkkdpfcbnfdaa
