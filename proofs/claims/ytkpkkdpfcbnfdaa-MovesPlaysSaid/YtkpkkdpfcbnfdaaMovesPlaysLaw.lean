import Derived.Test.YtkpkkdpfcbnfdaaRows
import Derived.Test.YtkpkkdpfcbnfdaaLibU
import Derived.Test.YtkpkkdpfcbnfdaaLibO
import Derived.Test.YtkpkkdpfcbnfdaaLibMV
import Derived.Test.YtkpkkdpfcbnfdaaNMP
import Derived.Test.YtkpkkdpfcbnfdaaCP
namespace Go.Proofs.Ytkpkkdpfcbnfdaa
open Go Go.GL Go.RowKit Go.ChangeShapes Go.WideShapes Go.ChangeAt
theorem own_movesPlays : ownKnob Try.prog.godebug = none := by kernel_rfl
theorem laid_movesPlays : laidOutB Try.prog = true := by kernel_rfl
set_option maxRecDepth 100000 in
theorem movesPlays_lifted (os : Os) (started : os.Started) (H : Type) (enc : TypeId × Value → H) :
  ReturnsInHanded {} Try.checked os 6 .any (Rows.movesPlaysSpec.pre6 enc Try.prog Try.f6 Rows.movesPlaysRow.domain false) (Rows.movesPlaysSpec.post enc Try.prog Try.f6 false true false false) := by
 refine returnsInHanded_of_change_sized (C := Try.checked) own_movesPlays started (by kernel_rfl) Try.func6
  (ChangeSpec.witness6 (enc := enc) (C := Try.checked) false ⟨#[], #[.agg #[.slice none 0 0, .int .i64 0, .int .i64 0, .int .i64 0, .int .i64 0, .int .i64 0], .slice none 0 0], []⟩ 8 (by kernel_rfl) (by kernel_rfl) (by kernel_rfl) (by kernel_rfl)) ?_
 intro W base args ds gs before hval0 hW _ hsz0 _
 have hsz : (DataW.weightsEach Try.prog (Try.f6.params.toList ++ Rows.movesPlaysSpec.plain.varTypes Try.prog) (ds ++ gs)).all (· ≤ reachBytes) = true := hsz0
 have hval : ∀ (j : Nat) t v, Try.f6.params[j]? = some t → args[j]? = some v → Value.okWide Try.prog W .any base t v := hval0
 have hW' := hW
 obtain ⟨p, q, hA0, hV, rfl, _, _⟩ := hW
 have hA : DataW.TrodAll enc Try.prog W 0 (fun _ => true) true Try.f6.params.toList args.toList ds p := hA0
 have hlt : ∀ x ∈ p, x.block < W.heap.size := fun x hx => by simpa using hW'.lt x (by simp [hx])
 have hld : ds.length = Try.f6.params.size := by have := (trodAll_len hA).2; simpa using this
 rw [Try.params6] at hA hval hsz
 obtain ⟨v0, vs0, d0, ds0, p0, q0, e0, rfl, rfl, h0, hA⟩ := trodAll_cons hA
 obtain ⟨v1, vs1, d1, ds1, p1, q1, e1, rfl, rfl, h1, hA⟩ := trodAll_cons hA
 obtain ⟨hv9, rfl, rfl⟩ := trodAll_nil hA
 obtain rfl : args = #[v0, v1] := by
  apply Array.ext'
  rw [e0, e1, hv9]
 obtain ⟨cs0, rfl, hcs0, hf0⟩ := open_fields Try.underlying65 (hval 0 65 v0 rfl rfl) h0 (fun y hy => hlt y (by simp [hy])) (weights_at hsz 0 rfl rfl)
 obtain ⟨c0_0, c0_1, c0_2, c0_3, c0_4, c0_5, rfl⟩ := arr6 (hcs0.trans (by kernel_rfl))
 obtain ⟨n0_0, y0_0, t0_0, l0_0, z0_0⟩ := hf0 0 _ rfl
 have t0_0 : DataW.trod enc Try.prog W 0 (fun _ => true) true n0_0 22 ((#[c0_0, c0_1, c0_2, c0_3, c0_4, c0_5].toList.drop 0).take (Program.cellsOf Try.prog 22)) = some y0_0 := t0_0
 rw [show Program.cellsOf Try.prog 22 = 1 by kernel_rfl] at t0_0
 have t0_0 : DataW.trod enc Try.prog W 0 (fun _ => true) true n0_0 22 [c0_0] = some y0_0 := t0_0
 obtain ⟨A0_0, d0_0, x0_0, ex0_0, hr0_0, hc0_0, hl0_0, hi0_0⟩ := cell_ints Try.underlying22 Try.underlying3 (by kernel_rfl) (by kernel_rfl) t0_0 l0_0 z0_0
 obtain ⟨n0_1, y0_1, t0_1, l0_1, z0_1⟩ := hf0 1 _ rfl
 have t0_1 : DataW.trod enc Try.prog W 0 (fun _ => true) true n0_1 3 ((#[c0_0, c0_1, c0_2, c0_3, c0_4, c0_5].toList.drop 1).take (Program.cellsOf Try.prog 3)) = some y0_1 := t0_1
 rw [show Program.cellsOf Try.prog 3 = 1 by kernel_rfl] at t0_1
 have t0_1 : DataW.trod enc Try.prog W 0 (fun _ => true) true n0_1 3 [c0_1] = some y0_1 := t0_1
 obtain ⟨x0_1, ex0_1, wf0_1⟩ := cell_int Try.underlying3 t0_1
 obtain ⟨n0_2, y0_2, t0_2, l0_2, z0_2⟩ := hf0 2 _ rfl
 have t0_2 : DataW.trod enc Try.prog W 0 (fun _ => true) true n0_2 3 ((#[c0_0, c0_1, c0_2, c0_3, c0_4, c0_5].toList.drop 2).take (Program.cellsOf Try.prog 3)) = some y0_2 := t0_2
 rw [show Program.cellsOf Try.prog 3 = 1 by kernel_rfl] at t0_2
 have t0_2 : DataW.trod enc Try.prog W 0 (fun _ => true) true n0_2 3 [c0_2] = some y0_2 := t0_2
 obtain ⟨x0_2, ex0_2, wf0_2⟩ := cell_int Try.underlying3 t0_2
 obtain ⟨n0_3, y0_3, t0_3, l0_3, z0_3⟩ := hf0 3 _ rfl
 have t0_3 : DataW.trod enc Try.prog W 0 (fun _ => true) true n0_3 3 ((#[c0_0, c0_1, c0_2, c0_3, c0_4, c0_5].toList.drop 3).take (Program.cellsOf Try.prog 3)) = some y0_3 := t0_3
 rw [show Program.cellsOf Try.prog 3 = 1 by kernel_rfl] at t0_3
 have t0_3 : DataW.trod enc Try.prog W 0 (fun _ => true) true n0_3 3 [c0_3] = some y0_3 := t0_3
 obtain ⟨x0_3, ex0_3, wf0_3⟩ := cell_int Try.underlying3 t0_3
 obtain ⟨n0_4, y0_4, t0_4, l0_4, z0_4⟩ := hf0 4 _ rfl
 have t0_4 : DataW.trod enc Try.prog W 0 (fun _ => true) true n0_4 3 ((#[c0_0, c0_1, c0_2, c0_3, c0_4, c0_5].toList.drop 4).take (Program.cellsOf Try.prog 3)) = some y0_4 := t0_4
 rw [show Program.cellsOf Try.prog 3 = 1 by kernel_rfl] at t0_4
 have t0_4 : DataW.trod enc Try.prog W 0 (fun _ => true) true n0_4 3 [c0_4] = some y0_4 := t0_4
 obtain ⟨x0_4, ex0_4, wf0_4⟩ := cell_int Try.underlying3 t0_4
 obtain ⟨n0_5, y0_5, t0_5, l0_5, z0_5⟩ := hf0 5 _ rfl
 have t0_5 : DataW.trod enc Try.prog W 0 (fun _ => true) true n0_5 3 ((#[c0_0, c0_1, c0_2, c0_3, c0_4, c0_5].toList.drop 5).take (Program.cellsOf Try.prog 3)) = some y0_5 := t0_5
 rw [show Program.cellsOf Try.prog 3 = 1 by kernel_rfl] at t0_5
 have t0_5 : DataW.trod enc Try.prog W 0 (fun _ => true) true n0_5 3 [c0_5] = some y0_5 := t0_5
 obtain ⟨x0_5, ex0_5, wf0_5⟩ := cell_int Try.underlying3 t0_5
 subst ex0_0 ex0_1 ex0_2 ex0_3 ex0_4 ex0_5
 obtain ⟨A1, c1, x1, rfl, hr1, hc1, hl1, hi1⟩ := open_mvs Try.underlying66 Try.underlying126 Try.underlying3 rfl rfl rfl rfl rfl rfl (by kernel_rfl) (by kernel_rfl) (by kernel_rfl) (hval 1 66 v1 rfl rfl) h1 (fun y hy => hlt y (by simp [hy])) (weights_at hsz 1 rfl rfl)
 have hm := true_MovesPlays x0_0 x0_1 x0_2 x0_3 x0_4 x0_5 x1 hl0_0 hi0_0 wf0_1 wf0_2 wf0_3 wf0_4 wf0_5 hl1 hi1
 refine (lw_MovesPlays_w hm (Sep.start W) (RdF.of hr0_0) hc0_0 rfl (RdF.of hr1) hc1 rfl).mono fun e W' ⟨he, hS⟩ => ?_
 subst he
 exact ⟨_, rfl, law_post laid_movesPlays (by decide +kernel) rfl Try.underlying4 rfl hW' (fun ds h => by match ds, h with | [_, _], _ => rfl) hld hS.below⟩
theorem movesPlays_holds : Rows.MovesPlaysSaid :=
 OpenClaim.holds_of_wide 6 Try.f6 rfl rfl rfl rfl rfl rfl rfl ⟨rfl, rfl, rfl, rfl, rfl⟩ rfl rfl rfl rfl rfl (by kernel_rfl) Try.func6 (by kernel_rfl)
  (of_decide_eq_true (by kernel_rfl)) (by unfold Func.isWrapper; first | (rw [if_pos (by decide +kernel)]; kernel_rfl) | (rw [if_neg (by decide +kernel)]; exact ⟨rfl, rfl⟩))
  (fun os started H enc _ => movesPlays_lifted os started H enc)
end Go.Proofs.Ytkpkkdpfcbnfdaa
