/-
  For every input the law DraughtsWays answers true, and leaves what came in as it was: the walk of its text and the plain law, joined.
  No condition.
-/
import Derived.Test.YtoickcchcjehdaaRows
import Derived.Test.YtoickcchcjehdaaLibU
import Derived.Test.YtoickcchcjehdaaLibO
import Derived.Test.YtoickcchcjehdaaVWf
namespace Go.Proofs.Ytoickcchcjehdaa
open Go Go.GL Go.RowKit Go.ChangeShapes Go.WideShapes Go.ChangeAt

theorem own_draughtsWays : ownKnob Try.prog.godebug = none := by kernel_rfl
theorem laid_draughtsWays : laidOutB Try.prog = true := by kernel_rfl

set_option maxRecDepth 100000 in
theorem draughtsWays_lifted (os : Os) (started : os.Started) (H : Type) (enc : TypeId × Value → H) :
    ReturnsInHanded {} Try.checked os 8 .any (Rows.draughtsWaysSpec.pre6 enc Try.prog Try.f8 Rows.draughtsWaysRow.domain false) (Rows.draughtsWaysSpec.post enc Try.prog Try.f8 false true false false) := by
  refine returnsInHanded_of_change_sized (C := Try.checked) own_draughtsWays started (by kernel_rfl) Try.func8
    (ChangeSpec.witness6 (enc := enc) (C := Try.checked) false ⟨#[], #[.agg #[.slice none 0 0, .int .i64 0]], []⟩ 8 (by kernel_rfl) (by kernel_rfl) (by kernel_rfl) (by kernel_rfl)) ?_
  intro W base args ds gs before hval0 hW _ hsz0 _
  have hsz : (DataW.weightsEach Try.prog (Try.f8.params.toList ++ Rows.draughtsWaysSpec.plain.varTypes Try.prog) (ds ++ gs)).all (· ≤ reachBytes) = true := hsz0
  have hval : ∀ (j : Nat) t v, Try.f8.params[j]? = some t → args[j]? = some v → Value.okWide Try.prog W .any base t v := hval0
  have hW' := hW
  obtain ⟨p, q, hA0, hV, rfl, _, _⟩ := hW
  have hA : DataW.TrodAll enc Try.prog W 0 (fun _ => true) true Try.f8.params.toList args.toList ds p := hA0
  have hlt : ∀ x ∈ p, x.block < W.heap.size := fun x hx => by simpa using hW'.lt x (by simp [hx])
  have hld : ds.length = Try.f8.params.size := by have := (trodAll_len hA).2; simpa using this
  rw [Try.params8] at hA hval hsz
  obtain ⟨v0, vs0, d0, ds0, p0, q0, e0, rfl, rfl, h0, hA⟩ := trodAll_cons hA
  obtain ⟨hv9, rfl, rfl⟩ := trodAll_nil hA
  obtain rfl : args = #[v0] := by
    apply Array.ext'
    rw [e0, hv9]
  obtain ⟨cs0, rfl, hcs0, hf0⟩ := open_fields Try.underlying66 (hval 0 66 v0 rfl rfl) h0 (fun y hy => hlt y (by simp [hy])) (weights_at hsz 0 rfl rfl)
  obtain ⟨c0_0, c0_1, rfl⟩ := arr2 (hcs0.trans (by kernel_rfl))
  obtain ⟨n0_0, y0_0, t0_0, l0_0, z0_0⟩ := hf0 0 _ rfl
  have t0_0 : DataW.trod enc Try.prog W 0 (fun _ => true) true n0_0 22 ((#[c0_0, c0_1].toList.drop 0).take (Program.cellsOf Try.prog 22)) = some y0_0 := t0_0
  rw [show Program.cellsOf Try.prog 22 = 1 by kernel_rfl] at t0_0
  have t0_0 : DataW.trod enc Try.prog W 0 (fun _ => true) true n0_0 22 [c0_0] = some y0_0 := t0_0
  obtain ⟨A0_0, d0_0, x0_0, ex0_0, hr0_0, hc0_0, hl0_0, hi0_0⟩ := cell_ints Try.underlying22 Try.underlying3 (by kernel_rfl) (by kernel_rfl) t0_0 l0_0 z0_0
  obtain ⟨n0_1, y0_1, t0_1, l0_1, z0_1⟩ := hf0 1 _ rfl
  have t0_1 : DataW.trod enc Try.prog W 0 (fun _ => true) true n0_1 3 ((#[c0_0, c0_1].toList.drop 1).take (Program.cellsOf Try.prog 3)) = some y0_1 := t0_1
  rw [show Program.cellsOf Try.prog 3 = 1 by kernel_rfl] at t0_1
  have t0_1 : DataW.trod enc Try.prog W 0 (fun _ => true) true n0_1 3 [c0_1] = some y0_1 := t0_1
  obtain ⟨x0_1, ex0_1, wf0_1⟩ := cell_int Try.underlying3 t0_1
  subst ex0_0 ex0_1
  have hm := true_DraughtsWays x0_0 x0_1 hl0_0 hi0_0 wf0_1
  refine (gameroomlaw_DraughtsWays_w hm (Sep.start W) (RdF.of hr0_0) hc0_0 rfl).mono fun e W' ⟨he, hS⟩ => ?_
  subst he
  exact ⟨_, rfl, law_post laid_draughtsWays (by decide +kernel) rfl Try.underlying4 rfl hW' (fun ds h => by match ds, h with | [_], _ => rfl) hld hS.below⟩

theorem and_t {a b : Bool} (h : a = true) (k : b = true) : (a && b) = true := by rw [h, k]; rfl
theorem jn_draughtsWays0 : (Rows.draughtsWaysRow.wf (OpenSpec.ofChange Rows.draughtsWaysSpec) && laidOutB Try.pinned.checked.prog && mapsRowed Try.pinned.checked.prog && Try.f8.params.all (Try.pinned.checked.prog.readableRec ·) && namedTie Try.pinned.checked.prog Rows.draughtsWaysRow.named Rows.draughtsWaysSpec.vars && (Rows.draughtsWaysRow.stops == []) && (Try.pinned.checked.prog.stops == []) && (Rows.draughtsWaysRow.knobs == []) && (Try.pinned.checked.prog.stopKnobs == [])) = true := by kernel_rfl
theorem jn_draughtsWays1 : ((Rows.draughtsWaysRow.inPlace == Try.pinned.checked.prog.inPlace 8)) = true := by kernel_rfl
theorem jn_draughtsWays2 : ((Rows.draughtsWaysRow.unfollowed == Try.pinned.checked.prog.unfollowed 8)) = true := by kernel_rfl
theorem jn_draughtsWays3 : ((Rows.draughtsWaysRow.recurses == Try.pinned.checked.prog.recurses 8)) = true := by kernel_rfl
theorem jn_draughtsWays4 : ((Rows.draughtsWaysRow.named == Try.pinned.checked.prog.varsNamed 8)) = true := by kernel_rfl
theorem jn_draughtsWays5 : ((Rows.draughtsWaysRow.maps == (Try.f8.params.toList ++ Rows.draughtsWaysSpec.plain.varTypes Try.pinned.checked.prog).any (Try.pinned.checked.prog.mapsRec ·))) = true := by kernel_rfl
theorem jn_draughtsWays6 : ((Rows.draughtsWaysRow.ifaces == (Try.f8.params.toList ++ Rows.draughtsWaysSpec.plain.varTypes Try.pinned.checked.prog).any (Try.pinned.checked.prog.ifacesRec ·))) = true := by kernel_rfl
theorem jn_draughtsWays7 : ((Rows.draughtsWaysRow.mapsOut == Try.pinned.checked.prog.mapsAmong Try.f8.resultTypes.toList)) = true := by kernel_rfl
theorem jn_draughtsWays8 : ((Rows.draughtsWaysRow.loops == (Try.f8.params.toList ++ Rows.draughtsWaysSpec.plain.varTypes Try.pinned.checked.prog).any (Try.pinned.checked.prog.loopsFrom ·))) = true := by kernel_rfl
theorem jn_draughtsWays9 : ((Rows.draughtsWaysRow.wideKeys == (Try.f8.params.toList ++ Rows.draughtsWaysSpec.plain.varTypes Try.pinned.checked.prog ++ Try.f8.resultTypes.toList).any (Try.pinned.checked.prog.wideKeysFrom ·))) = true := by kernel_rfl
theorem jn_draughtsWays10 : (Rows.draughtsWaysSpec.vars.all (Try.pinned.checked.prog.varReadable ·)) = true := by kernel_rfl
theorem jn_draughtsWays11 : (Try.f8.resultTypes.all (fun t => Try.pinned.checked.prog.readableRec t && decide (t < Try.pinned.checked.prog.types.size))) = true := by kernel_rfl
theorem jn_draughtsWays12 : ((Rows.draughtsWaysRow.ifacesOut == Try.f8.resultTypes.toList.any (Try.pinned.checked.prog.ifacesRec ·))) = true := by kernel_rfl
theorem jn_draughtsWays13 : ((Rows.draughtsWaysRow.loopsOut == Try.f8.resultTypes.toList.any (Try.pinned.checked.prog.loopsFrom ·))) = true := by kernel_rfl
theorem jn_draughtsWays14 : ((Rows.draughtsWaysRow.plainKeys == Try.pinned.checked.prog.plainKeys)) = true := by kernel_rfl
theorem jn_draughtsWays15 : (Rows.draughtsWaysRow.shortTexts.isNone) = true := by kernel_rfl
theorem jn_draughtsWays16 : (Try.pinned.checked.prog.stopsHeard) = true := by kernel_rfl
theorem jn_draughtsWays17 : (Try.pinned.checked.prog.mayEnter) = true := by kernel_rfl
theorem jn_draughtsWays18 : ((Rows.draughtsWaysRow.lifted == Try.pinned.checked.prog.liftsFinal)) = true := by kernel_rfl
theorem jn_draughtsWays19 : ((Try.pinned.checked.prog.make == some Rows.draughtsWaysRow.make)) = true := by kernel_rfl
theorem jn_draughtsWays20 : ((Rows.draughtsWaysRow.kinds == (if Rows.draughtsWaysRow.domain.isEmpty then [] else Try.f8.params.toList.map fun t => match Try.pinned.checked.prog.underlying t with | some (.int k) => some k | _ => none))) = true := by kernel_rfl
theorem jn_draughtsWays21 : ((Rows.draughtsWaysRow.pinned == Rows.draughtsWaysRow.pinnedBy)) = true := by kernel_rfl
theorem jn_draughtsWays22 : ((Rows.draughtsWaysRow.veiled == (Try.f8.params.toList ++ Rows.draughtsWaysSpec.plain.varTypes Try.pinned.checked.prog ++ Try.f8.resultTypes.toList).any (Try.pinned.checked.prog.veiledRec ·))) = true := by kernel_rfl
theorem jn_draughtsWays23 : (Rows.draughtsWaysRow.veiledFits Try.pinned.checked.prog Try.f8.params.toList (Try.f8.params.toList ++ Rows.draughtsWaysSpec.plain.varTypes Try.pinned.checked.prog ++ Try.f8.resultTypes.toList)) = true := by kernel_rfl
set_option maxRecDepth 100000 in
theorem joined_draughtsWays : joinedFacts Try.pinned.checked.prog 8 Try.f8 Rows.draughtsWaysSpec Rows.draughtsWaysRow = true := by
  unfold joinedFacts
  exact (and_t (and_t (and_t (and_t (and_t (and_t (and_t (and_t (and_t (and_t (and_t (and_t (and_t (and_t (and_t (and_t (and_t (and_t (and_t (and_t (and_t (and_t (and_t jn_draughtsWays0 jn_draughtsWays1) jn_draughtsWays2) jn_draughtsWays3) jn_draughtsWays4) jn_draughtsWays5) jn_draughtsWays6) jn_draughtsWays7) jn_draughtsWays8) jn_draughtsWays9) jn_draughtsWays10) jn_draughtsWays11) jn_draughtsWays12) jn_draughtsWays13) jn_draughtsWays14) jn_draughtsWays15) jn_draughtsWays16) jn_draughtsWays17) jn_draughtsWays18) jn_draughtsWays19) jn_draughtsWays20) jn_draughtsWays21) jn_draughtsWays22) jn_draughtsWays23)

theorem draughtsWays_holds : Rows.DraughtsWaysSaid :=
  OpenClaim.holds_of_wide 8 Try.f8 rfl rfl rfl rfl rfl rfl rfl ⟨rfl, rfl, rfl, rfl, rfl⟩ rfl rfl rfl rfl rfl (by kernel_rfl) Try.func8 joined_draughtsWays
    (of_decide_eq_true (by kernel_rfl)) (by unfold Func.isWrapper; first | (rw [if_pos (by decide +kernel)]; kernel_rfl) | (rw [if_neg (by decide +kernel)]; exact ⟨rfl, rfl⟩))
    (fun os started H enc _ => draughtsWays_lifted os started H enc)

end Go.Proofs.Ytoickcchcjehdaa
