/-
  For every input the law DraughtsDoes answers true, and leaves what came in as it was: the walk of its text and the plain law, joined.
  No condition.
-/
import Derived.Test.YtoickcchcjehdaaRows
import Derived.Test.YtoickcchcjehdaaLibU
import Derived.Test.YtoickcchcjehdaaLibO
import Derived.Test.YtoickcchcjehdaaVXc
namespace Go.Proofs.Ytoickcchcjehdaa
open Go Go.GL Go.RowKit Go.ChangeShapes Go.WideShapes Go.ChangeAt

theorem own_draughtsDoes : ownKnob Try.prog.godebug = none := by kernel_rfl
theorem laid_draughtsDoes : laidOutB Try.prog = true := by kernel_rfl

set_option maxRecDepth 100000 in
theorem draughtsDoes_lifted (os : Os) (started : os.Started) (H : Type) (enc : TypeId × Value → H) :
    ReturnsInHanded {} Try.checked os 9 .any (Rows.draughtsDoesSpec.pre6 enc Try.prog Try.f9 Rows.draughtsDoesRow.domain false) (Rows.draughtsDoesSpec.post enc Try.prog Try.f9 false true false false) := by
  refine returnsInHanded_of_change_sized (C := Try.checked) own_draughtsDoes started (by kernel_rfl) Try.func9
    (ChangeSpec.witness6 (enc := enc) (C := Try.checked) false ⟨#[], #[.agg #[.slice none 0 0, .int .i64 0], .slice none 0 0, .int .i64 0], []⟩ 8 (by kernel_rfl) (by kernel_rfl) (by kernel_rfl) (by kernel_rfl)) ?_
  intro W base args ds gs before hval0 hW _ hsz0 _
  have hsz : (DataW.weightsEach Try.prog (Try.f9.params.toList ++ Rows.draughtsDoesSpec.plain.varTypes Try.prog) (ds ++ gs)).all (· ≤ reachBytes) = true := hsz0
  have hval : ∀ (j : Nat) t v, Try.f9.params[j]? = some t → args[j]? = some v → Value.okWide Try.prog W .any base t v := hval0
  have hW' := hW
  obtain ⟨p, q, hA0, hV, rfl, _, _⟩ := hW
  have hA : DataW.TrodAll enc Try.prog W 0 (fun _ => true) true Try.f9.params.toList args.toList ds p := hA0
  have hlt : ∀ x ∈ p, x.block < W.heap.size := fun x hx => by simpa using hW'.lt x (by simp [hx])
  have hld : ds.length = Try.f9.params.size := by have := (trodAll_len hA).2; simpa using this
  rw [Try.params9] at hA hval hsz
  obtain ⟨v0, vs0, d0, ds0, p0, q0, e0, rfl, rfl, h0, hA⟩ := trodAll_cons hA
  obtain ⟨v1, vs1, d1, ds1, p1, q1, e1, rfl, rfl, h1, hA⟩ := trodAll_cons hA
  obtain ⟨v2, vs2, d2, ds2, p2, q2, e2, rfl, rfl, h2, hA⟩ := trodAll_cons hA
  obtain ⟨hv9, rfl, rfl⟩ := trodAll_nil hA
  obtain rfl : args = #[v0, v1, v2] := by
    apply Array.ext'
    rw [e0, e1, e2, hv9]
  obtain ⟨cs0, rfl, hcs0, hf0⟩ := open_fields Try.underlying66 (hval 0 66 v0 rfl rfl) h0 (fun y hy => hlt y (by simp [hy])) (weights_at hsz 0 rfl rfl)
  obtain ⟨c0_0, c0_1, rfl⟩ := arr2 (hcs0.trans (by kernel_rfl))
  obtain ⟨n0_0, y0_0, t0_0, l0_0, z0_0⟩ := hf0 0 _ rfl
  have t0_0 : DataW.trod enc Try.prog W 0 (fun _ => true) true n0_0 22 ((#[c0_0, c0_1].toList.drop 0).take (Program.cellsOf Try.prog 22)) = some y0_0 := t0_0
  rw [show Program.cellsOf Try.prog 22 = 1 by kernel_rfl] at t0_0
  have t0_0 : DataW.trod enc Try.prog W 0 (fun _ => true) true n0_0 22 [c0_0] = some y0_0 := t0_0
  obtain ⟨A0_0, d0_0, x0_0, ex0_0, hr0_0, hc0_0, hl0_0, hi0_0⟩ := cell_ints Try.underlying22 Try.underlying3 (by kernel_rfl) (by kernel_rfl) t0_0 l0_0 z0_0
  obtain ⟨n0_1, y0_1, t0_1, l0_1, z0_1⟩ := hf0 1 _ rfl
  have t0_1 : DataW.trod enc Try.prog W 0 (fun _ => true) true n0_1 3 ((#[c0_0, c0_1].toList.drop 1).take (Program.cellsOf Try.prog 3)) = some y0_1 := t0_1
  rw [show Program.cellsOf Try.prog 3 = 1 by kernel_rfl] at t0_1
  have t0_1 : DataW.trod enc Try.prog W 0 (fun _ => true) true n0_1 3 [c0_1] = some y0_1 := t0_1
  obtain ⟨x0_1, ex0_1, wf0_1⟩ := cell_int Try.underlying3 t0_1
  subst ex0_0 ex0_1
  obtain ⟨A1, c1, x1, rfl, hr1, hc1, hl1, hi1⟩ := open_rd Try.underlying22 Try.underlying3 (by kernel_rfl) (by kernel_rfl) (hval 1 22 v1 rfl rfl) h1 (fun y hy => hlt y (by simp [hy])) (weights_at hsz 1 rfl rfl)
  obtain ⟨x2, rfl, _, _, wf2⟩ := open_int Try.underlying3 (hval 2 3 v2 rfl rfl) h2
  have hm := true_DraughtsDoes x0_0 x0_1 x1 x2 hl0_0 hi0_0 wf0_1 hl1 hi1 (wf_inI wf2)
  refine (gameroomlaw_DraughtsDoes_w hm (Sep.start W) (RdF.of hr0_0) hc0_0 rfl (RdF.of hr1) hc1 rfl).mono fun e W' ⟨he, hS⟩ => ?_
  subst he
  exact ⟨_, rfl, law_post laid_draughtsDoes (by decide +kernel) rfl Try.underlying4 rfl hW' (fun ds h => by match ds, h with | [_, _, _], _ => rfl) hld hS.below⟩

theorem and_t {a b : Bool} (h : a = true) (k : b = true) : (a && b) = true := by rw [h, k]; rfl
theorem jn_draughtsDoes0 : (Rows.draughtsDoesRow.wf (OpenSpec.ofChange Rows.draughtsDoesSpec) && laidOutB Try.pinned.checked.prog && mapsRowed Try.pinned.checked.prog && Try.f9.params.all (Try.pinned.checked.prog.readableRec ·) && namedTie Try.pinned.checked.prog Rows.draughtsDoesRow.named Rows.draughtsDoesSpec.vars && (Rows.draughtsDoesRow.stops == []) && (Try.pinned.checked.prog.stops == []) && (Rows.draughtsDoesRow.knobs == []) && (Try.pinned.checked.prog.stopKnobs == [])) = true := by kernel_rfl
theorem jn_draughtsDoes1 : ((Rows.draughtsDoesRow.inPlace == Try.pinned.checked.prog.inPlace 9)) = true := by kernel_rfl
theorem jn_draughtsDoes2 : ((Rows.draughtsDoesRow.unfollowed == Try.pinned.checked.prog.unfollowed 9)) = true := by kernel_rfl
theorem jn_draughtsDoes3 : ((Rows.draughtsDoesRow.recurses == Try.pinned.checked.prog.recurses 9)) = true := by kernel_rfl
theorem jn_draughtsDoes4 : ((Rows.draughtsDoesRow.named == Try.pinned.checked.prog.varsNamed 9)) = true := by kernel_rfl
theorem jn_draughtsDoes5 : ((Rows.draughtsDoesRow.maps == (Try.f9.params.toList ++ Rows.draughtsDoesSpec.plain.varTypes Try.pinned.checked.prog).any (Try.pinned.checked.prog.mapsRec ·))) = true := by kernel_rfl
theorem jn_draughtsDoes6 : ((Rows.draughtsDoesRow.ifaces == (Try.f9.params.toList ++ Rows.draughtsDoesSpec.plain.varTypes Try.pinned.checked.prog).any (Try.pinned.checked.prog.ifacesRec ·))) = true := by kernel_rfl
theorem jn_draughtsDoes7 : ((Rows.draughtsDoesRow.mapsOut == Try.pinned.checked.prog.mapsAmong Try.f9.resultTypes.toList)) = true := by kernel_rfl
theorem jn_draughtsDoes8 : ((Rows.draughtsDoesRow.loops == (Try.f9.params.toList ++ Rows.draughtsDoesSpec.plain.varTypes Try.pinned.checked.prog).any (Try.pinned.checked.prog.loopsFrom ·))) = true := by kernel_rfl
theorem jn_draughtsDoes9 : ((Rows.draughtsDoesRow.wideKeys == (Try.f9.params.toList ++ Rows.draughtsDoesSpec.plain.varTypes Try.pinned.checked.prog ++ Try.f9.resultTypes.toList).any (Try.pinned.checked.prog.wideKeysFrom ·))) = true := by kernel_rfl
theorem jn_draughtsDoes10 : (Rows.draughtsDoesSpec.vars.all (Try.pinned.checked.prog.varReadable ·)) = true := by kernel_rfl
theorem jn_draughtsDoes11 : (Try.f9.resultTypes.all (fun t => Try.pinned.checked.prog.readableRec t && decide (t < Try.pinned.checked.prog.types.size))) = true := by kernel_rfl
theorem jn_draughtsDoes12 : ((Rows.draughtsDoesRow.ifacesOut == Try.f9.resultTypes.toList.any (Try.pinned.checked.prog.ifacesRec ·))) = true := by kernel_rfl
theorem jn_draughtsDoes13 : ((Rows.draughtsDoesRow.loopsOut == Try.f9.resultTypes.toList.any (Try.pinned.checked.prog.loopsFrom ·))) = true := by kernel_rfl
theorem jn_draughtsDoes14 : ((Rows.draughtsDoesRow.plainKeys == Try.pinned.checked.prog.plainKeys)) = true := by kernel_rfl
theorem jn_draughtsDoes15 : (Rows.draughtsDoesRow.shortTexts.isNone) = true := by kernel_rfl
theorem jn_draughtsDoes16 : (Try.pinned.checked.prog.stopsHeard) = true := by kernel_rfl
theorem jn_draughtsDoes17 : (Try.pinned.checked.prog.mayEnter) = true := by kernel_rfl
theorem jn_draughtsDoes18 : ((Rows.draughtsDoesRow.lifted == Try.pinned.checked.prog.liftsFinal)) = true := by kernel_rfl
theorem jn_draughtsDoes19 : ((Try.pinned.checked.prog.make == some Rows.draughtsDoesRow.make)) = true := by kernel_rfl
theorem jn_draughtsDoes20 : ((Rows.draughtsDoesRow.kinds == (if Rows.draughtsDoesRow.domain.isEmpty then [] else Try.f9.params.toList.map fun t => match Try.pinned.checked.prog.underlying t with | some (.int k) => some k | _ => none))) = true := by kernel_rfl
theorem jn_draughtsDoes21 : ((Rows.draughtsDoesRow.pinned == Rows.draughtsDoesRow.pinnedBy)) = true := by kernel_rfl
theorem jn_draughtsDoes22 : ((Rows.draughtsDoesRow.veiled == (Try.f9.params.toList ++ Rows.draughtsDoesSpec.plain.varTypes Try.pinned.checked.prog ++ Try.f9.resultTypes.toList).any (Try.pinned.checked.prog.veiledRec ·))) = true := by kernel_rfl
theorem jn_draughtsDoes23 : (Rows.draughtsDoesRow.veiledFits Try.pinned.checked.prog Try.f9.params.toList (Try.f9.params.toList ++ Rows.draughtsDoesSpec.plain.varTypes Try.pinned.checked.prog ++ Try.f9.resultTypes.toList)) = true := by kernel_rfl
set_option maxRecDepth 100000 in
theorem joined_draughtsDoes : joinedFacts Try.pinned.checked.prog 9 Try.f9 Rows.draughtsDoesSpec Rows.draughtsDoesRow = true := by
  unfold joinedFacts
  exact (and_t (and_t (and_t (and_t (and_t (and_t (and_t (and_t (and_t (and_t (and_t (and_t (and_t (and_t (and_t (and_t (and_t (and_t (and_t (and_t (and_t (and_t (and_t jn_draughtsDoes0 jn_draughtsDoes1) jn_draughtsDoes2) jn_draughtsDoes3) jn_draughtsDoes4) jn_draughtsDoes5) jn_draughtsDoes6) jn_draughtsDoes7) jn_draughtsDoes8) jn_draughtsDoes9) jn_draughtsDoes10) jn_draughtsDoes11) jn_draughtsDoes12) jn_draughtsDoes13) jn_draughtsDoes14) jn_draughtsDoes15) jn_draughtsDoes16) jn_draughtsDoes17) jn_draughtsDoes18) jn_draughtsDoes19) jn_draughtsDoes20) jn_draughtsDoes21) jn_draughtsDoes22) jn_draughtsDoes23)

theorem draughtsDoes_holds : Rows.DraughtsDoesSaid :=
  OpenClaim.holds_of_wide 9 Try.f9 rfl rfl rfl rfl rfl rfl rfl ⟨rfl, rfl, rfl, rfl, rfl⟩ rfl rfl rfl rfl rfl (by kernel_rfl) Try.func9 joined_draughtsDoes
    (of_decide_eq_true (by kernel_rfl)) (by unfold Func.isWrapper; first | (rw [if_pos (by decide +kernel)]; kernel_rfl) | (rw [if_neg (by decide +kernel)]; exact ⟨rfl, rfl⟩))
    (fun os started H enc _ => draughtsDoes_lifted os started H enc)

end Go.Proofs.Ytoickcchcjehdaa
