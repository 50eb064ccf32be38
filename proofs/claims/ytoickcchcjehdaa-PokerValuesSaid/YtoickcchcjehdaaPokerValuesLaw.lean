/-
  For every input the law PokerValues answers true, and leaves what came in as it was: the walk of its text and the plain law, joined.
  No condition.
-/
import Derived.Test.YtoickcchcjehdaaRows
import Derived.Test.YtoickcchcjehdaaLibU
import Derived.Test.YtoickcchcjehdaaNPV
import Derived.Test.YtoickcchcjehdaaVPh
namespace Go.Proofs.Ytoickcchcjehdaa
open Go Go.GL Go.RowKit Go.ChangeShapes Go.WideShapes Go.ChangeAt

theorem own_pokerValues : ownKnob Try.prog.godebug = none := by kernel_rfl
theorem laid_pokerValues : laidOutB Try.prog = true := by kernel_rfl

set_option maxRecDepth 100000 in
theorem pokerValues_lifted (os : Os) (started : os.Started) (H : Type) (enc : TypeId × Value → H) :
    ReturnsInHanded {} Try.checked os 6 .any (Rows.pokerValuesSpec.pre6 enc Try.prog Try.f6 Rows.pokerValuesRow.domain false) (Rows.pokerValuesSpec.post enc Try.prog Try.f6 false true false false) := by
  refine returnsInHanded_of_change_sized (C := Try.checked) own_pokerValues started (by kernel_rfl) Try.func6
    (ChangeSpec.witness6 (enc := enc) (C := Try.checked) false ⟨#[], #[.slice none 0 0, .int .i64 0], []⟩ 8 (by kernel_rfl) (by kernel_rfl) (by kernel_rfl) (by kernel_rfl)) ?_
  intro W base args ds gs before hval0 hW _ hsz0 _
  have hsz : (DataW.weightsEach Try.prog (Try.f6.params.toList ++ Rows.pokerValuesSpec.plain.varTypes Try.prog) (ds ++ gs)).all (· ≤ reachBytes) = true := hsz0
  have hval : ∀ (j : Nat) t v, Try.f6.params[j]? = some t → args[j]? = some v → Value.okWide Try.prog W .any base t v := hval0
  have hW' := hW
  obtain ⟨p, q, hA0, hV, rfl, _, _⟩ := hW
  have hA : DataW.TrodAll enc Try.prog W 0 (fun _ => true) true Try.f6.params.toList args.toList ds p := hA0
  have hlt : ∀ x ∈ p, x.block < W.heap.size := fun x hx => by simpa using hW'.lt x (by simp [hx])
  have hld : ds.length = Try.f6.params.size := by have := (trodAll_len hA).2; simpa using this
  rw [Try.params6] at hA hval hsz
  obtain ⟨v0, vs0, d0, ds0, p0, q0, e0, rfl, rfl, h0, hA⟩ := trodAll_cons hA
  obtain ⟨v1, vs1, d1, ds1, p1, q1, e1, rfl, rfl, h1, hA⟩ := trodAll_cons hA
  obtain ⟨hv9, rfl, rfl⟩ := trodAll_nil hA
  obtain rfl : args = #[v0, v1] := by
    apply Array.ext'
    rw [e0, e1, hv9]
  obtain ⟨A0, c0, x0, rfl, hr0, hc0, hl0, hi0⟩ := open_rd Try.underlying22 Try.underlying3 (by kernel_rfl) (by kernel_rfl) (hval 0 22 v0 rfl rfl) h0 (fun y hy => hlt y (by simp [hy])) (weights_at hsz 0 rfl rfl)
  obtain ⟨x1, rfl, _, _, wf1⟩ := open_int Try.underlying3 (hval 1 3 v1 rfl rfl) h1
  have hm := true_PokerValues x0 x1 hl0 hi0 (wf_inI wf1)
  refine (gameroomlaw_PokerValues_w hm (Sep.start W) (RdF.of hr0) hc0 rfl).mono fun e W' ⟨he, hS⟩ => ?_
  subst he
  exact ⟨_, rfl, law_post laid_pokerValues (by decide +kernel) rfl Try.underlying4 rfl hW' (fun ds h => by match ds, h with | [_, _], _ => rfl) hld hS.below⟩

theorem and_t {a b : Bool} (h : a = true) (k : b = true) : (a && b) = true := by rw [h, k]; rfl
theorem jn_pokerValues0 : (Rows.pokerValuesRow.wf (OpenSpec.ofChange Rows.pokerValuesSpec) && laidOutB Try.pinned.checked.prog && mapsRowed Try.pinned.checked.prog && Try.f6.params.all (Try.pinned.checked.prog.readableRec ·) && namedTie Try.pinned.checked.prog Rows.pokerValuesRow.named Rows.pokerValuesSpec.vars && (Rows.pokerValuesRow.stops == []) && (Try.pinned.checked.prog.stops == []) && (Rows.pokerValuesRow.knobs == []) && (Try.pinned.checked.prog.stopKnobs == [])) = true := by kernel_rfl
theorem jn_pokerValues1 : ((Rows.pokerValuesRow.inPlace == Try.pinned.checked.prog.inPlace 6)) = true := by kernel_rfl
theorem jn_pokerValues2 : ((Rows.pokerValuesRow.unfollowed == Try.pinned.checked.prog.unfollowed 6)) = true := by kernel_rfl
theorem jn_pokerValues3 : ((Rows.pokerValuesRow.recurses == Try.pinned.checked.prog.recurses 6)) = true := by kernel_rfl
theorem jn_pokerValues4 : ((Rows.pokerValuesRow.named == Try.pinned.checked.prog.varsNamed 6)) = true := by kernel_rfl
theorem jn_pokerValues5 : ((Rows.pokerValuesRow.maps == (Try.f6.params.toList ++ Rows.pokerValuesSpec.plain.varTypes Try.pinned.checked.prog).any (Try.pinned.checked.prog.mapsRec ·))) = true := by kernel_rfl
theorem jn_pokerValues6 : ((Rows.pokerValuesRow.ifaces == (Try.f6.params.toList ++ Rows.pokerValuesSpec.plain.varTypes Try.pinned.checked.prog).any (Try.pinned.checked.prog.ifacesRec ·))) = true := by kernel_rfl
theorem jn_pokerValues7 : ((Rows.pokerValuesRow.mapsOut == Try.pinned.checked.prog.mapsAmong Try.f6.resultTypes.toList)) = true := by kernel_rfl
theorem jn_pokerValues8 : ((Rows.pokerValuesRow.loops == (Try.f6.params.toList ++ Rows.pokerValuesSpec.plain.varTypes Try.pinned.checked.prog).any (Try.pinned.checked.prog.loopsFrom ·))) = true := by kernel_rfl
theorem jn_pokerValues9 : ((Rows.pokerValuesRow.wideKeys == (Try.f6.params.toList ++ Rows.pokerValuesSpec.plain.varTypes Try.pinned.checked.prog ++ Try.f6.resultTypes.toList).any (Try.pinned.checked.prog.wideKeysFrom ·))) = true := by kernel_rfl
theorem jn_pokerValues10 : (Rows.pokerValuesSpec.vars.all (Try.pinned.checked.prog.varReadable ·)) = true := by kernel_rfl
theorem jn_pokerValues11 : (Try.f6.resultTypes.all (fun t => Try.pinned.checked.prog.readableRec t && decide (t < Try.pinned.checked.prog.types.size))) = true := by kernel_rfl
theorem jn_pokerValues12 : ((Rows.pokerValuesRow.ifacesOut == Try.f6.resultTypes.toList.any (Try.pinned.checked.prog.ifacesRec ·))) = true := by kernel_rfl
theorem jn_pokerValues13 : ((Rows.pokerValuesRow.loopsOut == Try.f6.resultTypes.toList.any (Try.pinned.checked.prog.loopsFrom ·))) = true := by kernel_rfl
theorem jn_pokerValues14 : ((Rows.pokerValuesRow.plainKeys == Try.pinned.checked.prog.plainKeys)) = true := by kernel_rfl
theorem jn_pokerValues15 : (Rows.pokerValuesRow.shortTexts.isNone) = true := by kernel_rfl
theorem jn_pokerValues16 : (Try.pinned.checked.prog.stopsHeard) = true := by kernel_rfl
theorem jn_pokerValues17 : (Try.pinned.checked.prog.mayEnter) = true := by kernel_rfl
theorem jn_pokerValues18 : ((Rows.pokerValuesRow.lifted == Try.pinned.checked.prog.liftsFinal)) = true := by kernel_rfl
theorem jn_pokerValues19 : ((Try.pinned.checked.prog.make == some Rows.pokerValuesRow.make)) = true := by kernel_rfl
theorem jn_pokerValues20 : ((Rows.pokerValuesRow.kinds == (if Rows.pokerValuesRow.domain.isEmpty then [] else Try.f6.params.toList.map fun t => match Try.pinned.checked.prog.underlying t with | some (.int k) => some k | _ => none))) = true := by kernel_rfl
theorem jn_pokerValues21 : ((Rows.pokerValuesRow.pinned == Rows.pokerValuesRow.pinnedBy)) = true := by kernel_rfl
theorem jn_pokerValues22 : ((Rows.pokerValuesRow.veiled == (Try.f6.params.toList ++ Rows.pokerValuesSpec.plain.varTypes Try.pinned.checked.prog ++ Try.f6.resultTypes.toList).any (Try.pinned.checked.prog.veiledRec ·))) = true := by kernel_rfl
theorem jn_pokerValues23 : (Rows.pokerValuesRow.veiledFits Try.pinned.checked.prog Try.f6.params.toList (Try.f6.params.toList ++ Rows.pokerValuesSpec.plain.varTypes Try.pinned.checked.prog ++ Try.f6.resultTypes.toList)) = true := by kernel_rfl
set_option maxRecDepth 100000 in
theorem joined_pokerValues : joinedFacts Try.pinned.checked.prog 6 Try.f6 Rows.pokerValuesSpec Rows.pokerValuesRow = true := by
  unfold joinedFacts
  exact (and_t (and_t (and_t (and_t (and_t (and_t (and_t (and_t (and_t (and_t (and_t (and_t (and_t (and_t (and_t (and_t (and_t (and_t (and_t (and_t (and_t (and_t (and_t jn_pokerValues0 jn_pokerValues1) jn_pokerValues2) jn_pokerValues3) jn_pokerValues4) jn_pokerValues5) jn_pokerValues6) jn_pokerValues7) jn_pokerValues8) jn_pokerValues9) jn_pokerValues10) jn_pokerValues11) jn_pokerValues12) jn_pokerValues13) jn_pokerValues14) jn_pokerValues15) jn_pokerValues16) jn_pokerValues17) jn_pokerValues18) jn_pokerValues19) jn_pokerValues20) jn_pokerValues21) jn_pokerValues22) jn_pokerValues23)

theorem pokerValues_holds : Rows.PokerValuesSaid :=
  OpenClaim.holds_of_wide 6 Try.f6 rfl rfl rfl rfl rfl rfl rfl ⟨rfl, rfl, rfl, rfl, rfl⟩ rfl rfl rfl rfl rfl (by kernel_rfl) Try.func6 joined_pokerValues
    (of_decide_eq_true (by kernel_rfl)) (by unfold Func.isWrapper; first | (rw [if_pos (by decide +kernel)]; kernel_rfl) | (rw [if_neg (by decide +kernel)]; exact ⟨rfl, rfl⟩))
    (fun os started H enc _ => pokerValues_lifted os started H enc)

end Go.Proofs.Ytoickcchcjehdaa
