/-
  For every input the law MagicTells answers true, and leaves what came in as it was: the walk of its text and the plain law, joined.
  No condition.
-/
import Derived.Test.YtoickcchcjehdaaRows
import Derived.Test.YtoickcchcjehdaaLibU
import Derived.Test.YtoickcchcjehdaaVMg
namespace Go.Proofs.Ytoickcchcjehdaa
open Go Go.GL Go.RowKit Go.ChangeShapes Go.WideShapes Go.ChangeAt

theorem own_magicTells : ownKnob Try.prog.godebug = none := by kernel_rfl
theorem laid_magicTells : laidOutB Try.prog = true := by kernel_rfl

set_option maxRecDepth 100000 in
theorem magicTells_lifted (os : Os) (started : os.Started) (H : Type) (enc : TypeId × Value → H) :
    ReturnsInHanded {} Try.checked os 10 .any (Rows.magicTellsSpec.pre6 enc Try.prog Try.f10 Rows.magicTellsRow.domain false) (Rows.magicTellsSpec.post enc Try.prog Try.f10 false true false false) := by
  refine returnsInHanded_of_change_sized (C := Try.checked) own_magicTells started (by kernel_rfl) Try.func10
    (ChangeSpec.witness6 (enc := enc) (C := Try.checked) false ⟨#[], #[.slice none 0 0, .slice none 0 0], []⟩ 8 (by kernel_rfl) (by kernel_rfl) (by kernel_rfl) (by kernel_rfl)) ?_
  intro W base args ds gs before hval0 hW _ hsz0 _
  have hsz : (DataW.weightsEach Try.prog (Try.f10.params.toList ++ Rows.magicTellsSpec.plain.varTypes Try.prog) (ds ++ gs)).all (· ≤ reachBytes) = true := hsz0
  have hval : ∀ (j : Nat) t v, Try.f10.params[j]? = some t → args[j]? = some v → Value.okWide Try.prog W .any base t v := hval0
  have hW' := hW
  obtain ⟨p, q, hA0, hV, rfl, _, _⟩ := hW
  have hA : DataW.TrodAll enc Try.prog W 0 (fun _ => true) true Try.f10.params.toList args.toList ds p := hA0
  have hlt : ∀ x ∈ p, x.block < W.heap.size := fun x hx => by simpa using hW'.lt x (by simp [hx])
  have hld : ds.length = Try.f10.params.size := by have := (trodAll_len hA).2; simpa using this
  rw [Try.params10] at hA hval hsz
  obtain ⟨v0, vs0, d0, ds0, p0, q0, e0, rfl, rfl, h0, hA⟩ := trodAll_cons hA
  obtain ⟨v1, vs1, d1, ds1, p1, q1, e1, rfl, rfl, h1, hA⟩ := trodAll_cons hA
  obtain ⟨hv9, rfl, rfl⟩ := trodAll_nil hA
  obtain rfl : args = #[v0, v1] := by
    apply Array.ext'
    rw [e0, e1, hv9]
  obtain ⟨A0, c0, x0, rfl, hr0, hc0, hl0, hi0⟩ := open_rd Try.underlying22 Try.underlying3 (by kernel_rfl) (by kernel_rfl) (hval 0 22 v0 rfl rfl) h0 (fun y hy => hlt y (by simp [hy])) (weights_at hsz 0 rfl rfl)
  obtain ⟨A1, c1, x1, rfl, hr1, hc1, hl1, hi1⟩ := open_rd Try.underlying22 Try.underlying3 (by kernel_rfl) (by kernel_rfl) (hval 1 22 v1 rfl rfl) h1 (fun y hy => hlt y (by simp [hy])) (weights_at hsz 1 rfl rfl)
  have hm := true_MagicTells x0 x1 hl0 hi0 hl1 hi1
  refine (gameroomlaw_MagicTells_w hm (Sep.start W) (RdF.of hr0) hc0 rfl (RdF.of hr1) hc1 rfl).mono fun e W' ⟨he, hS⟩ => ?_
  subst he
  exact ⟨_, rfl, law_post laid_magicTells (by decide +kernel) rfl Try.underlying4 rfl hW' (fun ds h => by match ds, h with | [_, _], _ => rfl) hld hS.below⟩

theorem and_t {a b : Bool} (h : a = true) (k : b = true) : (a && b) = true := by rw [h, k]; rfl
theorem jn_magicTells0 : (Rows.magicTellsRow.wf (OpenSpec.ofChange Rows.magicTellsSpec) && laidOutB Try.pinned.checked.prog && mapsRowed Try.pinned.checked.prog && Try.f10.params.all (Try.pinned.checked.prog.readableRec ·) && namedTie Try.pinned.checked.prog Rows.magicTellsRow.named Rows.magicTellsSpec.vars && (Rows.magicTellsRow.stops == []) && (Try.pinned.checked.prog.stops == []) && (Rows.magicTellsRow.knobs == []) && (Try.pinned.checked.prog.stopKnobs == [])) = true := by kernel_rfl
theorem jn_magicTells1 : ((Rows.magicTellsRow.inPlace == Try.pinned.checked.prog.inPlace 10)) = true := by kernel_rfl
theorem jn_magicTells2 : ((Rows.magicTellsRow.unfollowed == Try.pinned.checked.prog.unfollowed 10)) = true := by kernel_rfl
theorem jn_magicTells3 : ((Rows.magicTellsRow.recurses == Try.pinned.checked.prog.recurses 10)) = true := by kernel_rfl
theorem jn_magicTells4 : ((Rows.magicTellsRow.named == Try.pinned.checked.prog.varsNamed 10)) = true := by kernel_rfl
theorem jn_magicTells5 : ((Rows.magicTellsRow.maps == (Try.f10.params.toList ++ Rows.magicTellsSpec.plain.varTypes Try.pinned.checked.prog).any (Try.pinned.checked.prog.mapsRec ·))) = true := by kernel_rfl
theorem jn_magicTells6 : ((Rows.magicTellsRow.ifaces == (Try.f10.params.toList ++ Rows.magicTellsSpec.plain.varTypes Try.pinned.checked.prog).any (Try.pinned.checked.prog.ifacesRec ·))) = true := by kernel_rfl
theorem jn_magicTells7 : ((Rows.magicTellsRow.mapsOut == Try.pinned.checked.prog.mapsAmong Try.f10.resultTypes.toList)) = true := by kernel_rfl
theorem jn_magicTells8 : ((Rows.magicTellsRow.loops == (Try.f10.params.toList ++ Rows.magicTellsSpec.plain.varTypes Try.pinned.checked.prog).any (Try.pinned.checked.prog.loopsFrom ·))) = true := by kernel_rfl
theorem jn_magicTells9 : ((Rows.magicTellsRow.wideKeys == (Try.f10.params.toList ++ Rows.magicTellsSpec.plain.varTypes Try.pinned.checked.prog ++ Try.f10.resultTypes.toList).any (Try.pinned.checked.prog.wideKeysFrom ·))) = true := by kernel_rfl
theorem jn_magicTells10 : (Rows.magicTellsSpec.vars.all (Try.pinned.checked.prog.varReadable ·)) = true := by kernel_rfl
theorem jn_magicTells11 : (Try.f10.resultTypes.all (fun t => Try.pinned.checked.prog.readableRec t && decide (t < Try.pinned.checked.prog.types.size))) = true := by kernel_rfl
theorem jn_magicTells12 : ((Rows.magicTellsRow.ifacesOut == Try.f10.resultTypes.toList.any (Try.pinned.checked.prog.ifacesRec ·))) = true := by kernel_rfl
theorem jn_magicTells13 : ((Rows.magicTellsRow.loopsOut == Try.f10.resultTypes.toList.any (Try.pinned.checked.prog.loopsFrom ·))) = true := by kernel_rfl
theorem jn_magicTells14 : ((Rows.magicTellsRow.plainKeys == Try.pinned.checked.prog.plainKeys)) = true := by kernel_rfl
theorem jn_magicTells15 : (Rows.magicTellsRow.shortTexts.isNone) = true := by kernel_rfl
theorem jn_magicTells16 : (Try.pinned.checked.prog.stopsHeard) = true := by kernel_rfl
theorem jn_magicTells17 : (Try.pinned.checked.prog.mayEnter) = true := by kernel_rfl
theorem jn_magicTells18 : ((Rows.magicTellsRow.lifted == Try.pinned.checked.prog.liftsFinal)) = true := by kernel_rfl
theorem jn_magicTells19 : ((Try.pinned.checked.prog.make == some Rows.magicTellsRow.make)) = true := by kernel_rfl
theorem jn_magicTells20 : ((Rows.magicTellsRow.kinds == (if Rows.magicTellsRow.domain.isEmpty then [] else Try.f10.params.toList.map fun t => match Try.pinned.checked.prog.underlying t with | some (.int k) => some k | _ => none))) = true := by kernel_rfl
theorem jn_magicTells21 : ((Rows.magicTellsRow.pinned == Rows.magicTellsRow.pinnedBy)) = true := by kernel_rfl
theorem jn_magicTells22 : ((Rows.magicTellsRow.veiled == (Try.f10.params.toList ++ Rows.magicTellsSpec.plain.varTypes Try.pinned.checked.prog ++ Try.f10.resultTypes.toList).any (Try.pinned.checked.prog.veiledRec ·))) = true := by kernel_rfl
theorem jn_magicTells23 : (Rows.magicTellsRow.veiledFits Try.pinned.checked.prog Try.f10.params.toList (Try.f10.params.toList ++ Rows.magicTellsSpec.plain.varTypes Try.pinned.checked.prog ++ Try.f10.resultTypes.toList)) = true := by kernel_rfl
set_option maxRecDepth 100000 in
theorem joined_magicTells : joinedFacts Try.pinned.checked.prog 10 Try.f10 Rows.magicTellsSpec Rows.magicTellsRow = true := by
  unfold joinedFacts
  exact (and_t (and_t (and_t (and_t (and_t (and_t (and_t (and_t (and_t (and_t (and_t (and_t (and_t (and_t (and_t (and_t (and_t (and_t (and_t (and_t (and_t (and_t (and_t jn_magicTells0 jn_magicTells1) jn_magicTells2) jn_magicTells3) jn_magicTells4) jn_magicTells5) jn_magicTells6) jn_magicTells7) jn_magicTells8) jn_magicTells9) jn_magicTells10) jn_magicTells11) jn_magicTells12) jn_magicTells13) jn_magicTells14) jn_magicTells15) jn_magicTells16) jn_magicTells17) jn_magicTells18) jn_magicTells19) jn_magicTells20) jn_magicTells21) jn_magicTells22) jn_magicTells23)

theorem magicTells_holds : Rows.MagicTellsSaid :=
  OpenClaim.holds_of_wide 10 Try.f10 rfl rfl rfl rfl rfl rfl rfl ⟨rfl, rfl, rfl, rfl, rfl⟩ rfl rfl rfl rfl rfl (by kernel_rfl) Try.func10 joined_magicTells
    (of_decide_eq_true (by kernel_rfl)) (by unfold Func.isWrapper; first | (rw [if_pos (by decide +kernel)]; kernel_rfl) | (rw [if_neg (by decide +kernel)]; exact ⟨rfl, rfl⟩))
    (fun os started H enc _ => magicTells_lifted os started H enc)

end Go.Proofs.Ytoickcchcjehdaa
