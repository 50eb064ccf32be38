/-
  For every input the law PokerShowdowns answers true, and leaves what came in as it was: the walk of its text and the plain law, joined.
  No condition.
-/
import Derived.Test.YtoickcchcjehdaaRows
import Derived.Test.YtoickcchcjehdaaLibU
import Derived.Test.YtoickcchcjehdaaNPS
import Derived.Test.YtoickcchcjehdaaVSd
namespace Go.Proofs.Ytoickcchcjehdaa
open Go Go.GL Go.RowKit Go.ChangeShapes Go.WideShapes Go.ChangeAt

theorem own_pokerShowdowns : ownKnob Try.prog.godebug = none := by kernel_rfl
theorem laid_pokerShowdowns : laidOutB Try.prog = true := by kernel_rfl

set_option maxRecDepth 100000 in
theorem pokerShowdowns_lifted (os : Os) (started : os.Started) (H : Type) (enc : TypeId × Value → H) :
    ReturnsInHanded {} Try.checked os 7 .any (Rows.pokerShowdownsSpec.pre6 enc Try.prog Try.f7 Rows.pokerShowdownsRow.domain false) (Rows.pokerShowdownsSpec.post enc Try.prog Try.f7 false true false false) := by
  refine returnsInHanded_of_change_sized (C := Try.checked) own_pokerShowdowns started (by kernel_rfl) Try.func7
    (ChangeSpec.witness6 (enc := enc) (C := Try.checked) false ⟨#[], #[.slice none 0 0, .slice none 0 0, .slice none 0 0], []⟩ 8 (by kernel_rfl) (by kernel_rfl) (by kernel_rfl) (by kernel_rfl)) ?_
  intro W base args ds gs before hval0 hW _ hsz0 _
  have hsz : (DataW.weightsEach Try.prog (Try.f7.params.toList ++ Rows.pokerShowdownsSpec.plain.varTypes Try.prog) (ds ++ gs)).all (· ≤ reachBytes) = true := hsz0
  have hval : ∀ (j : Nat) t v, Try.f7.params[j]? = some t → args[j]? = some v → Value.okWide Try.prog W .any base t v := hval0
  have hW' := hW
  obtain ⟨p, q, hA0, hV, rfl, _, _⟩ := hW
  have hA : DataW.TrodAll enc Try.prog W 0 (fun _ => true) true Try.f7.params.toList args.toList ds p := hA0
  have hlt : ∀ x ∈ p, x.block < W.heap.size := fun x hx => by simpa using hW'.lt x (by simp [hx])
  have hld : ds.length = Try.f7.params.size := by have := (trodAll_len hA).2; simpa using this
  rw [Try.params7] at hA hval hsz
  obtain ⟨v0, vs0, d0, ds0, p0, q0, e0, rfl, rfl, h0, hA⟩ := trodAll_cons hA
  obtain ⟨v1, vs1, d1, ds1, p1, q1, e1, rfl, rfl, h1, hA⟩ := trodAll_cons hA
  obtain ⟨v2, vs2, d2, ds2, p2, q2, e2, rfl, rfl, h2, hA⟩ := trodAll_cons hA
  obtain ⟨hv9, rfl, rfl⟩ := trodAll_nil hA
  obtain rfl : args = #[v0, v1, v2] := by
    apply Array.ext'
    rw [e0, e1, e2, hv9]
  obtain ⟨A0, c0, x0, rfl, hr0, hc0, hl0, hi0⟩ := open_rd Try.underlying22 Try.underlying3 (by kernel_rfl) (by kernel_rfl) (hval 0 22 v0 rfl rfl) h0 (fun y hy => hlt y (by simp [hy])) (weights_at hsz 0 rfl rfl)
  obtain ⟨A1, c1, x1, rfl, hr1, hc1, hl1, hi1⟩ := open_rd Try.underlying22 Try.underlying3 (by kernel_rfl) (by kernel_rfl) (hval 1 22 v1 rfl rfl) h1 (fun y hy => hlt y (by simp [hy])) (weights_at hsz 1 rfl rfl)
  obtain ⟨A2, c2, x2, rfl, hr2, hc2, hl2, hi2⟩ := open_rd Try.underlying22 Try.underlying3 (by kernel_rfl) (by kernel_rfl) (hval 2 22 v2 rfl rfl) h2 (fun y hy => hlt y (by simp [hy])) (weights_at hsz 2 rfl rfl)
  have hm := true_PokerShowdowns x0 x1 x2 hl0 hi0 hl1 hi1 hl2 hi2
  refine (gameroomlaw_PokerShowdowns_w hm (Sep.start W) (RdF.of hr0) hc0 rfl (RdF.of hr1) hc1 rfl (RdF.of hr2) hc2 rfl).mono fun e W' ⟨he, hS⟩ => ?_
  subst he
  exact ⟨_, rfl, law_post laid_pokerShowdowns (by decide +kernel) rfl Try.underlying4 rfl hW' (fun ds h => by match ds, h with | [_, _, _], _ => rfl) hld hS.below⟩

theorem and_t {a b : Bool} (h : a = true) (k : b = true) : (a && b) = true := by rw [h, k]; rfl
theorem jn_pokerShowdowns0 : (Rows.pokerShowdownsRow.wf (OpenSpec.ofChange Rows.pokerShowdownsSpec) && laidOutB Try.pinned.checked.prog && mapsRowed Try.pinned.checked.prog && Try.f7.params.all (Try.pinned.checked.prog.readableRec ·) && namedTie Try.pinned.checked.prog Rows.pokerShowdownsRow.named Rows.pokerShowdownsSpec.vars && (Rows.pokerShowdownsRow.stops == []) && (Try.pinned.checked.prog.stops == []) && (Rows.pokerShowdownsRow.knobs == []) && (Try.pinned.checked.prog.stopKnobs == [])) = true := by kernel_rfl
theorem jn_pokerShowdowns1 : ((Rows.pokerShowdownsRow.inPlace == Try.pinned.checked.prog.inPlace 7)) = true := by kernel_rfl
theorem jn_pokerShowdowns2 : ((Rows.pokerShowdownsRow.unfollowed == Try.pinned.checked.prog.unfollowed 7)) = true := by kernel_rfl
theorem jn_pokerShowdowns3 : ((Rows.pokerShowdownsRow.recurses == Try.pinned.checked.prog.recurses 7)) = true := by kernel_rfl
theorem jn_pokerShowdowns4 : ((Rows.pokerShowdownsRow.named == Try.pinned.checked.prog.varsNamed 7)) = true := by kernel_rfl
theorem jn_pokerShowdowns5 : ((Rows.pokerShowdownsRow.maps == (Try.f7.params.toList ++ Rows.pokerShowdownsSpec.plain.varTypes Try.pinned.checked.prog).any (Try.pinned.checked.prog.mapsRec ·))) = true := by kernel_rfl
theorem jn_pokerShowdowns6 : ((Rows.pokerShowdownsRow.ifaces == (Try.f7.params.toList ++ Rows.pokerShowdownsSpec.plain.varTypes Try.pinned.checked.prog).any (Try.pinned.checked.prog.ifacesRec ·))) = true := by kernel_rfl
theorem jn_pokerShowdowns7 : ((Rows.pokerShowdownsRow.mapsOut == Try.pinned.checked.prog.mapsAmong Try.f7.resultTypes.toList)) = true := by kernel_rfl
theorem jn_pokerShowdowns8 : ((Rows.pokerShowdownsRow.loops == (Try.f7.params.toList ++ Rows.pokerShowdownsSpec.plain.varTypes Try.pinned.checked.prog).any (Try.pinned.checked.prog.loopsFrom ·))) = true := by kernel_rfl
theorem jn_pokerShowdowns9 : ((Rows.pokerShowdownsRow.wideKeys == (Try.f7.params.toList ++ Rows.pokerShowdownsSpec.plain.varTypes Try.pinned.checked.prog ++ Try.f7.resultTypes.toList).any (Try.pinned.checked.prog.wideKeysFrom ·))) = true := by kernel_rfl
theorem jn_pokerShowdowns10 : (Rows.pokerShowdownsSpec.vars.all (Try.pinned.checked.prog.varReadable ·)) = true := by kernel_rfl
theorem jn_pokerShowdowns11 : (Try.f7.resultTypes.all (fun t => Try.pinned.checked.prog.readableRec t && decide (t < Try.pinned.checked.prog.types.size))) = true := by kernel_rfl
theorem jn_pokerShowdowns12 : ((Rows.pokerShowdownsRow.ifacesOut == Try.f7.resultTypes.toList.any (Try.pinned.checked.prog.ifacesRec ·))) = true := by kernel_rfl
theorem jn_pokerShowdowns13 : ((Rows.pokerShowdownsRow.loopsOut == Try.f7.resultTypes.toList.any (Try.pinned.checked.prog.loopsFrom ·))) = true := by kernel_rfl
theorem jn_pokerShowdowns14 : ((Rows.pokerShowdownsRow.plainKeys == Try.pinned.checked.prog.plainKeys)) = true := by kernel_rfl
theorem jn_pokerShowdowns15 : (Rows.pokerShowdownsRow.shortTexts.isNone) = true := by kernel_rfl
theorem jn_pokerShowdowns16 : (Try.pinned.checked.prog.stopsHeard) = true := by kernel_rfl
theorem jn_pokerShowdowns17 : (Try.pinned.checked.prog.mayEnter) = true := by kernel_rfl
theorem jn_pokerShowdowns18 : ((Rows.pokerShowdownsRow.lifted == Try.pinned.checked.prog.liftsFinal)) = true := by kernel_rfl
theorem jn_pokerShowdowns19 : ((Try.pinned.checked.prog.make == some Rows.pokerShowdownsRow.make)) = true := by kernel_rfl
theorem jn_pokerShowdowns20 : ((Rows.pokerShowdownsRow.kinds == (if Rows.pokerShowdownsRow.domain.isEmpty then [] else Try.f7.params.toList.map fun t => match Try.pinned.checked.prog.underlying t with | some (.int k) => some k | _ => none))) = true := by kernel_rfl
theorem jn_pokerShowdowns21 : ((Rows.pokerShowdownsRow.pinned == Rows.pokerShowdownsRow.pinnedBy)) = true := by kernel_rfl
theorem jn_pokerShowdowns22 : ((Rows.pokerShowdownsRow.veiled == (Try.f7.params.toList ++ Rows.pokerShowdownsSpec.plain.varTypes Try.pinned.checked.prog ++ Try.f7.resultTypes.toList).any (Try.pinned.checked.prog.veiledRec ·))) = true := by kernel_rfl
theorem jn_pokerShowdowns23 : (Rows.pokerShowdownsRow.veiledFits Try.pinned.checked.prog Try.f7.params.toList (Try.f7.params.toList ++ Rows.pokerShowdownsSpec.plain.varTypes Try.pinned.checked.prog ++ Try.f7.resultTypes.toList)) = true := by kernel_rfl
set_option maxRecDepth 100000 in
theorem joined_pokerShowdowns : joinedFacts Try.pinned.checked.prog 7 Try.f7 Rows.pokerShowdownsSpec Rows.pokerShowdownsRow = true := by
  unfold joinedFacts
  exact (and_t (and_t (and_t (and_t (and_t (and_t (and_t (and_t (and_t (and_t (and_t (and_t (and_t (and_t (and_t (and_t (and_t (and_t (and_t (and_t (and_t (and_t (and_t jn_pokerShowdowns0 jn_pokerShowdowns1) jn_pokerShowdowns2) jn_pokerShowdowns3) jn_pokerShowdowns4) jn_pokerShowdowns5) jn_pokerShowdowns6) jn_pokerShowdowns7) jn_pokerShowdowns8) jn_pokerShowdowns9) jn_pokerShowdowns10) jn_pokerShowdowns11) jn_pokerShowdowns12) jn_pokerShowdowns13) jn_pokerShowdowns14) jn_pokerShowdowns15) jn_pokerShowdowns16) jn_pokerShowdowns17) jn_pokerShowdowns18) jn_pokerShowdowns19) jn_pokerShowdowns20) jn_pokerShowdowns21) jn_pokerShowdowns22) jn_pokerShowdowns23)

theorem pokerShowdowns_holds : Rows.PokerShowdownsSaid :=
  OpenClaim.holds_of_wide 7 Try.f7 rfl rfl rfl rfl rfl rfl rfl ⟨rfl, rfl, rfl, rfl, rfl⟩ rfl rfl rfl rfl rfl (by kernel_rfl) Try.func7 joined_pokerShowdowns
    (of_decide_eq_true (by kernel_rfl)) (by unfold Func.isWrapper; first | (rw [if_pos (by decide +kernel)]; kernel_rfl) | (rw [if_neg (by decide +kernel)]; exact ⟨rfl, rfl⟩))
    (fun os started H enc _ => pokerShowdowns_lifted os started H enc)

end Go.Proofs.Ytoickcchcjehdaa
