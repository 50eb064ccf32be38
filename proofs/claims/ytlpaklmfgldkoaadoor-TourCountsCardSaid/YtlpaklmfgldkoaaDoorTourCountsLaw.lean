/-
  For every input the law TourCounts answers true, and leaves what came in as it was: the walk of its text and the plain law, joined; and its card.
  The knight's leaps are a package-level variable: the row lists it, the card ties it to the program's text (the tie is given).
-/
import Derived.Test.YtlpaklmfgldkoaaDoorCards
import Derived.Test.YtlpaklmfgldkoaaDoorTie
import Derived.Test.YtlpaklmfgldkoaaDoorDLa
import Derived.Test.YtlpaklmfgldkoaaDoorTOe
import Derived.Deep.DeepHandedRow
namespace Go.Proofs.YtlpaklmfgldkoaaDoor
open Go Go.GL Go.RowKit Go.ChangeShapes Go.WideShapes Go.ChangeAt

theorem own_tourCounts : ownKnob Tryd.prog.godebug = none := by kernel_rfl
theorem laid_tourCounts : laidOutB Tryd.prog = true := by kernel_rfl

/-- What the walk gives, for every argument and every world that holds the leaps. -/
theorem tourCounts_contract (H : Type) (enc : TypeId × Value → H) (W : World) (base : Nat) (args : Array Value) (ds gs : List (DataW H)) (before : List MemPlace)
    (hval : ∀ (j : Nat) t v, Tryd.f4.params[j]? = some t → args[j]? = some v → Value.okWide Tryd.prog W .any base t v)
    (hW : DataW.Whole enc Tryd.prog Tryd.f4.params.toList Rows.tourCountsSpec.vars false W args.toList ds gs before) (hL : laidMetH Tryd.prog Rows.tourCountsRow.laid W) :
    Calls Tryd.prog 4 args W fun e W' => ∃ v, e = .returned v ∧ Rows.tourCountsSpec.post enc Tryd.prog Tryd.f4 false true false false W args v W' := by
  have hW' := hW
  obtain ⟨p, q, hA0, hV, rfl, _, _⟩ := hW
  have hA : DataW.TrodAll enc Tryd.prog W 0 (fun _ => true) true Tryd.f4.params.toList args.toList ds p := hA0
  have hld : ds.length = Tryd.f4.params.size := by have := (trodAll_len hA).2; simpa using this
  rw [Tryd.params4] at hA hval
  obtain ⟨v0, vs0, d0, ds0, p0, q0, e0, rfl, rfl, h0, hA⟩ := trodAll_cons hA
  obtain ⟨v1, vs1, d1, ds1, p1, q1, e1, rfl, rfl, h1, hA⟩ := trodAll_cons hA
  obtain ⟨v2, vs2, d2, ds2, p2, q2, e2, rfl, rfl, h2, hA⟩ := trodAll_cons hA
  obtain ⟨v3, vs3, d3, ds3, p3, q3, e3, rfl, rfl, h3, hA⟩ := trodAll_cons hA
  obtain ⟨v4, vs4, d4, ds4, p4, q4, e4, rfl, rfl, h4, hA⟩ := trodAll_cons hA
  obtain ⟨hv9, rfl, rfl⟩ := trodAll_nil hA
  obtain rfl : args = #[v0, v1, v2, v3, v4] := by
    apply Array.ext'
    rw [e0, e1, e2, e3, e4, hv9]
  obtain ⟨x0, rfl, _, _, wf0⟩ := open_int Tryd.underlying3 (hval 0 3 v0 rfl rfl) h0
  obtain ⟨x1, rfl, _, _, wf1⟩ := open_int Tryd.underlying3 (hval 1 3 v1 rfl rfl) h1
  obtain ⟨x2, rfl, _, _, wf2⟩ := open_int Tryd.underlying3 (hval 2 3 v2 rfl rfl) h2
  obtain ⟨x3, rfl, _, _, wf3⟩ := open_int Tryd.underlying3 (hval 3 3 v3 rfl rfl) h3
  obtain ⟨x4, rfl, _, _, wf4⟩ := open_int Tryd.underlying3 (hval 4 3 v4 rfl rfl) h4
  have hm := true_TourCounts x0 x1 x2 x3 x4 (wf_inI wf0) (wf_inI wf1) (wf_inI wf2) (wf_inI wf3) (wf_inI wf4)
  have hleaps := of_leaps hL
  have hsize : 0 < W.heap.size := by
    have := hleaps 0 (by decide)
    unfold World.cell? at this
    refine Nat.lt_of_not_le fun hle => ?_
    have e : W.heap[((⟨0, 0, none⟩ : Addr).add 0).block]? = none := Array.getElem?_eq_none (by simpa [Addr.add] using hle)
    rw [e] at this
    cases this
  haveI : GLV 0 glob0 W W.heap.size := GLV.of (fun j hj => hleaps j hj) hsize
  refine (gameroomlaw_TourCounts_w hm (Sep.start W)).mono fun e W' ⟨he, hS⟩ => ?_
  subst he
  exact ⟨_, rfl, law_post laid_tourCounts (by decide +kernel) rfl Tryd.underlying4 rfl hW' (fun ds h => by match ds, h with | [_, _, _, _, _], _ => rfl) hld hS.below⟩

/-- A world for the witness: the settled one, the variable (block 0) holding what its initialiser lays. -/
noncomputable def tourWorld (os : Os) : World :=
  { World.holding Tryd.prog os ⟨#[], #[], []⟩ with heap := (World.holding Tryd.prog os ⟨#[], #[], []⟩).heap.modify 0 fun
      | .cells _ t frozen => .cells #[.int .i64 (-1), .int .i64 (-2), .int .i64 1, .int .i64 (-2), .int .i64 (-2), .int .i64 (-1), .int .i64 2, .int .i64 (-1), .int .i64 (-2), .int .i64 1, .int .i64 2, .int .i64 1, .int .i64 (-1), .int .i64 2, .int .i64 1, .int .i64 2] t frozen
      | o => o }
theorem tour_met (os : Os) : laidMet Tryd.prog Rows.tourCountsRow.laid ((tourWorld os).forCall (fun _ _ => 0) ⟨#[], #[.int .i64 0, .int .i64 0, .int .i64 0, .int .i64 0, .int .i64 0], []⟩).memory :=
  laidMet_of_run' 8 (by kernel_rfl) (by kernel_rfl)
theorem tour_reads (os : Os) {H : Type} (enc : TypeId × Value → H) : ∃ places, DataW.whole enc Tryd.prog ((tourWorld os).forCall (fun _ _ => 0) ⟨#[], #[.int .i64 0, .int .i64 0, .int .i64 0, .int .i64 0, .int .i64 0], []⟩).memory Tryd.f4.params.toList Rows.tourCountsSpec.vars false #[Value.int .i64 0, .int .i64 0, .int .i64 0, .int .i64 0, .int .i64 0].toList 8 = some ([.lit (.int .i64 0), .lit (.int .i64 0), .lit (.int .i64 0), .lit (.int .i64 0), .lit (.int .i64 0)], [], places) :=
  ⟨[], by kernel_rfl⟩

set_option maxRecDepth 100000 in
theorem tourCounts_lifted (os : Os) (started : os.Started) (H : Type) (enc : TypeId × Value → H) (F : Stop.Interp) :
    ReturnsInHanded {} Tryd.checked os 4 .any ((OpenSpec.ofChange Rows.tourCountsSpec).preRow enc Tryd.prog Tryd.f4 Rows.tourCountsRow.domain false Rows.tourCountsRow.laid) (((OpenSpec.ofChange Rows.tourCountsSpec).at F).post enc Tryd.prog Tryd.f4 false true false false) := by
  obtain ⟨places, hx⟩ := tour_reads os enc
  refine returnsInHanded_of_row (C := Tryd.checked) (s := OpenSpec.ofChange Rows.tourCountsSpec) own_tourCounts started (by kernel_rfl) Tryd.func4
    (witness_row_at (enc := enc) (C := Tryd.checked) false (tourWorld os) #[.int .i64 0, .int .i64 0, .int .i64 0, .int .i64 0, .int .i64 0] rfl (by kernel_rfl) (by kernel_rfl) (by kernel_rfl)
      (OpenSpec.preRow_of_cond 8 hx (by kernel_rfl) (fun k hk => by cases hk) (by kernel_rfl) (tour_met os))) ?_
  intro W base args ds gs before hval hW _ _ _ hL _ _
  exact tourCounts_contract H enc W base args ds gs before hval hW hL

theorem tourCounts_said : Rows.TourCountsSaid :=
  OpenClaim.holds_of_cond 4 Tryd.f4 rfl rfl rfl rfl rfl rfl rfl ⟨rfl, rfl, rfl, rfl, rfl⟩ rfl rfl rfl rfl rfl (by kernel_rfl) Tryd.func4 (by kernel_rfl)
    (of_decide_eq_true (by kernel_rfl)) (by unfold Func.isWrapper; first | (rw [if_pos (by decide +kernel)]; kernel_rfl) | (rw [if_neg (by decide +kernel)]; exact ⟨rfl, rfl⟩))
    (fun os started H enc _ F => by rw [OpenClaim.pre_eq_preRow]; exact tourCounts_lifted os started H enc F)

/-- No parameter wants a stand-in; the program's own looks are off. -/
theorem tourCounts_plain (f : FuncId) (fn : Func) (hf : Tryd.pinned.checked.prog.funcNamed "gameroom/gameroomlaw.TourCounts" = some f) (hfn : Tryd.pinned.checked.prog.funcs[f]? = some fn) :
    false = Tryd.pinned.checked.prog.looks [] ∧ ∀ (j : Nat) t, fn.params[j]? = some t → Tryd.pinned.checked.prog.wantsStandIn t = false := by
  obtain rfl : f = 4 := Option.some.inj ((show Tryd.prog.funcNamed "gameroom/gameroomlaw.TourCounts" = some 4 by kernel_rfl).symm.trans hf) |>.symm
  obtain rfl : fn = Tryd.f4 := (Option.some.inj (Tryd.func4.symm.trans hfn)).symm
  refine ⟨by kernel_rfl, fun j t ht => ?_⟩
  rw [Tryd.params4] at ht
  obtain rfl : t = 3 := by simpa using Array.mem_of_getElem? ht
  exact (show Tryd.prog.wantsStandIn 3 = false by kernel_rfl)

/-- The card. -/
theorem tourCounts_holds : Rows.TourCountsCardSaid :=
  Claim7.holds_tied_plain_at .later [] _ _ _ _ tourCounts_said (fun _ h => by cases h) (by kernel_rfl) (fun _ h => by cases h) tourCounts_row_tie rfl ⟨rfl, rfl⟩ (by kernel_rfl) rfl tourCounts_plain (by kernel_rfl)

end Go.Proofs.YtlpaklmfgldkoaaDoor
