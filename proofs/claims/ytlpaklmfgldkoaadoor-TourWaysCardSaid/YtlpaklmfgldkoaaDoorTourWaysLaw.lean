/-
  For every input the law TourWays answers true, and leaves what came in as it was: the walk of its text and the plain law, joined; and its card.
  The knight's leaps are a package-level variable: the row lists it, the card ties it to the program's text (the tie is given).
-/
import Derived.Test.YtlpaklmfgldkoaaDoorCards
import Derived.Test.YtlpaklmfgldkoaaDoorTie
import Derived.Test.YtlpaklmfgldkoaaDoorDLb
import Derived.Test.YtlpaklmfgldkoaaDoorWTg
import Derived.Deep.DeepHandedRow
namespace Go.Proofs.YtlpaklmfgldkoaaDoor
open Go Go.GL Go.RowKit Go.ChangeShapes Go.WideShapes Go.ChangeAt

theorem own_tourWays : ownKnob Tryd.prog.godebug = none := by kernel_rfl
theorem laid_tourWays : laidOutB Tryd.prog = true := by kernel_rfl

/-- What the walk gives, for every argument and every world that holds the leaps. -/
theorem tourWays_contract (H : Type) (enc : TypeId × Value → H) (W : World) (base : Nat) (args : Array Value) (ds gs : List (DataW H)) (before : List MemPlace)
    (hval : ∀ (j : Nat) t v, Tryd.f3.params[j]? = some t → args[j]? = some v → Value.okWide Tryd.prog W .any base t v)
    (hW : DataW.Whole enc Tryd.prog Tryd.f3.params.toList Rows.tourWaysSpec.vars false W args.toList ds gs before) (hsz0 : (DataW.weightsEach Tryd.prog (Tryd.f3.params.toList ++ Rows.tourWaysSpec.plain.varTypes Tryd.prog) (ds ++ gs)).all (· ≤ reachBytes) = true) (hL : laidMetH Tryd.prog Rows.tourWaysRow.laid W) :
    Calls Tryd.prog 3 args W fun e W' => ∃ v, e = .returned v ∧ Rows.tourWaysSpec.post enc Tryd.prog Tryd.f3 false true false false W args v W' := by
  have hsz : (DataW.weightsEach Tryd.prog (Tryd.f3.params.toList ++ Rows.tourWaysSpec.plain.varTypes Tryd.prog) (ds ++ gs)).all (· ≤ reachBytes) = true := hsz0
  have hW' := hW
  obtain ⟨p, q, hA0, hV, rfl, _, _⟩ := hW
  have hA : DataW.TrodAll enc Tryd.prog W 0 (fun _ => true) true Tryd.f3.params.toList args.toList ds p := hA0
  have hlt : ∀ x ∈ p, x.block < W.heap.size := fun x hx => by simpa using hW'.lt x (by simp [hx])
  have hld : ds.length = Tryd.f3.params.size := by have := (trodAll_len hA).2; simpa using this
  rw [Tryd.params3] at hA hval hsz
  obtain ⟨v0, vs0, d0, ds0, p0, q0, e0, rfl, rfl, h0, hA⟩ := trodAll_cons hA
  obtain ⟨v1, vs1, d1, ds1, p1, q1, e1, rfl, rfl, h1, hA⟩ := trodAll_cons hA
  obtain ⟨v2, vs2, d2, ds2, p2, q2, e2, rfl, rfl, h2, hA⟩ := trodAll_cons hA
  obtain ⟨v3, vs3, d3, ds3, p3, q3, e3, rfl, rfl, h3, hA⟩ := trodAll_cons hA
  obtain ⟨hv9, rfl, rfl⟩ := trodAll_nil hA
  obtain rfl : args = #[v0, v1, v2, v3] := by
    apply Array.ext'
    rw [e0, e1, e2, e3, hv9]
  obtain ⟨x0, rfl, _, _, wf0⟩ := open_int Tryd.underlying3 (hval 0 3 v0 rfl rfl) h0
  obtain ⟨x1, rfl, _, _, wf1⟩ := open_int Tryd.underlying3 (hval 1 3 v1 rfl rfl) h1
  obtain ⟨x2, rfl, _, _, wf2⟩ := open_int Tryd.underlying3 (hval 2 3 v2 rfl rfl) h2
  obtain ⟨A3, c3, x3, rfl, hr3, hc3, hl3, hi3⟩ := open_rd Tryd.underlying22 Tryd.underlying3 (by kernel_rfl) (by kernel_rfl) (hval 3 22 v3 rfl rfl) h3 (fun y hy => hlt y (by simp [hy])) (weights_at hsz 3 rfl rfl)
  have hm := true_TourWays x0 x1 x2 x3 (wf_inI wf0) (wf_inI wf1) (wf_inI wf2) (by omega)
  have hleaps := of_leaps hL
  have hsize : 0 < W.heap.size := by
    have := hleaps 0 (by decide)
    unfold World.cell? at this
    refine Nat.lt_of_not_le fun hle => ?_
    have e : W.heap[((⟨0, 0, none⟩ : Addr).add 0).block]? = none := Array.getElem?_eq_none (by simpa [Addr.add] using hle)
    rw [e] at this
    cases this
  haveI : GLV 0 glob0 W W.heap.size := GLV.of (fun j hj => hleaps j hj) hsize
  refine (gameroomlaw_TourWays_w hm (Sep.start W) (RdF.of hr3) hc3 rfl).mono fun e W' ⟨he, hS⟩ => ?_
  subst he
  exact ⟨_, rfl, law_post laid_tourWays (by decide +kernel) rfl Tryd.underlying4 rfl hW' (fun ds h => by match ds, h with | [_, _, _, _], _ => rfl) hld hS.below⟩

/-- A world for the witness: the settled one, the variable (block 0) holding what its initialiser lays. -/
noncomputable def waysWorld (os : Os) : World :=
  { World.holding Tryd.prog os ⟨#[], #[], []⟩ with heap := (World.holding Tryd.prog os ⟨#[], #[], []⟩).heap.modify 0 fun
      | .cells _ t frozen => .cells #[.int .i64 (-1), .int .i64 (-2), .int .i64 1, .int .i64 (-2), .int .i64 (-2), .int .i64 (-1), .int .i64 2, .int .i64 (-1), .int .i64 (-2), .int .i64 1, .int .i64 2, .int .i64 1, .int .i64 (-1), .int .i64 2, .int .i64 1, .int .i64 2] t frozen
      | o => o }
theorem ways_met (os : Os) : laidMet Tryd.prog Rows.tourWaysRow.laid ((waysWorld os).forCall (fun _ _ => 0) ⟨#[], #[.int .i64 0, .int .i64 0, .int .i64 0, .slice none 0 0], []⟩).memory :=
  laidMet_of_run' 8 (by kernel_rfl) (by kernel_rfl)
theorem ways_reads (os : Os) {H : Type} (enc : TypeId × Value → H) : ∃ places, DataW.whole enc Tryd.prog ((waysWorld os).forCall (fun _ _ => 0) ⟨#[], #[.int .i64 0, .int .i64 0, .int .i64 0, .slice none 0 0], []⟩).memory Tryd.f3.params.toList Rows.tourWaysSpec.vars false #[Value.int .i64 0, .int .i64 0, .int .i64 0, .slice none 0 0].toList 8 = some ([.lit (.int .i64 0), .lit (.int .i64 0), .lit (.int .i64 0), .nil], [], places) :=
  ⟨[], by kernel_rfl⟩

set_option maxRecDepth 100000 in
theorem tourWays_lifted (os : Os) (started : os.Started) (H : Type) (enc : TypeId × Value → H) (F : Stop.Interp) :
    ReturnsInHanded {} Tryd.checked os 3 .any ((OpenSpec.ofChange Rows.tourWaysSpec).preRow enc Tryd.prog Tryd.f3 Rows.tourWaysRow.domain false Rows.tourWaysRow.laid) (((OpenSpec.ofChange Rows.tourWaysSpec).at F).post enc Tryd.prog Tryd.f3 false true false false) := by
  obtain ⟨places, hx⟩ := ways_reads os enc
  refine returnsInHanded_of_row (C := Tryd.checked) (s := OpenSpec.ofChange Rows.tourWaysSpec) own_tourWays started (by kernel_rfl) Tryd.func3
    (witness_row_at (enc := enc) (C := Tryd.checked) false (waysWorld os) #[.int .i64 0, .int .i64 0, .int .i64 0, .slice none 0 0] rfl (by kernel_rfl) (by kernel_rfl) (by kernel_rfl)
      (OpenSpec.preRow_of_cond 8 hx (by kernel_rfl) (fun k hk => by cases hk) (by kernel_rfl) (ways_met os))) ?_
  intro W base args ds gs before hval hW _ _ hsz hL _ _
  exact tourWays_contract H enc W base args ds gs before hval hW hsz hL

theorem tourWays_said : Rows.TourWaysSaid :=
  OpenClaim.holds_of_cond 3 Tryd.f3 rfl rfl rfl rfl rfl rfl rfl ⟨rfl, rfl, rfl, rfl, rfl⟩ rfl rfl rfl rfl rfl (by kernel_rfl) Tryd.func3 (by kernel_rfl)
    (of_decide_eq_true (by kernel_rfl)) (by unfold Func.isWrapper; first | (rw [if_pos (by decide +kernel)]; kernel_rfl) | (rw [if_neg (by decide +kernel)]; exact ⟨rfl, rfl⟩))
    (fun os started H enc _ F => by rw [OpenClaim.pre_eq_preRow]; exact tourWays_lifted os started H enc F)

/-- No parameter wants a stand-in; the program's own looks are off. -/
theorem tourWays_plain (f : FuncId) (fn : Func) (hf : Tryd.pinned.checked.prog.funcNamed "gameroom/gameroomlaw.TourWays" = some f) (hfn : Tryd.pinned.checked.prog.funcs[f]? = some fn) :
    false = Tryd.pinned.checked.prog.looks [] ∧ ∀ (j : Nat) t, fn.params[j]? = some t → Tryd.pinned.checked.prog.wantsStandIn t = false := by
  obtain rfl : f = 3 := Option.some.inj ((show Tryd.prog.funcNamed "gameroom/gameroomlaw.TourWays" = some 3 by kernel_rfl).symm.trans hf) |>.symm
  obtain rfl : fn = Tryd.f3 := (Option.some.inj (Tryd.func3.symm.trans hfn)).symm
  refine ⟨by kernel_rfl, fun j t ht => ?_⟩
  rw [Tryd.params3] at ht
  have hm := Array.mem_of_getElem? ht
  have h2 : t = 3 ∨ t = 22 := by simpa using hm
  rcases h2 with rfl | rfl
  · exact (show Tryd.prog.wantsStandIn 3 = false by kernel_rfl)
  · exact (show Tryd.prog.wantsStandIn 22 = false by kernel_rfl)

/-- The card. -/
theorem tourWays_holds : Rows.TourWaysCardSaid :=
  Claim7.holds_tied_plain_at .later [] _ _ _ _ tourWays_said (fun _ h => by cases h) (by kernel_rfl) (fun _ h => by cases h) tourWays_row_tie rfl ⟨rfl, rfl⟩ (by kernel_rfl) rfl tourWays_plain (by kernel_rfl)

end Go.Proofs.YtlpaklmfgldkoaaDoor
