/-
  For every input whose bulk is at most 1048576 the law WordsFit answers true, and leaves what came in as it was: the walk of its text and the plain law, joined; and its card.
  The row lists package-level variables of Go's library; the card ties them to the program's text (the tie is given).
-/
import Derived.Test.YtdbdcbejmbpbmaaDoorCards
import Derived.Test.YtdbdcbejmbpbmaaDoorTie
import Derived.Test.YtdbdcbejmbpbmaaDoorDL
import Derived.Test.YtdbdcbejmbpbmaaDoorLibUb
import Derived.Test.YtdbdcbejmbpbmaaDoorFTc
import Derived.Deep.DeepWitnessRowRef
namespace Go.Proofs.YtdbdcbejmbpbmaaDoor
open Go Go.GL Go.RowKit Go.ChangeShapes Go.WideShapes Go.ChangeAt

theorem own_wordsFit : ownKnob Tryd.prog.godebug = none := by kernel_rfl
theorem laid_wordsFit : laidOutB Tryd.prog = true := by kernel_rfl

set_option maxRecDepth 100000 in
/-- What the walk gives, for every argument and every world that holds what the row lists. -/
theorem wordsFit_contract (H : Type) (enc : TypeId × Value → H) (W : World) (base : Nat) (args : Array Value) (ds gs : List (DataW H)) (before : List MemPlace)
    (hval : ∀ (j : Nat) t v, Tryd.f6.params[j]? = some t → args[j]? = some v → Value.okWide Tryd.prog W .any base t v)
    (hW : DataW.Whole enc Tryd.prog Tryd.f6.params.toList Rows.wordsFitSpec.vars false W args.toList ds gs before) (hk : Rows.uptoSmall H (ds ++ gs) = true) (hL : laidMetH Tryd.prog Rows.wordsFitUptoRow.laid W) (hsh : W.ShapedOpen Tryd.prog) :
    Calls Tryd.prog 6 args W fun e W' => ∃ v, e = .returned v ∧ Rows.wordsFitSpec.post enc Tryd.prog Tryd.f6 false true false false W args v W' := by
  have hW' := hW
  have _ := hsh
  obtain ⟨p, q, hA0, hV, rfl, _, _⟩ := hW
  have hA : DataW.TrodAll enc Tryd.prog W 0 (fun _ => true) true Tryd.f6.params.toList args.toList ds p := hA0
  have hlt : ∀ x ∈ p, x.block < W.heap.size := fun x hx => by simpa using hW'.lt x (by simp [hx])
  have hld : ds.length = Tryd.f6.params.size := by have := (trodAll_len hA).2; simpa using this
  have hkb := ub_bound hk
  rw [Tryd.params6] at hA hval
  obtain ⟨v0, vs0, d0, ds0, p0, q0, e0, rfl, rfl, h0, hA⟩ := trodAll_cons hA
  obtain ⟨v1, vs1, d1, ds1, p1, q1, e1, rfl, rfl, h1, hA⟩ := trodAll_cons hA
  obtain ⟨v2, vs2, d2, ds2, p2, q2, e2, rfl, rfl, h2, hA⟩ := trodAll_cons hA
  obtain ⟨hv9, rfl, rfl⟩ := trodAll_nil hA
  obtain rfl : args = #[v0, v1, v2] := by
    apply Array.ext'
    rw [e0, e1, e2, hv9]
  have m0 := ub_mem (d := d0) (l := [d0, d1, d2] ++ gs) (by simp)
  have m1 := ub_mem (d := d1) (l := [d0, d1, d2] ++ gs) (by simp)
  have m2 := ub_mem (d := d2) (l := [d0, d1, d2] ++ gs) (by simp)
  obtain ⟨A0, c0, x0, rfl, hr0, hc0, b0, hi0⟩ := openB_texts Tryd.underlying40 Tryd.underlying9 (by kernel_rfl) (hval 0 40 v0 rfl rfl) h0 (fun y hy => hlt y (by simp [hy]))
  obtain ⟨A1, c1, x1, rfl, hr1, hc1, b1, hi1⟩ := openB_texts Tryd.underlying40 Tryd.underlying9 (by kernel_rfl) (hval 1 40 v1 rfl rfl) h1 (fun y hy => hlt y (by simp [hy]))
  obtain ⟨A2, c2, x2, rfl, hr2, hc2, b2, hi2⟩ := openB_texts Tryd.underlying40 Tryd.underlying9 (by kernel_rfl) (hval 2 40 v2 rfl rfl) h2 (fun y hy => hlt y (by simp [hy]))
  have hm := true_WordsFit x0 x1 x2 (by omega) (fun y hy => Nat.le_trans (hi0 y hy) (by omega)) (by omega) (fun y hy => Nat.le_trans (hi1 y hy) (by omega)) (by omega) (fun y hy => Nat.le_trans (hi2 y hy) (by omega))
  rw [MakeChecks.laidMetH_plain _ _ _ (by kernel_rfl)] at hL
  haveI : UTab 0 1 W W.heap.size := utab_of hL (by simp [Rows.wordsFitUptoRow]) (by simp [Rows.wordsFitUptoRow])
  refine (gameroomlaw_WordsFit_w hm (Sep.start W) (RdF.of hr0) hc0 rfl (RdF.of hr1) hc1 rfl (RdF.of hr2) hc2 rfl).mono fun e W' ⟨he, hS⟩ => ?_
  subst he
  exact ⟨_, rfl, law_post laid_wordsFit (by decide +kernel) rfl Tryd.underlying4 rfl hW' (fun ds h => by match ds, h with | [_, _, _], _ => rfl) hld hS.below⟩

/-- A world for the witness: the settled one, the listed variables holding what their initialisers lay. -/
noncomputable def wordsFitWorld (os : Os) : World :=
  { (World.holding Tryd.prog os ⟨#[], #[], []⟩) with heap := (((World.holding Tryd.prog os ⟨#[], #[], []⟩).heap.modify 1 (layIn accCells)).modify 0 (layIn tabCells)) }
theorem wordsFit_met (os : Os) : laidMet Tryd.prog Rows.wordsFitUptoRow.laid ((wordsFitWorld os).forCall (fun _ _ => 0) ⟨#[], #[.slice none 0 0, .slice none 0 0, .slice none 0 0], []⟩).memory :=
  laidMet_of_run' 8 (by kernel_rfl) (by kernel_rfl)
theorem wordsFit_reads (os : Os) {H : Type} (enc : TypeId × Value → H) : ∃ places, DataW.whole enc Tryd.prog ((wordsFitWorld os).forCall (fun _ _ => 0) ⟨#[], #[.slice none 0 0, .slice none 0 0, .slice none 0 0], []⟩).memory Tryd.f6.params.toList Rows.wordsFitSpec.vars false (#[.slice none 0 0, .slice none 0 0, .slice none 0 0] : Array Value).toList 8 = some ([.nil, .nil, .nil], [], places) :=
  ⟨[], by kernel_rfl⟩

set_option maxRecDepth 100000 in
theorem wordsFit_lifted (os : Os) (started : os.Started) (H : Type) (enc : TypeId × Value → H) (F : Stop.Interp) :
    ReturnsInHanded {} Tryd.checked os 6 .any ((Rows.OpenSpec.upto Rows.wordsFitSpec).preRow enc Tryd.prog Tryd.f6 Rows.wordsFitUptoRow.domain false Rows.wordsFitUptoRow.laid) (((Rows.OpenSpec.upto Rows.wordsFitSpec).at F).post enc Tryd.prog Tryd.f6 false true false false) := by
  obtain ⟨places, hx⟩ := wordsFit_reads os enc
  refine returnsInHanded_of_row (C := Tryd.checked) (s := Rows.OpenSpec.upto Rows.wordsFitSpec) own_wordsFit started (by kernel_rfl) Tryd.func6
    (witness_row_at (enc := enc) (C := Tryd.checked) false (wordsFitWorld os) #[.slice none 0 0, .slice none 0 0, .slice none 0 0] rfl (by kernel_rfl) (by kernel_rfl) (by kernel_rfl)
      (OpenSpec.preRow_of_cond 8 hx (by kernel_rfl) (fun k hk => by cases hk; kernel_rfl) (by kernel_rfl) (wordsFit_met os))) ?_
  intro W base args ds gs before hval hW _ hcond _ hL hsh _
  exact wordsFit_contract H enc W base args ds gs before hval hW (hcond _ rfl) hL hsh

theorem wordsFit_said : Rows.WordsFitUptoSaid :=
  OpenClaim.holds_of_cond 6 Tryd.f6 rfl rfl rfl rfl rfl rfl rfl ⟨rfl, rfl, rfl, rfl, rfl⟩ rfl rfl rfl rfl rfl (by kernel_rfl) Tryd.func6 (by kernel_rfl)
    (of_decide_eq_true (by kernel_rfl)) (by unfold Func.isWrapper; first | (rw [if_pos (by decide +kernel)]; kernel_rfl) | (rw [if_neg (by decide +kernel)]; exact ⟨rfl, rfl⟩))
    (fun os started H enc _ F => by rw [OpenClaim.pre_eq_preRow]; exact wordsFit_lifted os started H enc F)

/-- No parameter wants a stand-in; the program's own looks. -/
theorem wordsFit_plain (f : FuncId) (fn : Func) (hf : Tryd.pinned.checked.prog.funcNamed "gameroom/gameroomlaw.WordsFit" = some f) (hfn : Tryd.pinned.checked.prog.funcs[f]? = some fn) :
    true = Tryd.pinned.checked.prog.looks [] ∧ ∀ (j : Nat) t, fn.params[j]? = some t → Tryd.pinned.checked.prog.wantsStandIn t = false := by
  obtain rfl : f = 6 := Option.some.inj ((show Tryd.prog.funcNamed "gameroom/gameroomlaw.WordsFit" = some 6 by kernel_rfl).symm.trans hf) |>.symm
  obtain rfl : fn = Tryd.f6 := (Option.some.inj (Tryd.func6.symm.trans hfn)).symm
  refine ⟨by kernel_rfl, fun j t ht => ?_⟩
  rw [Tryd.params6] at ht
  have hm := Array.mem_of_getElem? ht
  have h2 : t = 40 := by simpa using hm
  rcases h2 with rfl
  exact (show Tryd.prog.wantsStandIn 40 = false by kernel_rfl)

/-- The card. -/
theorem wordsFit_holds : Rows.WordsFitUptoCardSaid :=
  Claim7.holds_tied_plain_at .later [] _ _ _ _ wordsFit_said (fun _ h => by cases h) (by kernel_rfl) (fun _ h => by cases h) wordsFitUpto_row_tie rfl ⟨rfl, rfl⟩ (by kernel_rfl) rfl wordsFit_plain (by kernel_rfl)

end Go.Proofs.YtdbdcbejmbpbmaaDoor
