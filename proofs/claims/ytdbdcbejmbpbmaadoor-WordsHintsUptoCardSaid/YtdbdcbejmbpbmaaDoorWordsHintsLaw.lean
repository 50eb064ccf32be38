/-
  For every input whose bulk is at most 1048576 the law WordsHints answers true, and leaves what came in as it was: the walk of its text and the plain law, joined; and its card.
  The tables of package utf8 are package-level variables: the row lists them, the card ties them to the program's text (the tie is given).
-/
import Derived.Test.YtdbdcbejmbpbmaaDoorCards
import Derived.Test.YtdbdcbejmbpbmaaDoorTie
import Derived.Test.YtdbdcbejmbpbmaaDoorDL
import Derived.Test.YtdbdcbejmbpbmaaDoorLibUb
import Derived.Test.YtdbdcbejmbpbmaaDoorWE
import Derived.Deep.DeepHandedRow
namespace Go.Proofs.YtdbdcbejmbpbmaaDoor
open Go Go.GL Go.RowKit Go.ChangeShapes Go.WideShapes Go.ChangeAt

theorem own_wordsHints : ownKnob Tryd.prog.godebug = none := by kernel_rfl
theorem laid_wordsHints : laidOutB Tryd.prog = true := by kernel_rfl

set_option maxRecDepth 100000 in
/-- What the walk gives, for every argument and every world that holds the tables. -/
theorem wordsHints_contract (H : Type) (enc : TypeId × Value → H) (W : World) (base : Nat) (args : Array Value) (ds gs : List (DataW H)) (before : List MemPlace)
    (hval : ∀ (j : Nat) t v, Tryd.f3.params[j]? = some t → args[j]? = some v → Value.okWide Tryd.prog W .any base t v)
    (hW : DataW.Whole enc Tryd.prog Tryd.f3.params.toList Rows.wordsHintsSpec.vars false W args.toList ds gs before) (hk : Rows.uptoSmall H (ds ++ gs) = true) (hL : laidMetH Tryd.prog Rows.wordsHintsUptoRow.laid W) :
    Calls Tryd.prog 3 args W fun e W' => ∃ v, e = .returned v ∧ Rows.wordsHintsSpec.post enc Tryd.prog Tryd.f3 false true false false W args v W' := by
  have hW' := hW
  obtain ⟨p, q, hA0, hV, rfl, _, _⟩ := hW
  have hA : DataW.TrodAll enc Tryd.prog W 0 (fun _ => true) true Tryd.f3.params.toList args.toList ds p := hA0
  have hlt : ∀ x ∈ p, x.block < W.heap.size := fun x hx => by simpa using hW'.lt x (by simp [hx])
  have hld : ds.length = Tryd.f3.params.size := by have := (trodAll_len hA).2; simpa using this
  have hkb := ub_bound hk
  rw [Tryd.params3] at hA hval
  obtain ⟨v0, vs0, d0, ds0, p0, q0, e0, rfl, rfl, h0, hA⟩ := trodAll_cons hA
  obtain ⟨v1, vs1, d1, ds1, p1, q1, e1, rfl, rfl, h1, hA⟩ := trodAll_cons hA
  obtain ⟨v2, vs2, d2, ds2, p2, q2, e2, rfl, rfl, h2, hA⟩ := trodAll_cons hA
  obtain ⟨v3, vs3, d3, ds3, p3, q3, e3, rfl, rfl, h3, hA⟩ := trodAll_cons hA
  obtain ⟨hv9, rfl, rfl⟩ := trodAll_nil hA
  obtain rfl : args = #[v0, v1, v2, v3] := by
    apply Array.ext'
    rw [e0, e1, e2, e3, hv9]
  have m0 := ub_mem (d := d0) (l := [d0, d1, d2, d3] ++ gs) (by simp)
  have m1 := ub_mem (d := d1) (l := [d0, d1, d2, d3] ++ gs) (by simp)
  have m2 := ub_mem (d := d2) (l := [d0, d1, d2, d3] ++ gs) (by simp)
  have m3 := ub_mem (d := d3) (l := [d0, d1, d2, d3] ++ gs) (by simp)
  obtain ⟨x0, rfl, b0⟩ := openB_text Tryd.underlying9 (hval 0 9 v0 rfl rfl) h0
  obtain ⟨x1, rfl, b1⟩ := openB_text Tryd.underlying9 (hval 1 9 v1 rfl rfl) h1
  obtain ⟨A2, c2, x2, rfl, hr2, hc2, b2, hi2⟩ := openB_rd Tryd.underlying22 Tryd.underlying3 (by kernel_rfl) (hval 2 22 v2 rfl rfl) h2 (fun y hy => hlt y (by simp [hy]))
  obtain ⟨A3, c3, x3, rfl, hr3, hc3, b3, hi3⟩ := openB_rd Tryd.underlying22 Tryd.underlying3 (by kernel_rfl) (hval 3 22 v3 rfl rfl) h3 (fun y hy => hlt y (by simp [hy]))
  have hm := true_WordsHints x0 x1 x2 x3 (by omega) (by omega) (by omega) (by omega)
  rw [MakeChecks.laidMetH_plain _ _ _ (by kernel_rfl)] at hL
  haveI : UTab 0 1 W W.heap.size := utab_of hL (by simp [Rows.wordsHintsUptoRow]) (by simp [Rows.wordsHintsUptoRow])
  refine (gameroomlaw_WordsHints_w hm (Sep.start W) (RdF.of hr2) hc2 rfl (RdF.of hr3) hc3 rfl).mono fun e W' ⟨he, hS⟩ => ?_
  subst he
  exact ⟨_, rfl, law_post laid_wordsHints (by decide +kernel) rfl Tryd.underlying4 rfl hW' (fun ds h => by match ds, h with | [_, _, _, _], _ => rfl) hld hS.below⟩

/-- A world for the witness: the settled one, the tables (blocks 0 and 1) holding what their initialisers lay. -/
noncomputable def tabCells : Array Value := (Go.Lib.firstTab.map fun z => Value.int .u8 z).toArray
noncomputable def accCells : Array Value := ((List.range 16).flatMap fun i => [Value.int .u8 (Go.Lib.accLo i), Value.int .u8 (Go.Lib.accHi i)]).toArray
noncomputable def wordsHintsWorld (os : Os) : World :=
  let lay := fun (cs : Array Value) (o : Obj) => match o with
    | .cells _ t frozen => Obj.cells cs t frozen
    | o => o
  { World.holding Tryd.prog os ⟨#[], #[], []⟩ with heap := ((World.holding Tryd.prog os ⟨#[], #[], []⟩).heap.modify 0 (lay tabCells)).modify 1 (lay accCells) }
theorem wordsHints_met (os : Os) : laidMet Tryd.prog Rows.wordsHintsUptoRow.laid ((wordsHintsWorld os).forCall (fun _ _ => 0) ⟨#[], #[.string ⟨#[]⟩, .string ⟨#[]⟩, .slice none 0 0, .slice none 0 0], []⟩).memory :=
  laidMet_of_run' 8 (by kernel_rfl) (by kernel_rfl)
theorem wordsHints_reads (os : Os) {H : Type} (enc : TypeId × Value → H) : ∃ places, DataW.whole enc Tryd.prog ((wordsHintsWorld os).forCall (fun _ _ => 0) ⟨#[], #[.string ⟨#[]⟩, .string ⟨#[]⟩, .slice none 0 0, .slice none 0 0], []⟩).memory Tryd.f3.params.toList Rows.wordsHintsSpec.vars false #[Value.string ⟨#[]⟩, .string ⟨#[]⟩, .slice none 0 0, .slice none 0 0].toList 8 = some ([.lit (.string []), .lit (.string []), .nil, .nil], [], places) :=
  ⟨[], by kernel_rfl⟩

set_option maxRecDepth 100000 in
theorem wordsHints_lifted (os : Os) (started : os.Started) (H : Type) (enc : TypeId × Value → H) (F : Stop.Interp) :
    ReturnsInHanded {} Tryd.checked os 3 .any ((Rows.OpenSpec.upto Rows.wordsHintsSpec).preRow enc Tryd.prog Tryd.f3 Rows.wordsHintsUptoRow.domain false Rows.wordsHintsUptoRow.laid) (((Rows.OpenSpec.upto Rows.wordsHintsSpec).at F).post enc Tryd.prog Tryd.f3 false true false false) := by
  obtain ⟨places, hx⟩ := wordsHints_reads os enc
  refine returnsInHanded_of_row (C := Tryd.checked) (s := Rows.OpenSpec.upto Rows.wordsHintsSpec) own_wordsHints started (by kernel_rfl) Tryd.func3
    (witness_row_at (enc := enc) (C := Tryd.checked) false (wordsHintsWorld os) #[.string ⟨#[]⟩, .string ⟨#[]⟩, .slice none 0 0, .slice none 0 0] rfl (by kernel_rfl) (by kernel_rfl) (by kernel_rfl)
      (OpenSpec.preRow_of_cond 8 hx (by kernel_rfl) (fun k hk => by cases hk; kernel_rfl) (by kernel_rfl) (wordsHints_met os))) ?_
  intro W base args ds gs before hval hW _ hcond _ hL _ _
  exact wordsHints_contract H enc W base args ds gs before hval hW (hcond _ rfl) hL

theorem wordsHints_said : Rows.WordsHintsUptoSaid :=
  OpenClaim.holds_of_cond 3 Tryd.f3 rfl rfl rfl rfl rfl rfl rfl ⟨rfl, rfl, rfl, rfl, rfl⟩ rfl rfl rfl rfl rfl (by kernel_rfl) Tryd.func3 (by kernel_rfl)
    (of_decide_eq_true (by kernel_rfl)) (by unfold Func.isWrapper; first | (rw [if_pos (by decide +kernel)]; kernel_rfl) | (rw [if_neg (by decide +kernel)]; exact ⟨rfl, rfl⟩))
    (fun os started H enc _ F => by rw [OpenClaim.pre_eq_preRow]; exact wordsHints_lifted os started H enc F)

/-- No parameter wants a stand-in; the program's own looks are off. -/
theorem wordsHints_plain (f : FuncId) (fn : Func) (hf : Tryd.pinned.checked.prog.funcNamed "gameroom/gameroomlaw.WordsHints" = some f) (hfn : Tryd.pinned.checked.prog.funcs[f]? = some fn) :
    true = Tryd.pinned.checked.prog.looks [] ∧ ∀ (j : Nat) t, fn.params[j]? = some t → Tryd.pinned.checked.prog.wantsStandIn t = false := by
  obtain rfl : f = 3 := Option.some.inj ((show Tryd.prog.funcNamed "gameroom/gameroomlaw.WordsHints" = some 3 by kernel_rfl).symm.trans hf) |>.symm
  obtain rfl : fn = Tryd.f3 := (Option.some.inj (Tryd.func3.symm.trans hfn)).symm
  refine ⟨by kernel_rfl, fun j t ht => ?_⟩
  rw [Tryd.params3] at ht
  have hm := Array.mem_of_getElem? ht
  have h2 : t = 9 ∨ t = 22 := by simpa using hm
  rcases h2 with rfl | rfl
  · exact (show Tryd.prog.wantsStandIn 9 = false by kernel_rfl)
  · exact (show Tryd.prog.wantsStandIn 22 = false by kernel_rfl)

/-- The card. -/
theorem wordsHints_holds : Rows.WordsHintsUptoCardSaid :=
  Claim7.holds_tied_plain_at .later [] _ _ _ _ wordsHints_said (fun _ h => by cases h) (by kernel_rfl) (fun _ h => by cases h) wordsHintsUpto_row_tie rfl ⟨rfl, rfl⟩ (by kernel_rfl) rfl wordsHints_plain (by kernel_rfl)

end Go.Proofs.YtdbdcbejmbpbmaaDoor
