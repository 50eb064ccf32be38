/-
  For every input whose bulk is at most 1048576 the law DraughtsTexts answers true, and leaves what came in as it was: the walk of its text and the plain law, joined; and its card.
  The row lists package-level variables of Go's library; the card ties them to the program's text (the tie is given).
-/
import Derived.Test.YtdbdcbejmbpbmaaDoorCards
import Derived.Test.YtdbdcbejmbpbmaaDoorTie
import Derived.Test.YtdbdcbejmbpbmaaDoorDL
import Derived.Test.YtdbdcbejmbpbmaaDoorLibUb
import Derived.Test.YtdbdcbejmbpbmaaDoorDTd
import Derived.Deep.DeepWitnessRowRef
namespace Go.Proofs.YtdbdcbejmbpbmaaDoor
open Go Go.GL Go.RowKit Go.ChangeShapes Go.WideShapes Go.ChangeAt

theorem own_draughtsTexts : ownKnob Tryd.prog.godebug = none := by kernel_rfl
theorem laid_draughtsTexts : laidOutB Tryd.prog = true := by kernel_rfl

set_option maxRecDepth 100000 in
/-- What the walk gives, for every argument and every world that holds what the row lists. -/
theorem draughtsTexts_contract (H : Type) (enc : TypeId × Value → H) (W : World) (base : Nat) (args : Array Value) (ds gs : List (DataW H)) (before : List MemPlace)
    (hval : ∀ (j : Nat) t v, Tryd.f8.params[j]? = some t → args[j]? = some v → Value.okWide Tryd.prog W .any base t v)
    (hW : DataW.Whole enc Tryd.prog Tryd.f8.params.toList Rows.draughtsTextsSpec.vars false W args.toList ds gs before) (hk : Rows.uptoSmall H (ds ++ gs) = true) (hL : laidMetH Tryd.prog Rows.draughtsTextsUptoRow.laid W) (hsh : W.ShapedOpen Tryd.prog) :
    Calls Tryd.prog 8 args W fun e W' => ∃ v, e = .returned v ∧ Rows.draughtsTextsSpec.post enc Tryd.prog Tryd.f8 false true false false W args v W' := by
  have hW' := hW
  have _ := hsh
  obtain ⟨p, q, hA0, hV, rfl, _, _⟩ := hW
  have hA : DataW.TrodAll enc Tryd.prog W 0 (fun _ => true) true Tryd.f8.params.toList args.toList ds p := hA0
  have hlt : ∀ x ∈ p, x.block < W.heap.size := fun x hx => by simpa using hW'.lt x (by simp [hx])
  have hld : ds.length = Tryd.f8.params.size := by have := (trodAll_len hA).2; simpa using this
  have hkb := ub_bound hk
  rw [Tryd.params8] at hA hval
  obtain ⟨v0, vs0, d0, ds0, p0, q0, e0, rfl, rfl, h0, hA⟩ := trodAll_cons hA
  obtain ⟨v1, vs1, d1, ds1, p1, q1, e1, rfl, rfl, h1, hA⟩ := trodAll_cons hA
  obtain ⟨v2, vs2, d2, ds2, p2, q2, e2, rfl, rfl, h2, hA⟩ := trodAll_cons hA
  obtain ⟨hv9, rfl, rfl⟩ := trodAll_nil hA
  obtain rfl : args = #[v0, v1, v2] := by
    apply Array.ext'
    rw [e0, e1, e2, hv9]
  have m0 := ub_mem (d := d0) (l := [d0, d1, d2] ++ gs) (by simp)
  have m2 := ub_mem (d := d2) (l := [d0, d1, d2] ++ gs) (by simp)
  obtain ⟨A0, c0, x0, rfl, hr0, hc0, b0, hi0⟩ := openB_rd Tryd.underlying22 Tryd.underlying3 (by kernel_rfl) (hval 0 22 v0 rfl rfl) h0 (fun y hy => hlt y (by simp [hy]))
  obtain ⟨x1, rfl, _, _⟩ := open_bool Tryd.underlying4 (hval 1 4 v1 rfl rfl) h1
  obtain ⟨x2, rfl, b2⟩ := openB_text Tryd.underlying9 (hval 2 9 v2 rfl rfl) h2
  have hm := true_DraughtsTexts x0 x1 x2 (by omega) (by omega)
  rw [MakeChecks.laidMetH_plain _ _ _ (by kernel_rfl)] at hL
  haveI : ErrG 2 W W.heap.size := err_of hL (n := "strconv.ErrSyntax") (dd := Rows.laid_strconv_ErrSyntax) (by simp [Rows.draughtsTextsUptoRow]) rfl (by kernel_rfl) (ti := 88) (by kernel_rfl) Tryd.underlying88
  haveI : ErrG 3 W W.heap.size := err_of hL (n := "strconv.ErrRange") (dd := Rows.laid_strconv_ErrRange) (by simp [Rows.draughtsTextsUptoRow]) rfl (by kernel_rfl) (ti := 88) (by kernel_rfl) Tryd.underlying88
  haveI : IntG 4 W W.heap.size := len_of hsh
  haveI : PowG Tryd.prog W W.heap.size := pow_of hL (by simp [Rows.draughtsTextsUptoRow])
  refine (gameroomlaw_DraughtsTexts_w hm (Sep.start W) (RdF.of hr0) hc0 rfl).mono fun e W' ⟨he, hS⟩ => ?_
  subst he
  exact ⟨_, rfl, law_post laid_draughtsTexts (by decide +kernel) rfl Tryd.underlying4 rfl hW' (fun ds h => by match ds, h with | [_, _, _], _ => rfl) hld hS.below⟩

/-- A world for the witness: the settled one, the listed variables holding what their initialisers lay. -/
noncomputable def draughtsTextsWorld (os : Os) : World :=
  { (World.holding Tryd.prog os ⟨#[.cells #[.string { data := #[118, 97, 108, 117, 101, 32, 111, 117, 116, 32, 111, 102, 32, 114, 97, 110, 103, 101] }] 226, .cells #[.string { data := #[105, 110, 118, 97, 108, 105, 100, 32, 115, 121, 110, 116, 97, 120] }] 226], #[], []⟩) with heap := ((((((((World.holding Tryd.prog os ⟨#[.cells #[.string { data := #[118, 97, 108, 117, 101, 32, 111, 117, 116, 32, 111, 102, 32, 114, 97, 110, 103, 101] }] 226, .cells #[.string { data := #[105, 110, 118, 97, 108, 105, 100, 32, 115, 121, 110, 116, 97, 120] }] 226], #[], []⟩).heap.modify 6 (layIn cells_math_bits_deBruijn32tab)).modify 7 (layIn cells_math_bits_deBruijn64tab)).modify 5 (layIn cells_internal_strconv_uint64pow10)).modify 1 (layIn accCells)).modify 3 (layIn #[.iface 224 (.pointer (some ⟨low, 0, none⟩))])).modify 2 (layIn #[.iface 224 (.pointer (some ⟨low + 1, 0, none⟩))])).modify 0 (layIn tabCells)) }
theorem draughtsTexts_met (os : Os) : laidMet Tryd.prog Rows.draughtsTextsUptoRow.laid ((draughtsTextsWorld os).forCall (fun _ _ => 0) ⟨#[], #[.slice none 0 0, .bool false, .string ⟨#[]⟩], []⟩).memory :=
  laidMet_of_run' 8 (by kernel_rfl) (by kernel_rfl)
theorem draughtsTexts_reads (os : Os) {H : Type} (enc : TypeId × Value → H) : ∃ places, DataW.whole enc Tryd.prog ((draughtsTextsWorld os).forCall (fun _ _ => 0) ⟨#[], #[.slice none 0 0, .bool false, .string ⟨#[]⟩], []⟩).memory Tryd.f8.params.toList Rows.draughtsTextsSpec.vars false (#[.slice none 0 0, .bool false, .string ⟨#[]⟩] : Array Value).toList 8 = some ([.nil, .lit (.bool false), .lit (.string [])], [], places) :=
  ⟨[], by kernel_rfl⟩

set_option maxRecDepth 100000 in
theorem draughtsTexts_lifted (os : Os) (started : os.Started) (H : Type) (enc : TypeId × Value → H) (F : Stop.Interp) :
    ReturnsInHanded {} Tryd.checked os 8 .any ((Rows.OpenSpec.upto Rows.draughtsTextsSpec).preRow enc Tryd.prog Tryd.f8 Rows.draughtsTextsUptoRow.domain false Rows.draughtsTextsUptoRow.laid) (((Rows.OpenSpec.upto Rows.draughtsTextsSpec).at F).post enc Tryd.prog Tryd.f8 false true false false) := by
  obtain ⟨places, hx⟩ := draughtsTexts_reads os enc
  refine returnsInHanded_of_row (C := Tryd.checked) (s := Rows.OpenSpec.upto Rows.draughtsTextsSpec) own_draughtsTexts started (by kernel_rfl) Tryd.func8
    (witness_row_atRef (enc := enc) (C := Tryd.checked) false (draughtsTextsWorld os) #[.slice none 0 0, .bool false, .string ⟨#[]⟩] rfl (by kernel_rfl) (by kernel_rfl) (by kernel_rfl)
      (OpenSpec.preRow_of_cond 8 hx (by kernel_rfl) (fun k hk => by cases hk; kernel_rfl) (by kernel_rfl) (draughtsTexts_met os))) ?_
  intro W base args ds gs before hval hW _ hcond _ hL hsh _
  exact draughtsTexts_contract H enc W base args ds gs before hval hW (hcond _ rfl) hL hsh

theorem draughtsTexts_said : Rows.DraughtsTextsUptoSaid :=
  OpenClaim.holds_of_cond 8 Tryd.f8 rfl rfl rfl rfl rfl rfl rfl ⟨rfl, rfl, rfl, rfl, rfl⟩ rfl rfl rfl rfl rfl (by kernel_rfl) Tryd.func8 (by kernel_rfl)
    (of_decide_eq_true (by kernel_rfl)) (by unfold Func.isWrapper; first | (rw [if_pos (by decide +kernel)]; kernel_rfl) | (rw [if_neg (by decide +kernel)]; exact ⟨rfl, rfl⟩))
    (fun os started H enc _ F => by rw [OpenClaim.pre_eq_preRow]; exact draughtsTexts_lifted os started H enc F)

/-- No parameter wants a stand-in; the program's own looks. -/
theorem draughtsTexts_plain (f : FuncId) (fn : Func) (hf : Tryd.pinned.checked.prog.funcNamed "gameroom/gameroomlaw.DraughtsTexts" = some f) (hfn : Tryd.pinned.checked.prog.funcs[f]? = some fn) :
    true = Tryd.pinned.checked.prog.looks [] ∧ ∀ (j : Nat) t, fn.params[j]? = some t → Tryd.pinned.checked.prog.wantsStandIn t = false := by
  obtain rfl : f = 8 := Option.some.inj ((show Tryd.prog.funcNamed "gameroom/gameroomlaw.DraughtsTexts" = some 8 by kernel_rfl).symm.trans hf) |>.symm
  obtain rfl : fn = Tryd.f8 := (Option.some.inj (Tryd.func8.symm.trans hfn)).symm
  refine ⟨by kernel_rfl, fun j t ht => ?_⟩
  rw [Tryd.params8] at ht
  have hm := Array.mem_of_getElem? ht
  have h2 : t = 22 ∨ t = 4 ∨ t = 9 := by simpa using hm
  rcases h2 with rfl | rfl | rfl
  · exact (show Tryd.prog.wantsStandIn 22 = false by kernel_rfl)
  · exact (show Tryd.prog.wantsStandIn 4 = false by kernel_rfl)
  · exact (show Tryd.prog.wantsStandIn 9 = false by kernel_rfl)

/-- The card. -/
theorem draughtsTexts_holds : Rows.DraughtsTextsUptoCardSaid :=
  Claim7.holds_tied_plain_at .later [] _ _ _ _ draughtsTexts_said (fun _ h => by cases h) (by kernel_rfl) (fun _ h => by cases h) draughtsTextsUpto_row_tie rfl ⟨rfl, rfl⟩ (by kernel_rfl) rfl draughtsTexts_plain (by kernel_rfl)

end Go.Proofs.YtdbdcbejmbpbmaaDoor
