/-
  For every input the law TopHex answers true, and leaves what came in as it was: the walk of its text and the plain law, joined.
  No condition.
-/
import Derived.Test.YtgogihcmnkncjaaRows
import Derived.Test.YtgogihcmnkncjaaLibU
import Derived.Test.YtgogihcmnkncjaaNTH
import Derived.Test.YtgogihcmnkncjaaTYd
namespace Go.Proofs.Ytgogihcmnkncjaa
open Go Go.GL Go.RowKit Go.ChangeShapes Go.WideShapes Go.ChangeAt

theorem own_topHex : ownKnob Try.prog.godebug = none := by kernel_rfl
theorem laid_topHex : laidOutB Try.prog = true := by kernel_rfl

set_option maxRecDepth 100000 in
theorem topHex_lifted (os : Os) (started : os.Started) (H : Type) (enc : TypeId × Value → H) :
    ReturnsInHanded {} Try.checked os 6 .any (Rows.topHexSpec.pre6 enc Try.prog Try.f6 Rows.topHexRow.domain false) (Rows.topHexSpec.post enc Try.prog Try.f6 false true false false) := by
  refine returnsInHanded_of_change_sized (C := Try.checked) own_topHex started (by kernel_rfl) Try.func6
    (ChangeSpec.witness6 (enc := enc) (C := Try.checked) false ⟨#[], #[.int .i64 0, .slice none 0 0], []⟩ 8 (by kernel_rfl) (by kernel_rfl) (by kernel_rfl) (by kernel_rfl)) ?_
  intro W base args ds gs before hval0 hW _ hsz0 _
  have hsz : (DataW.weightsEach Try.prog (Try.f6.params.toList ++ Rows.topHexSpec.plain.varTypes Try.prog) (ds ++ gs)).all (· ≤ reachBytes) = true := hsz0
  have hval : ∀ (j : Nat) t v, Try.f6.params[j]? = some t → args[j]? = some v → Value.okWide Try.prog W .any base t v := hval0
  have hW' := hW
  obtain ⟨p, q, hA0, hV, rfl, _, _⟩ := hW
  have hA : DataW.TrodAll enc Try.prog W 0 (fun _ => true) true Try.f6.params.toList args.toList ds p := hA0
  have hlt : ∀ x ∈ p, x.block < W.heap.size := fun x hx => by simpa using hW'.lt x (by simp [hx])
  have hld : ds.length = Try.f6.params.size := by have := (trodAll_len hA).2; simpa using this
  rw [Try.params6] at hA hval hsz
  obtain ⟨v0, vs0, d0, ds0, p0, q0, e0, rfl, rfl, h0, hA⟩ := trodAll_cons hA
  obtain ⟨v1, vs1, d1, ds1, p1, q1, e1, rfl, rfl, h1, hA⟩ := trodAll_cons hA
  obtain ⟨hv9, rfl, rfl⟩ := trodAll_nil hA
  obtain rfl : args = #[v0, v1] := by
    apply Array.ext'
    rw [e0, e1, hv9]
  obtain ⟨x0, rfl, _, _, wf0⟩ := open_int Try.underlying3 (hval 0 3 v0 rfl rfl) h0
  obtain ⟨A1, c1, x1, rfl, hr1, hc1, hl1, hi1⟩ := open_rd Try.underlying22 Try.underlying3 (by kernel_rfl) (by kernel_rfl) (hval 1 22 v1 rfl rfl) h1 (fun y hy => hlt y (by simp [hy])) (weights_at hsz 1 rfl rfl)
  have hm := true_TopHex x0 x1 (wf_inI wf0) hl1 hi1
  refine (gameroomtop_TopHex_w hm (Sep.start W) (RdF.of hr1) hc1 rfl).mono fun e W' ⟨he, hS⟩ => ?_
  subst he
  exact ⟨_, rfl, law_post laid_topHex (by decide +kernel) rfl Try.underlying4 rfl hW' (fun ds h => by match ds, h with | [_, _], _ => rfl) hld hS.below⟩

theorem topHex_holds : Rows.TopHexSaid :=
  OpenClaim.holds_of_wide 6 Try.f6 rfl rfl rfl rfl rfl rfl rfl ⟨rfl, rfl, rfl, rfl, rfl⟩ rfl rfl rfl rfl rfl (by kernel_rfl) Try.func6 (by kernel_rfl)
    (of_decide_eq_true (by kernel_rfl)) (by unfold Func.isWrapper; first | (rw [if_pos (by decide +kernel)]; kernel_rfl) | (rw [if_neg (by decide +kernel)]; exact ⟨rfl, rfl⟩))
    (fun os started H enc _ => topHex_lifted os started H enc)

end Go.Proofs.Ytgogihcmnkncjaa
