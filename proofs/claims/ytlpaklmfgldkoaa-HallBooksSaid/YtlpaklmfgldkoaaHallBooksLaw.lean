/-
  For every input the law HallBooks answers true, and leaves what came in as it was: the walk of its text and the plain law, joined.
  No condition.
-/
import Derived.Test.YtlpaklmfgldkoaaRows
import Derived.Test.YtlpaklmfgldkoaaLibU
import Derived.Test.YtlpaklmfgldkoaaLibSu
import Derived.Test.YtlpaklmfgldkoaaNHB
import Derived.Test.YtlpaklmfgldkoaaHBc
namespace Go.Proofs.Ytlpaklmfgldkoaa
open Go Go.GL Go.RowKit Go.ChangeShapes Go.WideShapes Go.ChangeAt

theorem own_hallBooks : ownKnob Try.prog.godebug = none := by kernel_rfl
theorem laid_hallBooks : laidOutB Try.prog = true := by kernel_rfl

set_option maxRecDepth 100000 in
theorem hallBooks_lifted (os : Os) (started : os.Started) (H : Type) (enc : TypeId × Value → H) :
    ReturnsInHanded {} Try.checked os 3 .any (Rows.hallBooksSpec.pre6 enc Try.prog Try.f3 Rows.hallBooksRow.domain false) (Rows.hallBooksSpec.post enc Try.prog Try.f3 false true false false) := by
  refine returnsInHanded_of_change_sized (C := Try.checked) own_hallBooks started (by kernel_rfl) Try.func3
    (ChangeSpec.witness6 (enc := enc) (C := Try.checked) false ⟨#[], #[.slice none 0 0, .slice none 0 0, .string ⟨#[]⟩], []⟩ 8 (by kernel_rfl) (by kernel_rfl) (by kernel_rfl) (by kernel_rfl)) ?_
  intro W base args ds gs before hval0 hW _ hsz0 _
  have hsz : (DataW.weightsEach Try.prog (Try.f3.params.toList ++ Rows.hallBooksSpec.plain.varTypes Try.prog) (ds ++ gs)).all (· ≤ reachBytes) = true := hsz0
  have hval : ∀ (j : Nat) t v, Try.f3.params[j]? = some t → args[j]? = some v → Value.okWide Try.prog W .any base t v := hval0
  have hW' := hW
  obtain ⟨p, q, hA0, hV, rfl, _, _⟩ := hW
  have hA : DataW.TrodAll enc Try.prog W 0 (fun _ => true) true Try.f3.params.toList args.toList ds p := hA0
  have hlt : ∀ x ∈ p, x.block < W.heap.size := fun x hx => by simpa using hW'.lt x (by simp [hx])
  have hld : ds.length = Try.f3.params.size := by have := (trodAll_len hA).2; simpa using this
  rw [Try.params3] at hA hval hsz
  obtain ⟨v0, vs0, d0, ds0, p0, q0, e0, rfl, rfl, h0, hA⟩ := trodAll_cons hA
  obtain ⟨v1, vs1, d1, ds1, p1, q1, e1, rfl, rfl, h1, hA⟩ := trodAll_cons hA
  obtain ⟨v2, vs2, d2, ds2, p2, q2, e2, rfl, rfl, h2, hA⟩ := trodAll_cons hA
  obtain ⟨hv9, rfl, rfl⟩ := trodAll_nil hA
  obtain rfl : args = #[v0, v1, v2] := by
    apply Array.ext'
    rw [e0, e1, e2, hv9]
  obtain ⟨A0, c0, x0, rfl, hr0, hc0, hl0, hi0⟩ := open_texts Try.underlying22 Try.underlying9 (by kernel_rfl) (by kernel_rfl) (hval 0 22 v0 rfl rfl) h0 (fun y hy => hlt y (by simp [hy])) (weights_at hsz 0 rfl rfl)
  obtain ⟨A1, c1, x1, rfl, hr1, hc1, hl1, hi1⟩ := open_u8s Try.underlying23 Try.underlying5 (by kernel_rfl) (by kernel_rfl) (hval 1 23 v1 rfl rfl) h1 (fun y hy => hlt y (by simp [hy])) (weights_at hsz 1 rfl rfl)
  obtain ⟨x2, rfl, hl2⟩ := open_text Try.underlying9 (hval 2 9 v2 rfl rfl) h2
  have hm := true_HallBooks x0 x1 x2 hl0 hi0 hl1 hi1 hl2
  refine (gameroomlaw_HallBooks_w hm (Sep.start W) (RdF.of hr0) hc0 rfl (RdF.of hr1) hc1 rfl).mono fun e W' ⟨he, hS⟩ => ?_
  subst he
  exact ⟨_, rfl, law_post laid_hallBooks (by decide +kernel) rfl Try.underlying4 rfl hW' (fun ds h => by match ds, h with | [_, _, _], _ => rfl) hld hS.below⟩

theorem hallBooks_holds : Rows.HallBooksSaid :=
  OpenClaim.holds_of_wide 3 Try.f3 rfl rfl rfl rfl rfl rfl rfl ⟨rfl, rfl, rfl, rfl, rfl⟩ rfl rfl rfl rfl rfl (by kernel_rfl) Try.func3 (by kernel_rfl)
    (of_decide_eq_true (by kernel_rfl)) (by unfold Func.isWrapper; first | (rw [if_pos (by decide +kernel)]; kernel_rfl) | (rw [if_neg (by decide +kernel)]; exact ⟨rfl, rfl⟩))
    (fun os started H enc _ => hallBooks_lifted os started H enc)

end Go.Proofs.Ytlpaklmfgldkoaa
