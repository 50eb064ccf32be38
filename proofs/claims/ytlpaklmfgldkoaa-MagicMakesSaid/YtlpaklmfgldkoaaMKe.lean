/-
  Magic squares: the document's count; the law.
-/
import Derived.Test.YtlpaklmfgldkoaaMKc
import Derived.Test.YtlpaklmfgldkoaaMKd
import Derived.Test.YtlpaklmfgldkoaaLibT
namespace Go.Proofs.Ytlpaklmfgldkoaa
open Go Go.GL

theorem flx_in {q : List Int} {x m : Nat} {y : Int} (h : y ∈ flx q x m) : (x : Int) ≤ y ∧ y < ((x + m : Nat) : Int) := by
  unfold flx at h
  obtain ⟨i, hi, rfl⟩ := List.mem_map.1 (List.mem_filter.1 h).1
  have := List.mem_range'_1.1 hi
  omega

theorem nthF_ok (n : Nat) : ∀ (m k : Nat) (p : List Int), p.length + m = n → (flx p 0 n).length = m → k < fac m → (∀ x ∈ p, 0 ≤ x ∧ x < (n : Int)) → (nthF n m k p).length = n ∧ ∀ x ∈ nthF n m k p, 0 ≤ x ∧ x < (n : Int)
  | 0, k, p, hp, _, _, hb => ⟨by simpa [nthF] using hp, hb⟩
  | m + 1, k, p, hp, hf, hk, hb => by
    have hfp := fac_pos m
    have hk' : k < (m + 1) * fac m := hk
    have hq : k / fac m < m + 1 := Nat.div_lt_of_lt_mul (by rw [Nat.mul_comm]; omega)
    have hqF : (k / fac m) < (flx p 0 n).length := by omega
    refine nthF_ok n m _ _ (by simp; omega) ?_ (Nat.mod_lt _ hfp) (fun x hx => ?_)
    · rw [flx_snoc (pick_split hqF), List.length_append, List.length_take, List.length_drop, hf]; omega
    · rcases List.mem_append.1 hx with h | h
      · exact hb x h
      · rw [List.mem_singleton] at h
        subst h
        have hm : geti (flx p 0 n) ((k / fac m : Nat) : Int) ∈ flx p 0 n := by
          rw [geti_nat, List.getD_eq_getElem?_getD, List.getElem?_eq_getElem hqF]
          exact List.getElem_mem hqF
        have := flx_in hm
        omega

theorem sq_up {n : Nat} (h1 : 1 ≤ n) (h3 : n ≤ 3) {o : List Int} (hl : o.length = n * n) (hb : ∀ x ∈ o, 0 ≤ x ∧ x < ((n * n : Nat) : Int)) : Sq (up1 o) n := by
  have h9 := sq_le n h3
  refine ⟨h1, by omega, by rw [up1_len]; exact hl, fun j => ?_⟩
  rw [geti_nat]
  by_cases hj : j < (up1 o).length
  · rw [List.getD_eq_getElem?_getD, List.getElem?_eq_getElem hj]
    have hm : (up1 o)[j] ∈ up1 o := List.getElem_mem hj
    unfold up1 at hm
    obtain ⟨x, hx, e⟩ := List.mem_map.1 hm
    have := hb x hx
    simp only [Option.getD_some]
    unfold up1
    rw [← e]
    omega
  · rw [List.getD_eq_getElem?_getD, List.getElem?_eq_none (by omega)]
    simp

/-- One order: its numbers from 1 on, and whether it fits. -/
def fitB (g o : List Int) (i : Nat) : Bool := (List.range i).all fun j => (geti g (j : Int) == 0) || (geti g (j : Int) == geti (up1 o) (j : Int))

theorem order_loop {n : Nat} {g o : List Int} (h3 : n ≤ 3) (hg : g.length = n * n) (hl : o.length = n * n) (hb : ∀ x ∈ o, 0 ≤ x ∧ x < ((n * n : Nat) : Int)) :
    loop (gameroomref_MagicCount_L2 g o) (o, true, 0) = some (up1 o, fitB g o (n * n)) := by
  have h9 := sq_le n h3
  refine loop_from (f := fun i => (up1 (o.take i) ++ o.drop i, fitB g o i, (i : Int))) (n * n) (by simp [up1, fitB]) (fun i hi => ?_) ?_
  · have hil : i < o.length := by omega
    have ht : (up1 (o.take i)).length = i := by rw [up1_len, List.length_take]; omega
    have e0 : geti (up1 (o.take i) ++ o.drop i) (i : Int) = o[i] := by
      rw [geti_nat, List.getD_eq_getElem?_getD, List.getElem?_append_right (by omega), ht, Nat.sub_self, List.drop_eq_getElem_cons hil]
      rfl
    have hx := hb o[i] (List.getElem_mem hil)
    have e1 : (up1 (o.take i) ++ o.drop i).set i (o[i] + 1) = up1 (o.take (i + 1)) ++ o.drop (i + 1) := by
      rw [List.set_append_right _ _ (by omega), ht, Nat.sub_self, List.drop_eq_getElem_cons hil, List.set_cons_zero, List.take_succ_eq_append_getElem hil, up1_app, List.append_assoc]
      rfl
    have e2 : geti (up1 (o.take (i + 1)) ++ o.drop (i + 1)) (i : Int) = geti (up1 o) (i : Int) := by
      rw [geti_app (by rw [up1_len, List.length_take]; omega)]
      unfold up1
      rw [List.map_take, geti_take (by omega)]
    have e3 : fitB g o (i + 1) = (fitB g o i && ((geti g (i : Int) == 0) || (geti g (i : Int) == geti (up1 o) (i : Int)))) := by
      unfold fitB
      rw [List.range_succ, List.all_append]
      simp
    simp only [gameroomref_MagicCount_L2, gameroomref_MagicCount_J5, gameroomref_MagicCount_J6]
    rw [if_pos (decide_eq_true (by omega)), asrt_pos (by omega), asrt_pos (by omega), asrt_pos (fun _ => by omega), asrt_pos (fun _ _ => by omega), asrt_pos (fun _ _ => by omega), e0, w64_of (x := o[i] + 1) (by omega), Int.toNat_natCast, e1, e2, w64_of (by omega), e3]
    rfl
  · simp only [gameroomref_MagicCount_L2]
    rw [if_neg (by rw [decide_eq_true_eq]; omega), List.take_of_length_le (by omega), List.drop_of_length_le (by omega), List.append_nil]

theorem fitB_iff {n : Nat} {g o : List Int} (hl : o.length = n * n) : fitB g o (n * n) = true ↔ fitsP g o := by
  unfold fitB fitsP
  rw [List.all_eq_true]
  constructor
  · intro h j hj
    have := h j (List.mem_range.2 (by omega))
    simpa using this
  · intro h j hj
    have := h j (by have := List.mem_range.1 hj; omega)
    simpa using this

theorem sumN_le1 {f : Nat → Nat} (h : ∀ k, f k ≤ 1) : ∀ n, sumN f n ≤ n
  | 0 => Nat.le_refl _
  | n + 1 => by
    have := sumN_le1 h n
    have := h n
    simp only [sumN]
    omega

theorem fac9 {N : Nat} (h : N ≤ 9) : fac N ≤ 362880 := by
  have : ∀ n : Fin 10, fac n.val ≤ 362880 := by decide
  exact this ⟨N, by omega⟩

theorem count_r {n : Nat} {g : List Int} (h1 : 1 ≤ n) (h3 : n ≤ 3) (hg : g.length = n * n) :
    gameroomref_MagicCount_m n g = some ((sumN (fun k => cF n g (nthF (n * n) (n * n) k [])) (fac (n * n)) : Nat) : Int) := by
  have h9 := sq_le n h3
  have hf9 := fac9 h9
  unfold gameroomref_MagicCount_m
  have : loop (gameroomref_MagicCount_L1 n g) (0, 0) = some ((sumN (fun k => cF n g (nthF (n * n) (n * n) k [])) (fac (n * n)) : Nat) : Int) := by
    refine loop_from (f := fun k => (((sumN (fun k => cF n g (nthF (n * n) (n * n) k [])) k : Nat) : Int), (k : Int))) (fac (n * n)) rfl (fun k hk => ?_) ?_
    · have hs := sumN_le1 (f := fun k => cF n g (nthF (n * n) (n * n) k [])) (fun k => cF_le _ _ _) k
      obtain ⟨hol, hob⟩ := nthF_ok (n * n) (n * n) k [] (by simp) (flx0 _) hk (fun x hx => by cases hx)
      obtain ⟨kd, w, hkd, hiff⟩ := kind_r (sq_up h1 h3 hol hob)
      simp only [gameroomref_MagicCount_L1]
      rw [w64_sq h3, factorial_r (by omega), Option.bind_some, if_pos (decide_eq_true (by omega))]
      unfold gameroomref_MagicCount_J2
      rw [w64_sq h3, nth_r (by omega) hk, Option.bind_some, order_loop h3 hg hol hob, Option.bind_some]
      unfold gameroomref_MagicCount_K2 gameroomref_MagicCount_J4 gameroomref_MagicCount_J3
      dsimp only
      rw [w64_of (x := (k : Int) + 1) (by omega)]
      simp only [sumN]
      generalize hS : sumN (fun k => cF n g (nthF (n * n) (n * n) k [])) k = S at hs
      by_cases hfit : fitsP g (nthF (n * n) (n * n) k [])
      · rw [if_pos ((fitB_iff hol).2 hfit), hkd, Option.bind_some]
        by_cases h2 : 2 ≤ kd
        · have e : cF n g (nthF (n * n) (n * n) k []) = 1 := by unfold cF; rw [if_pos ⟨hfit, hiff.1 h2⟩]
          rw [if_pos (decide_eq_true h2), e, w64_of (by omega)]
          rfl
        · have e : cF n g (nthF (n * n) (n * n) k []) = 0 := by unfold cF; rw [if_neg (fun h => h2 (hiff.2 h.2))]
          rw [if_neg (by simpa using h2), e]
          rfl
      · have e : cF n g (nthF (n * n) (n * n) k []) = 0 := by unfold cF; rw [if_neg (fun h => hfit h.1)]
        rw [if_neg (fun h => hfit ((fitB_iff hol).1 h)), e]
        rfl
    · simp only [gameroomref_MagicCount_L1]
      rw [w64_sq h3, factorial_r (by omega), Option.bind_some, if_neg (by simp)]
  rw [this]
  rfl

theorem count_p {n : Nat} {g : List Int} (h1 : 1 ≤ n) (h3 : n ≤ 3) (hg : g.length = n * n) :
    magic_Count_J1 n g = some (((sumN (fun k => cF n g (nthF (n * n) (n * n) k [])) (fac (n * n)) : Nat) : Int), 0) := by
  have h9 := sq_le n h3
  have hf9 := fac9 h9
  have hs := sumN_le1 (f := fun k => cF n g (nthF (n * n) (n * n) k [])) (fun k => cF_le _ _ _) (fac (n * n))
  have hbig : (0 : Int) ≤ ((n * n : Nat) : Int) ∧ ((n * n : Nat) : Int) ≤ bigN := by unfold bigN; omega
  unfold magic_Count_J1
  rw [all_orders] at hs ⊢
  have hg0 : ∀ j : Nat, geti (List.replicate (n * n) (0 : Int)) (j : Int) = 0 := fun j => by
    rw [geti_nat, List.getD_eq_getElem?_getD, List.getElem?_replicate]
    split <;> rfl
  have H : Fl1 n g (List.replicate (n * n) 0) [] 0 0 (n * n) :=
    ⟨⟨h1, by omega, by simp, fun j => by rw [hg0]; omega⟩, h3, rfl, by omega, flx0 _, by simp [up1], fun j hj => by simp at hj, fun v _ _ => by simp, by decide⟩
  obtain ⟨l', e, _, _⟩ := fill_p hg (n * n) (List.replicate (n * n) 0) [] 0 0 0 H (by omega)
  have e' := magic_Count_2_m_of _ _ _ _ _ _ _ e
  rw [w64_sq h3, asrt_pos hbig, Int.toNat_natCast]
  have e'' : magic_Count_2_m 0 0 n (List.replicate (n * n) 0) 0 g = some (l', ((dfs (n * n) (cF n g) (n * n) [] : Nat) : Int)) := by
    rw [Nat.zero_add] at e'
    exact e'
  rw [e'']
  rfl
end Go.Proofs.Ytlpaklmfgldkoaa
