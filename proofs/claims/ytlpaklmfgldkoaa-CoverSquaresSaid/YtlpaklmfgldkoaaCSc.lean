/-
  Latin squares: the document's count and its check of what is given.
-/
import Derived.Test.YtlpaklmfgldkoaaCSb
namespace Go.Proofs.Ytlpaklmfgldkoaa
open Go Go.GL

theorem flx_in {q : List Int} {x m : Nat} {y : Int} (h : y ∈ flx q x m) : (x : Int) ≤ y ∧ y < ((x + m : Nat) : Int) := by
  unfold flx at h
  obtain ⟨i, hi, rfl⟩ := List.mem_map.1 (List.mem_filter.1 h).1
  have := List.mem_range'_1.1 hi
  omega

theorem nthF_ok (n : Nat) : ∀ (m k : Nat) (p : List Int), p.length + m = n → (flx p 0 n).length = m → k < fac m → (∀ x ∈ p, 0 ≤ x ∧ x < (n : Int)) → (nthF n m k p).length = n ∧ ∀ x ∈ nthF n m k p, 0 ≤ x ∧ x < (n : Int)
  | 0, k, p, hp, _, _, hb => ⟨by simpa [nthF] using hp, hb⟩
  | m + 1, k, p, hp, hf, hk, hb => by
    have hfp := fac_pos m
    have hk' : k < (m + 1) * fac m := hk
    have hq : k / fac m < m + 1 := Nat.div_lt_of_lt_mul (by rw [Nat.mul_comm]; omega)
    have hqF : (k / fac m) < (flx p 0 n).length := by omega
    refine nthF_ok n m _ _ (by simp; omega) ?_ (Nat.mod_lt _ hfp) (fun x hx => ?_)
    · rw [flx_snoc (pick_split hqF), List.length_append, List.length_take, List.length_drop, hf]; omega
    · rcases List.mem_append.1 hx with h | h
      · exact hb x h
      · rw [List.mem_singleton] at h
        subst h
        have hm : geti (flx p 0 n) ((k / fac m : Nat) : Int) ∈ flx p 0 n := by
          rw [geti_nat, List.getD_eq_getElem?_getD, List.getElem?_eq_getElem hqF]
          exact List.getElem_mem hqF
        have := flx_in hm
        omega

theorem geti2_some {m : List (List Int)} {i : Nat} {r : List Int} (h : m[i]? = some r) : geti2 m (i : Int) = r := by
  unfold geti2
  rw [Int.toNat_natCast, List.getD_eq_getElem?_getD, h]; rfl
theorem get_geti2 {m : List (List Int)} {i : Nat} (h : i < m.length) : m[i]? = some (geti2 m (i : Int)) := by
  rw [geti2_some (List.getElem?_eq_getElem h), List.getElem?_eq_getElem h]
theorem take_next {m : List (List Int)} {i : Nat} (h : i < m.length) : m.take (i + 1) = m.take i ++ [geti2 m (i : Int)] := by
  have g := get_geti2 h
  rw [List.getElem?_eq_getElem h] at g
  rw [List.take_succ_eq_append_getElem h, Option.some.inj g]
theorem mem_take2 {m : List (List Int)} {i : Nat} {r : List Int} (hi : i ≤ m.length) : r ∈ m.take i ↔ ∃ k, k < i ∧ geti2 m (k : Int) = r := by
  constructor
  · intro h
    obtain ⟨k, hk, rfl⟩ := List.getElem_of_mem h
    rw [List.length_take] at hk
    refine ⟨k, by omega, ?_⟩
    rw [List.getElem_take]
    exact geti2_some (List.getElem?_eq_getElem (by omega))
  · rintro ⟨k, hk, rfl⟩
    have g := get_geti2 (m := m) (i := k) (by omega)
    refine List.mem_of_getElem? (i := k) ?_
    rw [List.getElem?_take, if_pos hk, g]
theorem take_nextI {l : List Int} {i : Nat} (h : i < l.length) : l.take (i + 1) = l.take i ++ [geti l (i : Int)] := by
  have g := get_geti h
  rw [List.getElem?_eq_getElem h] at g
  rw [List.take_succ_eq_append_getElem h, Option.some.inj g]

/-! ### One row -/
def setU (o : List Int) (x : Nat) : List Int := up1 (o.take x) ++ o.drop x
theorem setU_get {o : List Int} {x : Nat} (h : x < o.length) : geti (setU o x) (x : Int) = geti o (x : Int) := by
  unfold setU
  have ht : (up1 (o.take x)).length = x := by rw [up1_len, List.length_take]; omega
  rw [drop_cons h, geti_nat, List.getD_eq_getElem?_getD, List.getElem?_append_right (by omega), ht, Nat.sub_self]
  rfl
theorem setU_next {o : List Int} {x : Nat} (h : x < o.length) : (setU o x).set x (geti o (x : Int) + 1) = setU o (x + 1) := by
  unfold setU
  have ht : (up1 (o.take x)).length = x := by rw [up1_len, List.length_take]; omega
  rw [drop_cons h, take_nextI h, up1_app, List.append_assoc, List.set_append_right _ _ (by omega), ht, Nat.sub_self]
  rfl
theorem setU_len (o : List Int) (x : Nat) : (setU o x).length = o.length := by
  unfold setU
  rw [List.length_append, up1_len, List.length_take, List.length_drop]
  omega
def freeX (rows : List (List Int)) (o : List Int) (x : Nat) : Bool := (List.range x).all fun x => rows.all fun r => decide (geti r (x : Int) ≠ geti o (x : Int) + 1)

theorem cell_loop {n : Nat} {rows : List (List Int)} {o : List Int} (hrl : rows.length ≤ 5) (hr : ∀ r ∈ rows, r.length = n) (ho : o.length = n) {x : Nat} (hx : x < n) {v : Int} (hv : geti o (x : Int) = v) (hvb : 0 ≤ v ∧ v < 5) (b : Bool) :
    loop (gameroomref_LatinOf_L3 rows o (setU o x) x) (b, 0) = some (b && rows.all fun r => decide (geti r (x : Int) ≠ v + 1)) := by
  refine loop_from (f := fun i => (b && (rows.take i).all fun r => decide (geti r (x : Int) ≠ v + 1), (i : Int))) rows.length (by simp) (fun i hi => ?_) ?_
  · have hg := get_geti2 hi
    simp only [gameroomref_LatinOf_L3]
    rw [if_pos (decide_eq_true (by omega))]
    unfold gameroomref_LatinOf_J8 gameroomref_LatinOf_J9
    have hrn := hr _ (List.mem_of_getElem? hg)
    rw [asrt_pos (fun _ => by omega), asrt_pos (fun _ => by rw [hrn]; omega), asrt_pos (fun _ => by rw [ho]; omega), setU_get (by omega), hv, w64_of (x := v + 1) (by omega), w64_of (x := (i : Int) + 1) (by omega), Int.toNat_natCast, ← hv, setU_next (by omega), take_next hi, List.all_append]
    have e : geti (setU o (x + 1)) (x : Int) = geti o (x : Int) + 1 := by
      rw [← setU_next (by omega), geti_nat, List.getD_eq_getElem?_getD, List.getElem?_set_self (by rw [setU_len]; omega)]
      rfl
    rw [e]
    simp only [List.all_cons, List.all_nil, Bool.and_true, bne, Bool.and_assoc, decide_not]
    rfl
  · simp only [gameroomref_LatinOf_L3]
    rw [if_neg (by simp), List.take_length]

theorem row_loop {n : Nat} (h5 : n ≤ 5) {rows : List (List Int)} {o : List Int} (hrl : rows.length ≤ 5) (hr : ∀ r ∈ rows, r.length = n) (ho : o.length = n) (hob : ∀ y ∈ o, 0 ≤ y ∧ y < (n : Int)) :
    loop (gameroomref_LatinOf_L2 n rows o) (o, true, 0) = some (up1 o, freeR rows o) := by
  refine loop_from (f := fun x => (setU o x, freeX rows o x, (x : Int))) n (by simp [setU, up1, freeX]) (fun x hx => ?_) ?_
  · have hxo : x < o.length := by omega
    have hb := hob _ (List.mem_of_getElem? (get_geti hxo))
    simp only [gameroomref_LatinOf_L2]
    rw [if_pos (decide_eq_true (by omega))]
    unfold gameroomref_LatinOf_J6
    rw [asrt_pos (by omega), asrt_pos (by omega), cell_loop hrl hr ho hx rfl (by omega), Option.bind_some]
    simp only [gameroomref_LatinOf_K3, gameroomref_LatinOf_J7]
    rw [setU_get hxo, w64_of (x := geti o (x : Int) + 1) (by omega), w64_of (x := (x : Int) + 1) (by omega), Int.toNat_natCast, setU_next hxo]
    unfold freeX
    rw [List.range_succ, List.all_append]
    simp only [List.all_cons, List.all_nil, Bool.and_true]
    rfl
  · simp only [gameroomref_LatinOf_L2]
    rw [if_neg (by simp)]
    unfold setU freeX freeR
    rw [ho, List.take_of_length_le (by omega), List.drop_eq_nil_of_le (by omega), List.append_nil]

theorem up1_ok {n : Nat} {o : List Int} (ho : o.length = n) : (up1 o).length = n := by rw [up1_len, ho]

theorem latin_r {n : Nat} (h5 : n ≤ 5) : ∀ (m : Nat) (rows : List (List Int)), rows.length + m = n → (∀ r ∈ rows, r.length = n) → gameroomref_LatinOf_mF (m + 1) n rows = some ((lt n m rows : Nat) : Int)
  | 0, rows, hl, hr => by
    show gameroomref_LatinOf_B (gameroomref_LatinOf_mF 0) n rows = _
    unfold gameroomref_LatinOf_B
    rw [if_pos (by rw [beq_iff_eq]; omega)]; rfl
  | m + 1, rows, hl, hr => by
    show gameroomref_LatinOf_B (gameroomref_LatinOf_mF (m + 1)) n rows = _
    unfold gameroomref_LatinOf_B
    rw [if_neg (by rw [beq_iff_eq]; omega)]
    unfold gameroomref_LatinOf_J1
    let f : Nat → Nat := fun k => Fn n m rows (nthF n n k [])
    have hlt : lt n (m + 1) rows = sumN f (fac n) := by
      rw [lt_dfs, ← all_orders]
    have hbd := lt_bd h5 (m := m + 1) (by omega) rows
    rw [hlt] at hbd ⊢
    have hfb := fac_bd n (by omega)
    have hloop : loop (gameroomref_LatinOf_L1 (gameroomref_LatinOf_mF (m + 1)) n rows) (0, 0) = some ((sumN f (fac n) : Nat) : Int) := by
      refine loop_from (f := fun k => (((sumN f k : Nat) : Int), (k : Int))) (fac n) (by rfl) (fun k hk => ?_) ?_
      · have hp := sumN_part (f := f) (k := k + 1) (n := fac n) (by omega)
        have hs : sumN f (k + 1) = sumN f k + f k := rfl
        obtain ⟨ol, ob⟩ := nthF_ok n n k [] (by simp) (flx0 n) hk (by simp)
        simp only [gameroomref_LatinOf_L1]
        rw [factorial_r (by omega), Option.bind_some, if_pos (decide_eq_true (by omega))]
        unfold gameroomref_LatinOf_J3
        rw [nth_r (by omega) hk, Option.bind_some, row_loop h5 (by omega) hr ol ob, Option.bind_some]
        simp only [gameroomref_LatinOf_K2]
        unfold gameroomref_LatinOf_J5 gameroomref_LatinOf_J4
        cases hf : freeR rows (nthF n n k []) with
        | true =>
          have hfk : f k = lt n m (rows ++ [up1 (nthF n n k [])]) := if_pos hf
          have ih := latin_r h5 m (rows ++ [up1 (nthF n n k [])]) (by simp; omega) (fun r h => by
            rcases List.mem_append.1 h with h | h
            · exact hr r h
            · rw [List.mem_singleton] at h
              rw [h]; exact up1_ok ol)
          rw [if_pos rfl, List.nil_append, asrt_pos (by unfold bigR; omega), asrt_pos (by unfold bigR; omega), ih, Option.bind_some, w64_of (by omega), w64_of (by omega), hs, hfk, Int.natCast_add]; rfl
        | false =>
          have hfk : f k = 0 := if_neg (by rw [hf]; decide)
          rw [if_neg (by decide), w64_of (by omega), hs, hfk]; rfl
      · simp only [gameroomref_LatinOf_L1]
        rw [factorial_r (by omega), Option.bind_some, if_neg (by simp)]
    rw [hloop]; rfl

/-! ### What is given -/
theorem may_r {n : Nat} (h1 : 1 ≤ n) (h5 : n ≤ 5) {rows : List (List Int)} (hl : rows.length ≤ n) (hb : ∀ r ∈ rows, r.length ≤ 17592186043904) :
    ((∀ i, i < rows.length → okD n (rows.take i) (geti2 rows (i : Int))) → gameroomref_LatinMay_m n rows = some 0) ∧ (¬ (∀ i, i < rows.length → okD n (rows.take i) (geti2 rows (i : Int))) → gameroomref_LatinMay_m n rows = some 1) := by
  have hw : gameroomref_within_m n 1 5 = some true := by
    unfold gameroomref_within_m
    rw [decide_eq_true (by omega), decide_eq_true (by omega)]; rfl
  have hm : gameroomref_LatinMay_m n rows = (loop (gameroomref_LatinMay_L1 n rows) 0).bind gameroomref_LatinMay_K1 := by
    unfold gameroomref_LatinMay_m
    rw [hw, Option.bind_some, if_neg (by simp; omega)]; rfl
  have hrow : ∀ i, i < rows.length → (∀ j, j < i → okD n (rows.take j) (geti2 rows (j : Int))) → (geti2 rows (i : Int)).length = n →
      ((∀ x, x < n → ((x : Int) + 1) ∈ geti2 rows (i : Int) ∧ ∀ r ∈ rows.take i, geti r (x : Int) ≠ geti (geti2 rows (i : Int)) (x : Int)) → loop (gameroomref_LatinMay_L2 n rows i) 0 = some (.go ())) ∧
      (¬ (∀ x, x < n → ((x : Int) + 1) ∈ geti2 rows (i : Int) ∧ ∀ r ∈ rows.take i, geti r (x : Int) ≠ geti (geti2 rows (i : Int)) (x : Int)) → loop (gameroomref_LatinMay_L2 n rows i) 0 = some (.ret 1)) := by
    intro i hi hprev hlen
    have hcol : ∀ x, x < n → ((∀ r ∈ rows.take i, geti r (x : Int) ≠ geti (geti2 rows (i : Int)) (x : Int)) → loop (gameroomref_LatinMay_L3 rows i x) 0 = some (.go ())) ∧ (¬ (∀ r ∈ rows.take i, geti r (x : Int) ≠ geti (geti2 rows (i : Int)) (x : Int)) → loop (gameroomref_LatinMay_L3 rows i x) 0 = some (.ret 1)) := by
      intro x hx
      have hq : (∀ r ∈ rows.take i, geti r (x : Int) ≠ geti (geti2 rows (i : Int)) (x : Int)) ↔ ∀ k, k < i → geti (geti2 rows (k : Int)) (x : Int) ≠ geti (geti2 rows (i : Int)) (x : Int) := by
        constructor
        · intro h k hk
          exact h _ ((mem_take2 (by omega)).2 ⟨k, hk, rfl⟩)
        · intro h r hr
          obtain ⟨k, hk, rfl⟩ := (mem_take2 (by omega)).1 hr
          exact h k hk
      rw [hq]
      have hst : ∀ k, k < i → gameroomref_LatinMay_L3 rows i x (k : Int) = if (geti (geti2 rows (k : Int)) (x : Int) == geti (geti2 rows (i : Int)) (x : Int)) then some (.done (.ret 1)) else some (.next ((k + 1 : Nat) : Int)) := fun k hk => by
        have hkl := (hprev k hk).1
        simp only [gameroomref_LatinMay_L3]
        rw [if_pos (decide_eq_true (by omega))]
        unfold gameroomref_LatinMay_J9 gameroomref_LatinMay_J10
        rw [asrt_pos (by omega), asrt_pos (by omega), asrt_pos (by omega), asrt_pos (by omega), w64_of (by omega)]; rfl
      refine walk_loop (step := gameroomref_LatinMay_L3 rows i x) (fun k => (k : Int)) (fun k => geti (geti2 rows (k : Int)) (x : Int) ≠ geti (geti2 rows (i : Int)) (x : Int)) i _ _ (fun k hk _ hP => ?_) (fun k hk _ hP => ?_) (fun _ => ?_)
      · rw [hst k hk, if_pos (by rw [beq_iff_eq]; exact Decidable.not_not.1 hP)]
      · rw [hst k hk, if_neg (by rw [beq_iff_eq]; exact hP)]
      · simp only [gameroomref_LatinMay_L3]
        rw [if_neg (by simp)]
    have hbl := hb _ (List.mem_of_getElem? (get_geti2 hi))
    have hst : ∀ x, x < n → gameroomref_LatinMay_L2 n rows i (x : Int) = gameroomref_LatinMay_J6 rows i (x : Int) := fun x hx => by
      simp only [gameroomref_LatinMay_L2]
      rw [if_pos (decide_eq_true (by omega))]
    refine walk_loop (step := gameroomref_LatinMay_L2 n rows i) (fun x => (x : Int)) (fun x => ((x : Int) + 1) ∈ geti2 rows (i : Int) ∧ ∀ r ∈ rows.take i, geti r (x : Int) ≠ geti (geti2 rows (i : Int)) (x : Int)) n _ _ (fun x hx _ hP => ?_) (fun x hx _ hP => ?_) (fun _ => ?_)
    · rw [hst x hx]
      unfold gameroomref_LatinMay_J6 gameroomref_LatinMay_J8
      obtain ⟨v, v1, v2⟩ := at_r (l := geti2 rows (i : Int)) ((x : Int) + 1) (by omega)
      rw [asrt_pos (by omega), w64_of (x := (x : Int) + 1) (by omega), v1, Option.bind_some]
      by_cases hv : 0 ≤ v
      · rw [if_neg (by rw [decide_eq_true_eq]; omega), (hcol x hx).2 (fun h => hP ⟨v2.1 hv, h⟩)]; rfl
      · rw [if_pos (decide_eq_true (by omega))]
    · rw [hst x hx]
      unfold gameroomref_LatinMay_J6 gameroomref_LatinMay_J8
      obtain ⟨v, v1, v2⟩ := at_r (l := geti2 rows (i : Int)) ((x : Int) + 1) (by omega)
      have hv := v2.2 hP.1
      rw [asrt_pos (by omega), w64_of (x := (x : Int) + 1) (by omega), v1, Option.bind_some, if_neg (by rw [decide_eq_true_eq]; omega), (hcol x hx).1 hP.2, Option.bind_some]
      simp only [gameroomref_LatinMay_K3, gameroomref_LatinMay_J7]
      rw [w64_of (by omega)]; rfl
    · simp only [gameroomref_LatinMay_L2]
      rw [if_neg (by simp)]
  have hst : ∀ i, i < rows.length → gameroomref_LatinMay_L1 n rows (i : Int) = gameroomref_LatinMay_J3 n rows (i : Int) := fun i hi => by
    simp only [gameroomref_LatinMay_L1]
    rw [if_pos (decide_eq_true (by omega))]
  have main := walk_loop (step := gameroomref_LatinMay_L1 n rows) (fun i => (i : Int)) (fun i => okD n (rows.take i) (geti2 rows (i : Int))) rows.length (.ret 1) (.go ()) (fun i hi hp hP => by
    rw [hst i hi]
    unfold gameroomref_LatinMay_J3 gameroomref_LatinMay_J5
    rw [asrt_pos (by omega)]
    by_cases hlen : (geti2 rows (i : Int)).length = n
    · rw [if_neg (by simp [hlen]), (hrow i hi hp hlen).2 (fun h => hP ⟨hlen, h⟩)]; rfl
    · rw [if_pos (by simp; omega)]) (fun i hi hp hP => by
    rw [hst i hi]
    unfold gameroomref_LatinMay_J3 gameroomref_LatinMay_J5
    rw [asrt_pos (by omega), if_neg (by simp [hP.1]), (hrow i hi hp hP.1).1 hP.2, Option.bind_some]
    simp only [gameroomref_LatinMay_K2, gameroomref_LatinMay_J4]
    rw [w64_of (by omega)]; rfl) (fun _ => by
    simp only [gameroomref_LatinMay_L1]
    rw [if_neg (by simp)])
  rw [hm]
  exact ⟨fun h => by
    have e : loop (gameroomref_LatinMay_L1 n rows) 0 = _ := main.1 h
    rw [e]; rfl, fun h => by
    have e : loop (gameroomref_LatinMay_L1 n rows) 0 = _ := main.2 h
    rw [e]; rfl⟩
end Go.Proofs.Ytlpaklmfgldkoaa
