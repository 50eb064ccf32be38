/-
  Latin squares: the program's check of what is given; the law.
-/
import Derived.Test.YtlpaklmfgldkoaaCSc
import Derived.Test.YtlpaklmfgldkoaaLibT
namespace Go.Proofs.Ytlpaklmfgldkoaa
open Go Go.GL

def cellP (n : Nat) (rs : List (List Int)) (row : List Int) (z : Nat) : Prop := (1 ≤ geti row (z : Int) ∧ geti row (z : Int) ≤ n) ∧ geti row (z : Int) ∉ row.take z ∧ ∀ r ∈ rs, geti r (z : Int) ≠ geti row (z : Int)

def natsOf (l : List Int) : List Nat := l.map Int.toNat
theorem mem_nats {l : List Int} {v : Nat} (h : 1 ≤ v) : v ∈ natsOf l ↔ (v : Int) ∈ l := by
  unfold natsOf
  rw [List.mem_map]
  constructor
  · rintro ⟨a, ha, e⟩
    rwa [show (v : Int) = a by omega]
  · intro hv
    exact ⟨_, hv, by omega⟩

open Classical in
theorem rowP_loop {n : Nat} (h5 : n ≤ 5) {rows : List (List Int)} {i : Nat} (hi : i < rows.length) (hrs : ∀ r ∈ rows.take i, ∀ x : Nat, geti r (x : Int) ≤ 5) (hlen : (geti2 rows (i : Int)).length = n) :
    ((∀ z, z < n → cellP n (rows.take i) (geti2 rows (i : Int)) z) → loop (cover_Latin_L2 n rows i) (colsAt n (rows.take i) [], 0, 0) = some (.go (colsAt n (rows.take (i + 1)) []))) ∧
    (¬ (∀ z, z < n → cellP n (rows.take i) (geti2 rows (i : Int)) z) → loop (cover_Latin_L2 n rows i) (colsAt n (rows.take i) [], 0, 0) = some (.ret (0, 1))) := by
  have hrow : ∀ z : Nat, z ≤ n → ((geti2 rows (i : Int)).take z).length = z := fun z hz => by rw [List.length_take]; omega
  have main := walk_loop (step := cover_Latin_L2 n rows i) (fun z => (colsAt n (rows.take i) ((geti2 rows (i : Int)).take z), ((orM (natsOf ((geti2 rows (i : Int)).take z)) : Nat) : Int), (z : Int))) (cellP n (rows.take i) (geti2 rows (i : Int))) n (.ret (0, 1)) (.go (colsAt n (rows.take (i + 1)) []))
  have hcond : ∀ z, z < n → (∀ j, j < z → cellP n (rows.take i) (geti2 rows (i : Int)) j) →
      cover_Latin_L2 n rows i (colsAt n (rows.take i) ((geti2 rows (i : Int)).take z), ((orM (natsOf ((geti2 rows (i : Int)).take z)) : Nat) : Int), (z : Int)) = if cellP n (rows.take i) (geti2 rows (i : Int)) z then some (.next (colsAt n (rows.take i) ((geti2 rows (i : Int)).take (z + 1)), ((orM (natsOf ((geti2 rows (i : Int)).take (z + 1))) : Nat) : Int), ((z + 1 : Nat) : Int))) else some (.done (.ret (0, 1))) := by
    intro z hz hp
    have hzl : z < (geti2 rows (i : Int)).length := by omega
    have hin5 : ∀ v ∈ natsOf ((geti2 rows (i : Int)).take z), v ≤ 5 := by
      intro v hv
      unfold natsOf at hv
      obtain ⟨a, ha, rfl⟩ := List.mem_map.1 hv
      obtain ⟨k, hk, rfl⟩ := List.getElem_of_mem ha
      rw [List.length_take] at hk
      have hg := get_geti (l := geti2 rows (i : Int)) (i := k) (by omega)
      rw [List.getElem?_eq_getElem (by omega)] at hg
      rw [List.getElem_take, Option.some.inj hg]
      have := (hp k (by omega)).1
      omega
    have hin := orM_lt hin5
    have hc64 : orM (colL (rows.take i) [] z) < 64 := orM_lt (colL_le hrs)
    have hcg : getd (0 : Int) (colsAt n (rows.take i) ((geti2 rows (i : Int)).take z)) (z : Int) = ((orM (colL (rows.take i) [] z) : Nat) : Int) := by
      rw [colsAt_get hz, colL_at (by rw [hrow z (by omega)]; exact Nat.le_refl _)]
    simp only [cover_Latin_L2]
    rw [if_pos (decide_eq_true (by omega))]
    unfold cover_Latin_J6
    rw [asrt_pos (by omega)]
    by_cases hv : 1 ≤ geti (geti2 rows (i : Int)) (z : Int) ∧ geti (geti2 rows (i : Int)) (z : Int) ≤ n
    · obtain ⟨v, hvn⟩ : ∃ v : Nat, geti (geti2 rows (i : Int)) (z : Int) = (v : Int) := ⟨_, (Int.toNat_of_nonneg (by omega)).symm⟩
      have hcell : cellP n (rows.take i) (geti2 rows (i : Int)) z ↔ ¬ (v ∈ natsOf ((geti2 rows (i : Int)).take z)) ∧ ¬ (v ∈ colL (rows.take i) [] z) := by
        unfold cellP
        rw [mem_nats (by omega), colL_mem, ← hvn]
        constructor
        · rintro ⟨_, h2, h3⟩
          exact ⟨h2, fun ⟨r, hr, e⟩ => h3 r hr (by omega)⟩
        · rintro ⟨h2, h3⟩
          exact ⟨hv, h2, fun r hr e => h3 ⟨r, hr, by omega⟩⟩
      rw [hvn] at hv ⊢
      rw [decide_eq_false (by omega : ¬ ((v : Int) < 1)), decide_eq_false (by omega : ¬ ((n : Int) < (v : Int))), Bool.false_or, asrt_pos (fun _ => by omega), asrt_pos (fun _ => by rw [Int.toNat_natCast]; omega), asrt_pos (fun _ => by omega), Bool.false_or, bitN (by omega) (by omega), orM_bit, hcg, bitN (by omega) (by omega), orM_bit, ← Bool.decide_or]
      by_cases hP : cellP n (rows.take i) (geti2 rows (i : Int)) z
      · have hq := hcell.1 hP
        rw [if_neg (by rw [decide_eq_true_eq]; exact fun h => h.elim hq.1 hq.2), if_pos hP]
        unfold cover_Latin_J8 cover_Latin_J7
        rw [hvn, asrt_pos (by omega), asrt_pos (by rw [Int.toNat_natCast]; omega), asrt_pos (by omega), asrt_pos (by rw [Int.toNat_natCast]; omega), hcg, shlN (by omega), orN (by omega) (pow_lt (by omega)), orN (by omega) (pow_lt (by omega)), w64_of (by omega), Int.toNat_natCast, take_nextI hzl, hvn]
        have hs := colsAt_set (n := n) (rows := rows.take i) (p := (geti2 rows (i : Int)).take z) (v := (v : Int)) (by rw [hrow z (by omega)]; exact hz)
        rw [hrow z (by omega), Int.toNat_natCast] at hs
        rw [hs]
        unfold natsOf
        rw [List.map_append, List.map_cons, List.map_nil, orM_snoc, Int.toNat_natCast]
        rfl
      · rw [if_pos (by rw [decide_eq_true_eq]; exact Decidable.byContradiction fun h => hP (hcell.2 (not_or.1 h))), if_neg hP]
    · have hP : ¬ cellP n (rows.take i) (geti2 rows (i : Int)) z := fun h => hv h.1
      have hb : ((decide (geti (geti2 rows (i : Int)) (z : Int) < 1)) || (decide ((n : Int) < geti (geti2 rows (i : Int)) (z : Int)))) = true := by
        rw [Bool.or_eq_true, decide_eq_true_eq, decide_eq_true_eq]
        omega
      rw [if_neg hP, hb, asrt_pos (fun h => by cases h), Bool.true_or, asrt_pos (fun h => by cases h), asrt_pos (fun h => by cases h), Bool.true_or, if_pos rfl]
  have m := main (fun z hz hp hP => by
    show cover_Latin_L2 n rows i _ = _
    rw [hcond z hz hp, if_neg hP]) (fun z hz hp hP => by
    show cover_Latin_L2 n rows i _ = _
    rw [hcond z hz hp, if_pos hP]) (fun _ => by
    simp only [cover_Latin_L2]
    rw [if_neg (by simp [hlen]), show (geti2 rows (i : Int)).take n = geti2 rows (i : Int) from List.take_of_length_le (by omega), colsAt_next hlen, take_next hi])
  exact m

theorem check_p {n : Nat} (h1 : 1 ≤ n) (h5 : n ≤ 5) {rows : List (List Int)} (hl : rows.length ≤ n) :
    ((∀ i, i < rows.length → okP n (rows.take i) (geti2 rows (i : Int))) → loop (cover_Latin_L1 n rows) (List.replicate (Int.toNat (n : Int)) 0, 0) = some (.go (colsAt n rows []))) ∧ (¬ (∀ i, i < rows.length → okP n (rows.take i) (geti2 rows (i : Int))) → loop (cover_Latin_L1 n rows) (List.replicate (Int.toNat (n : Int)) 0, 0) = some (.ret (0, 1))) := by
  have hrs : ∀ i, i < rows.length → (∀ j, j < i → okP n (rows.take j) (geti2 rows (j : Int))) → ∀ r ∈ rows.take i, ∀ x : Nat, geti r (x : Int) ≤ 5 := by
    intro i hi hp r hr x
    obtain ⟨k, hk, rfl⟩ := (mem_take2 (by omega)).1 hr
    have hok := hp k hk
    by_cases hx : x < n
    · have := (hok.2 x hx).1
      omega
    · rw [geti_nat, List.getD_eq_getElem?_getD, List.getElem?_eq_none (by rw [hok.1]; omega)]
      exact (by decide : (0 : Int) ≤ 5)
  have hst : ∀ i, i < rows.length → ∀ cols, cover_Latin_L1 n rows (cols, (i : Int)) = cover_Latin_J3 n rows cols (i : Int) := fun i hi cols => by
    simp only [cover_Latin_L1]
    rw [if_pos (decide_eq_true (by omega))]
  have m := walk_loop (step := cover_Latin_L1 n rows) (fun i => (colsAt n (rows.take i) [], (i : Int))) (fun i => okP n (rows.take i) (geti2 rows (i : Int))) rows.length (.ret (0, 1)) (.go (colsAt n rows [])) (fun i hi hp hP => by
    rw [hst i hi]
    unfold cover_Latin_J3 cover_Latin_J5
    rw [asrt_pos (by omega)]
    by_cases hlen : (geti2 rows (i : Int)).length = n
    · rw [if_neg (by simp [hlen]), (rowP_loop h5 hi (hrs i hi hp) hlen).2 (fun h => hP ⟨hlen, h⟩)]; rfl
    · rw [if_pos (by simp; omega)]) (fun i hi hp hP => by
    rw [hst i hi]
    unfold cover_Latin_J3 cover_Latin_J5
    rw [asrt_pos (by omega), if_neg (by simp [hP.1]), (rowP_loop h5 hi (hrs i hi hp) hP.1).1 hP.2, Option.bind_some]
    simp only [cover_Latin_K2, cover_Latin_J4]
    rw [w64_of (by omega)]; rfl) (fun _ => by
    simp only [cover_Latin_L1]
    rw [if_neg (by simp), List.take_length])
  have e0 : colsAt n (rows.take 0) [] = List.replicate (Int.toNat (n : Int)) 0 := by
    show colsAt n [] [] = _
    rw [colsAt_zero, Int.toNat_natCast]
  simp only [e0] at m
  exact m

theorem copied_p {l : List (List Int)} (hl : l.length ≤ 5864062014634) (hb : ∀ r ∈ l, r.length ≤ 17592186043904) : gameroomlaw_copied_m l = some l := by
  unfold gameroomlaw_copied_m
  have h : loop (gameroomlaw_copied_L1 l) (([] : List (List Int)), 0) = some l := by
    refine loop_from (f := fun i => (l.take i, (i : Int))) l.length (by simp) (fun i hi => ?_) ?_
    · have hbl := hb _ (List.mem_of_getElem? (get_geti2 hi))
      simp only [gameroomlaw_copied_L1]
      rw [if_pos (decide_eq_true (by omega))]
      unfold gameroomlaw_copied_J2 gameroomlaw_ints_m gameroomlaw_copied_J3
      rw [asrt_pos (by omega), asrt_pos (by unfold bigN; omega), Option.bind_some, List.length_take, asrt_pos (by unfold bigR; omega), w64_of (by omega), List.nil_append, take_next hi]; rfl
    · simp only [gameroomlaw_copied_L1]
      rw [if_neg (by simp), List.take_length]
  rw [h]; rfl

theorem latin_law (m : Int) {given : List (List Int)} (hb : ∀ r ∈ given, r.length ≤ 17592186043904) :
    ∃ r4 : Int × Int, ∃ r5 : Int, cover_Latin_m m given = some r4 ∧ gameroomref_LatinMay_m m given = some r5 ∧ (r5 ≠ 0 → r4 = (0, r5)) ∧ (r5 = 0 → r4.2 = 0 ∧ gameroomref_LatinOf_m m given = some r4.1) := by
  by_cases h : (m < 1 ∨ 5 < m) ∨ m < (given.length : Int)
  · refine ⟨(0, 3), 3, ?_, ?_, fun _ => rfl, fun h => by omega⟩
    · unfold cover_Latin_m
      rw [if_pos (by simpa using h)]
    · unfold gameroomref_LatinMay_m gameroomref_within_m
      rw [Option.bind_some, if_pos]
      simp only [Bool.or_eq_true, Bool.not_eq_true', Bool.and_eq_false_iff, decide_eq_true_eq, decide_eq_false_iff_not]
      omega
  · obtain ⟨n, rfl⟩ : ∃ n : Nat, m = (n : Int) := ⟨m.toNat, by omega⟩
    have h1 : 1 ≤ n := by omega
    have h5 : n ≤ 5 := by omega
    have hl : given.length ≤ n := by omega
    have hc : cover_Latin_m n given = (loop (cover_Latin_L1 n given) (List.replicate (Int.toNat (n : Int)) 0, 0)).bind (cover_Latin_K1 n given) := by
      unfold cover_Latin_m cover_Latin_J1
      rw [if_neg (by simpa using h), asrt_pos (by unfold bigN; omega)]
    have hmay := may_r h1 h5 hl hb
    have hchk := check_p h1 h5 hl
    by_cases hok : ∀ i, i < given.length → okP n (given.take i) (geti2 given (i : Int))
    · have hokD : ∀ i, i < given.length → okD n (given.take i) (geti2 given (i : Int)) := fun i hi => ok_iff.2 (hok i hi)
      have hlens : ∀ r ∈ given, r.length = n := fun r hr => by
        obtain ⟨k, hk, rfl⟩ := (mem_take2 (Nat.le_refl _)).1 (by rw [List.take_length]; exact hr)
        exact (hok k hk).1
      have hvals : ∀ r ∈ given, ∀ x : Nat, geti r (x : Int) ≤ 5 := fun r hr x => by
        obtain ⟨k, hk, rfl⟩ := (mem_take2 (Nat.le_refl _)).1 (by rw [List.take_length]; exact hr)
        by_cases hx : x < n
        · have := ((hok k hk).2 x hx).1
          omega
        · rw [geti_nat, List.getD_eq_getElem?_getD, List.getElem?_eq_none (by rw [(hok k hk).1]; omega)]
          exact (by decide : (0 : Int) ≤ 5)
      have hnn : n * n ≤ 25 := Nat.mul_le_mul h5 h5
      have hln : given.length * n ≤ n * n := Nat.mul_le_mul_right _ hl
      have hw : w64 ((given.length : Int) * (n : Int)) = ((given.length * n : Nat) : Int) := by
        rw [← Int.natCast_mul]
        exact w64_of (by omega)
      have hlat := lat_p h1 h5 (n * n - given.length * n) given [] 0 hvals (by simp) (by show 0 < n; omega) (by simp only [List.length_nil]; omega) (by unfold freeR; simp) (fun h => absurd rfl h) (by omega)
      have hM := cover_Latin_1_m_of _ _ _ _ _ hlat
      have hlv : lv n given [] = lt n (n - given.length) given := by
        unfold lv
        by_cases he : given.length = n
        · rw [if_pos he, he, Nat.sub_self]; rfl
        · rw [if_neg he, show n - given.length = (n - given.length - 1) + 1 by omega, lt_dfs, Nat.add_sub_cancel]; rfl
      refine ⟨(((lv n given [] : Nat) : Int), 0), 0, ?_, hmay.1 hokD, fun h => absurd rfl h, fun _ => ⟨rfl, ?_⟩⟩
      · rw [hc, hchk.1 hok, Option.bind_some]
        simp only [cover_Latin_K1, cover_Latin_J2]
        rw [hw]
        have hM' : cover_Latin_1_m ((given.length * n : Nat) : Int) 0 n (colsAt n given []) = some (((lv n given [] : Nat) : Int), colsAt n given []) := hM
        rw [hM']; rfl
      · rw [hlv]
        exact gameroomref_LatinOf_m_of _ _ _ (latin_r h5 (n - given.length) given (by omega) hlens)
    · have hokD : ¬ ∀ i, i < given.length → okD n (given.take i) (geti2 given (i : Int)) := fun hd => hok (fun i hi => ok_iff.1 (hd i hi))
      refine ⟨(0, 1), 1, ?_, hmay.2 hokD, fun _ => rfl, fun h => by omega⟩
      rw [hc, hchk.2 hok]; rfl

theorem true_CoverSquares (x0 x1 : Int) (x2 : List (List Int)) (_h0 : inI x0) (_h1 : inI x1) (h2 : x2.length ≤ 5864062014634) (h2' : ∀ r ∈ x2, r.length ≤ 17592186043904 ∧ ∀ x ∈ r, inI x) :
    gameroomlaw_CoverSquares_m x0 x1 x2 = some true := by
  have hb : ∀ r ∈ x2, r.length ≤ 17592186043904 := fun r hr => (h2' r hr).1
  have hJ : gameroomlaw_CoverSquares_J1 x1 x2 = some true := by
    unfold gameroomlaw_CoverSquares_J1
    by_cases h5 : (x1 == 5 && ((x2.length : Int) == 0)) = true
    · rw [if_pos h5]
    · rw [if_neg h5]
      unfold gameroomlaw_CoverSquares_J2
      obtain ⟨r4, r5, e4, e5, hn, hz⟩ := latin_law x1 hb
      rw [copied_p h2 hb, Option.bind_some, e4, Option.bind_some, e5, Option.bind_some]
      by_cases h : r5 = 0
      · obtain ⟨z1, z2⟩ := hz h
        rw [if_neg (by simp [h])]
        unfold gameroomlaw_CoverSquares_J3
        rw [if_pos (by rw [z1]; rfl), z2, Option.bind_some, z1]
        simp
      · have e := hn h
        rw [if_pos (by simpa using h), e]
        simp
  obtain ⟨r1, e1, hq⟩ := queens_law x0
  unfold gameroomlaw_CoverSquares_m
  rw [e1, Option.bind_some]
  rcases hq with ⟨ho, rfl⟩ | ⟨ho, q, rfl, eq⟩
  · rw [if_pos (by simpa using ho), if_neg (by decide)]
    exact hJ
  · rw [if_neg (by simp; omega), if_pos (by simp), eq, Option.bind_some, if_neg (by simp)]
    exact hJ
end Go.Proofs.Ytlpaklmfgldkoaa
