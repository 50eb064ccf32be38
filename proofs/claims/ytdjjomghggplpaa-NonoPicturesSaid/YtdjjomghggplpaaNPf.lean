/-
  Pictures: the program's search, and the document's.
-/
import Derived.Test.YtdjjomghggplpaaNPe
import Derived.Test.YtdjjomghggplpaaLibK
namespace Go.Proofs.Ytdjjomghggplpaa
open Go Go.GL

theorem rsame_p {a b : List Int} (ha : a.length ≤ 17592186044416) : gameroomref_sameInts_m a b = some (decide (a = b)) := by
  unfold gameroomref_sameInts_m
  by_cases hl : a.length = b.length
  · rw [if_neg (by rw [hl]; simp)]
    unfold gameroomref_sameInts_J1
    obtain ⟨r, e, hr⟩ := count_loop (step := gameroomref_sameInts_L1 a b) (fun (_ : Unit) (i : Nat) => (i : Int)) (fun i _ => ∀ j : Nat, j < i → geti a (j : Int) = geti b (j : Int)) (fun r => (r = .go () ∧ a = b) ∨ (r = .ret false ∧ a ≠ b)) a.length () (fun j hj => by omega) (by
      intro i _ hi hI
      simp only [gameroomref_sameInts_L1, gameroomref_sameInts_J3, gameroomref_sameInts_J4]
      rw [if_pos (decide_eq_true (by omega)), asrt_pos (by omega), asrt_pos (by omega)]
      by_cases q : geti a (i : Int) = geti b (i : Int)
      · left
        refine ⟨(), by rw [if_neg (by simp [q]), w64_of (by omega)]; rfl, fun j hj => ?_⟩
        by_cases e : j = i
        · rw [e]; exact q
        · exact hI j (by omega)
      · right
        exact ⟨_, by rw [if_pos (by rw [bne_iff_ne]; exact q)], Or.inr ⟨rfl, fun e => q (by rw [e])⟩⟩) (by
      intro _ hI
      refine ⟨.go (), ?_, Or.inl ⟨rfl, ext_geti hl hI⟩⟩
      simp only [gameroomref_sameInts_L1]
      rw [if_neg (by simp)])
    have e' : loop (gameroomref_sameInts_L1 a b) 0 = some r := e
    rw [e', Option.bind_some]
    rcases hr with ⟨rfl, h⟩ | ⟨rfl, h⟩
    · rw [decide_eq_true h]; rfl
    · rw [decide_eq_false h]; rfl
  · rw [if_pos (by simp; omega), decide_eq_false (fun e => hl (by rw [e]))]

theorem index_p (l : List Int) (v : Int) (hl : l.length ≤ 1000000) : ∃ r, slices_Index_m l v = some r ∧ ((∃ i : Nat, r = (i : Int) ∧ i < l.length ∧ geti l (i : Int) = v) ∨ (r = -1 ∧ ∀ j : Nat, j < l.length → geti l (j : Int) ≠ v)) := by
  unfold slices_Index_m
  obtain ⟨r, e, hr⟩ := count_loop (step := slices_Index_L1 l v) (fun (_ : Unit) (i : Nat) => (i : Int)) (fun i _ => ∀ j : Nat, j < i → geti l (j : Int) ≠ v) (fun r => (∃ i : Nat, r = .ret (i : Int) ∧ i < l.length ∧ geti l (i : Int) = v) ∨ (r = .go () ∧ ∀ j : Nat, j < l.length → geti l (j : Int) ≠ v)) l.length () (fun j hj => by omega) (by
    intro i _ hi hI
    simp only [slices_Index_L1, slices_Index_J2, slices_Index_J3]
    rw [if_pos (decide_eq_true (by omega)), asrt_pos (by omega)]
    by_cases q : v = geti l (i : Int)
    · right
      exact ⟨_, by rw [if_pos (by rw [beq_iff_eq]; exact q)], Or.inl ⟨i, rfl, hi, q.symm⟩⟩
    · left
      refine ⟨(), by rw [if_neg (by rw [beq_iff_eq]; exact q), w64_of (by omega)]; rfl, fun j hj => ?_⟩
      by_cases e : j = i
      · rw [e]; exact fun z => q z.symm
      · exact hI j (by omega)) (by
    intro _ hI
    refine ⟨.go (), ?_, Or.inr ⟨rfl, hI⟩⟩
    simp only [slices_Index_L1]
    rw [if_neg (by simp)])
  have e' : loop (slices_Index_L1 l v) 0 = some r := e
  rw [e', Option.bind_some]
  rcases hr with ⟨i, rfl, h1, h2⟩ | ⟨rfl, h⟩
  · exact ⟨_, rfl, .inl ⟨i, rfl, h1, h2⟩⟩
  · exact ⟨_, rfl, .inr ⟨rfl, h⟩⟩

theorem mr_app (a b : Nat) (f g : Nat → Int) : mr a f ++ mr b g = mr (a + b) (fun j => if j < a then f j else g (j - a)) := by
  apply List.ext_getElem?
  intro j
  by_cases h1 : j < a
  · rw [List.getElem?_append_left (by rw [mr_length]; exact h1), mr_get h1, mr_get (by omega), if_pos h1]
  · rw [List.getElem?_append_right (by rw [mr_length]; omega), mr_length]
    by_cases h2 : j - a < b
    · rw [mr_get h2, mr_get (by omega), if_neg h1]
    · rw [List.getElem?_eq_none (by rw [mr_length]; omega), List.getElem?_eq_none (by rw [mr_length]; omega)]

section
variable {h w : Nat} {c d : Nat → Nat → Int}

theorem copied_p {a b : List (List Int)} (hh : h ≤ 6) (hw : w ≤ 6) : nono_picture_copied_m a b (cellsOf h w c) = some (cellsOf h w c) := by
  unfold nono_picture_copied_m
  have key := loop_from (step := nono_picture_copied_L1 (cellsOf h w c)) (s0 := (([] : List (List Int)), 0)) (r := cellsOf h w c) (fun i => (tab i (rowL w c), (i : Int))) h rfl (by
    intro i hi
    have e1 : ∀ l : List (List Int), nono_picture_copied_L1 (cellsOf h w c) (l, (i : Int)) = nono_picture_copied_J2 (cellsOf h w c) l (i : Int) := fun l => if_pos (decide_eq_true (by rw [cells_len]; omega))
    rw [e1]
    unfold nono_picture_copied_J2 nono_picture_copied_J3
    rw [asrt_pos (by rw [cells_len]; omega), cells_at hi, clone_p (by rw [rowL_len]; omega), Option.bind_some, asrt_pos (by rw [tab_length]; unfold bigR; omega), w64_of (by omega), tab_snoc]
    rfl) (by
    simp only [nono_picture_copied_L1]
    rw [if_neg (by rw [cells_len]; simp)]; rfl)
  rw [key]; rfl

theorem grow_p {n : Int} (h0 : 0 ≤ n) (h1 : n ≤ 1000000) : slices_Grow_2_m n = some [] := by
  unfold slices_Grow_2_m slices_Grow_2_J1 slices_Grow_2_J2
  have e : w64 (n - w64 (0 - 0)) = n := by rw [w64_of (x := 0 - 0) (by omega), w64_of (by omega)]; omega
  rw [if_neg (by rw [decide_eq_true_eq]; omega), e]
  by_cases q : 0 < n
  · rw [if_pos (decide_eq_true q), asrt_pos (by unfold bigN; omega), asrt_pos (by omega)]
    simp [cut]
  · rw [if_neg (by rw [decide_eq_true_eq]; exact q)]

theorem concat_p (hh : h ≤ 6) (hw : w ≤ 6) : slices_Concat_2_m (cellsOf h w c) = some (flatG h w c) := by
  unfold slices_Concat_2_m
  have hb : ∀ i, i ≤ h → i * w ≤ 36 := fun i hi => Nat.le_trans (Nat.mul_le_mul (Nat.le_trans hi hh) hw) (by omega)
  have k1 := loop_from (step := slices_Concat_2_L1 (cellsOf h w c)) (s0 := (0, 0)) (r := ((h * w : Nat) : Int)) (fun i => (((i * w : Nat) : Int), (i : Int))) h (by simp) (by
    intro i hi
    have e1 : ∀ x : Int, slices_Concat_2_L1 (cellsOf h w c) (x, (i : Int)) = slices_Concat_2_J2 (cellsOf h w c) x (i : Int) := fun x => if_pos (decide_eq_true (by rw [cells_len]; omega))
    have hb1 := hb (i + 1) hi
    have e2 : (i + 1) * w = i * w + w := by rw [Nat.add_mul, Nat.one_mul]
    rw [e1]
    unfold slices_Concat_2_J2 slices_Concat_2_J3
    rw [asrt_pos (by rw [cells_len]; omega), cells_at hi, rowL_len, w64_of (by omega), if_neg (by rw [decide_eq_true_eq]; omega), w64_of (by omega), e2]
    rfl) (by
    simp only [slices_Concat_2_L1]
    rw [if_neg (by rw [cells_len]; simp)])
  rw [k1, Option.bind_some]
  simp only [slices_Concat_2_K1]
  unfold slices_Concat_2_J1
  rw [grow_p (by omega) (by have := hb h (Nat.le_refl _); omega), Option.bind_some]
  have k2 := loop_from (step := slices_Concat_2_L2 (cellsOf h w c)) (s0 := (([] : List Int), 0)) (r := flatG h w c) (fun i => (mr (i * w) (fun j => c (j / w) (j % w)), (i : Int))) h (by simp [mr]) (by
    intro i hi
    have e1 : ∀ x : List Int, slices_Concat_2_L2 (cellsOf h w c) (x, (i : Int)) = slices_Concat_2_J5 (cellsOf h w c) x (i : Int) := fun x => if_pos (decide_eq_true (by rw [cells_len]; omega))
    have hb1 := hb (i + 1) hi
    have e2 : (i + 1) * w = i * w + w := by rw [Nat.add_mul, Nat.one_mul]
    rw [e1]
    unfold slices_Concat_2_J5 slices_Concat_2_J6
    rw [asrt_pos (by rw [cells_len]; omega), cells_at hi, asrt_pos (by rw [rowL_len, mr_length]; unfold bigN; omega), w64_of (by omega)]
    have hx : mr (i * w) (fun j => c (j / w) (j % w)) ++ rowL w c i = mr ((i + 1) * w) (fun j => c (j / w) (j % w)) := by
      rw [rowL, mr_app, e2]
      refine mr_congr fun j hj => ?_
      by_cases q : j < i * w
      · rw [if_pos q]
      · rw [if_neg q]
        obtain ⟨_, a, b⟩ := join_ix (h := i + 1) (w := w) (y := i) (x := j - i * w) (by omega) (by omega)
        have e3 : i * w + (j - i * w) = j := by omega
        rw [e3] at a b
        rw [a, b]
    rw [hx]; rfl) (by
    simp only [slices_Concat_2_L2]
    rw [if_neg (by rw [cells_len]; simp)]; rfl)
  rw [k2]; rfl
end

/-- What a search tells. -/
structure foundG (rows cols : List (List Int)) (c : Nat → Nat → Int) (l : List Int) : Prop where
  len : l.length = rows.length * cols.length
  full : fullL l
  le : leG rows.length cols.length c (gridOf cols.length l)
  good : goodG rows.length cols.length (RR rows) (RR cols) (gridOf cols.length l)

section
variable {rows cols : List (List Int)}

theorem cells_upd {h w : Nat} {c : Nat → Nat → Int} {y x : Nat} (hy : y < h) {v : Int} : (cellsOf h w c).set y ((geti2 (cellsOf h w c) (y : Int)).set x v) = cellsOf h w (updG c y x v) := by
  rw [cells_at hy, rowL, mr_set, cells_set]
  refine cells_congr fun y' x' _ _ => ?_
  unfold updG
  by_cases e : y' = y
  · subst e
    rw [if_pos rfl]
    by_cases e2 : x' = x
    · rw [if_pos e2, if_pos ⟨rfl, e2⟩]
    · rw [if_neg e2, if_neg (fun z => e2 z.2)]
  · rw [if_neg e, if_neg (fun z => e z.1)]

theorem solve_F (k : PicOk rows cols) : ∀ (N : Nat) (c : Nat → Nat → Int) (most : Nat), okG rows.length cols.length c → unk rows.length cols.length c < N → 1 ≤ most → most ≤ 1000 →
    ∃ (n : Nat) (last : List Int) (q : List (List Int)), nono_picture_solve_2_mF N rows cols (cellsOf rows.length cols.length c) (most : Int) = some ((n : Int), last, q) ∧ n = min most (solN rows.length cols.length (RR rows) (RR cols) c) ∧ (0 < n → foundG rows cols c last)
  | 0, _, _, _, h, _, _ => by omega
  | N + 1, c, most, hok, hN, hm1, hm2 => by
    have h6 := k.h6
    have w6 := k.w6
    show ∃ (n : Nat) (last : List Int) (q : List (List Int)), nono_picture_solve_2_B (nono_picture_solve_2_mF N) rows cols (cellsOf rows.length cols.length c) (most : Int) = _ ∧ _
    unfold nono_picture_solve_2_B
    obtain ⟨ok, q, c', hp, hs, hok', hq⟩ := push_p k hok
    rw [hp, Option.bind_some]
    dsimp only
    cases ok with
    | false =>
      refine ⟨0, [], q, by rw [if_pos (by decide)]; rfl, ?_, fun z => by omega⟩
      rw [solN_none k.rok k.cok hs]; omega
    | true =>
      obtain ⟨hle, hfix, hlow⟩ := hs.1 rfl
      have hq' := hq rfl
      subst hq'
      rw [if_neg (by decide), solN_push k.rok k.cok hs]
      unfold nono_picture_solve_2_J1
      have hul := unk_le hle
      -- the first open place
      have key := count_loop (step := nono_picture_solve_2_L1 (nono_picture_solve_2_mF N) rows cols (cellsOf rows.length cols.length c) (most : Int) (cellsOf rows.length cols.length c')) (fun (_ : Unit) (i : Nat) => (i : Int))
        (fun i _ => ∀ y x, y < i → x < cols.length → c' y x ≠ -1)
        (fun r => (r = .go () ∧ ∀ y x, y < rows.length → x < cols.length → c' y x ≠ -1) ∨ ∃ (n : Nat) (last : List Int) (q : List (List Int)), r = .ret ((n : Int), last, q) ∧ n = min most (solN rows.length cols.length (RR rows) (RR cols) c') ∧ (0 < n → foundG rows cols c' last))
        rows.length () (fun y x hy => by omega) ?_ ?_
      · obtain ⟨r, hr, hz⟩ := key
        have hr' : loop (nono_picture_solve_2_L1 (nono_picture_solve_2_mF N) rows cols (cellsOf rows.length cols.length c) (most : Int) (cellsOf rows.length cols.length c')) 0 = some r := hr
        rw [hr', Option.bind_some]
        rcases hz with ⟨rfl, hz⟩ | ⟨n, last, q, rfl, h1, h2⟩
        · simp only [nono_picture_solve_2_K1]
          unfold nono_picture_solve_2_J2
          rw [concat_p h6 w6, Option.bind_some]
          have hg := hfix.good hz
          refine ⟨1, _, _, rfl, by rw [solN_full hg]; omega, fun _ => ⟨flatG_len, flatG_full hg.full, hle.trans fun y x hy hx => .inr (gridOf_flat y x hy hx).symm, hg.congr fun y x hy hx => (gridOf_flat y x hy hx).symm⟩⟩
        · exact ⟨n, last, q, rfl, h1, fun z => ⟨(h2 z).len, (h2 z).full, hle.trans (h2 z).le, (h2 z).good⟩⟩
      · rintro y - hy hI
        have e1 : nono_picture_solve_2_L1 (nono_picture_solve_2_mF N) rows cols (cellsOf rows.length cols.length c) (most : Int) (cellsOf rows.length cols.length c') (y : Int) = nono_picture_solve_2_J3 (nono_picture_solve_2_mF N) rows cols (cellsOf rows.length cols.length c) (most : Int) (cellsOf rows.length cols.length c') (y : Int) := if_pos (decide_eq_true (by rw [cells_len]; omega))
        rw [e1]
        unfold nono_picture_solve_2_J3
        obtain ⟨r, hr, hz⟩ := index_p (rowL cols.length c' y) (-1) (by rw [rowL_len]; omega)
        rw [asrt_pos (by rw [cells_len]; omega), cells_at hy, hr, Option.bind_some]
        rcases hz with ⟨x, rfl, hx, hv⟩ | ⟨rfl, hz⟩
        · right
          rw [rowL_len] at hx
          have hopen : c' y x = -1 := by rw [← hv]; exact (mr_geti hx).symm
          rw [if_neg (by rw [decide_eq_true_eq]; omega)]
          unfold nono_picture_solve_2_J5
          have hu : ∀ v : Int, (v = 0 ∨ v = 1) → unk rows.length cols.length (updG c' y x v) < N := fun v hvv => by
            have := unk_lt (updG_le (h := rows.length) (w := cols.length) hopen (v := v)) (fun he => by
              have := he y x hy hx
              unfold updG at this
              rw [if_pos ⟨rfl, rfl⟩, hopen] at this
              omega)
            omega
          have hok2 : ∀ v : Int, (v = 0 ∨ v = 1) → okG rows.length cols.length (updG c' y x v) := fun v hvv y' x' hy' hx' => by
            unfold updG
            by_cases e : y' = y ∧ x' = x
            · rw [if_pos e]; exact .inr hvv
            · rw [if_neg e]; exact hok' y' x' hy' hx'
          have rec1 : ∀ (v : Nat) (many : Nat) (last : List Int), v < 2 → many < most → ∃ (n : Nat) (l' : List Int), nono_picture_solve_2_L2 (nono_picture_solve_2_mF N) rows cols (most : Int) (cellsOf rows.length cols.length c') (y : Int) (x : Int) ((many : Int), last, (v : Int)) = some (.next (((many + n : Nat) : Int), if 0 < n then l' else last, ((v + 1 : Nat) : Int))) ∧ n = min (most - many) (solN rows.length cols.length (RR rows) (RR cols) (updG c' y x (v : Int))) ∧ (0 < n → foundG rows cols c' l') := by
            intro v many last hv2 hmm
            have hvv : (v : Int) = 0 ∨ (v : Int) = 1 := by omega
            obtain ⟨n, l', q, hrec, hn, hl⟩ := solve_F k N (updG c' y x (v : Int)) (most - many) (hok2 _ hvv) (hu _ hvv) (by omega) (by omega)
            have e2 : nono_picture_solve_2_L2 (nono_picture_solve_2_mF N) rows cols (most : Int) (cellsOf rows.length cols.length c') (y : Int) (x : Int) ((many : Int), last, (v : Int)) = nono_picture_solve_2_J7 (nono_picture_solve_2_mF N) rows cols (most : Int) (cellsOf rows.length cols.length c') (y : Int) (x : Int) (many : Int) last (v : Int) := if_pos (decide_eq_true (by omega))
            rw [e2]
            unfold nono_picture_solve_2_J7
            rw [if_neg (by rw [decide_eq_true_eq]; omega)]
            unfold nono_picture_solve_2_J9
            rw [copied_p h6 w6, Option.bind_some, asrt_pos (by rw [cells_len]; omega), asrt_pos (by rw [cells_at hy, rowL_len]; omega), Int.toNat_natCast, Int.toNat_natCast, cells_upd hy, w64_of (x := (most : Int) - many) (by omega), show (most : Int) - (many : Int) = ((most - many : Nat) : Int) by omega, hrec, Option.bind_some]
            dsimp only
            unfold nono_picture_solve_2_J8
            refine ⟨n, l', ?_, hn, fun z => ⟨(hl z).len, (hl z).full, (updG_le hopen).trans (hl z).le, (hl z).good⟩⟩
            by_cases z : 0 < n
            · rw [if_pos (decide_eq_true (by omega)), if_pos z, w64_of (by omega), w64_of (by omega)]; rfl
            · rw [if_neg (by rw [decide_eq_true_eq]; omega), if_neg z, w64_of (by omega), show many + n = many by omega]; rfl
          obtain ⟨n0, l0, r0, hn0, hl0⟩ := rec1 0 0 [] (by omega) (by omega)
          have hsp := solN_split (R := RR rows) (C := RR cols) hy hx hopen
          have done : ∀ (many : Nat) (last : List Int) (z : Int), (many : Int) ≥ most ∨ z = 2 → nono_picture_solve_2_L2 (nono_picture_solve_2_mF N) rows cols (most : Int) (cellsOf rows.length cols.length c') (y : Int) (x : Int) ((many : Int), last, z) = some (.done ((many : Int), last)) := by
            intro many last z hz
            by_cases z2 : z < 2
            · have e2 : nono_picture_solve_2_L2 (nono_picture_solve_2_mF N) rows cols (most : Int) (cellsOf rows.length cols.length c') (y : Int) (x : Int) ((many : Int), last, z) = nono_picture_solve_2_J7 (nono_picture_solve_2_mF N) rows cols (most : Int) (cellsOf rows.length cols.length c') (y : Int) (x : Int) (many : Int) last z := if_pos (decide_eq_true z2)
              rw [e2]
              unfold nono_picture_solve_2_J7
              rw [if_pos (decide_eq_true (by omega))]
            · exact if_neg (by rw [decide_eq_true_eq]; exact z2)
          have fin : ∃ (n : Nat) (last : List Int), loop (nono_picture_solve_2_L2 (nono_picture_solve_2_mF N) rows cols (most : Int) (cellsOf rows.length cols.length c') (y : Int) (x : Int)) (0, ([] : List Int), 0) = some ((n : Int), last) ∧ n = min most (solN rows.length cols.length (RR rows) (RR cols) c') ∧ (0 < n → foundG rows cols c' last) := by
            have s0 : solN rows.length cols.length (RR rows) (RR cols) (updG c' y x ((0 : Nat) : Int)) = solN rows.length cols.length (RR rows) (RR cols) (updG c' y x 0) := rfl
            have s1 : solN rows.length cols.length (RR rows) (RR cols) (updG c' y x ((1 : Nat) : Int)) = solN rows.length cols.length (RR rows) (RR cols) (updG c' y x 1) := rfl
            rw [s0] at hn0
            have r0' : nono_picture_solve_2_L2 (nono_picture_solve_2_mF N) rows cols (most : Int) (cellsOf rows.length cols.length c') (y : Int) (x : Int) (0, ([] : List Int), 0) = some (.next (((0 + n0 : Nat) : Int), if 0 < n0 then l0 else [], ((0 + 1 : Nat) : Int))) := r0
            by_cases hm : most ≤ n0
            · refine ⟨0 + n0, if 0 < n0 then l0 else [], loop_next' r0' (loop_done (done _ _ _ (.inl (by omega)))), by omega, fun z => ?_⟩
              rw [if_pos (by omega)]
              exact hl0 (by omega)
            · obtain ⟨n1, l1, r1, hn1, hl1⟩ := rec1 1 (0 + n0) (if 0 < n0 then l0 else []) (by omega) (by omega)
              rw [s1] at hn1
              refine ⟨0 + n0 + n1, if 0 < n1 then l1 else (if 0 < n0 then l0 else []), loop_next' r0' (loop_next' r1 (loop_done (done _ _ _ (.inr rfl)))), by omega, fun z => ?_⟩
              by_cases z1 : 0 < n1
              · rw [if_pos z1]; exact hl1 z1
              · rw [if_neg z1, if_pos (by omega)]; exact hl0 (by omega)
          obtain ⟨n, last, hl, hn, hf⟩ := fin
          rw [hl, Option.bind_some]
          simp only [nono_picture_solve_2_K2]
          unfold nono_picture_solve_2_J6
          exact ⟨_, rfl, Or.inr ⟨n, last, _, rfl, hn, hf⟩⟩
        · left
          rw [if_pos (by decide)]
          unfold nono_picture_solve_2_J4
          rw [w64_of (by omega)]
          refine ⟨(), rfl, fun y' x hy' hx => ?_⟩
          by_cases e : y' = y
          · subst e
            have := hz x (by rw [rowL_len]; exact hx)
            rw [rowL, mr_geti hx] at this
            exact this
          · exact hI y' x (by omega) hx
      · rintro - hI
        refine ⟨.go (), ?_, Or.inl ⟨rfl, hI⟩⟩
        simp only [nono_picture_solve_2_L1]
        rw [if_neg (by rw [cells_len]; simp)]

theorem solve_p (k : PicOk rows cols) {c : Nat → Nat → Int} {most : Nat} (hok : okG rows.length cols.length c) (h1 : 1 ≤ most) (h2 : most ≤ 1000) :
    ∃ (n : Nat) (last : List Int) (q : List (List Int)), nono_picture_solve_2_m rows cols (cellsOf rows.length cols.length c) (most : Int) = some ((n : Int), last, q) ∧ n = min most (solN rows.length cols.length (RR rows) (RR cols) c) ∧ (0 < n → foundG rows cols c last) := by
  obtain ⟨n, last, q, h, r⟩ := solve_F k (unk rows.length cols.length c + 1) c most hok (by omega) h1 h2
  exact ⟨n, last, q, nono_picture_solve_2_m_of _ _ _ _ _ h, r⟩
end
end Go.Proofs.Ytdjjomghggplpaa
