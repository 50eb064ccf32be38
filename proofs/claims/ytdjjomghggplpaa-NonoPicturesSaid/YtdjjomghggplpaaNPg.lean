/-
  Pictures: the document's search, row by row.
-/
import Derived.Test.YtdjjomghggplpaaNPf
namespace Go.Proofs.Ytdjjomghggplpaa
open Go Go.GL

theorem sumN_le (f : Nat → Nat) {a : Nat} : ∀ {b : Nat}, a ≤ b → sumN f a ≤ sumN f b
  | 0, h => by have : a = 0 := by omega
               subst this; exact Nat.le_refl _
  | b + 1, h => by
    by_cases e : a = b + 1
    · rw [e]; exact Nat.le_refl _
    · have := sumN_le f (a := a) (b := b) (by omega)
      show sumN f a ≤ sumN f b + f b
      omega

theorem row_p {w k : Nat} (hw : w ≤ 6) (hk : k < 2 ^ w) (cols : List (List Int)) (hc : cols.length = w) : loop (gameroomref_PictureOf_2_L4 cols (k : Int)) (([] : List Int), 0) = some (bitsL w k) := by
  have h64 : 2 ^ w ≤ 2 ^ 6 := Nat.pow_le_pow_right (by omega) hw
  refine loop_from (fun i => (mr i (fun x => ((k / 2 ^ x % 2 : Nat) : Int)), (i : Int))) w rfl (fun i hi => ?_) ?_
  · have e1 : ∀ l : List Int, gameroomref_PictureOf_2_L4 cols (k : Int) (l, (i : Int)) = gameroomref_PictureOf_2_J12 (k : Int) l (i : Int) := fun l => if_pos (decide_eq_true (by omega))
    have hkk : k / 2 ^ i ≤ k := Nat.div_le_self _ _
    rw [e1]
    unfold gameroomref_PictureOf_2_J12 gameroomref_PictureOf_2_J13
    rw [asrt_pos (by omega), asrt_pos (by rw [mr_length]; unfold bigN; omega), shr_nat k i (by omega), band1 _ (by omega), w64_of (by omega), mr_snoc i (fun x => ((k / 2 ^ x % 2 : Nat) : Int))]
    rfl
  · simp only [gameroomref_PictureOf_2_L4]
    rw [if_neg (by rw [hc]; simp)]; rfl

section
variable {rows cols : List (List Int)}

theorem tdiv_nat (a b : Nat) : Int.tdiv (a : Int) (b : Int) = ((a / b : Nat) : Int) := rfl

theorem colLine_p (k : PicOk rows cols) {b : List Int} {y : Nat} (hy : y ≤ rows.length) (hb : b.length = y * cols.length) {x : Nat} (hx : x < cols.length) :
    loop (gameroomref_PictureOf_2_L2 rows cols b (x : Int)) (([] : List Int), 0) = some (colL rows.length (cB cols.length b) x) := by
  have h6 := k.h6
  have w6 := k.w6
  have hb36 : y * cols.length ≤ 36 := Nat.le_trans (Nat.mul_le_mul (Nat.le_trans hy h6) w6) (by omega)
  have hdiv : w64 (Int.tdiv (b.length : Int) (cols.length : Int)) = (y : Int) := by rw [tdiv_nat, hb, Nat.mul_div_cancel _ (by omega), w64_of (by omega)]
  refine loop_from (fun i => (mr i (fun y => cB cols.length b y x), (i : Int))) rows.length rfl (fun i hi => ?_) ?_
  · have e1 : ∀ l : List Int, gameroomref_PictureOf_2_L2 rows cols b (x : Int) (l, (i : Int)) = gameroomref_PictureOf_2_J5 cols b (x : Int) l (i : Int) := fun l => if_pos (decide_eq_true (by omega))
    rw [e1]
    unfold gameroomref_PictureOf_2_J5 gameroomref_PictureOf_2_J6
    rw [hdiv]
    by_cases e : i < y
    · obtain ⟨hj, _, _⟩ := join_ix (h := y) e hx
      have e2 : (i : Int) * (cols.length : Int) = ((i * cols.length : Nat) : Int) := by simp
      have hpos : i * cols.length + x < b.length := by omega
      rw [if_pos (decide_eq_true (by omega)), e2, w64_of (x := ((i * cols.length : Nat) : Int)) (by omega), w64_of (x := ((i * cols.length : Nat) : Int) + x) (by omega), asrt_pos (by omega), asrt_pos (by rw [mr_length]; unfold bigN; omega), w64_of (by omega)]
      have hg : geti b (((i * cols.length : Nat) : Int) + (x : Int)) = cB cols.length b i x := by
        unfold cB
        rw [if_pos hpos, show ((i * cols.length : Nat) : Int) + (x : Int) = ((i * cols.length + x : Nat) : Int) by omega, geti_nat]
      rw [hg, mr_snoc i (fun y => cB cols.length b y x)]
      rfl
    · have hn : ¬ i * cols.length + x < b.length := by
        have : y * cols.length ≤ i * cols.length := Nat.mul_le_mul_right _ (by omega)
        omega
      rw [if_neg (by rw [decide_eq_true_eq]; omega), asrt_pos (by rw [mr_length]; unfold bigN; omega), w64_of (by omega)]
      have hg : (-1 : Int) = cB cols.length b i x := by
        unfold cB
        rw [if_neg hn]
      rw [hg, mr_snoc i (fun y => cB cols.length b y x)]
      rfl
  · simp only [gameroomref_PictureOf_2_L2]
    rw [if_neg (by simp)]; rfl

theorem pict_F (k : PicOk rows cols) : ∀ (N y : Nat) (b : List Int) (most : Nat) (last : List Int), y ≤ rows.length → b.length = y * cols.length → fullL b → (∀ y', y' < y → 0 < Ww (RR rows y') (rowL cols.length (cB cols.length b) y')) → 1 ≤ most → most ≤ 1000 → rows.length - y < N →
    ∃ (n : Nat) (last' : List Int), gameroomref_PictureOf_2_mF N rows cols b (most : Int) last = some ((n : Int), last') ∧ n = min most (solN rows.length cols.length (RR rows) (RR cols) (cB cols.length b)) ∧ (0 < n → foundG rows cols (cB cols.length b) last') ∧ (n = 0 → last' = last)
  | 0, _, _, _, _, _, _, _, _, _, _, h => by omega
  | N + 1, y, b, most, last, hy, hb, hfb, hrow, hm1, hm2, hN => by
    have h6 := k.h6
    have w6 := k.w6
    have w1 := k.w1
    have hb36 : y * cols.length ≤ 36 := Nat.le_trans (Nat.mul_le_mul (Nat.le_trans hy h6) w6) (by omega)
    have hdiv : w64 (Int.tdiv (b.length : Int) (cols.length : Int)) = (y : Int) := by rw [tdiv_nat, hb, Nat.mul_div_cancel _ (by omega), w64_of (by omega)]
    have hokb : okG rows.length cols.length (cB cols.length b) := cB_ok hfb
    show ∃ (n : Nat) (last' : List Int), gameroomref_PictureOf_2_B (gameroomref_PictureOf_2_mF N) rows cols b (most : Int) last = _ ∧ _
    unfold gameroomref_PictureOf_2_B
    rw [asrt_pos (by omega)]
    obtain ⟨r, hr, hz⟩ := count_loop (step := gameroomref_PictureOf_2_L1 rows cols b last) (fun (_ : Unit) (i : Nat) => (i : Int)) (fun i _ => ∀ x, x < i → 0 < Ww (RR cols x) (colL rows.length (cB cols.length b) x))
      (fun r => (r = .go () ∧ ∀ x, x < cols.length → 0 < Ww (RR cols x) (colL rows.length (cB cols.length b) x)) ∨ (r = .ret (0, last) ∧ ∃ x, x < cols.length ∧ Ww (RR cols x) (colL rows.length (cB cols.length b) x) = 0)) cols.length () (fun x hx => by omega) (by
        rintro x - hx hI
        have e1 : gameroomref_PictureOf_2_L1 rows cols b last (x : Int) = gameroomref_PictureOf_2_J2 rows cols b last (x : Int) := if_pos (decide_eq_true (by omega))
        rw [e1]
        unfold gameroomref_PictureOf_2_J2
        rw [colLine_p k hy hb hx, Option.bind_some]
        simp only [gameroomref_PictureOf_2_K2]
        unfold gameroomref_PictureOf_2_J4
        obtain ⟨f, hf, _, _⟩ := LineWays_p (line := colL rows.length (cB cols.length b) x) (cl := RR cols x) (by rw [colL_len]; omega) (k.cok x hx) (k.clen x hx)
        rw [asrt_pos (by omega), show geti2 cols (x : Int) = RR cols x from rfl, hf, Option.bind_some]
        dsimp only
        by_cases q : Ww (RR cols x) (colL rows.length (cB cols.length b) x) = 0
        · right
          exact ⟨_, by rw [if_pos (by rw [q]; rfl)], Or.inr ⟨rfl, x, hx, q⟩⟩
        · left
          refine ⟨(), ?_, fun x' hx' => ?_⟩
          · rw [if_neg (by rw [beq_iff_eq]; omega)]
            unfold gameroomref_PictureOf_2_J3
            rw [w64_of (by omega)]; rfl
          · by_cases e : x' = x
            · subst e; omega
            · exact hI x' (by omega)) (by
        rintro - hI
        refine ⟨.go (), ?_, Or.inl ⟨rfl, hI⟩⟩
        simp only [gameroomref_PictureOf_2_L1]
        rw [if_neg (by simp)])
    have hr' : loop (gameroomref_PictureOf_2_L1 rows cols b last) 0 = some r := hr
    rw [hr', Option.bind_some]
    rcases hz with ⟨rfl, hcol⟩ | ⟨rfl, x, hx, hx0⟩
    · simp only [gameroomref_PictureOf_2_K1]
      unfold gameroomref_PictureOf_2_J1
      rw [hdiv]
      by_cases hyh : y = rows.length
      · -- all rows lie there
        rw [if_pos (by rw [hyh]; simp)]
        have hcb : ∀ y' x', y' < rows.length → x' < cols.length → cB cols.length b y' x' = gridOf cols.length b y' x' := fun y' x' hy' hx' => by
          obtain ⟨hj, _, _⟩ := join_ix hy' hx'
          unfold cB gridOf
          rw [if_pos (by rw [hb, hyh]; exact hj)]
        have hg : goodG rows.length cols.length (RR rows) (RR cols) (cB cols.length b) := ⟨fun y' x' hy' hx' => by
          rw [hcb y' x' hy' hx']
          obtain ⟨hj, _, _⟩ := join_ix hy' hx'
          unfold gridOf
          exact hfb _ (List.mem_of_getElem? (i := y' * cols.length + x') (by rw [List.getD_eq_getElem?_getD, List.getElem?_eq_getElem (by rw [hb, hyh]; exact hj)]; rfl)), fun y' hy' => hrow y' (by omega), hcol⟩
        refine ⟨1, b, rfl, by rw [solN_full hg]; omega, fun _ => ⟨by rw [hb, hyh], hfb, fun y' x' hy' hx' => .inr (hcb y' x' hy' hx'), hg.congr hcb⟩, fun z => by omega⟩
      · rw [if_neg (by rw [beq_iff_eq]; omega)]
        unfold gameroomref_PictureOf_2_J7
        have hylt : y < rows.length := by omega
        have hsum := solN_rows (R := RR rows) (C := RR cols) (h := rows.length) hb hfb hylt
        have h64 : 2 ^ cols.length ≤ 2 ^ 6 := Nat.pow_le_pow_right (by omega) w6
        obtain ⟨r, hr, hz1, hz2, hz3⟩ := count_loop (step := gameroomref_PictureOf_2_L3 (gameroomref_PictureOf_2_mF N) rows cols b (most : Int)) (fun (s : List Int × Nat) (i : Nat) => (s.1, ((s.2 : Nat) : Int), (i : Int)))
          (fun i s => s.2 = min most (sumN (fun k => solN rows.length cols.length (RR rows) (RR cols) (cB cols.length (b ++ bitsL cols.length k))) i) ∧ (0 < s.2 → foundG rows cols (cB cols.length b) s.1) ∧ (s.2 = 0 → s.1 = last))
          (fun r => r.1 = ((min most (solN rows.length cols.length (RR rows) (RR cols) (cB cols.length b)) : Nat) : Int) ∧ (0 < min most (solN rows.length cols.length (RR rows) (RR cols) (cB cols.length b)) → foundG rows cols (cB cols.length b) r.2) ∧ (min most (solN rows.length cols.length (RR rows) (RR cols) (cB cols.length b)) = 0 → r.2 = last))
          (2 ^ cols.length) (last, 0) ⟨by simp [sumN], fun z => by simp at z, fun _ => rfl⟩ (by
            rintro i ⟨l0, many⟩ hi ⟨g1, g2, g3⟩
            dsimp only at g1 g2 g3
            have hsh := shl1 cols.length (by omega)
            have e0 : gameroomref_PictureOf_2_L3 (gameroomref_PictureOf_2_mF N) rows cols b (most : Int) (l0, (many : Int), (i : Int)) = if ((decide ((i : Int) < ((2 ^ cols.length : Nat) : Int))) && (decide ((many : Int) < (most : Int)))) then (gameroomref_PictureOf_2_J9 (gameroomref_PictureOf_2_mF N) rows cols b (most : Int) l0 (many : Int) (i : Int)) else (some (.done ((many : Int), l0))) := by
              show asrt _ _ = _
              rw [asrt_pos (by omega), hsh]
            dsimp only
            rw [e0, decide_eq_true (show (i : Int) < ((2 ^ cols.length : Nat) : Int) by omega)]
            have hle := sumN_le (fun k => solN rows.length cols.length (RR rows) (RR cols) (cB cols.length (b ++ bitsL cols.length k))) (Nat.le_of_lt hi)
            by_cases hmm : many < most
            · left
              rw [decide_eq_true (show (many : Int) < (most : Int) by omega), if_pos (by decide)]
              unfold gameroomref_PictureOf_2_J9
              rw [row_p w6 hi cols rfl, Option.bind_some]
              simp only [gameroomref_PictureOf_2_K4]
              unfold gameroomref_PictureOf_2_J11
              have hbl := bitsL_full cols.length i
              have hb01 : ∀ j : Nat, j < (bitsL cols.length i).length → geti (bitsL cols.length i) (j : Int) = 0 ∨ geti (bitsL cols.length i) (j : Int) = 1 := fun j hj => hbl _ (List.mem_of_getElem? (get_geti hj))
              have hcl := Ww_full hbl (k.rok y hylt)
              have hclen : (cfa 0 (bitsL cols.length i)).length ≤ 100 := by
                rw [← rsAll_cfa]
                have := rs_bd (bitsL cols.length i) (bitsL cols.length i).length
                rw [bitsL_len] at this ⊢
                unfold rsAll
                split <;> (try simp only [List.length_append, List.length_cons, List.length_nil]) <;> omega
              rw [hdiv, asrt_pos (by omega), ClueOf_p (by rw [bitsL_len]; omega) hb01, Option.bind_some, rsAll_cfa, rsame_p (by omega), Option.bind_some, show geti2 rows (y : Int) = RR rows y from rfl]
              unfold gameroomref_PictureOf_2_J14
              have hnext : sumN (fun k => solN rows.length cols.length (RR rows) (RR cols) (cB cols.length (b ++ bitsL cols.length k))) (i + 1) = sumN (fun k => solN rows.length cols.length (RR rows) (RR cols) (cB cols.length (b ++ bitsL cols.length k))) i + solN rows.length cols.length (RR rows) (RR cols) (cB cols.length (b ++ bitsL cols.length i)) := rfl
              by_cases hc : cfa 0 (bitsL cols.length i) = RR rows y
              · rw [if_pos hc] at hcl
                rw [if_pos (decide_eq_true hc)]
                have hlen2 : (b ++ bitsL cols.length i).length = (y + 1) * cols.length := by rw [List.length_append, bitsL_len, hb, Nat.add_mul, Nat.one_mul]
                have hfull2 : fullL (b ++ bitsL cols.length i) := fun v hv => by
                  rcases List.mem_append.1 hv with q | q
                  · exact hfb v q
                  · exact hbl v q
                obtain ⟨n, l', h1, h2, h3, h4⟩ := pict_F k N (y + 1) (b ++ bitsL cols.length i) (most - many) l0 (by omega) hlen2 hfull2 (fun y' hy' => by
                  by_cases e : y' = y
                  · subst e
                    have : rowL cols.length (cB cols.length (b ++ bitsL cols.length i)) y' = bitsL cols.length i := mr_congr fun x hx => cB_row hb hx
                    rw [this]; omega
                  · have hlt : y' < y := by omega
                    have : rowL cols.length (cB cols.length (b ++ bitsL cols.length i)) y' = rowL cols.length (cB cols.length b) y' := mr_congr fun x hx => cB_old (by
                      obtain ⟨hj, _, _⟩ := join_ix (h := y) hlt hx
                      omega)
                    rw [this]; exact hrow y' hlt) (by omega) (by omega) (by omega)
                rw [Ints_p (by omega), Option.bind_some, asrt_pos (by rw [bitsL_len]; unfold bigN; omega), w64_of (x := (most : Int) - many) (by omega), show (most : Int) - (many : Int) = ((most - many : Nat) : Int) by omega, h1, Option.bind_some]
                unfold gameroomref_PictureOf_2_J10
                rw [w64_of (by omega), w64_of (by omega)]
                refine ⟨(l', many + n), rfl, ?_, fun z => ?_, fun z => ?_⟩
                · dsimp only
                  rw [hnext]; omega
                · dsimp only at z ⊢
                  by_cases zn : 0 < n
                  · have q := h3 zn
                    refine ⟨q.len, q.full, fun y' x' hy' hx' => ?_, q.good⟩
                    by_cases e : y' * cols.length + x' < b.length
                    · have := q.le y' x' hy' hx'
                      rwa [cB_old e] at this
                    · left; exact if_neg e
                  · rw [h4 (by omega)]; exact g2 (by omega)
                · dsimp only at z ⊢
                  rw [h4 (by omega)]; exact g3 (by omega)
              · rw [if_neg hc] at hcl
                rw [if_neg (by rw [decide_eq_true_eq]; exact hc)]
                unfold gameroomref_PictureOf_2_J10
                rw [w64_of (by omega)]
                have hbad := solN_bad (R := RR rows) (C := RR cols) (h := rows.length) hb hylt hcl
                exact ⟨(l0, many), rfl, by dsimp only; rw [hnext, hbad]; omega, g2, g3⟩
            · right
              rw [decide_eq_false (show ¬ (many : Int) < (most : Int) by omega), if_neg (by decide)]
              rw [hsum]
              have e : min most (sumN (fun k => solN rows.length cols.length (RR rows) (RR cols) (cB cols.length (b ++ bitsL cols.length k))) (2 ^ cols.length)) = many := by omega
              rw [e]
              exact ⟨_, rfl, rfl, g2, g3⟩) (by
            rintro ⟨l0, many⟩ ⟨g1, g2, g3⟩
            dsimp only at g1 g2 g3
            refine ⟨((many : Int), l0), ?_, ?_⟩
            · show asrt _ _ = _
              rw [asrt_pos (by omega), shl1 cols.length (by omega)]
              rw [if_neg (by simp)]
            · rw [hsum, ← g1]
              exact ⟨rfl, g2, g3⟩)
        have hr2 : loop (gameroomref_PictureOf_2_L3 (gameroomref_PictureOf_2_mF N) rows cols b (most : Int)) (last, 0, 0) = some r := hr
        rw [hr2, Option.bind_some]
        obtain ⟨r1, r2⟩ := r
        dsimp only at hz1 hz2 hz3
        subst hz1
        exact ⟨_, r2, rfl, rfl, hz2, hz3⟩
    · simp only [gameroomref_PictureOf_2_K1]
      refine ⟨0, last, rfl, ?_, fun z => by omega, fun _ => rfl⟩
      rw [solN_col hx hx0]; omega

theorem pict_p (k : PicOk rows cols) {most : Nat} (h1 : 1 ≤ most) (h2 : most ≤ 1000) :
    ∃ (n : Nat) (last' : List Int), gameroomref_PictureOf_2_m rows cols ([] : List Int) (most : Int) ([] : List Int) = some ((n : Int), last') ∧ n = min most (solN rows.length cols.length (RR rows) (RR cols) (fun _ _ => -1)) ∧ (0 < n → foundG rows cols (fun _ _ => -1) last') := by
  obtain ⟨n, l, h, a, b, _⟩ := pict_F k (rows.length + 1) 0 [] most [] (by omega) (by simp) (fun x hx => by simp at hx) (fun y hy => by omega) h1 h2 (by omega)
  rw [cB_nil] at a b
  exact ⟨n, l, gameroomref_PictureOf_2_m_of _ _ _ _ _ _ h, a, b⟩
end
end Go.Proofs.Ytdjjomghggplpaa
