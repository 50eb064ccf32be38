/-
  Pictures: the document's pushing.
-/
import Derived.Test.YtdjjomghggplpaaNPd
namespace Go.Proofs.Ytdjjomghggplpaa
open Go Go.GL

section
variable {h w : Nat} {c d : Nat → Nat → Int}
theorem flat_at {y x : Nat} (hy : y < h) (hx : x < w) : geti (flatG h w c) ((y * w + x : Nat) : Int) = c y x := by
  obtain ⟨h1, h2, h3⟩ := join_ix hy hx
  unfold flatG
  rw [mr_geti h1, h2, h3]
theorem flat_set {y x : Nat} (hx : x < w) {v : Int} : (flatG h w c).set (y * w + x) v = flatG h w (updG c y x v) := by
  unfold flatG
  rw [mr_set]
  refine mr_congr fun i hi => ?_
  unfold updG
  obtain ⟨a, b⟩ := split_ix hi
  by_cases e : i = y * w + x
  · subst e
    have hw : 0 < w := by omega
    rw [if_pos rfl, if_pos ⟨by rw [Nat.mul_comm, Nat.mul_add_div hw, Nat.div_eq_of_lt hx]; rfl, by rw [Nat.mul_comm, Nat.mul_add_mod, Nat.mod_eq_of_lt hx]⟩]
  · rw [if_neg e, if_neg]
    rintro ⟨e1, e2⟩
    exact e (by rw [← e1, ← e2, Nat.div_add_mod'])
theorem flat_congr (he : eqG h w c d) : flatG h w c = flatG h w d := mr_congr fun i hi => by
  obtain ⟨a, b⟩ := split_ix hi
  exact he _ _ a b
end

section
variable {rows cols : List (List Int)} {c0 cS c : Nat → Nat → Int}

theorem dims (k : PicOk rows cols) : w64 ((cols.length : Int) * (rows.length : Int)) = ((rows.length * cols.length : Nat) : Int) ∧ rows.length * cols.length ≤ 36 := by
  have h6 := k.h6
  have w6 := k.w6
  have hb : rows.length * cols.length ≤ 6 * 6 := Nat.mul_le_mul h6 w6
  have e : (cols.length : Int) * (rows.length : Int) = ((rows.length * cols.length : Nat) : Int) := by rw [Nat.mul_comm rows.length]; simp
  rw [e, w64_of (by omega)]
  exact ⟨rfl, by omega⟩

/-- A line is read. -/
theorem lineOf_p (k : PicOk rows cols) {n : Nat} (hn : n ≤ 6) (p : Nat → Nat × Nat) (hp : ∀ j, j < n → (p j).1 < rows.length ∧ (p j).2 < cols.length) :
    loop (gameroomref_PushOf_L6 rows cols (flatG rows.length cols.length c) (mr n (fun j => (((p j).1 * cols.length + (p j).2 : Nat) : Int)))) (([] : List Int), 0) = some (mr n (fun j => c (p j).1 (p j).2)) := by
  obtain ⟨hd, hd6⟩ := dims k
  refine loop_from (fun i => (mr i (fun j => c (p j).1 (p j).2), (i : Int))) n rfl (fun i hi => ?_) ?_
  · obtain ⟨a, b⟩ := hp i hi
    obtain ⟨h1, _, _⟩ := join_ix a b
    have e1 : ∀ l : List Int, gameroomref_PushOf_L6 rows cols (flatG rows.length cols.length c) (mr n (fun j => (((p j).1 * cols.length + (p j).2 : Nat) : Int))) (l, (i : Int)) = gameroomref_PushOf_J15 rows cols (flatG rows.length cols.length c) (mr n (fun j => (((p j).1 * cols.length + (p j).2 : Nat) : Int))) l (i : Int) := fun l => if_pos (decide_eq_true (by rw [mr_length]; omega))
    rw [e1]
    unfold gameroomref_PushOf_J15 gameroomref_PushOf_J16
    rw [asrt_pos (by rw [mr_length]; omega), mr_geti hi, asrt_pos (by rw [hd]; omega), asrt_pos (by rw [mr_length]; unfold bigN; omega), flat_at a b, w64_of (by omega), mr_snoc i (fun j => c (p j).1 (p j).2)]
    rfl
  · simp only [gameroomref_PushOf_L6]
    rw [if_neg (by rw [mr_length]; simp)]

/-- A line is written. -/
theorem lineTo_p (k : PicOk rows cols) {n : Nat} (hn : n ≤ 6) (p : Nat → Nat × Nat) (hp : ∀ j, j < n → (p j).1 < rows.length ∧ (p j).2 < cols.length) (hi : ∀ i j, i < n → j < n → p i = p j → i = j) (v : Nat → Int) (b : Bool)
    {c' : Nat → Nat → Int} (h1 : ∀ j, j < n → c' (p j).1 (p j).2 = v j) (h2 : ∀ y x, y < rows.length → x < cols.length → (∀ j, j < n → p j ≠ (y, x)) → c' y x = c y x) :
    loop (gameroomref_PushOf_L7 rows cols (mr n (fun j => (((p j).1 * cols.length + (p j).2 : Nat) : Int))) (mr n v, b)) (flatG rows.length cols.length c, 0) = some (flatG rows.length cols.length c') := by
  obtain ⟨hd, hd6⟩ := dims k
  obtain ⟨r, hr, hq⟩ := count_loop (step := gameroomref_PushOf_L7 rows cols (mr n (fun j => (((p j).1 * cols.length + (p j).2 : Nat) : Int))) (mr n v, b)) (fun (s : Nat → Nat → Int) (i : Nat) => (flatG rows.length cols.length s, (i : Int)))
    (fun i s => (∀ j, j < i → s (p j).1 (p j).2 = v j) ∧ ∀ y x, (∀ j, j < i → p j ≠ (y, x)) → s y x = c y x) (fun r => r = flatG rows.length cols.length c') n c ⟨fun j hj => by omega, fun _ _ _ => rfl⟩ (by
      rintro i s hin ⟨g1, g2⟩
      left
      obtain ⟨a, b'⟩ := hp i hin
      obtain ⟨hj, _, _⟩ := join_ix a b'
      have e1 : ∀ l : List Int, gameroomref_PushOf_L7 rows cols (mr n (fun j => (((p j).1 * cols.length + (p j).2 : Nat) : Int))) (mr n v, b) (l, (i : Int)) = gameroomref_PushOf_J18 rows cols (mr n (fun j => (((p j).1 * cols.length + (p j).2 : Nat) : Int))) (mr n v, b) l (i : Int) := fun l => if_pos (decide_eq_true (by rw [mr_length]; omega))
      rw [e1]
      unfold gameroomref_PushOf_J18 gameroomref_PushOf_J19
      dsimp only
      rw [asrt_pos (by rw [mr_length]; omega), asrt_pos (by rw [mr_length]; omega), mr_geti hin, asrt_pos (by rw [hd]; omega), mr_geti hin, Int.toNat_natCast, flat_set b', w64_of (by omega)]
      refine ⟨updG s (p i).1 (p i).2 (v i), rfl, fun j hj => ?_, fun y x hyx => ?_⟩
      · unfold updG
        by_cases e : j = i
        · subst e; rw [if_pos ⟨rfl, rfl⟩]
        · rw [if_neg (fun z => e (hi j i (by omega) hin (Prod.ext z.1 z.2))), g1 j (by omega)]
      · unfold updG
        rw [if_neg (fun z => hyx i (by omega) (Prod.ext z.1.symm z.2.symm))]
        exact g2 y x (fun j hj => hyx j (by omega))) (by
      rintro s ⟨g1, g2⟩
      refine ⟨flatG rows.length cols.length s, ?_, flat_congr fun y x hy hx => ?_⟩
      · simp only [gameroomref_PushOf_L7]
        rw [if_neg (by rw [mr_length]; simp)]
      · by_cases e : ∃ j, j < n ∧ p j = (y, x)
        · obtain ⟨j, hj, e⟩ := e
          have a := g1 j hj
          have b' := h1 j hj
          rw [e] at a b'
          exact a.trans b'.symm
        · rw [g2 y x (fun j hj z => e ⟨j, hj, z⟩), h2 y x hy hx (fun j hj z => e ⟨j, hj, z⟩)])
  have hr' : loop (gameroomref_PushOf_L7 rows cols (mr n (fun j => (((p j).1 * cols.length + (p j).2 : Nat) : Int))) (mr n v, b)) (flatG rows.length cols.length c, 0) = some r := hr
  rw [hr', hq]

/-- A column. -/
theorem refC (k : PicOk rows cols) {x : Nat} (hx : x < cols.length) :
    gameroomref_PushOf_J7 rows cols (flatG rows.length cols.length c) (x : Int) = if 0 < Ww (RR cols x) (colL rows.length c x) then some (.next (flatG rows.length cols.length (stC rows.length (RR cols) c x), ((x + 1 : Nat) : Int))) else some (.done (.ret ([], false))) := by
  have h6 := k.h6
  have w6 := k.w6
  obtain ⟨hd, hd6⟩ := dims k
  unfold gameroomref_PushOf_J7
  rw [if_pos (decide_eq_true (by omega)), asrt_pos (by omega)]
  have hpl : loop (gameroomref_PushOf_L4 rows cols (x : Int)) (([] : List Int), 0) = some (mr rows.length (fun y => ((y * cols.length + x : Nat) : Int)), RR cols x) := by
    refine loop_from (fun i => (mr i (fun y => ((y * cols.length + x : Nat) : Int)), (i : Int))) rows.length rfl (fun i hi => ?_) ?_
    · have e1 : ∀ l : List Int, gameroomref_PushOf_L4 rows cols (x : Int) (l, (i : Int)) = gameroomref_PushOf_J10 cols (x : Int) l (i : Int) := fun l => if_pos (decide_eq_true (by omega))
      obtain ⟨hj, _, _⟩ := join_ix hi hx
      have hm : i * cols.length ≤ i * cols.length + x := Nat.le_add_right _ _
      have e2 : (i : Int) * (cols.length : Int) = ((i * cols.length : Nat) : Int) := by simp
      rw [e1]
      unfold gameroomref_PushOf_J10 gameroomref_PushOf_J11
      rw [asrt_pos (by rw [mr_length]; unfold bigN; omega), e2, w64_of (x := ((i * cols.length : Nat) : Int)) (by omega), w64_of (x := ((i * cols.length : Nat) : Int) + x) (by omega), w64_of (by omega), show ((i * cols.length : Nat) : Int) + (x : Int) = ((i * cols.length + x : Nat) : Int) by omega, mr_snoc i (fun y => ((y * cols.length + x : Nat) : Int))]
      rfl
    · simp only [gameroomref_PushOf_L4]
      rw [if_neg (by simp)]; rfl
  rw [hpl, Option.bind_some]
  simp only [gameroomref_PushOf_K4]
  unfold gameroomref_PushOf_J9
  have hl := lineOf_p (c := c) k h6 (fun y => (y, x)) (fun j hj => ⟨hj, hx⟩)
  dsimp only at hl
  rw [hl, Option.bind_some]
  simp only [gameroomref_PushOf_K6]
  unfold gameroomref_PushOf_J14
  rw [show mr rows.length (fun j => c j x) = colL rows.length c x from rfl, sureOf_p (by rw [colL_len]; omega) (k.cok x hx) (k.clen x hx), Option.bind_some, colL_len]
  by_cases hW : 0 < Ww (RR cols x) (colL rows.length c x)
  · rw [if_pos hW, decide_eq_true hW, if_neg (by simp)]
    unfold gameroomref_PushOf_J17
    have ht := lineTo_p (c := c) (c' := stC rows.length (RR cols) c x) k h6 (fun y => (y, x)) (fun j hj => ⟨hj, hx⟩) (fun i j _ _ e => by injection e) (sureX (colL rows.length c x) (RR cols x)) true (fun j _ => by unfold stC; exact if_pos rfl) (fun y x' hy _ hn => by
      unfold stC
      exact if_neg (fun e => hn y hy (by rw [e])))
    dsimp only at ht
    rw [ht, Option.bind_some]
    simp only [gameroomref_PushOf_K7]
    unfold gameroomref_PushOf_J8
    rw [w64_of (by omega)]; rfl
  · rw [if_neg hW, decide_eq_false hW, if_pos (by simp)]

/-- A row. -/
theorem refR (k : PicOk rows cols) {y : Nat} (hy : y < rows.length) :
    gameroomref_PushOf_J7 rows cols (flatG rows.length cols.length c) ((cols.length + y : Nat) : Int) = if 0 < Ww (RR rows y) (rowL cols.length c y) then some (.next (flatG rows.length cols.length (stR cols.length (RR rows) c y), ((cols.length + y + 1 : Nat) : Int))) else some (.done (.ret ([], false))) := by
  have h6 := k.h6
  have w6 := k.w6
  obtain ⟨hd, hd6⟩ := dims k
  unfold gameroomref_PushOf_J7
  have hk : w64 (((cols.length + y : Nat) : Int) - (cols.length : Int)) = (y : Int) := by rw [w64_of (by omega)]; omega
  rw [if_neg (by rw [decide_eq_true_eq]; omega), hk, asrt_pos (by omega)]
  have hpl : loop (gameroomref_PushOf_L5 rows cols ((cols.length + y : Nat) : Int)) (([] : List Int), 0) = some (mr cols.length (fun x => ((y * cols.length + x : Nat) : Int)), RR rows y) := by
    refine loop_from (fun i => (mr i (fun x => ((y * cols.length + x : Nat) : Int)), (i : Int))) cols.length rfl (fun i hi => ?_) ?_
    · have e1 : ∀ l : List Int, gameroomref_PushOf_L5 rows cols ((cols.length + y : Nat) : Int) (l, (i : Int)) = gameroomref_PushOf_J12 cols ((cols.length + y : Nat) : Int) l (i : Int) := fun l => if_pos (decide_eq_true (by omega))
      obtain ⟨hj, _, _⟩ := join_ix hy hi
      have e2 : (y : Int) * (cols.length : Int) = ((y * cols.length : Nat) : Int) := by simp
      rw [e1]
      unfold gameroomref_PushOf_J12 gameroomref_PushOf_J13
      rw [asrt_pos (by rw [mr_length]; unfold bigN; omega), hk, e2, w64_of (x := ((y * cols.length : Nat) : Int)) (by omega), w64_of (x := ((y * cols.length : Nat) : Int) + i) (by omega), w64_of (by omega), show ((y * cols.length : Nat) : Int) + (i : Int) = ((y * cols.length + i : Nat) : Int) by omega, mr_snoc i (fun x => ((y * cols.length + x : Nat) : Int))]
      rfl
    · simp only [gameroomref_PushOf_L5]
      rw [if_neg (by simp), hk]; rfl
  rw [hpl, Option.bind_some]
  simp only [gameroomref_PushOf_K5]
  unfold gameroomref_PushOf_J9
  have hl := lineOf_p (c := c) k w6 (fun x => (y, x)) (fun j hj => ⟨hy, hj⟩)
  dsimp only at hl
  rw [hl, Option.bind_some]
  simp only [gameroomref_PushOf_K6]
  unfold gameroomref_PushOf_J14
  rw [show mr cols.length (fun j => c y j) = rowL cols.length c y from rfl, sureOf_p (by rw [rowL_len]; omega) (k.rok y hy) (k.rlen y hy), Option.bind_some, rowL_len]
  by_cases hW : 0 < Ww (RR rows y) (rowL cols.length c y)
  · rw [if_pos hW, decide_eq_true hW, if_neg (by simp)]
    unfold gameroomref_PushOf_J17
    have ht := lineTo_p (c := c) (c' := stR cols.length (RR rows) c y) k w6 (fun x => (y, x)) (fun j hj => ⟨hy, hj⟩) (fun i j _ _ e => by injection e) (sureX (rowL cols.length c y) (RR rows y)) true (fun j _ => by unfold stR; exact if_pos rfl) (fun y' x _ hx hn => by
      unfold stR
      exact if_neg (fun e => hn x hx (by rw [e])))
    dsimp only at ht
    rw [ht, Option.bind_some]
    simp only [gameroomref_PushOf_K7]
    unfold gameroomref_PushOf_J8
    rw [w64_of (by omega)]; rfl
  · rw [if_neg hW, decide_eq_false hW, if_pos (by simp)]

/-- All lines, one by one. -/
theorem refSweep (k : PicOk rows cols) (hS : onW rows.length cols.length (RR rows) (RR cols) c0 cS) :
    ∃ r, loop (gameroomref_PushOf_L3 rows cols) (flatG rows.length cols.length cS, 0) = some r ∧
      ((r = .ret ([], false) ∧ ∀ e, specG rows.length cols.length (RR rows) (RR cols) c0 false e) ∨
       ∃ c, r = .go (flatG rows.length cols.length c) ∧ onW rows.length cols.length (RR rows) (RR cols) c0 c ∧ leG rows.length cols.length cS c ∧ (eqG rows.length cols.length cS c → fixG rows.length cols.length (RR rows) (RR cols) c)) := by
  have h6 := k.h6
  have w6 := k.w6
  have hN : w64 ((cols.length : Int) + (rows.length : Int)) = ((cols.length + rows.length : Nat) : Int) := by rw [w64_of (by omega)]; omega
  refine count_loop (step := gameroomref_PushOf_L3 rows cols) (fun (s : Nat → Nat → Int) (i : Nat) => (flatG rows.length cols.length s, (i : Int)))
    (fun i s => onW rows.length cols.length (RR rows) (RR cols) c0 s ∧ leG rows.length cols.length cS s ∧
      (eqG rows.length cols.length cS s → (∀ x, x < cols.length → x < i → 0 < Ww (RR cols x) (colL rows.length s x) ∧ ∀ y, y < rows.length → sureX (colL rows.length s x) (RR cols x) y = s y x) ∧
        ∀ y, y < rows.length → cols.length + y < i → 0 < Ww (RR rows y) (rowL cols.length s y) ∧ ∀ x, x < cols.length → sureX (rowL cols.length s y) (RR rows y) x = s y x))
    _ (cols.length + rows.length) cS ⟨hS, leG.refl, fun _ => ⟨fun x _ hx => by omega, fun y _ hy => by omega⟩⟩ ?_ ?_
  · rintro i s hi ⟨h1, h2, h3⟩
    have e1 : ∀ l : List Int, gameroomref_PushOf_L3 rows cols (l, (i : Int)) = gameroomref_PushOf_J7 rows cols l (i : Int) := fun l => if_pos (decide_eq_true (by rw [hN]; omega))
    rw [e1]
    by_cases hic : i < cols.length
    · rw [refC k hic]
      by_cases hW : 0 < Ww (RR cols i) (colL rows.length s i)
      · left
        rw [if_pos hW]
        have hge := stC_ge h1.ok hic (k.cok i hic) hW
        refine ⟨_, rfl, h1.stC hic (k.cok i hic) hW, h2.trans hge, fun he => ?_⟩
        have hs := leG.squeeze h2 hge he
        have heq : eqG rows.length cols.length s (stC rows.length (RR cols) s i) := fun y x hy hx => (hs y x hy hx).symm.trans (he y x hy hx)
        have hsame : ∀ y, y < rows.length → sureX (colL rows.length s i) (RR cols i) y = s y i := fun y hy => by
          have := heq y i hy hic
          unfold stC at this
          rw [if_pos rfl] at this
          exact this.symm
        obtain ⟨g1, g2⟩ := h3 hs
        refine ⟨fun x hx hxi => ?_, fun y _ hy => by omega⟩
        rw [← colL_congr heq hx]
        by_cases q : x = i
        · subst q; exact ⟨hW, fun y hy => by rw [hsame y hy, heq y x hy hx]⟩
        · obtain ⟨b1, b2⟩ := g1 x hx (by omega)
          exact ⟨b1, fun y hy => by rw [b2 y hy, heq y x hy hx]⟩
      · right
        rw [if_neg hW]
        exact ⟨_, rfl, Or.inl ⟨rfl, fun e => h1.noC hic (k.cok i hic) hW⟩⟩
    · obtain ⟨j, rfl⟩ : ∃ j, i = cols.length + j := ⟨i - cols.length, by omega⟩
      have hj : j < rows.length := by omega
      rw [refR k hj]
      by_cases hW : 0 < Ww (RR rows j) (rowL cols.length s j)
      · left
        rw [if_pos hW]
        have hge := stR_ge h1.ok hj (k.rok j hj) hW
        refine ⟨_, rfl, h1.stR hj (k.rok j hj) hW, h2.trans hge, fun he => ?_⟩
        have hs := leG.squeeze h2 hge he
        have heq : eqG rows.length cols.length s (stR cols.length (RR rows) s j) := fun y x hy hx => (hs y x hy hx).symm.trans (he y x hy hx)
        have hsame : ∀ x, x < cols.length → sureX (rowL cols.length s j) (RR rows j) x = s j x := fun x hx => by
          have := heq j x hj hx
          unfold stR at this
          rw [if_pos rfl] at this
          exact this.symm
        obtain ⟨g1, g2⟩ := h3 hs
        refine ⟨fun x hx hxi => ?_, fun y hy hyi => ?_⟩
        · obtain ⟨b1, b2⟩ := g1 x hx (by omega)
          rw [← colL_congr heq hx]
          exact ⟨b1, fun y hy => by rw [b2 y hy, heq y x hy hx]⟩
        · rw [← rowL_congr heq hy]
          by_cases q : y = j
          · subst q; exact ⟨hW, fun x hx => by rw [hsame x hx, heq y x hy hx]⟩
          · obtain ⟨b1, b2⟩ := g2 y hy (by omega)
            exact ⟨b1, fun x hx => by rw [b2 x hx, heq y x hy hx]⟩
      · right
        rw [if_neg hW]
        exact ⟨_, rfl, Or.inl ⟨rfl, fun e => h1.noR hj (k.rok j hj) hW⟩⟩
  · rintro s ⟨h1, h2, h3⟩
    refine ⟨.go (flatG rows.length cols.length s), ?_, Or.inr ⟨s, rfl, h1, h2, fun he => ?_⟩⟩
    · simp only [gameroomref_PushOf_L3]
      rw [if_neg (by rw [hN]; simp)]
    · obtain ⟨g1, g2⟩ := h3 he
      exact ⟨h1.ok, fun y hy => (g2 y hy (by omega)).1, fun y hy => (g2 y hy (by omega)).2, fun x hx => (g1 x hx (by omega)).1, fun x hx => (g1 x hx (by omega)).2⟩

/-- What the document's pushing comes to. -/
theorem refPush_p (k : PicOk rows cols) :
    ∃ (ok : Bool) (q : List Int) (c : Nat → Nat → Int), gameroomref_PushOf_m rows cols = some (q, ok) ∧ specG rows.length cols.length (RR rows) (RR cols) (fun _ _ => -1) ok c ∧ (ok = true → q = flatG rows.length cols.length c) := by
  obtain ⟨hd, hd6⟩ := dims k
  unfold gameroomref_PushOf_m
  rw [hd, asrt_pos (by unfold bigN; omega), Int.toNat_natCast]
  have hfill : loop (gameroomref_PushOf_L1 rows cols) (List.replicate (rows.length * cols.length) (0 : Int), 0) = some (flatG rows.length cols.length (fun _ _ => -1)) := by
    refine loop_from (fun i => (mr (rows.length * cols.length) (fun j => if j < i then -1 else 0), (i : Int))) (rows.length * cols.length) (by rw [mr_rep]; rfl) (fun i hi => ?_) ?_
    · have e1 : ∀ l : List Int, gameroomref_PushOf_L1 rows cols (l, (i : Int)) = gameroomref_PushOf_J2 rows cols l (i : Int) := fun l => if_pos (decide_eq_true (by rw [hd]; omega))
      rw [e1]
      unfold gameroomref_PushOf_J2 gameroomref_PushOf_J3
      rw [asrt_pos (by rw [hd]; omega), Int.toNat_natCast, mr_set, w64_of (by omega)]
      congr 3
      refine mr_congr fun j _ => ?_
      by_cases e : j = i
      · rw [if_pos e, if_pos (by omega)]
      · rw [if_neg e]
        by_cases e2 : j < i
        · rw [if_pos e2, if_pos (by omega)]
        · rw [if_neg e2, if_neg (by omega)]
    · simp only [gameroomref_PushOf_L1]
      rw [if_neg (by rw [hd]; simp)]
      congr 2
      exact mr_congr fun j hj => if_pos hj
  rw [hfill, Option.bind_some]
  simp only [gameroomref_PushOf_K1]
  unfold gameroomref_PushOf_J1
  have key := count_loop (step := gameroomref_PushOf_L2 rows cols) (fun (s : Nat → Nat → Int) (i : Nat) => (flatG rows.length cols.length s, (i : Int)))
    (fun i s => onW rows.length cols.length (RR rows) (RR cols) (fun _ _ => -1) s ∧ (fixG rows.length cols.length (RR rows) (RR cols) s ∨ unk rows.length cols.length s + i ≤ rows.length * cols.length))
    (fun r => (r = .ret ([], false) ∧ ∀ e, specG rows.length cols.length (RR rows) (RR cols) (fun _ _ => -1) false e) ∨ ∃ c, r = .go (flatG rows.length cols.length c) ∧ specG rows.length cols.length (RR rows) (RR cols) (fun _ _ => -1) true c)
    (rows.length * cols.length + 1) (fun _ _ => -1) ⟨onW.start (fun _ _ _ _ => .inl rfl), .inr (by rw [Nat.add_zero]; exact unk_max)⟩ ?_ ?_
  · obtain ⟨r, hr, hq⟩ := key
    have hr' : loop (gameroomref_PushOf_L2 rows cols) (flatG rows.length cols.length (fun _ _ => -1), 0) = some r := hr
    rw [hr', Option.bind_some]
    rcases hq with ⟨rfl, hq⟩ | ⟨c, rfl, hq⟩
    · exact ⟨false, [], fun _ _ => -1, rfl, hq _, by simp⟩
    · exact ⟨true, _, c, rfl, hq, fun _ => rfl⟩
  · rintro i s hi ⟨h1, h2⟩
    have e1 : ∀ l : List Int, gameroomref_PushOf_L2 rows cols (l, (i : Int)) = gameroomref_PushOf_J5 rows cols l (i : Int) := fun l => if_pos (decide_eq_true (by rw [hd]; omega))
    rw [e1]
    unfold gameroomref_PushOf_J5
    obtain ⟨r, hr, hq⟩ := refSweep k h1
    rw [hr, Option.bind_some]
    rcases hq with ⟨rfl, hq⟩ | ⟨c, rfl, a1, a2, a3⟩
    · exact Or.inr ⟨_, rfl, Or.inl ⟨rfl, hq⟩⟩
    · left
      simp only [gameroomref_PushOf_K3]
      unfold gameroomref_PushOf_J6
      rw [w64_of (by omega)]
      refine ⟨c, rfl, a1, ?_⟩
      by_cases he : eqG rows.length cols.length s c
      · exact .inl (a3 he)
      · rcases h2 with h2 | h2
        · exact absurd (a2.anti (a1.low s h1.ge h2)) he
        · have := unk_lt a2 he
          right; omega
  · rintro s ⟨h1, h2⟩
    refine ⟨.go (flatG rows.length cols.length s), ?_, Or.inr ⟨s, rfl, ?_⟩⟩
    · simp only [gameroomref_PushOf_L2]
      rw [if_neg (by rw [hd]; simp; omega)]
    · rcases h2 with h2 | h2
      · exact h1.fin h2
      · omega
end
end Go.Proofs.Ytdjjomghggplpaa
