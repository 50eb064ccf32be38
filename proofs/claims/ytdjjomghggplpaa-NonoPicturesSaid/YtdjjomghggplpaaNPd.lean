/-
  Pictures: the program's pushing.
-/
import Derived.Test.YtdjjomghggplpaaNPc
import Derived.Test.YtdjjomghggplpaaLibM
import Derived.Test.YtdjjomghggplpaaLibX
import Derived.Test.YtdjjomghggplpaaLibY
namespace Go.Proofs.Ytdjjomghggplpaa
open Go Go.GL

theorem ext_geti {a b : List Int} (hl : a.length = b.length) (h : ∀ j : Nat, j < a.length → geti a (j : Int) = geti b (j : Int)) : a = b := by
  apply List.ext_getElem?
  intro j
  by_cases e : j < a.length
  · rw [get_geti e, get_geti (by omega), h j e]
  · rw [List.getElem?_eq_none (by omega), List.getElem?_eq_none (by omega)]
theorem equal_p {a b : List Int} (ha : a.length ≤ 17592186044416) : slices_Equal_m a b = some (decide (a = b)) := by
  unfold slices_Equal_m
  by_cases hl : a.length = b.length
  · rw [if_neg (by rw [hl]; simp)]
    unfold slices_Equal_J1
    obtain ⟨r, e, hr⟩ := count_loop (step := slices_Equal_L1 a b) (fun (_ : Unit) (i : Nat) => (i : Int)) (fun i _ => ∀ j : Nat, j < i → geti a (j : Int) = geti b (j : Int)) (fun r => (r = .go () ∧ a = b) ∨ (r = .ret false ∧ a ≠ b)) a.length () (fun j hj => by omega) (by
      intro i _ hi hI
      simp only [slices_Equal_L1, slices_Equal_J3, slices_Equal_J4]
      rw [if_pos (decide_eq_true (by omega)), asrt_pos (by omega), asrt_pos (by omega)]
      by_cases q : geti a (i : Int) = geti b (i : Int)
      · left
        refine ⟨(), by rw [if_neg (by simp [q]), w64_of (by omega)]; rfl, fun j hj => ?_⟩
        by_cases e : j = i
        · rw [e]; exact q
        · exact hI j (by omega)
      · right
        exact ⟨_, by rw [if_pos (by rw [bne_iff_ne]; exact q)], Or.inr ⟨rfl, fun e => q (by rw [e])⟩⟩) (by
      intro _ hI
      refine ⟨.go (), ?_, Or.inl ⟨rfl, ext_geti hl hI⟩⟩
      simp only [slices_Equal_L1]
      rw [if_neg (by simp)])
    have e' : loop (slices_Equal_L1 a b) 0 = some r := e
    rw [e', Option.bind_some]
    rcases hr with ⟨rfl, h⟩ | ⟨rfl, h⟩
    · rw [decide_eq_true h]; rfl
    · rw [decide_eq_false h]; rfl
  · rw [if_pos (by simp; omega), decide_eq_false (fun e => hl (by rw [e]))]

def cellsOf (h w : Nat) (c : Nat → Nat → Int) : List (List Int) := tab h (rowL w c)
def RR (rows : List (List Int)) (y : Nat) : List Int := geti2 rows (y : Int)
structure PicOk (rows cols : List (List Int)) : Prop where
  h1 : 1 ≤ rows.length
  h6 : rows.length ≤ 6
  w1 : 1 ≤ cols.length
  w6 : cols.length ≤ 6
  rok : ∀ y, y < rows.length → okC (RR rows y)
  rlen : ∀ y, y < rows.length → (RR rows y).length ≤ 17592186043904
  cok : ∀ x, x < cols.length → okC (RR cols x)
  clen : ∀ x, x < cols.length → (RR cols x).length ≤ 17592186043904

section
variable {h w : Nat} {c d : Nat → Nat → Int}
theorem cells_len : (cellsOf h w c).length = h := tab_length
theorem geti2_nat (m : List (List Int)) (k : Nat) : geti2 m (k : Int) = m.getD k [] := by simp [geti2]
theorem cells_at {y : Nat} (hy : y < h) : geti2 (cellsOf h w c) (y : Int) = rowL w c y := by rw [geti2_nat]; exact tab_getD hy
theorem cells_set {y : Nat} {f : Nat → Int} : (cellsOf h w c).set y (mr w f) = cellsOf h w (fun y' x => if y' = y then f x else c y' x) := by
  unfold cellsOf
  rw [tab_set]
  refine tab_congr fun j _ => ?_
  unfold rowL
  by_cases e : j = y
  · rw [if_pos e]; exact mr_congr fun x _ => (if_pos e).symm
  · rw [if_neg e]; exact mr_congr fun x _ => (if_neg e).symm
theorem cells_congr (he : eqG h w c d) : cellsOf h w c = cellsOf h w d := tab_congr fun _ hy => rowL_congr he hy
theorem rowL_bd (hk : okG h w c) {y : Nat} (hy : y < h) : ∀ i : Nat, i < (rowL w c y).length → -1 ≤ geti (rowL w c y) (i : Int) ∧ geti (rowL w c y) (i : Int) ≤ 1 := fun i hi => by
  rcases rowL_ok hk hy _ (List.mem_of_getElem? (get_geti hi)) with q | q | q <;> omega
theorem colL_bd (hk : okG h w c) {x : Nat} (hx : x < w) : ∀ i : Nat, i < (colL h c x).length → -1 ≤ geti (colL h c x) (i : Int) ∧ geti (colL h c x) (i : Int) ≤ 1 := fun i hi => by
  rcases colL_ok hk hx _ (List.mem_of_getElem? (get_geti hi)) with q | q | q <;> omega
theorem leG.squeeze {e : Nat → Nat → Int} (h1 : leG h w c d) (h2 : leG h w d e) (h3 : eqG h w c e) : eqG h w c d :=
  h1.anti fun y x hy hx => by
    have := h2 y x hy hx
    rw [← h3 y x hy hx] at this
    exact this
end

section
variable {rows cols : List (List Int)} {c0 cS : Nat → Nat → Int}

/-- All rows, one by one. -/
theorem sweepR (k : PicOk rows cols) {p : List (List Int)} (hp : p.length = rows.length) (hS : onW rows.length cols.length (RR rows) (RR cols) c0 cS) :
    ∃ r, loop (nono_picture_push_2_L2 rows p) (cellsOf rows.length cols.length cS, false, 0) = some r ∧
      ((∃ q, r = .ret (false, q) ∧ ∀ e, specG rows.length cols.length (RR rows) (RR cols) c0 false e) ∨
       ∃ (c : Nat → Nat → Int) (more : Bool), r = .go (cellsOf rows.length cols.length c, more) ∧ onW rows.length cols.length (RR rows) (RR cols) c0 c ∧ leG rows.length cols.length cS c ∧ (more = true → ¬ eqG rows.length cols.length cS c) ∧
         (more = false → eqG rows.length cols.length cS c ∧ ∀ y, y < rows.length → 0 < Ww (RR rows y) (rowL cols.length c y) ∧ ∀ x, x < cols.length → sureX (rowL cols.length c y) (RR rows y) x = c y x)) := by
  have hh6 := k.h6
  have hw6 := k.w6
  refine count_loop (step := nono_picture_push_2_L2 rows p) (fun (s : (Nat → Nat → Int) × Bool) (i : Nat) => (cellsOf rows.length cols.length s.1, s.2, (i : Int)))
    (fun i s => onW rows.length cols.length (RR rows) (RR cols) c0 s.1 ∧ leG rows.length cols.length cS s.1 ∧ (s.2 = true → ¬ eqG rows.length cols.length cS s.1) ∧
      (s.2 = false → eqG rows.length cols.length cS s.1 ∧ ∀ y, y < i → 0 < Ww (RR rows y) (rowL cols.length s.1 y) ∧ ∀ x, x < cols.length → sureX (rowL cols.length s.1 y) (RR rows y) x = s.1 y x))
    _ rows.length (cS, false) ⟨hS, leG.refl, by simp, fun _ => ⟨fun _ _ _ _ => rfl, fun y hy => by omega⟩⟩ ?_ ?_
  · rintro i ⟨c, more⟩ hi ⟨h1, h2, h3, h4⟩
    dsimp only at h1 h2 h3 h4
    have e1 : ∀ (s : List (List Int)) (m : Bool), nono_picture_push_2_L2 rows p (s, m, (i : Int)) = nono_picture_push_2_J4 rows p s m (i : Int) := fun s m => if_pos (decide_eq_true (by omega))
    obtain ⟨out, s1, s2⟩ := sure_p (line := rowL cols.length c i) (cl := RR rows i) (by rw [rowL_len]; omega) (rowL_bd h1.ok hi) (k.rok i hi) (k.rlen i hi)
    dsimp only
    rw [e1]
    unfold nono_picture_push_2_J4
    rw [asrt_pos (by omega), asrt_pos (by omega), cells_at hi, show geti2 rows (i : Int) = RR rows i from rfl, s1, Option.bind_some]
    by_cases hW : 0 < Ww (RR rows i) (rowL cols.length c i)
    · left
      have hout := s2 hW
      rw [rowL_len] at hout
      rw [decide_eq_true hW, if_neg (by simp)]
      unfold nono_picture_push_2_J6 nono_picture_push_2_J5
      have hge := stR_ge h1.ok hi (k.rok i hi) hW
      have hset : (cellsOf rows.length cols.length c).set (i : Int).toNat out = cellsOf rows.length cols.length (stR cols.length (RR rows) c i) := by rw [hout, Int.toNat_natCast, cells_set]; rfl
      have hst := h1.stR hi (k.rok i hi) hW
      rw [asrt_pos (by intro _; omega), cells_at hi]
      cases more with
      | true =>
        rw [if_neg (by decide), Option.bind_some, asrt_pos (by omega), w64_of (by omega)]
        refine ⟨(stR cols.length (RR rows) c i, true), ?_, hst, h2.trans hge, fun _ z => h3 rfl (leG.squeeze h2 hge z), by simp⟩
        dsimp only
        rw [hset]; rfl
      | false =>
        rw [if_pos (by decide), equal_p (by rw [hout, mr_length]; omega), Option.bind_some, asrt_pos (by omega), w64_of (by omega)]
        obtain ⟨g1, g2⟩ := h4 rfl
        refine ⟨(stR cols.length (RR rows) c i, !decide (out = rowL cols.length c i)), ?_, hst, h2.trans hge, fun hb z => ?_, fun hb => ?_⟩
        · dsimp only
          rw [hset, Bool.false_or]; rfl
        · have hne : ¬ out = rowL cols.length c i := by simpa using hb
          apply hne
          rw [hout]
          refine mr_congr fun x hx => ?_
          have a1 := g1 i x hi hx
          have a2 := z i x hi hx
          dsimp only at a2
          unfold stR at a2
          rw [if_pos rfl] at a2
          rw [← a2, a1]
        · have he : out = rowL cols.length c i := by simpa using hb
          have hsame : ∀ x, x < cols.length → sureX (rowL cols.length c i) (RR rows i) x = c i x := by
            rw [hout] at he
            exact mr_eq.1 he
          have heq : eqG rows.length cols.length c (stR cols.length (RR rows) c i) := fun y x _ hx => by
            unfold stR
            by_cases q : y = i
            · subst q; rw [if_pos rfl, hsame x hx]
            · rw [if_neg q]
          dsimp only
          refine ⟨fun y x hy hx => (g1 y x hy hx).trans (heq y x hy hx), fun y hy => ?_⟩
          have hy' : y < rows.length := by omega
          rw [← rowL_congr heq hy']
          by_cases q : y = i
          · subst q
            exact ⟨hW, fun x hx => by rw [hsame x hx, heq y x hy' hx]⟩
          · obtain ⟨b1, b2⟩ := g2 y (by omega)
            exact ⟨b1, fun x hx => by rw [b2 x hx, heq y x hy' hx]⟩
    · right
      rw [decide_eq_false hW, if_pos (by simp)]
      exact ⟨_, rfl, Or.inl ⟨_, rfl, fun e => h1.noR hi (k.rok i hi) hW⟩⟩
  · rintro ⟨c, more⟩ ⟨h1, h2, h3, h4⟩
    refine ⟨.go (cellsOf rows.length cols.length c, more), ?_, Or.inr ⟨c, more, rfl, h1, h2, h3, h4⟩⟩
    simp only [nono_picture_push_2_L2]
    rw [if_neg (by simp)]

theorem column_p {h w : Nat} {c : Nat → Nat → Int} {a b : List (List Int)} (hh : h ≤ 6) {x : Nat} (hx : x < w) : nono_picture_column_m a b (cellsOf h w c) (x : Int) = some (colL h c x) := by
  unfold nono_picture_column_m
  have key := loop_from (step := nono_picture_column_L1 (cellsOf h w c) (x : Int)) (s0 := (([] : List Int), 0)) (r := colL h c x) (fun k => (mr k (fun y => c y x), (k : Int))) h rfl (by
    intro i hi
    have e1 : ∀ l : List Int, nono_picture_column_L1 (cellsOf h w c) (x : Int) (l, (i : Int)) = nono_picture_column_J2 (cellsOf h w c) (x : Int) l (i : Int) := fun l => if_pos (decide_eq_true (by rw [cells_len]; omega))
    rw [e1]
    unfold nono_picture_column_J2 nono_picture_column_J3
    have hg : geti (rowL w c i) (x : Int) = c i x := mr_geti hx
    rw [asrt_pos (by rw [cells_len]; omega), cells_at hi, asrt_pos (by rw [rowL_len]; omega), asrt_pos (by rw [mr_length]; unfold bigN; omega), hg, w64_of (by omega), mr_snoc i (fun y => c y x)]
    rfl) (by
    simp only [nono_picture_column_L1]
    rw [if_neg (by rw [cells_len]; simp)]; rfl)
  rw [key, Option.bind_some]
  rfl

/-- A column is written. -/
theorem putC {h w : Nat} {c : Nat → Nat → Int} {p : List (List Int)} (hh : h ≤ 6) (hp : p.length = h) {x : Nat} (hx : x < w) (v : Nat → Int) (b : Bool) (more : Bool) :
    ∃ m' : Bool, loop (nono_picture_push_2_L4 p (x : Int) (mr h v, b)) (cellsOf h w c, more, 0) = some (cellsOf h w (fun y x' => if x' = x then v y else c y x'), m') ∧ (m' = true ↔ more = true ∨ ∃ y, y < h ∧ c y x ≠ v y) := by
  have key := count_loop (step := nono_picture_push_2_L4 p (x : Int) (mr h v, b)) (fun (m : Bool) (i : Nat) => (cellsOf h w (fun y x' => if x' = x ∧ y < i then v y else c y x'), m, (i : Int)))
    (fun i m => m = true ↔ more = true ∨ ∃ y, y < i ∧ c y x ≠ v y) (fun r => r.1 = cellsOf h w (fun y x' => if x' = x then v y else c y x') ∧ (r.2 = true ↔ more = true ∨ ∃ y, y < h ∧ c y x ≠ v y)) h more (by
      constructor
      · intro q; exact .inl q
      · rintro (q | ⟨y, hy, _⟩)
        · exact q
        · omega) ?_ ?_
  · obtain ⟨⟨r1, r2⟩, hr, q1, q2⟩ := key
    dsimp only at q1 q2
    subst q1
    refine ⟨r2, ?_, q2⟩
    rw [← hr]
    congr 2
    exact cells_congr fun y x' hy hx' => by simp
  · intro i m hi hI
    left
    have e1 : ∀ (s : List (List Int)) (m : Bool), nono_picture_push_2_L4 p (x : Int) (mr h v, b) (s, m, (i : Int)) = nono_picture_push_2_J10 p (x : Int) (mr h v, b) s m (i : Int) := fun s m => if_pos (decide_eq_true (by rw [mr_length]; omega))
    rw [e1]
    unfold nono_picture_push_2_J10 nono_picture_push_2_J11
    dsimp only
    have hg : geti (rowL w (fun y x' => if x' = x ∧ y < i then v y else c y x') i) (x : Int) = c i x := by
      rw [rowL, mr_geti hx, if_neg (by omega)]
    rw [asrt_pos (by rw [mr_length]; omega), cells_at hi, asrt_pos (by intro _; omega), asrt_pos (by intro _; rw [rowL_len]; omega), asrt_pos (by omega), asrt_pos (by rw [rowL_len]; omega), mr_geti hi, hg, w64_of (by omega)]
    refine ⟨(m || (c i x != v i)), ?_, ?_⟩
    · congr 3
      rw [Int.toNat_natCast, Int.toNat_natCast, rowL, mr_set, cells_set]
      refine cells_congr fun y x' hy hx' => ?_
      by_cases e : y = i
      · subst e
        rw [if_pos rfl]
        by_cases e2 : x' = x
        · rw [if_pos e2, if_pos ⟨e2, by omega⟩]
        · rw [if_neg e2, if_neg (fun z => e2 z.1), if_neg (fun z => e2 z.1)]
      · rw [if_neg e]
        by_cases e2 : x' = x ∧ y < i
        · rw [if_pos e2, if_pos ⟨e2.1, by omega⟩]
        · rw [if_neg e2, if_neg (fun z => e2 ⟨z.1, by omega⟩)]
    · rw [Bool.or_eq_true, hI, bne_iff_ne]
      constructor
      · rintro ((q | ⟨y, hy, q⟩) | q)
        · exact .inl q
        · exact .inr ⟨y, by omega, q⟩
        · exact .inr ⟨i, by omega, q⟩
      · rintro (q | ⟨y, hy, q⟩)
        · exact .inl (.inl q)
        · by_cases e : y = i
          · subst e; exact .inr q
          · exact .inl (.inr ⟨y, by omega, q⟩)
  · intro m hI
    refine ⟨(cellsOf h w (fun y x' => if x' = x ∧ y < h then v y else c y x'), m), ?_, ?_, hI⟩
    · simp only [nono_picture_push_2_L4]
      rw [if_neg (by rw [mr_length]; simp)]
    · dsimp only
      exact cells_congr fun y x' hy hx' => by
        by_cases e : x' = x
        · rw [if_pos ⟨e, hy⟩, if_pos e]
        · rw [if_neg (fun z => e z.1), if_neg e]

/-- All columns, one by one. -/
theorem sweepC (k : PicOk rows cols) {p : List (List Int)} (hp : p.length = rows.length) {c1 : Nat → Nat → Int} {m1 : Bool} (hS : onW rows.length cols.length (RR rows) (RR cols) c0 c1) (hl : leG rows.length cols.length cS c1) (hm : m1 = true → ¬ eqG rows.length cols.length cS c1) (hm' : m1 = false → eqG rows.length cols.length cS c1) :
    ∃ r, loop (nono_picture_push_2_L3 rows cols p) (cellsOf rows.length cols.length c1, m1, 0) = some r ∧
      ((∃ q, r = .ret (false, q) ∧ ∀ e, specG rows.length cols.length (RR rows) (RR cols) c0 false e) ∨
       ∃ (c : Nat → Nat → Int) (more : Bool), r = .go (cellsOf rows.length cols.length c, more) ∧ onW rows.length cols.length (RR rows) (RR cols) c0 c ∧ leG rows.length cols.length cS c ∧ (more = true → ¬ eqG rows.length cols.length cS c) ∧
         (more = false → m1 = false ∧ eqG rows.length cols.length c1 c ∧ ∀ x, x < cols.length → 0 < Ww (RR cols x) (colL rows.length c x) ∧ ∀ y, y < rows.length → sureX (colL rows.length c x) (RR cols x) y = c y x)) := by
  have hh6 := k.h6
  have hw6 := k.w6
  refine count_loop (step := nono_picture_push_2_L3 rows cols p) (fun (s : (Nat → Nat → Int) × Bool) (i : Nat) => (cellsOf rows.length cols.length s.1, s.2, (i : Int)))
    (fun i s => onW rows.length cols.length (RR rows) (RR cols) c0 s.1 ∧ leG rows.length cols.length cS s.1 ∧ (s.2 = true → ¬ eqG rows.length cols.length cS s.1) ∧
      (s.2 = false → m1 = false ∧ eqG rows.length cols.length c1 s.1 ∧ ∀ x, x < i → 0 < Ww (RR cols x) (colL rows.length s.1 x) ∧ ∀ y, y < rows.length → sureX (colL rows.length s.1 x) (RR cols x) y = s.1 y x))
    _ cols.length (c1, m1) ⟨hS, hl, hm, fun z => ⟨z, fun _ _ _ _ => rfl, fun y hy => by omega⟩⟩ ?_ ?_
  · rintro i ⟨c, more⟩ hi ⟨h1, h2, h3, h4⟩
    dsimp only at h1 h2 h3 h4
    have e1 : ∀ (s : List (List Int)) (m : Bool), nono_picture_push_2_L3 rows cols p (s, m, (i : Int)) = nono_picture_push_2_J7 rows cols p s m (i : Int) := fun s m => if_pos (decide_eq_true (by omega))
    obtain ⟨out, s1, s2⟩ := sure_p (line := colL rows.length c i) (cl := RR cols i) (by rw [colL_len]; omega) (colL_bd h1.ok hi) (k.cok i hi) (k.clen i hi)
    dsimp only
    rw [e1]
    unfold nono_picture_push_2_J7
    rw [asrt_pos (by omega), column_p hh6 hi, Option.bind_some, show geti2 cols (i : Int) = RR cols i from rfl, s1, Option.bind_some]
    by_cases hW : 0 < Ww (RR cols i) (colL rows.length c i)
    · left
      have hout := s2 hW
      rw [colL_len] at hout
      subst hout
      rw [decide_eq_true hW, if_neg (by simp)]
      unfold nono_picture_push_2_J9
      obtain ⟨m', q1, q2⟩ := putC (c := c) hh6 hp hi (sureX (colL rows.length c i) (RR cols i)) true more
      have hge := stC_ge h1.ok hi (k.cok i hi) hW
      have hst := h1.stC hi (k.cok i hi) hW
      rw [q1, Option.bind_some]
      simp only [nono_picture_push_2_K4]
      unfold nono_picture_push_2_J8
      rw [w64_of (by omega)]
      have hcc : (fun y x' => if x' = i then sureX (colL rows.length c i) (RR cols i) y else c y x') = stC rows.length (RR cols) c i := rfl
      rw [hcc]
      have hlt := h2.trans hge
      refine ⟨(stC rows.length (RR cols) c i, m'), rfl, hst, hlt, fun hb z => ?_, fun hb => ?_⟩
      · rcases q2.1 hb with q | ⟨y, hy, q⟩
        · exact h3 q (leG.squeeze h2 hge z)
        · have z1 := leG.squeeze h2 hge z
          have a1 := z1 y i hy hi
          have a2 := z y i hy hi
          dsimp only at a2
          unfold stC at a2
          rw [if_pos rfl] at a2
          exact q (by rw [← a1, a2])
      · have hno : ¬ (more = true ∨ ∃ y, y < rows.length ∧ c y i ≠ sureX (colL rows.length c i) (RR cols i) y) := fun z => by rw [q2.2 z] at hb; cases hb
        have hmf : more = false := by
          cases more with
          | true => exact absurd (.inl rfl) hno
          | false => rfl
        obtain ⟨g0, g1, g2⟩ := h4 hmf
        have hsame : ∀ y, y < rows.length → sureX (colL rows.length c i) (RR cols i) y = c y i := fun y hy => Classical.byContradiction fun z => hno (.inr ⟨y, hy, fun e => z e.symm⟩)
        have heq : eqG rows.length cols.length c (stC rows.length (RR cols) c i) := fun y x hy _ => by
          unfold stC
          by_cases q : x = i
          · subst q; rw [if_pos rfl, hsame y hy]
          · rw [if_neg q]
        dsimp only
        refine ⟨g0, fun y x hy hx => (g1 y x hy hx).trans (heq y x hy hx), fun x hx => ?_⟩
        have hx' : x < cols.length := by omega
        rw [← colL_congr heq hx']
        by_cases q : x = i
        · subst q
          exact ⟨hW, fun y hy => by rw [hsame y hy, heq y x hy hx']⟩
        · obtain ⟨b1, b2⟩ := g2 x (by omega)
          exact ⟨b1, fun y hy => by rw [b2 y hy, heq y x hy hx']⟩
    · right
      rw [decide_eq_false hW, if_pos (by simp)]
      exact ⟨_, rfl, Or.inl ⟨_, rfl, fun e => h1.noC hi (k.cok i hi) hW⟩⟩
  · rintro ⟨c, more⟩ ⟨h1, h2, h3, h4⟩
    refine ⟨.go (cellsOf rows.length cols.length c, more), ?_, Or.inr ⟨c, more, rfl, h1, h2, h3, h4⟩⟩
    simp only [nono_picture_push_2_L3]
    rw [if_neg (by simp)]

def gridC (l : List (List Int)) : Nat → Nat → Int := fun y x => geti (geti2 l (y : Int)) (x : Int)
theorem gridC_cells {h w : Nat} {c : Nat → Nat → Int} : eqG h w (gridC (cellsOf h w c)) c := fun y x hy hx => by
  unfold gridC
  rw [cells_at hy]
  exact mr_geti hx

/-- What pushing comes to. -/
theorem push_p (k : PicOk rows cols) (hok : okG rows.length cols.length c0) :
    ∃ (ok : Bool) (q : List (List Int)) (c : Nat → Nat → Int), nono_picture_push_2_m rows cols (cellsOf rows.length cols.length c0) = some (ok, q) ∧ specG rows.length cols.length (RR rows) (RR cols) c0 ok c ∧ okG rows.length cols.length c ∧ (ok = true → q = cellsOf rows.length cols.length c) := by
  unfold nono_picture_push_2_m
  have key := loop_inv (step := nono_picture_push_2_L1 rows cols (cellsOf rows.length cols.length c0))
    (fun s => ∃ c, s.1 = cellsOf rows.length cols.length c ∧ onW rows.length cols.length (RR rows) (RR cols) c0 c ∧ (s.2 = false → fixG rows.length cols.length (RR rows) (RR cols) c))
    (fun s => 2 * unk rows.length cols.length (gridC s.1) + (if s.2 = true then 1 else 0))
    (fun r => (∃ q, r = .ret (false, q) ∧ ∀ e, specG rows.length cols.length (RR rows) (RR cols) c0 false e) ∨ ∃ c, r = .go (cellsOf rows.length cols.length c) ∧ onW rows.length cols.length (RR rows) (RR cols) c0 c ∧ fixG rows.length cols.length (RR rows) (RR cols) c)
    (cellsOf rows.length cols.length c0, true) ⟨c0, rfl, onW.start hok, by simp⟩ ?_
  · obtain ⟨r, hr, hq⟩ := key
    rw [hr, Option.bind_some]
    rcases hq with ⟨q, rfl, hq⟩ | ⟨c, rfl, h1, h2⟩
    · exact ⟨false, q, c0, rfl, hq c0, hok, by simp⟩
    · exact ⟨true, cellsOf rows.length cols.length c, c, rfl, h1.fin h2, h1.ok, fun _ => rfl⟩
  · rintro ⟨s, more⟩ ⟨c, h1, h2, h3⟩
    dsimp only at h1 h3
    subst h1
    cases more with
    | false =>
      refine ⟨.done (.go (cellsOf rows.length cols.length c)), ?_, Or.inr ⟨c, rfl, h2, h3 rfl⟩⟩
      simp only [nono_picture_push_2_L1]
      rw [if_neg (by decide)]
    | true =>
      have e1 : nono_picture_push_2_L1 rows cols (cellsOf rows.length cols.length c0) (cellsOf rows.length cols.length c, true) = nono_picture_push_2_J2 rows cols (cellsOf rows.length cols.length c0) (cellsOf rows.length cols.length c) := rfl
      rw [e1]
      unfold nono_picture_push_2_J2
      obtain ⟨r, hr, hq⟩ := sweepR (p := cellsOf rows.length cols.length c0) k cells_len h2
      rw [hr, Option.bind_some]
      rcases hq with ⟨q, rfl, hq⟩ | ⟨c1, m1, rfl, a1, a2, a3, a4⟩
      · exact ⟨_, rfl, Or.inl ⟨q, rfl, hq⟩⟩
      · simp only [nono_picture_push_2_K2]
        unfold nono_picture_push_2_J3
        obtain ⟨r, hr, hq⟩ := sweepC (p := cellsOf rows.length cols.length c0) k cells_len a1 a2 a3 (fun z => (a4 z).1)
        rw [hr, Option.bind_some]
        rcases hq with ⟨q, rfl, hq⟩ | ⟨c2, m2, rfl, b1, b2, b3, b4⟩
        · exact ⟨_, rfl, Or.inl ⟨q, rfl, hq⟩⟩
        · simp only [nono_picture_push_2_K3]
          refine ⟨_, rfl, ⟨c2, rfl, b1, fun z => ?_⟩, ?_⟩
          · obtain ⟨g0, g1, g2⟩ := b4 z
            obtain ⟨f1, f2⟩ := a4 g0
            exact ⟨b1.ok, fun y hy => by rw [← rowL_congr g1 hy]; exact (f2 y hy).1, fun y hy x hx => by rw [← rowL_congr g1 hy, ← g1 y x hy hx]; exact (f2 y hy).2 x hx, fun x hx => (g2 x hx).1, fun x hx => (g2 x hx).2⟩
          · have u1 : unk rows.length cols.length (gridC (cellsOf rows.length cols.length c)) = unk rows.length cols.length c := by
              have := gridC_cells (h := rows.length) (w := cols.length) (c := c)
              exact Nat.le_antisymm (unk_le fun y x hy hx => .inr (this y x hy hx).symm) (unk_le fun y x hy hx => .inr (this y x hy hx))
            have u2 : unk rows.length cols.length (gridC (cellsOf rows.length cols.length c2)) = unk rows.length cols.length c2 := by
              have := gridC_cells (h := rows.length) (w := cols.length) (c := c2)
              exact Nat.le_antisymm (unk_le fun y x hy hx => .inr (this y x hy hx).symm) (unk_le fun y x hy hx => .inr (this y x hy hx))
            dsimp only
            rw [u1, u2]
            have h7 := unk_le b2
            cases m2 with
            | false => simp; omega
            | true =>
              have := unk_lt b2 (b3 rfl)
              simp; omega
end
end Go.Proofs.Ytdjjomghggplpaa
